/-
  THE WALKS of the reference: Of, From, Part, Lay.
-/
import Derived.Test.YtlkhjffbhcjdfaaDoorMaW
import Derived.Deep.RegionHeld3
set_option linter.unusedVariables false
set_option linter.unusedSimpArgs false
namespace Go.Proofs.YtlkhjffbhcjdfaaDoor
open Go.RowKit

theorem info_bool : (Tryd.prog.info? 4).map (fun i => (i.zero, i.size, i.bytes)) = some (some (.bool false), 1, 1) := by kernel_rfl
theorem rdB_own {w : World} {v : Value} {n : Nat} {bs : List Bool} (h : w.ownsRow 0 4 1 v n (bs.map Value.bool)) : ∃ a c, v = .slice a bs.length c ∧ n = bs.length ∧ (a = none → c = 0) ∧ RdB w a bs := by
  have hn : n = bs.length := by have := h.1; simpa using this.symm
  subst hn
  rcases h.2 with ⟨rfl, h0⟩ | ⟨g, cap, cur, rfl, hb, hh, hc, _⟩
  · have : bs = [] := List.length_eq_zero_iff.1 h0
    subst this
    exact ⟨none, 0, rfl, rfl, fun _ => rfl, RdV.nil _ _⟩
  · refine ⟨_, cap, rfl, rfl, (fun h => by cases h), fun i v hv => ⟨g, 0, rfl, (Array.getElem?_eq_some_iff.1 hh).1, ?_⟩⟩
    have := h.cells (g := g) rfl i v hv
    have hadd : (⟨g, 0, none⟩ : Addr).add i = ⟨g, 0 + i, none⟩ := by unfold Addr.add; split <;> simp_all
    rw [hadd] at this
    exact this
/-- The first k bits of a half, the highest first. -/
def hbs (h k : Nat) : List Bool := (List.range k).map fun i => h.testBit (63 - i)
theorem hbs_succ (h k : Nat) : hbs h (k + 1) = hbs h k ++ [h.testBit (63 - k)] := by unfold hbs; rw [List.range_succ, List.map_append]; rfl
theorem hbs_len (h k : Nat) : (hbs h k).length = k := by simp [hbs]
theorem hbs_all (h l : Nat) : hbs h 64 ++ hbs l 64 = bools h l := by
  apply List.ext_getElem?
  intro i
  by_cases hi : i < 128
  · rw [bools_at hi]
    by_cases hj : i < 64
    · rw [List.getElem?_append_left (by rw [hbs_len]; exact hj)]
      unfold hbs
      rw [List.getElem?_map, List.getElem?_range hj]
      show some (h.testBit (63 - i)) = _
      unfold bt pb
      rw [if_neg (by omega), if_pos (by omega)]
      congr 2
      omega
    · rw [List.getElem?_append_right (by rw [hbs_len]; omega), hbs_len]
      unfold hbs
      rw [List.getElem?_map, List.getElem?_range (by omega)]
      show some (l.testBit (63 - (i - 64))) = _
      unfold bt pb
      rw [if_pos (by omega)]
      congr 2
      omega
  · rw [List.getElem?_eq_none (by rw [List.length_append, hbs_len, hbs_len]; omega), List.getElem?_eq_none (by rw [bools_len128]; omega)]
theorem bit_eq (h i : Nat) : ((h / 2 ^ i) % 2 == 1) = h.testBit i := by
  rw [Nat.testBit_eq_decide_div_mod_eq]; rfl

set_option maxRecDepth 100000 in
set_option maxHeartbeats 4000000 in
theorem rof_c (h l : Nat) (w : World) (h0 : h < 18446744073709551616) (h1 : l < 18446744073709551616) :
    Calls Tryd.prog 9 #[.int .u64 (h : Int), .int .u64 (l : Int)] w fun e w' => ∃ a c, e = .returned (.slice a 128 c) ∧ Sep [] w w' [ownR 4 1 (.slice a 128 c) 128 ((bools h l).map Value.bool)] := by
  obtain ⟨i0, hi, hz0, hz1, hz2⟩ := info_parts info_bool
  have HS0 := Lib.hid ((Sep.init w).made 4 1 0 #[] (Nat.zero_le _) rfl)
  have HH := Lib.hid (And.intro h0 h1)
  clear h0 h1
  go_enter Tryd.func9, Tryd.ntmps9
  go_wp2_with fail
  go_loopw [5, 6] (fun v i wr => ∃ j : Nat, j ≤ 64 ∧ i = .int .i64 (63 - (j : Int)) ∧ Sep [] w wr [ownR 4 1 v j ((hbs h j).map Value.bool)]) (fun _ i _ => (intOf i + 1).toNat)
  case atStart => exact ⟨0, by omega, rfl, HS0.out⟩
  case round =>
    obtain ⟨j, hj, rfl, hS⟩ := hrel
    have HS := Lib.hid hS
    clear hS
    by_cases hlt : j < 64
    · obtain ⟨r, hr⟩ : ∃ r : Nat, r = 63 - j := ⟨_, rfl⟩
      have e1 : 63 - (j : Int) = (r : Int) := by omega
      have hr1 : r + j ≤ 63 := by omega
      have hr2 : 63 ≤ r + j := by omega
      rw [e1]
      have i1 : (0 : Int) ≤ (r : Int) := by omega
      have b1 : decide ((r : Int) ≥ 0) = true := decide_eq_true i1
      have i2 : ¬ ((r : Int) < 0) := by omega
      have d0 : min r 64 = r := by omega
      have d1 := c_div h r
      have hb := bit_eq h r
      obtain ⟨D, hD⟩ : ∃ D, D = h / 2 ^ r := ⟨_, rfl⟩
      rw [← hD] at d1 hb
      have m1 : Int.tmod (D : Int) 2 = ((D % 2 : Nat) : Int) := by rw [Int.tmod_eq_emod_of_nonneg (by omega)]; omega
      have m2 : (D : Int) % 2 = ((D % 2 : Nat) : Int) := by omega
      obtain ⟨x, hx⟩ : ∃ x, x = h.testBit r := ⟨_, rfl⟩
      have m3 : (((D % 2 : Nat) : Int) == 1) = x := by rw [hx, ← hb]; exact Bool.eq_iff_iff.2 (by simp only [beq_iff_eq]; omega)
      obtain ⟨E, hE⟩ : ∃ E, E = D % 2 := ⟨_, rfl⟩
      rw [← hE] at m1 m2 m3
      have HX := Lib.hid (show hbs h (j + 1) = hbs h j ++ [x] by rw [hbs_succ, hx, hr])
      have m4 : IntKind.i64.wrap ((r : Int) - 1) = 63 - ((j + 1 : Nat) : Int) := by rw [IntWalk.i64_in _ (by omega)]; omega
      clear hr e1 hb hD hx hE
      go_wp2_with (at_builtin; refine wpList_append_sep rfl _ _ 27 rfl 0 4 i0 (.bool false) 1 Tryd.underlying27 hi hz0 hz1 hz2 rfl _ _ _ rfl (HS.out.skip _) rfl _ 1 (.bool x) rfl (World.cell?_alloc_at _ _ _ _ rfl) rfl (by unfold maxLen; omega) (by omega) ?_; intro g4 c4 w4 hS4; have HS4 := Lib.hid hS4; clear hS4)
      go_roundw
      case rel => exact ⟨j + 1, by omega, by go_num, by rw [HX.out, List.map_append]; exact HS4.out⟩
      case measure => simp [intOf]; omega
    · obtain rfl : j = 64 := by omega
      obtain ⟨a5, c5, hv, _⟩ := own_cases (HS.out.own 0 rfl)
      subst hv
      have HS5 := Lib.hid (show Sep [] w wr [ownR 4 1 (.slice a5 64 c5) (64 + 0) ((hbs h 64).map Value.bool ++ (hbs l 0).map Value.bool)] from by rw [show (hbs l 0).map Value.bool = [] from rfl, List.append_nil]; exact HS.out)
      clear HS
      go_wp2_with fail
      go_loopw [5, 7] (fun v i wr => ∃ j : Nat, j ≤ 64 ∧ i = .int .i64 (63 - (j : Int)) ∧ Sep [] w wr [ownR 4 1 v (64 + j) ((hbs h 64).map Value.bool ++ (hbs l j).map Value.bool)]) (fun _ i _ => (intOf i + 1).toNat)
      case atStart => exact ⟨0, by omega, rfl, HS5.out⟩
      case round =>
        obtain ⟨j, hj, rfl, hS⟩ := hrel
        have HS := Lib.hid hS
        clear hS
        by_cases hlt : j < 64
        · obtain ⟨r, hr⟩ : ∃ r : Nat, r = 63 - j := ⟨_, rfl⟩
          have e1 : 63 - (j : Int) = (r : Int) := by omega
          have hr1 : r + j ≤ 63 := by omega
          have hr2 : 63 ≤ r + j := by omega
          rw [e1]
          have i1 : (0 : Int) ≤ (r : Int) := by omega
          have b1 : decide ((r : Int) ≥ 0) = true := decide_eq_true i1
          have i2 : ¬ ((r : Int) < 0) := by omega
          have d0 : min r 64 = r := by omega
          have d1 := c_div l r
          have hb := bit_eq l r
          obtain ⟨D, hD⟩ : ∃ D, D = l / 2 ^ r := ⟨_, rfl⟩
          rw [← hD] at d1 hb
          have m1 : Int.tmod (D : Int) 2 = ((D % 2 : Nat) : Int) := by rw [Int.tmod_eq_emod_of_nonneg (by omega)]; omega
          have m2 : (D : Int) % 2 = ((D % 2 : Nat) : Int) := by omega
          obtain ⟨x, hx⟩ : ∃ x, x = l.testBit r := ⟨_, rfl⟩
          have m3 : (((D % 2 : Nat) : Int) == 1) = x := by rw [hx, ← hb]; exact Bool.eq_iff_iff.2 (by simp only [beq_iff_eq]; omega)
          obtain ⟨E, hE⟩ : ∃ E, E = D % 2 := ⟨_, rfl⟩
          rw [← hE] at m1 m2 m3
          have HX := Lib.hid (show hbs l (j + 1) = hbs l j ++ [x] by rw [hbs_succ, hx, hr])
          have m4 : IntKind.i64.wrap ((r : Int) - 1) = 63 - ((j + 1 : Nat) : Int) := by rw [IntWalk.i64_in _ (by omega)]; omega
          clear hr e1 hb hD hx hE
          go_wp2_with (at_builtin; refine wpList_append_sep rfl _ _ 27 rfl 0 4 i0 (.bool false) 1 Tryd.underlying27 hi hz0 hz1 hz2 rfl _ _ _ rfl (HS.out.skip _) rfl _ 1 (.bool x) rfl (World.cell?_alloc_at _ _ _ _ rfl) rfl (by unfold maxLen; omega) (by omega) ?_; intro g4 c4 w4 hS4; have HS4 := Lib.hid hS4; clear hS4)
          go_roundw
          case rel => exact ⟨j + 1, by omega, by go_num, by rw [HX.out, List.map_append, ← List.append_assoc]; exact HS4.out⟩
          case measure => simp [intOf]; omega
        · obtain rfl : j = 64 := by omega
          rw [← List.map_append, hbs_all] at HS
          obtain ⟨a, c, hv, _⟩ := own_cases (HS.out.own 0 rfl)
          subst hv
          go_wp2_with fail
          go_ret
          exact ⟨a, c, rfl, HS.out⟩

end Go.Proofs.YtlkhjffbhcjdfaaDoor
