/-
  THE WALKS of the reference: Held, Has, Nums, Of, From, Part, Lay; of the law's 'is'.
-/
import Derived.Test.YtlkhjffbhcjdfaaDoorMaO
import Derived.Test.YtlkhjffbhcjdfaaDoorMaV
import Derived.Test.YtlkhjffbhcjdfaaDoorPrm
set_option linter.unusedVariables false
set_option linter.unusedSimpArgs false
namespace Go.Proofs.YtlkhjffbhcjdfaaDoor
open Go.RowKit

def RdB (w : World) (a : Option Addr) (bs : List Bool) : Prop := RdV w a (bs.map Value.bool)
theorem RdB.at_ {w : World} {a : Option Addr} {zs : List Bool} (h : RdB w a zs) {j : Nat} (hj : j < zs.length) : ∃ b off x, x = zs[j] ∧ a = some ⟨b, off, none⟩ ∧ b < w.heap.size ∧ w.cell? ⟨b, off + j, none⟩ = some (.bool x) := by
  obtain ⟨b, off, ha, hb, hc⟩ := h j (.bool zs[j]) (by rw [List.getElem?_map, List.getElem?_eq_getElem hj]; rfl)
  exact ⟨b, off, _, rfl, ha, hb, hc⟩
theorem RdB.below {w w' : World} {a : Option Addr} {zs : List Bool} (h : RdB w a zs) (hb : Below w.heap.size w w') : RdB w' a zs := RdV.below h hb

set_option maxHeartbeats 1000000 in
theorem rheld_c (n lo hi : Int) (w : World) : Calls Tryd.prog 24 #[.int .i64 n, .int .i64 lo, .int .i64 hi] w fun e w' => e = .returned (.int .i64 (held n lo hi)) ∧ w = w' := by
  unfold held
  by_cases h1 : n < lo
  · have b1 : decide (n < lo) = true := decide_eq_true h1
    rw [if_pos h1]
    go_enter Tryd.func24, Tryd.ntmps24
    go_wp2_with fail
    go_ret
    exact ⟨rfl, rfl⟩
  · have b1 : decide (n < lo) = false := decide_eq_false h1
    rw [if_neg h1]
    by_cases h2 : hi < n
    · have b2 : decide (hi < n) = true := decide_eq_true h2
      have b3 : decide (n > hi) = true := decide_eq_true h2
      rw [if_pos h2]
      go_enter Tryd.func24, Tryd.ntmps24
      go_wp2_with fail
      go_ret
      exact ⟨rfl, rfl⟩
    · have b2 : decide (hi < n) = false := decide_eq_false h2
      have b3 : decide (n > hi) = false := decide_eq_false h2
      rw [if_neg h2]
      go_enter Tryd.func24, Tryd.ntmps24
      go_wp2_with fail
      go_ret
      exact ⟨rfl, rfl⟩

set_option maxHeartbeats 1000000 in
theorem rhas_c (a : Option Addr) (c : Nat) (bs : List Bool) (i : Int) (w : World) (h : RdB w a bs) (hl : bs.length = 128) :
    Calls Tryd.prog 13 #[.slice a 128 c, .int .i64 i] w fun e w' => e = .returned (.bool (hasB bs i)) ∧ w = w' := by
  by_cases h1 : 0 ≤ i
  · by_cases h2 : i < 128
    · obtain ⟨k, rfl⟩ := Int.eq_ofNat_of_zero_le h1
      have hk : k < 128 := by omega
      obtain ⟨b, off, x, hx, rfl, hb, hc⟩ := h.at_ (j := k) (by omega)
      have e1 : hasB bs (k : Int) = x := by
        unfold hasB
        rw [decide_eq_true ⟨h1, h2⟩, Bool.true_and, Int.toNat_natCast, List.getD_eq_getElem?_getD, List.getElem?_eq_getElem (by omega), hx]; rfl
      rw [e1]
      have b1 : decide ((k : Int) ≥ 0) = true := decide_eq_true h1
      have b2 : decide ((k : Int) < 128) = true := decide_eq_true h2
      have b3 : decide (0 ≤ (k : Int)) = true := decide_eq_true h1
      clear hx hb e1 h hl
      go_enter Tryd.func13, Tryd.ntmps13
      go_wp2_with fail
      go_ret
      exact ⟨rfl, rfl⟩
    · have e1 : hasB bs i = false := by unfold hasB; rw [decide_eq_false (fun h => h2 h.2)]; rfl
      rw [e1]
      have b1 : decide (i ≥ 0) = true := decide_eq_true h1
      have b3 : decide (0 ≤ i) = true := decide_eq_true h1
      have b2 : decide (i < 128) = false := decide_eq_false h2
      clear e1 h hl
      go_enter Tryd.func13, Tryd.ntmps13
      go_wp2_with fail
      go_ret
      exact ⟨rfl, rfl⟩
  · have e1 : hasB bs i = false := by unfold hasB; rw [decide_eq_false (fun h => h1 h.1)]; rfl
    rw [e1]
    have b1 : decide (i ≥ 0) = false := decide_eq_false h1
    have b3 : decide (0 ≤ i) = false := decide_eq_false h1
    clear e1 h hl
    go_enter Tryd.func13, Tryd.ntmps13
    go_wp2_with fail
    go_ret
    exact ⟨rfl, rfl⟩

set_option maxRecDepth 100000 in
set_option maxHeartbeats 4000000 in
theorem rnums_c (a : Option Addr) (c : Nat) (bs : List Bool) (w : World) (h : RdB w a bs) (hl : bs.length = 128) :
    Calls Tryd.prog 39 #[.slice a 128 c] w fun e w' => e = .returned (.tuple #[.int .u64 (nb (bs.take 64) : Int), .int .u64 (nb (bs.drop 64) : Int)]) ∧ w = w' := by
  have HR := Lib.hid h
  have HL := Lib.hid hl
  clear h hl
  go_enter Tryd.func39, Tryd.ntmps39
  go_wp2_with fail
  go_loop [4, 5, 6] (fun x y i => ∃ j : Nat, j ≤ 64 ∧ i = .int .i64 j ∧ x = .int .u64 (nb (bs.take j) : Int) ∧ y = .int .u64 (nb ((bs.drop 64).take j) : Int)) (fun _ _ i => 64 - (intOf i).toNat)
  case atStart => exact ⟨0, by omega, rfl, rfl, rfl⟩
  case round =>
    obtain ⟨j, hj, rfl, rfl, rfl⟩ := hrel
    have hd64 : (bs.drop 64).length = 64 := by rw [List.length_drop, HL.out]
    by_cases hlt : j < 64
    · obtain ⟨b, off, x, hx, ha, hb, hc⟩ := HR.out.at_ (j := j) (by rw [HL.out]; omega)
      obtain ⟨b2, off2, y, hy, ha2, hb2, hc2⟩ := HR.out.at_ (j := 64 + j) (by rw [HL.out]; omega)
      have hab : b2 = b ∧ off2 = off := by rw [ha] at ha2; injection ha2 with h1; injection h1 with h2 h3; exact ⟨h2.symm, h3.symm⟩
      obtain ⟨rfl, rfl⟩ := hab
      subst ha
      have e1 : nb (bs.take (j + 1)) = 2 * nb (bs.take j) + x.toNat := by rw [List.take_succ_eq_append_getElem (by rw [HL.out]; omega), nb_snoc, hx]
      have e2 : nb ((bs.drop 64).take (j + 1)) = 2 * nb ((bs.drop 64).take j) + y.toNat := by rw [List.take_succ_eq_append_getElem (by rw [hd64]; omega), nb_snoc, List.getElem_drop, hy]
      have p1 := nb_lt (bs.take j)
      have p2 := nb_lt ((bs.drop 64).take j)
      rw [List.length_take, HL.out, Nat.min_eq_left (by omega)] at p1
      rw [List.length_take, hd64, Nat.min_eq_left (by omega)] at p2
      have p3 : 2 ^ j ≤ 2 ^ 63 := Nat.pow_le_pow_right (by omega) (by omega)
      obtain ⟨H, hH⟩ : ∃ H, H = nb (bs.take j) := ⟨_, rfl⟩
      obtain ⟨L, hL⟩ : ∃ L, L = nb ((bs.drop 64).take j) := ⟨_, rfl⟩
      rw [← hH] at e1 p1 ⊢
      rw [← hL] at e2 p2 ⊢
      have k1 : H < 9223372036854775808 := by omega
      have k2 : L < 9223372036854775808 := by omega
      have m1 : IntKind.u64.wrap ((H : Int) * 2) = ((2 * H : Nat) : Int) := by rw [show (H : Int) * 2 = ((2 * H : Nat) : Int) by omega]; exact u_wrap (by omega)
      have m2 : IntKind.u64.wrap ((L : Int) * 2) = ((2 * L : Nat) : Int) := by rw [show (L : Int) * 2 = ((2 * L : Nat) : Int) by omega]; exact u_wrap (by omega)
      obtain ⟨H2, hH2⟩ : ∃ H2, H2 = 2 * H := ⟨_, rfl⟩
      obtain ⟨L2, hL2⟩ : ∃ L2, L2 = 2 * L := ⟨_, rfl⟩
      rw [← hH2] at m1 e1
      rw [← hL2] at m2 e2
      have m3 : IntKind.u64.wrap ((H2 : Int) + 1) = ((H2 + 1 : Nat) : Int) := by rw [show (H2 : Int) + 1 = ((H2 + 1 : Nat) : Int) by omega]; exact u_wrap (by omega)
      have m4 : IntKind.u64.wrap ((L2 : Int) + 1) = ((L2 + 1 : Nat) : Int) := by rw [show (L2 : Int) + 1 = ((L2 + 1 : Nat) : Int) by omega]; exact u_wrap (by omega)
      have m5 : IntKind.i64.wrap (64 + (j : Int)) = ((64 + j : Nat) : Int) := by rw [IntWalk.i64_in _ (by omega)]; omega
      have m6 : 64 + (j : Int) = ((64 + j : Nat) : Int) := by omega
      have HE := Lib.hid (And.intro e1 e2)
      obtain ⟨J, hJ⟩ : ∃ J, J = 64 + j := ⟨_, rfl⟩
      rw [← hJ] at m5 hc2 m6
      have j0 : (0 : Int) ≤ (J : Int) := by omega
      have j1 : (J : Int) < 128 := by omega
      have i1 : (j : Int) < 64 := by omega
      have i2 : (j : Int) < 128 := by omega
      have i0 : (0 : Int) ≤ (j : Int) := by omega
      clear hx hy hb hb2 ha2 e1 e2 p1 p2 p3 hH hL k1 k2 hH2 hL2 hd64 HR HL
      cases x <;> cases y
      all_goals
        clear hJ m6
        go_wp2_with fail
        go_round
        case rel => exact ⟨j + 1, by omega, by go_num, by rw [HE.out.1]; rfl, by rw [HE.out.2]; rfl⟩
        case measure => simp [intOf]; omega
    · obtain rfl : j = 64 := by omega
      have e2 := List.take_length (l := bs.drop 64)
      rw [hd64] at e2
      rw [e2]
      clear e2 hd64
      go_wp2_with fail
      go_ret2
      exact ⟨rfl, rfl⟩

set_option maxRecDepth 100000 in
set_option maxHeartbeats 4000000 in
theorem is_c (h l : Nat) (a : Option Addr) (c : Nat) (w : World) (h0 : h < 18446744073709551616) (h1 : l < 18446744073709551616) (hr : RdB w a (bools h l)) :
    Calls Tryd.prog 14 #[ag h l, .slice a 128 c] w fun e w' => e = .returned (.bool true) ∧ Frm [] w w' := by
  have hn := fun (X : World) (hf : Frm [] w X) => rnums_c a c (bools h l) X (hr.below hf.below) (bools_len128 h l)
  rw [nb_hi h0, nb_lo h1] at hn
  have HN := Lib.hid hn
  have HS := Lib.hid ((Sep.init w).alloc #[.int .u64 (h : Int), .int .u64 (l : Int)] 26)
  unfold ag
  clear hn hr h0 h1
  go_enter Tryd.func14, Tryd.ntmps14
  go_wp2_with fail
  refine (HN.out _ HS.out.frm).mono ?_
  rintro e w2 ⟨rfl, rfl⟩
  have c0 := (HS.out.blk 0 rfl).cell 0 rfl
  have c1 := (HS.out.blk 0 rfl).cell 1 rfl
  go_wp2_with fail
  go_ret
  exact ⟨rfl, HS.out.frm⟩

end Go.Proofs.YtlkhjffbhcjdfaaDoor
