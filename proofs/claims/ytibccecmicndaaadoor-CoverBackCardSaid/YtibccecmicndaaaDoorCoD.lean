/-
  THE WALK of cover.Needs.
-/
import Derived.Test.YtibccecmicndaaaDoorCoB
set_option linter.unusedVariables false
set_option linter.unusedSimpArgs false
namespace Go.Proofs.YtibccecmicndaaaDoor
open Go.RowKit

def ndL : List Int := [15, 16, 46, 48, 109]
/-- How many bits a form must have, its last bit being L. -/
def ndN (L : Int) : Int := if L < 0 then 0 else match ndL.find? (fun n => decide (L < n)) with | some n => n | none => 128

set_option maxRecDepth 100000 in
set_option maxHeartbeats 4000000 in
theorem needs_c (h l : Nat) (w : World) (h0 : h < 18446744073709551616) (h1 : l < 18446744073709551616) (hT : TabAt 0 Lib.deBruijn64tab w) (hg : 0 < w.heap.size) :
    Calls Tryd.prog 17 #[mV h l] w fun e w' => e = .returned (.int .i64 (ndN (laN h l))) ∧ Frm [] w w' := by
  have HS := Lib.hid ((Sep.init w).alloc #[.int .u64 (h : Int), .int .u64 (l : Int)] 27)
  have hl := last_c h l _ h0 h1 (show TabAt 0 Lib.deBruijn64tab (w.alloc (.cells #[.int .u64 (h : Int), .int .u64 (l : Int)] 27)) from fun j hj => by rw [HS.out.frm.cell hg (by simp)]; exact hT j hj) (Nat.lt_of_lt_of_le hg HS.out.frm.size)
  obtain ⟨L, hL⟩ : ∃ L, L = laN h l := ⟨_, rfl⟩
  rw [← hL] at hl ⊢
  have HL := Lib.hid hl
  clear hl hL h0 h1 hT hg
  unfold mV at *
  go_enter Tryd.func17, Tryd.ntmps17
  go_upto_region 1 with fail
  have c0 := (HS.out.blk 0 rfl).cell 0 rfl
  have c1 := (HS.out.blk 0 rfl).cell 1 rfl
  go_wp2_with fail
  refine HL.out.mono ?_
  rintro e w2 ⟨rfl, hf⟩
  have HF := Lib.hid (HS.out.frm.trans hf)
  clear hf c0 c1 HL HS
  by_cases hn : L < 0
  · have b1 : decide (L < 0) = true := decide_eq_true hn
    have he : ndN L = 0 := if_pos hn
    have HE := Lib.hid he
    clear hn he
    go_wp2_with fail
    go_ret
    exact ⟨by rw [HE.out]; rfl, HF.out⟩
  · have b1 : decide (L < 0) = false := decide_eq_false hn
    have he : ndN L = match ndL.find? (fun n => decide (L < n)) with | some n => n | none => 128 := if_neg hn
    have HE := Lib.hid he
    have HB := Lib.hid (Blk.made w2 3 #[.int .i64 15, .int .i64 16, .int .i64 46, .int .i64 48, .int .i64 109])
    have HF2 := Lib.hid (HF.out.alloc (.cells #[.int .i64 15, .int .i64 16, .int .i64 46, .int .i64 48, .int .i64 109] 3))
    clear hn he
    go_upto_region 4 with fail
    clear b1
    go_wp2_with fail
    have c0 := HB.out.cell 0 rfl
    have c1 := HB.out.cell 1 rfl
    have c2 := HB.out.cell 2 rfl
    have c3 := HB.out.cell 3 rfl
    have c4 := HB.out.cell 4 rfl
    go_loop [12] (fun i => ∃ j : Nat, j ≤ 5 ∧ i = .int .i64 (j : Int) ∧ ∀ k : Nat, k < j → ndL.getD k 0 ≤ L) (fun i => 5 - (intOf i).toNat)
    case atStart => exact ⟨0, by omega, rfl, fun k hk => by omega⟩
    case round =>
      obtain ⟨j, hj, rfl, hp⟩ := hrel
      have HP := Lib.hid hp
      clear hp
      rcases (show j = 0 ∨ j = 1 ∨ j = 2 ∨ j = 3 ∨ j = 4 ∨ j = 5 by omega) with rfl | rfl | rfl | rfl | rfl | rfl
      · by_cases hv : L < 15
        · have b1 : decide (L < 15) = true := decide_eq_true hv
          have hr : (match ndL.find? (fun n => decide (L < n)) with | some n => n | none => 128) = (15 : Int) := by
            simp only [ndL, List.find?_cons, decide_eq_true hv]
          have HR := Lib.hid (HE.out.trans hr)
          clear hv hr
          go_wp2_with fail
          go_ret
          exact ⟨by rw [HR.out]; rfl, HF2.out⟩
        · have b1 : decide (L < 15) = false := decide_eq_false hv
          have hq : ∀ k : Nat, k < 0+1 → ndL.getD k 0 ≤ L := fun k hk => by
            rcases Nat.lt_succ_iff_lt_or_eq.1 hk with h | h
            · exact HP.out k h
            · subst h; exact Int.not_lt.1 hv
          have HQ := Lib.hid hq
          clear hv hq
          go_wp2_with fail
          go_round
          case rel => exact ⟨0+1, by omega, by go_num, HQ.out⟩
          case measure => simp [intOf]
      · by_cases hv : L < 16
        · have b1 : decide (L < 16) = true := decide_eq_true hv
          have hr : (match ndL.find? (fun n => decide (L < n)) with | some n => n | none => 128) = (16 : Int) := by
            have p0 : (15 : Int) ≤ L := HP.out 0 (by decide)
            simp only [ndL, List.find?_cons, decide_eq_false (show ¬ L < 15 by omega), decide_eq_true hv]
          have HR := Lib.hid (HE.out.trans hr)
          clear hv hr
          go_wp2_with fail
          go_ret
          exact ⟨by rw [HR.out]; rfl, HF2.out⟩
        · have b1 : decide (L < 16) = false := decide_eq_false hv
          have hq : ∀ k : Nat, k < 1+1 → ndL.getD k 0 ≤ L := fun k hk => by
            rcases Nat.lt_succ_iff_lt_or_eq.1 hk with h | h
            · exact HP.out k h
            · subst h; exact Int.not_lt.1 hv
          have HQ := Lib.hid hq
          clear hv hq
          go_wp2_with fail
          go_round
          case rel => exact ⟨1+1, by omega, by go_num, HQ.out⟩
          case measure => simp [intOf]
      · by_cases hv : L < 46
        · have b1 : decide (L < 46) = true := decide_eq_true hv
          have hr : (match ndL.find? (fun n => decide (L < n)) with | some n => n | none => 128) = (46 : Int) := by
            have p0 : (15 : Int) ≤ L := HP.out 0 (by decide)
            have p1 : (16 : Int) ≤ L := HP.out 1 (by decide)
            simp only [ndL, List.find?_cons, decide_eq_false (show ¬ L < 15 by omega), decide_eq_false (show ¬ L < 16 by omega), decide_eq_true hv]
          have HR := Lib.hid (HE.out.trans hr)
          clear hv hr
          go_wp2_with fail
          go_ret
          exact ⟨by rw [HR.out]; rfl, HF2.out⟩
        · have b1 : decide (L < 46) = false := decide_eq_false hv
          have hq : ∀ k : Nat, k < 2+1 → ndL.getD k 0 ≤ L := fun k hk => by
            rcases Nat.lt_succ_iff_lt_or_eq.1 hk with h | h
            · exact HP.out k h
            · subst h; exact Int.not_lt.1 hv
          have HQ := Lib.hid hq
          clear hv hq
          go_wp2_with fail
          go_round
          case rel => exact ⟨2+1, by omega, by go_num, HQ.out⟩
          case measure => simp [intOf]
      · by_cases hv : L < 48
        · have b1 : decide (L < 48) = true := decide_eq_true hv
          have hr : (match ndL.find? (fun n => decide (L < n)) with | some n => n | none => 128) = (48 : Int) := by
            have p0 : (15 : Int) ≤ L := HP.out 0 (by decide)
            have p1 : (16 : Int) ≤ L := HP.out 1 (by decide)
            have p2 : (46 : Int) ≤ L := HP.out 2 (by decide)
            simp only [ndL, List.find?_cons, decide_eq_false (show ¬ L < 15 by omega), decide_eq_false (show ¬ L < 16 by omega), decide_eq_false (show ¬ L < 46 by omega), decide_eq_true hv]
          have HR := Lib.hid (HE.out.trans hr)
          clear hv hr
          go_wp2_with fail
          go_ret
          exact ⟨by rw [HR.out]; rfl, HF2.out⟩
        · have b1 : decide (L < 48) = false := decide_eq_false hv
          have hq : ∀ k : Nat, k < 3+1 → ndL.getD k 0 ≤ L := fun k hk => by
            rcases Nat.lt_succ_iff_lt_or_eq.1 hk with h | h
            · exact HP.out k h
            · subst h; exact Int.not_lt.1 hv
          have HQ := Lib.hid hq
          clear hv hq
          go_wp2_with fail
          go_round
          case rel => exact ⟨3+1, by omega, by go_num, HQ.out⟩
          case measure => simp [intOf]
      · by_cases hv : L < 109
        · have b1 : decide (L < 109) = true := decide_eq_true hv
          have hr : (match ndL.find? (fun n => decide (L < n)) with | some n => n | none => 128) = (109 : Int) := by
            have p0 : (15 : Int) ≤ L := HP.out 0 (by decide)
            have p1 : (16 : Int) ≤ L := HP.out 1 (by decide)
            have p2 : (46 : Int) ≤ L := HP.out 2 (by decide)
            have p3 : (48 : Int) ≤ L := HP.out 3 (by decide)
            simp only [ndL, List.find?_cons, decide_eq_false (show ¬ L < 15 by omega), decide_eq_false (show ¬ L < 16 by omega), decide_eq_false (show ¬ L < 46 by omega), decide_eq_false (show ¬ L < 48 by omega), decide_eq_true hv]
          have HR := Lib.hid (HE.out.trans hr)
          clear hv hr
          go_wp2_with fail
          go_ret
          exact ⟨by rw [HR.out]; rfl, HF2.out⟩
        · have b1 : decide (L < 109) = false := decide_eq_false hv
          have hq : ∀ k : Nat, k < 4+1 → ndL.getD k 0 ≤ L := fun k hk => by
            rcases Nat.lt_succ_iff_lt_or_eq.1 hk with h | h
            · exact HP.out k h
            · subst h; exact Int.not_lt.1 hv
          have HQ := Lib.hid hq
          clear hv hq
          go_wp2_with fail
          go_round
          case rel => exact ⟨4+1, by omega, by go_num, HQ.out⟩
          case measure => simp [intOf]
      · have hr : (match ndL.find? (fun n => decide (L < n)) with | some n => n | none => 128) = (128 : Int) := by
          have p0 : (15 : Int) ≤ L := HP.out 0 (by decide)
          have p1 : (16 : Int) ≤ L := HP.out 1 (by decide)
          have p2 : (46 : Int) ≤ L := HP.out 2 (by decide)
          have p3 : (48 : Int) ≤ L := HP.out 3 (by decide)
          have p4 : (109 : Int) ≤ L := HP.out 4 (by decide)
          simp only [ndL, List.find?_cons, List.find?_nil, decide_eq_false (show ¬ L < 15 by omega), decide_eq_false (show ¬ L < 16 by omega), decide_eq_false (show ¬ L < 46 by omega), decide_eq_false (show ¬ L < 48 by omega), decide_eq_false (show ¬ L < 109 by omega)]
        have HR := Lib.hid (HE.out.trans hr)
        clear hr
        go_wp2_with fail
        go_ret
        exact ⟨by rw [HR.out]; rfl, HF2.out⟩

/- THE WALK of cover.Has. -/
section
open Go.RowKit

/-- How far k lies ahead of b. -/
def ahN (b k : Nat) : Nat := (k + 65536 - b) % 65536
theorem ahN_lt (b k : Nat) : ahN b k < 65536 := Nat.mod_lt _ (by decide)

set_option maxRecDepth 100000 in
set_option maxHeartbeats 2000000 in
theorem chas_c (b h l k : Nat) (w : World) (hb : b < 65536) (hk : k < 65536) (h0 : h < 18446744073709551616) (h1 : l < 18446744073709551616) :
    Calls Tryd.prog 16 #[.int .u16 (b : Int), mV h l, .int .u16 (k : Int)] w fun e w' => e = .returned (.bool (decide (ahN b k < 128) && bt h l (ahN b k))) ∧ Frm [] w w' := by
  have HS := Lib.hid ((Sep.init w).alloc #[.int .u64 (h : Int), .int .u64 (l : Int)] 27)
  have e1 : IntKind.u16.wrap ((k : Int) - (b : Int)) = (ahN b k : Int) := by rw [IntKind.wrap_u16]; unfold ahN; omega
  have d0 := ahN_lt b k
  have hh := fun X => has_c h l (ahN b k : Int) X h0 h1 (by omega) (by omega)
  rw [has_bt, Int.toNat_natCast, show decide (0 ≤ (ahN b k : Int) ∧ (ahN b k : Int) < 128) = decide (ahN b k < 128) from decide_eq_decide.2 (by omega)] at hh
  obtain ⟨d, hd⟩ : ∃ d, d = ahN b k := ⟨_, rfl⟩
  rw [← hd] at e1 d0 hh ⊢
  obtain ⟨x, hx⟩ : ∃ x, x = (decide (d < 128) && bt h l d) := ⟨_, rfl⟩
  simp only [← hx] at hh
  rw [← hx]
  have e2 : IntKind.i64.wrap (d : Int) = (d : Int) := IntWalk.i64_in _ (by omega)
  have HH := Lib.hid hh
  clear hh hd hx h0 h1
  unfold mV at *
  go_enter Tryd.func16, Tryd.ntmps16
  go_upto_region 1 with fail
  have c0 := (HS.out.blk 0 rfl).cell 0 rfl
  have c1 := (HS.out.blk 0 rfl).cell 1 rfl
  go_wp2_with fail
  refine (HH.out _).mono ?_
  rintro e w2 ⟨rfl, hf⟩
  have HF := Lib.hid (HS.out.frm.trans hf)
  clear hf c0 c1
  go_wp2_with fail
  go_ret
  exact ⟨rfl, HF.out⟩
end

end Go.Proofs.YtibccecmicndaaaDoor
