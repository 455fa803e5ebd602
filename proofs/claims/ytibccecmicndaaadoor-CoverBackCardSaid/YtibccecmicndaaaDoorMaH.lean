/-
  THE WALKS of mask.First, Last.
-/
import Derived.Test.YtibccecmicndaaaDoorMaF
import Derived.Test.YtibccecmicndaaaDoorShl
set_option linter.unusedVariables false
set_option linter.unusedSimpArgs false
namespace Go.Proofs.YtibccecmicndaaaDoor
open Go.RowKit

def blen (x : Nat) : Nat := Lib.bitLen x
def czn (x : Nat) : Nat := Lib.ctz 64 x
theorem lz_c (x : Nat) (w : World) (h : x < 18446744073709551616) : Calls Tryd.prog 47 #[.int .u64 (x : Int)] w fun e w' => e = .returned (.int .i64 (64 - (blen x : Int))) ∧ w = w' := by
  refine (Tryd.bits_LeadingZeros64 (x : Int) w (by omega) (by omega)).mono ?_
  rintro e w' ⟨rfl, rfl⟩
  exact ⟨by simp [blen], rfl⟩
theorem tz_c (x : Nat) (w : World) (h : x < 18446744073709551616) (hT : TabAt 0 Lib.deBruijn64tab w) : Calls Tryd.prog 51 #[.int .u64 (x : Int)] w fun e w' => e = .returned (.int .i64 (czn x : Int)) ∧ w = w' := by
  refine (Tryd.bits_TrailingZeros64 x h w (fun _ => hT)).mono ?_
  rintro e w' ⟨rfl, rfl⟩
  exact ⟨rfl, rfl⟩
theorem blen_le (x : Nat) (h : x < 18446744073709551616) : blen x ≤ 64 := Lib.bitLen_le x 64 (by omega) (by omega)
theorem czn_le (x : Nat) (h : x < 18446744073709551616) : czn x ≤ 64 := by
  unfold czn
  by_cases h0 : x = 0
  · subst h0; decide
  · exact Nat.le_of_lt (Lib.lowest_bit 64 x h0 h).2

/-- The first bit, the last one; -1: none. -/
def fiN (h l : Nat) : Int := if h ≠ 0 then 64 - (blen h : Int) else if l ≠ 0 then 128 - (blen l : Int) else -1
def laN (h l : Nat) : Int := if l ≠ 0 then 127 - (czn l : Int) else if h ≠ 0 then 63 - (czn h : Int) else -1

set_option maxRecDepth 100000 in
set_option maxHeartbeats 4000000 in
theorem first_c (h l : Nat) (w : World) (h0 : h < 18446744073709551616) (h1 : l < 18446744073709551616) : Calls Tryd.prog 28 #[mV h l] w fun e w' => e = .returned (.int .i64 (fiN h l)) ∧ Frm [] w w' := by
  have HF := Lib.hid (Frm.refl [] w)
  have HH := Lib.hid (fun X => lz_c h X h0)
  have HL := Lib.hid (fun X => lz_c l X h1)
  have bh := blen_le h h0
  have bl := blen_le l h1
  unfold fiN
  obtain ⟨p, hp⟩ : ∃ p, p = blen h := ⟨_, rfl⟩
  obtain ⟨q, hq⟩ : ∃ q, q = blen l := ⟨_, rfl⟩
  rw [← hp] at HH bh ⊢
  rw [← hq] at HL bl ⊢
  clear hp hq
  have e1 : IntKind.i64.wrap (64 + (64 - (q : Int))) = 128 - (q : Int) := by rw [IntWalk.i64_in _ (by omega)]; omega
  unfold mV at *
  go_enter Tryd.func28, Tryd.ntmps28
  by_cases ha : h = 0
  · subst ha
    by_cases hb : l = 0
    · subst hb
      rw [if_neg (by simp), if_neg (by simp)]
      go_wp2_with fail
      go_ret
      exact ⟨rfl, HF.out.alloc _⟩
    · have hb' : ¬ ((l : Int) = 0) := by omega
      rw [if_neg (by simp), if_pos hb]
      go_wp2_with fail
      refine (HL.out _).mono ?_
      rintro e w2 ⟨rfl, rfl⟩
      go_wp2_with fail
      go_ret
      exact ⟨rfl, HF.out.alloc _⟩
  · have ha' : ¬ ((h : Int) = 0) := by omega
    rw [if_pos ha]
    go_wp2_with fail
    refine (HH.out _).mono ?_
    rintro e w2 ⟨rfl, rfl⟩
    go_wp2_with fail
    go_ret
    exact ⟨rfl, HF.out.alloc _⟩

set_option maxRecDepth 100000 in
set_option maxHeartbeats 4000000 in
theorem last_c (h l : Nat) (w : World) (h0 : h < 18446744073709551616) (h1 : l < 18446744073709551616) (hT : TabAt 0 Lib.deBruijn64tab w) (hg : 0 < w.heap.size) : Calls Tryd.prog 31 #[mV h l] w fun e w' => e = .returned (.int .i64 (laN h l)) ∧ Frm [] w w' := by
  have HF := Lib.hid (Frm.refl [] w)
  have hT' : ∀ o, TabAt 0 Lib.deBruijn64tab (w.alloc o) := fun o j hj => by rw [((Frm.refl [] w).alloc o).cell hg (by simp)]; exact hT j hj
  have HH := Lib.hid (fun o => tz_c h (w.alloc o) h0 (hT' o))
  have HL := Lib.hid (fun o => tz_c l (w.alloc o) h1 (hT' o))
  clear hT hT' hg
  have bh := czn_le h h0
  have bl := czn_le l h1
  unfold laN
  obtain ⟨p, hp⟩ : ∃ p, p = czn h := ⟨_, rfl⟩
  obtain ⟨q, hq⟩ : ∃ q, q = czn l := ⟨_, rfl⟩
  rw [← hp] at HH bh ⊢
  rw [← hq] at HL bl ⊢
  clear hp hq
  have e1 : IntKind.i64.wrap (127 - (q : Int)) = 127 - (q : Int) := IntWalk.i64_in _ (by omega)
  have e2 : IntKind.i64.wrap (63 - (p : Int)) = 63 - (p : Int) := IntWalk.i64_in _ (by omega)
  unfold mV at *
  go_enter Tryd.func31, Tryd.ntmps31
  by_cases hb : l = 0
  · subst hb
    by_cases ha : h = 0
    · subst ha
      rw [if_neg (by simp), if_neg (by simp)]
      go_wp2_with fail
      go_ret
      exact ⟨rfl, HF.out.alloc _⟩
    · have ha' : ¬ ((h : Int) = 0) := by omega
      rw [if_neg (by simp), if_pos ha]
      go_wp2_with fail
      refine (HH.out _).mono ?_
      rintro e w2 ⟨rfl, rfl⟩
      go_wp2_with fail
      go_ret
      exact ⟨rfl, HF.out.alloc _⟩
  · have hb' : ¬ ((l : Int) = 0) := by omega
    rw [if_pos hb]
    go_wp2_with fail
    refine (HL.out _).mono ?_
    rintro e w2 ⟨rfl, rfl⟩
    go_wp2_with fail
    go_ret
    exact ⟨rfl, HF.out.alloc _⟩

end Go.Proofs.YtibccecmicndaaaDoor
