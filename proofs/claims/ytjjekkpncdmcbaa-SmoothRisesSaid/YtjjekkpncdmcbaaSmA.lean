/-
  THE WALKS of package smooth's small functions.
-/
import Derived.Test.YtjjekkpncdmcbaaRows
import Derived.Test.YtjjekkpncdmcbaaK
import Derived.Test.YtjjekkpncdmcbaaSmP
import Derived.WalkKit
import Derived.WalkSpells
import Derived.WalkLawsBesides
import Derived.OneCell
import Derived.Lib.Hide
import Derived.Deep.QuietTactic
import Derived.BigQuiet
import Derived.Deep.RegionWith
import Derived.StillTailTactics
set_option linter.unusedVariables false
set_option linter.unusedSimpArgs false
namespace Go.Proofs.Ytjjekkpncdmcbaa
open Go.RowKit

set_option maxHeartbeats 400000 in
theorem held_c (x : Int) (w : World) :
    Calls Try.prog 18 #[.int .i64 x] w fun e w' => e = .returned (.int .i64 (clamp x)) ∧ w = w' := by
  go_enter Try.func18, Try.ntmps18
  go_wp2
  all_goals (go_ret; exact ⟨ret_int (by unfold clamp; split at * <;> omega), rfl⟩)

set_option maxHeartbeats 400000 in
theorem part_c (n b : Int) (w : World) (h0 : 0 ≤ n) (h1 : n ≤ 1000000) (h2 : 1 ≤ b) (h3 : b ≤ 1000) :
    Calls Try.prog 19 #[.int .i64 n, .int .i64 b] w fun e w' => e = .returned (.int .i64 ((n + b - 1) / b)) ∧ w = w' := by
  go_enter Try.func19, Try.ntmps19
  go_wp2
  go_ret
  exact ⟨rfl, rfl⟩

set_option maxHeartbeats 400000 in
theorem rheld_c (x lo hi : Int) (w : World) (h : lo ≤ hi) :
    Calls Try.prog 15 #[.int .i64 x, .int .i64 lo, .int .i64 hi] w fun e w' => e = .returned (.int .i64 (min (max x lo) hi)) ∧ w = w' := by
  go_enter Try.func15, Try.ntmps15
  go_wp2
  all_goals (go_ret; exact ⟨ret_int (by omega), rfl⟩)

theorem rheld255_c (x : Int) (w : World) :
    Calls Try.prog 15 #[.int .i64 x, .int .i64 0, .int .i64 255] w fun e w' => e = .returned (.int .i64 (clamp x)) ∧ w = w' := rheld_c x 0 255 w (by decide)

/-- A filter in block b. -/
abbrev Fl (w : World) (b : Nat) (fine count : Int) : Prop := Blk w b 25 #[.int .i64 fine, .int .i64 count]

set_option maxHeartbeats 400000 in
theorem fine_c (b : Nat) (fine count : Int) (w : World) (h : Fl w b fine count) :
    Calls Try.prog 12 #[.pointer (some ⟨b, 0, none⟩)] w fun e w' => e = .returned (.int .i64 fine) ∧ w = w' := by
  have c0 : w.cell? ⟨b, 0, none⟩ = some (.int .i64 fine) := h.cell 0 rfl
  clear h
  go_enter Try.func12, Try.ntmps12
  go_wp2
  go_ret
  exact ⟨rfl, rfl⟩

set_option maxHeartbeats 400000 in
theorem count_c (b : Nat) (fine count : Int) (w : World) (h : Fl w b fine count) :
    Calls Try.prog 14 #[.pointer (some ⟨b, 0, none⟩)] w fun e w' => e = .returned (.int .i64 count) ∧ w = w' := by
  have c0 : w.cell? ⟨b, 1, none⟩ = some (.int .i64 count) := h.cell 1 rfl
  clear h
  go_enter Try.func14, Try.ntmps14
  go_wp2
  go_ret
  exact ⟨rfl, rfl⟩

set_option maxHeartbeats 400000 in
theorem value_c (b : Nat) (fine count : Int) (w : World) (h : Fl w b fine count) (h0 : 0 ≤ fine) (h1 : fine ≤ 65280) :
    Calls Try.prog 11 #[.pointer (some ⟨b, 0, none⟩)] w fun e w' => e = .returned (.int .i64 (val fine)) ∧ w = w' := by
  have c0 : w.cell? ⟨b, 0, none⟩ = some (.int .i64 fine) := h.cell 0 rfl
  clear h
  go_enter Try.func11, Try.ntmps11
  go_wp2_with (go_at_call 19; refine (part_c _ _ _ (by omega) (by omega) (by omega) (by omega)).mono ?_; rintro e w' ⟨rfl, rfl⟩)
  go_ret
  exact ⟨ret_int (by unfold val; omega), rfl⟩

set_option maxHeartbeats 400000 in
theorem clear_c (b : Nat) (fine count : Int) (w : World) (h : Fl w b fine count) :
    Calls Try.prog 8 #[.pointer (some ⟨b, 0, none⟩)] w fun e w' => e = .returned (.tuple #[]) ∧ Fl w' b 0 0 ∧ w.grownBy w' (some b) := by
  have c0 : w.cell? ⟨b, 0, none⟩ = some (.int .i64 fine) := h.cell 0 rfl
  have c1 : w.cell? ⟨b, 1, none⟩ = some (.int .i64 count) := h.cell 1 rfl
  have f0 := h.free 0
  have f1 := h.free 1
  have hlt := h.lt
  have H := Lib.hid h
  clear h
  go_enter Try.func8, Try.ntmps8
  go_wp2
  go_end0
  exact ⟨rfl, (H.out.put 0 _).put 1 _, grown_put (grown_put (grown_refl _ _) _ _) _ _⟩

set_option maxHeartbeats 400000 in
theorem clone_c (b : Nat) (fine count : Int) (w : World) (h : Fl w b fine count) :
    Calls Try.prog 17 #[.pointer (some ⟨b, 0, none⟩)] w fun e w' => e = .returned (.agg #[.int .i64 fine, .int .i64 count]) ∧ Below w.heap.size w w' := by
  have c0 : w.cell? ⟨b, 0, none⟩ = some (.int .i64 fine) := h.cell 0 rfl
  have c1 : w.cell? ⟨b, 1, none⟩ = some (.int .i64 count) := h.cell 1 rfl
  have hlt := h.lt
  clear h
  go_enter Try.func17, Try.ntmps17
  go_wp2
  refine bodyPost_ret (v := .agg #[.int .i64 fine, .int .i64 count]) ?_ rfl ⟨rfl, ?_⟩
  · simp [results, Try.results17, go_sem]
  · exact (Below.refl _ _).alloc (Nat.le_refl _) _

/-- What one more loss makes of the fine value. -/
def feed (fine count loss : Int) : Int := if count = 0 then 256 * clamp loss else stepF fine (256 * clamp loss)

set_option maxHeartbeats 1000000 in
theorem feed_c (b : Nat) (fine count loss : Int) (w : World) (h : Fl w b fine count) (h0 : 0 ≤ fine) (h1 : fine ≤ 65280) (h2 : 0 ≤ count) (h3 : count ≤ 1000000) :
    Calls Try.prog 9 #[.pointer (some ⟨b, 0, none⟩), .int .i64 loss] w fun e w' => e = .returned (.int .i64 (val (feed fine count loss))) ∧ Fl w' b (feed fine count loss) (count + 1) ∧ w.grownBy w' (some b) := by
  have c0 : w.cell? ⟨b, 0, none⟩ = some (.int .i64 fine) := h.cell 0 rfl
  have c1 : w.cell? ⟨b, 1, none⟩ = some (.int .i64 count) := h.cell 1 rfl
  have f0 := h.free 0
  have f1 := h.free 1
  have hlt := h.lt
  have H := Lib.hid h
  clear h
  obtain ⟨x, hx⟩ : ∃ x, x = clamp loss := ⟨_, rfl⟩
  have x0 : 0 ≤ x := by rw [hx]; exact clamp_ge _
  have x1 : x ≤ 255 := by rw [hx]; exact clamp_le _
  have Hx := Lib.hid hx
  clear hx
  go_enter Try.func9, Try.ntmps9
  go_wp2_with fail
  refine (held_c _ _).mono ?_
  rintro e w' ⟨rfl, rfl⟩
  rw [← Hx.out]
  by_cases hz : count = 0
  · subst hz
    go_wp2_with fail
    have B0 : Fl ((w.setCell { block := b, off := 0 } (Value.int IntKind.i64 (x * 256))).setCell { block := b, off := 1 } (Value.int IntKind.i64 1)) b (x * 256) 1 := (H.out.put 0 _).put 1 _
    have G0 : w.grownBy ((w.setCell { block := b, off := 0 } (Value.int IntKind.i64 (x * 256))).setCell { block := b, off := 1 } (Value.int IntKind.i64 1)) (some b) := grown_put (grown_put (grown_refl _ _) _ _) _ _
    refine (value_c _ _ _ _ B0 (by omega) (by omega)).mono ?_
    rintro e w' ⟨rfl, rfl⟩
    go_wp2_with fail
    go_ret
    have hf : feed fine 0 loss = x * 256 := by unfold feed; rw [if_pos rfl, ← Hx.out]; omega
    rw [hf]
    exact ⟨rfl, B0, G0⟩
  · have hzb : (count == 0) = false := by simpa using hz
    by_cases hg : fine < x * 256
    · go_wp2_with fail
      have e1 : IntKind.i64.wrap (x * 256 - fine) = x * 256 - fine := IntWalk.i64_in _ (by omega)
      have e2 : IntKind.i64.wrap (fine + (x * 256 - fine + 2 - 1) / 2) = fine + (x * 256 - fine + 2 - 1) / 2 := IntWalk.i64_in _ (by omega)
      have e3 : 0 ≤ x * 256 - fine := by omega
      have e4 : x * 256 - fine ≤ 1000000 := by omega
      refine wp_region_still_tail 12 (by kernel_rfl) (by kernel_rfl) ?_
      simp only [List.take_succ_cons, List.take_zero, List.drop_succ_cons, List.drop_zero]
      repeat (first | still_step | still_call (same_of (part_c _ _ _ e3 e4 (by decide) (by decide))))
      refine wpStill_nil ?_
      clear e1 e2
      change wpList _ _ _ _ _ w.drew
      go_wp2_with fail
      have B0 : Fl (((w.setCell ⟨b, 0, none⟩ (.int .i64 (fine + (x * 256 - fine + 2 - 1) / 2))).setCell ⟨b, 1, none⟩ (.int .i64 (count + 1))).drew) b (fine + (x * 256 - fine + 2 - 1) / 2) (count + 1) := ((H.out.put 0 _).put 1 _).drew
      have G0 : w.grownBy (((w.setCell ⟨b, 0, none⟩ (.int .i64 (fine + (x * 256 - fine + 2 - 1) / 2))).setCell ⟨b, 1, none⟩ (.int .i64 (count + 1))).drew) (some b) := grown_drew (grown_put (grown_put (grown_refl _ _) _ _) _ _)
      refine (value_c _ _ _ _ B0 (by omega) (by omega)).mono ?_
      rintro e w' ⟨rfl, rfl⟩
      go_wp2_with fail
      go_ret
      have hf : feed fine count loss = fine + (x * 256 - fine + 2 - 1) / 2 := by unfold feed stepF; rw [if_neg hz, ← Hx.out, if_pos (by omega)]; omega
      rw [hf]
      exact ⟨rfl, B0, G0⟩
    · go_wp2_with fail
      have e1 : IntKind.i64.wrap (fine - x * 256) = fine - x * 256 := IntWalk.i64_in _ (by omega)
      have e2 : IntKind.i64.wrap (fine - (fine - x * 256 + 8 - 1) / 8) = fine - (fine - x * 256 + 8 - 1) / 8 := IntWalk.i64_in _ (by omega)
      have e3 : 0 ≤ fine - x * 256 := by omega
      have e4 : fine - x * 256 ≤ 1000000 := by omega
      refine wp_region_still_tail 12 (by kernel_rfl) (by kernel_rfl) ?_
      simp only [List.take_succ_cons, List.take_zero, List.drop_succ_cons, List.drop_zero]
      repeat (first | still_step | still_call (same_of (part_c _ _ _ e3 e4 (by decide) (by decide))))
      refine wpStill_nil ?_
      clear e1 e2
      change wpList _ _ _ _ _ w.drew
      go_wp2_with fail
      have B0 : Fl (((w.setCell ⟨b, 0, none⟩ (.int .i64 (fine - (fine - x * 256 + 8 - 1) / 8))).setCell ⟨b, 1, none⟩ (.int .i64 (count + 1))).drew) b (fine - (fine - x * 256 + 8 - 1) / 8) (count + 1) := ((H.out.put 0 _).put 1 _).drew
      have G0 : w.grownBy (((w.setCell ⟨b, 0, none⟩ (.int .i64 (fine - (fine - x * 256 + 8 - 1) / 8))).setCell ⟨b, 1, none⟩ (.int .i64 (count + 1))).drew) (some b) := grown_drew (grown_put (grown_put (grown_refl _ _) _ _) _ _)
      refine (value_c _ _ _ _ B0 (by omega) (by omega)).mono ?_
      rintro e w' ⟨rfl, rfl⟩
      go_wp2_with fail
      go_ret
      have hf : feed fine count loss = fine - (fine - x * 256 + 8 - 1) / 8 := by unfold feed stepF; rw [if_neg hz, ← Hx.out, if_neg (by omega)]; omega
      rw [hf]
      exact ⟨rfl, B0, G0⟩

end Go.Proofs.Ytjjekkpncdmcbaa
