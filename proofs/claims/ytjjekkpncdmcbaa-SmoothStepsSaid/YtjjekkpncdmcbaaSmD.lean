/-
  THE WALK of the law SmoothSteps.
-/
import Derived.Test.YtjjekkpncdmcbaaSmC
set_option linter.unusedVariables false
set_option linter.unusedSimpArgs false
namespace Go.Proofs.Ytjjekkpncdmcbaa
open Go.RowKit

/-- What the law asks of two losses. -/
theorem steps_law (a b : Int) (a0 : 0 ≤ a) (a1 : a ≤ 255) (b0 : 0 ≤ b) (b1 : b ≤ 255) :
    (steps (256 * a) b = 0 ↔ a = b) ∧ (a < b → a < val (stepF (256 * a) (256 * b)) ∧ val (stepF (256 * a) (256 * b)) ≤ b) ∧
    (b < a → val (stepF (256 * a) (256 * b)) ≤ a ∧ b ≤ val (stepF (256 * a) (256 * b))) ∧ (a = b → val (stepF (256 * a) (256 * b)) = a) := by
  refine ⟨⟨fun h => ?_, fun h => ?_⟩, fun h => ?_, fun h => ?_, fun h => ?_⟩
  · have := steps_at (256 * a) b (by omega) (by omega) b0 b1
    rw [h] at this
    simpa [fsF, val_256] using this
  · exact steps_zero _ _ (by rw [val_256]; exact h)
  · unfold stepF val; rw [if_pos (by omega)]; omega
  · unfold stepF val; rw [if_neg (by omega)]; omega
  · unfold stepF val; rw [if_neg (by omega)]; omega

set_option maxHeartbeats 2000000 in
theorem smoothSteps_lt (x y z : Int) (w : World) (hc : clamp x < clamp y) :
    Calls Try.prog 6 #[.int .i64 x, .int .i64 y, .int .i64 z] w fun e w' => e = .returned (.bool true) ∧ Below w.heap.size w w' := by
  have a0 := clamp_ge x
  have a1 := clamp_le x
  have b0 := clamp_ge y
  have b1 := clamp_le y
  have HL := Lib.hid (steps_law (clamp x) (clamp y) a0 a1 b0 b1)
  have hS := steps_le (256 * clamp x) (clamp y)
  obtain ⟨S, hSe⟩ : ∃ S, S = steps (256 * clamp x) (clamp y) := ⟨_, rfl⟩
  obtain ⟨A, hA⟩ : ∃ A, A = clamp x := ⟨_, rfl⟩
  obtain ⟨B, hB⟩ : ∃ B, B = clamp y := ⟨_, rfl⟩
  obtain ⟨V, hV⟩ : ∃ V, V = val (stepF (256 * A) (256 * B)) := ⟨_, rfl⟩
  obtain ⟨F, hF⟩ : ∃ F, F = stepF (256 * A) (256 * B) := ⟨_, rfl⟩
  rw [← hSe] at hS
  rw [← hA] at a0 a1 hc
  rw [← hB] at b0 b1 hc
  have f0 : 0 ≤ F := by rw [hF]; exact stepF_ge _ _ (by omega) (by omega)
  have f1 : F ≤ 65280 := by rw [hF]; exact stepF_le _ _ (by omega) (by omega)
  have hl := HL.out
  rw [← hSe, ← hA, ← hB, ← hV] at hl
  have HA := Lib.hid hA
  have HB := Lib.hid hB
  have HSe := Lib.hid hSe
  have HV : Hid (val F = V) := Lib.hid (by rw [hV, hF])
  have HF := Lib.hid hF
  have s0 : ((S : Int) == 0) = false := by have h : ¬ S = 0 := (fun h => by have := hl.1.1 h; omega); simpa using h
  have c1 : (A == B) = false := by simp; omega
  have c3 : A < B := hc
  have c4 : A < V := (hl.2.1 hc).1
  have c5 : V ≤ B := (hl.2.1 hc).2
  clear hSe hA hB hV hF hl hc
  go_enter Try.func6, Try.ntmps6
  go_wp2_with fail
  refine (alive_c _).mono ?_
  rintro e w1 ⟨rfl, hB⟩
  have HB1 := Lib.hid hB
  clear hB
  go_wp2_with fail
  refine (steps_c _ _ _).mono ?_
  rintro e w2 ⟨rfl, hB⟩
  have HB2 := Lib.hid (HB1.out.trans (hB.mono HB1.out.size))
  clear hB
  rw [← HSe.out]
  go_wp2_with fail
  refine (rheld255_c _ _).mono ?_
  rintro e w' ⟨rfl, rfl⟩
  rw [← HA.out]
  go_wp2_with fail
  refine (rheld255_c _ _).mono ?_
  rintro e w' ⟨rfl, rfl⟩
  rw [← HB.out]
  go_wp2_with fail
  refine (feed_c _ _ _ _ _ (Blk.made w2 25 #[.int .i64 0, .int .i64 0]) (by omega) (by omega) (by omega) (by omega)).mono ?_
  rintro e w3 ⟨rfl, hF, hG⟩
  have HB3 := Lib.hid (HB2.out.trans ((below_new hG).mono HB2.out.size))
  rw [feed_zero, ← HA.out] at hF
  rw [feed_zero, ← HA.out, val_256]
  have HF1 := Lib.hid hF
  clear hF hG
  go_wp2_with fail
  refine (feed_c _ _ _ _ _ HF1.out (by omega) (by omega) (by omega) (by omega)).mono ?_
  rintro e w4 ⟨rfl, hF, hG⟩
  have HB4 := Lib.hid (HB3.out.grown hG HB3.out.size (fun j hj => by injection hj with hj; have := HB2.out.size; omega))
  rw [feed_step _ _ _ (by omega), ← HB.out, ← HF.out] at hF
  rw [feed_step _ _ _ (by omega), ← HB.out, ← HF.out, HV.out]
  have HF2 := Lib.hid hF
  clear hF hG
  go_wp2_with fail
  refine (clone_c _ _ _ _ HF2.out).mono ?_
  rintro e w5 ⟨rfl, hB⟩
  have HB5 := Lib.hid (HB4.out.trans (hB.mono HB4.out.size))
  have HF5 := Lib.hid (HF2.out.below hB HF2.out.lt)
  clear hB
  go_wp2_with fail
  refine (value_c _ _ _ _ (HF5.out.alloc _) f0 f1).mono ?_
  rintro e w' ⟨rfl, rfl⟩
  rw [HV.out]
  go_wp2_with fail
  refine (feed_c _ _ _ _ _ (Blk.made w5 25 #[.int .i64 F, .int .i64 2]) f0 f1 (by omega) (by omega)).mono ?_
  rintro e w6 ⟨rfl, hF, hG⟩
  have HB6 := Lib.hid (HB5.out.trans ((below_new hG).mono HB5.out.size))
  have HF6 := Lib.hid ((HF5.out.alloc _).grown hG (by have := HF5.out.lt; simp; omega))
  have HC6 := Lib.hid hF
  clear hF hG
  go_wp2_with fail
  refine (value_c _ _ _ _ HF6.out f0 f1).mono ?_
  rintro e w' ⟨rfl, rfl⟩
  rw [HV.out]
  go_wp2_with fail
  refine (count_c _ _ _ _ HF6.out).mono ?_
  rintro e w' ⟨rfl, rfl⟩
  go_wp2_with fail
  refine (count_c _ _ _ _ HC6.out).mono ?_
  rintro e w' ⟨rfl, rfl⟩
  go_wp2_with fail
  refine (clear_c _ _ _ _ HF6.out).mono ?_
  rintro e w7 ⟨rfl, hF, hG⟩
  have HB7 := Lib.hid (HB6.out.grown hG HB6.out.size (fun j hj => by injection hj with hj; have := HB2.out.size; omega))
  have HF7 := Lib.hid hF
  clear hF hG
  go_wp2_with fail
  refine (feed_c _ _ _ _ _ HF7.out (by omega) (by omega) (by omega) (by omega)).mono ?_
  rintro e w8 ⟨rfl, hF, hG⟩
  have HB8 := Lib.hid (HB7.out.grown hG HB7.out.size (fun j hj => by injection hj with hj; have := HB2.out.size; omega))
  have z0 := clamp_ge z
  have z1 := clamp_le z
  rw [feed_zero] at hF
  rw [feed_zero, val_256]
  have HF8 := Lib.hid hF
  clear hF hG
  go_wp2_with fail
  refine (rheld255_c _ _).mono ?_
  rintro e w' ⟨rfl, rfl⟩
  go_wp2_with fail
  refine (count_c _ _ _ _ HF8.out).mono ?_
  rintro e w' ⟨rfl, rfl⟩
  go_wp2_with fail
  refine (fine_c _ _ _ _ HF8.out).mono ?_
  rintro e w' ⟨rfl, rfl⟩
  go_wp2_with fail
  refine (value_c _ _ _ _ HF8.out (by omega) (by omega)).mono ?_
  rintro e w' ⟨rfl, rfl⟩
  rw [val_256]
  go_wp2_with fail
  go_ret
  exact ⟨rfl, HB8.out⟩

set_option maxHeartbeats 2000000 in
theorem smoothSteps_gt (x y z : Int) (w : World) (hc : clamp y < clamp x) :
    Calls Try.prog 6 #[.int .i64 x, .int .i64 y, .int .i64 z] w fun e w' => e = .returned (.bool true) ∧ Below w.heap.size w w' := by
  have a0 := clamp_ge x
  have a1 := clamp_le x
  have b0 := clamp_ge y
  have b1 := clamp_le y
  have HL := Lib.hid (steps_law (clamp x) (clamp y) a0 a1 b0 b1)
  have hS := steps_le (256 * clamp x) (clamp y)
  obtain ⟨S, hSe⟩ : ∃ S, S = steps (256 * clamp x) (clamp y) := ⟨_, rfl⟩
  obtain ⟨A, hA⟩ : ∃ A, A = clamp x := ⟨_, rfl⟩
  obtain ⟨B, hB⟩ : ∃ B, B = clamp y := ⟨_, rfl⟩
  obtain ⟨V, hV⟩ : ∃ V, V = val (stepF (256 * A) (256 * B)) := ⟨_, rfl⟩
  obtain ⟨F, hF⟩ : ∃ F, F = stepF (256 * A) (256 * B) := ⟨_, rfl⟩
  rw [← hSe] at hS
  rw [← hA] at a0 a1 hc
  rw [← hB] at b0 b1 hc
  have f0 : 0 ≤ F := by rw [hF]; exact stepF_ge _ _ (by omega) (by omega)
  have f1 : F ≤ 65280 := by rw [hF]; exact stepF_le _ _ (by omega) (by omega)
  have hl := HL.out
  rw [← hSe, ← hA, ← hB, ← hV] at hl
  have HA := Lib.hid hA
  have HB := Lib.hid hB
  have HSe := Lib.hid hSe
  have HV : Hid (val F = V) := Lib.hid (by rw [hV, hF])
  have HF := Lib.hid hF
  have s0 : ((S : Int) == 0) = false := by have h : ¬ S = 0 := (fun h => by have := hl.1.1 h; omega); simpa using h
  have c1 : (A == B) = false := by simp; omega
  have c3 : B < A := hc
  have c4 : V ≤ A := (hl.2.2.1 hc).1
  have c5 : B ≤ V := (hl.2.2.1 hc).2
  clear hSe hA hB hV hF hl hc
  go_enter Try.func6, Try.ntmps6
  go_wp2_with fail
  refine (alive_c _).mono ?_
  rintro e w1 ⟨rfl, hB⟩
  have HB1 := Lib.hid hB
  clear hB
  go_wp2_with fail
  refine (steps_c _ _ _).mono ?_
  rintro e w2 ⟨rfl, hB⟩
  have HB2 := Lib.hid (HB1.out.trans (hB.mono HB1.out.size))
  clear hB
  rw [← HSe.out]
  go_wp2_with fail
  refine (rheld255_c _ _).mono ?_
  rintro e w' ⟨rfl, rfl⟩
  rw [← HA.out]
  go_wp2_with fail
  refine (rheld255_c _ _).mono ?_
  rintro e w' ⟨rfl, rfl⟩
  rw [← HB.out]
  go_wp2_with fail
  refine (feed_c _ _ _ _ _ (Blk.made w2 25 #[.int .i64 0, .int .i64 0]) (by omega) (by omega) (by omega) (by omega)).mono ?_
  rintro e w3 ⟨rfl, hF, hG⟩
  have HB3 := Lib.hid (HB2.out.trans ((below_new hG).mono HB2.out.size))
  rw [feed_zero, ← HA.out] at hF
  rw [feed_zero, ← HA.out, val_256]
  have HF1 := Lib.hid hF
  clear hF hG
  go_wp2_with fail
  refine (feed_c _ _ _ _ _ HF1.out (by omega) (by omega) (by omega) (by omega)).mono ?_
  rintro e w4 ⟨rfl, hF, hG⟩
  have HB4 := Lib.hid (HB3.out.grown hG HB3.out.size (fun j hj => by injection hj with hj; have := HB2.out.size; omega))
  rw [feed_step _ _ _ (by omega), ← HB.out, ← HF.out] at hF
  rw [feed_step _ _ _ (by omega), ← HB.out, ← HF.out, HV.out]
  have HF2 := Lib.hid hF
  clear hF hG
  go_wp2_with fail
  refine (clone_c _ _ _ _ HF2.out).mono ?_
  rintro e w5 ⟨rfl, hB⟩
  have HB5 := Lib.hid (HB4.out.trans (hB.mono HB4.out.size))
  have HF5 := Lib.hid (HF2.out.below hB HF2.out.lt)
  clear hB
  go_wp2_with fail
  refine (value_c _ _ _ _ (HF5.out.alloc _) f0 f1).mono ?_
  rintro e w' ⟨rfl, rfl⟩
  rw [HV.out]
  go_wp2_with fail
  refine (feed_c _ _ _ _ _ (Blk.made w5 25 #[.int .i64 F, .int .i64 2]) f0 f1 (by omega) (by omega)).mono ?_
  rintro e w6 ⟨rfl, hF, hG⟩
  have HB6 := Lib.hid (HB5.out.trans ((below_new hG).mono HB5.out.size))
  have HF6 := Lib.hid ((HF5.out.alloc _).grown hG (by have := HF5.out.lt; simp; omega))
  have HC6 := Lib.hid hF
  clear hF hG
  go_wp2_with fail
  refine (value_c _ _ _ _ HF6.out f0 f1).mono ?_
  rintro e w' ⟨rfl, rfl⟩
  rw [HV.out]
  go_wp2_with fail
  refine (count_c _ _ _ _ HF6.out).mono ?_
  rintro e w' ⟨rfl, rfl⟩
  go_wp2_with fail
  refine (count_c _ _ _ _ HC6.out).mono ?_
  rintro e w' ⟨rfl, rfl⟩
  go_wp2_with fail
  refine (clear_c _ _ _ _ HF6.out).mono ?_
  rintro e w7 ⟨rfl, hF, hG⟩
  have HB7 := Lib.hid (HB6.out.grown hG HB6.out.size (fun j hj => by injection hj with hj; have := HB2.out.size; omega))
  have HF7 := Lib.hid hF
  clear hF hG
  go_wp2_with fail
  refine (feed_c _ _ _ _ _ HF7.out (by omega) (by omega) (by omega) (by omega)).mono ?_
  rintro e w8 ⟨rfl, hF, hG⟩
  have HB8 := Lib.hid (HB7.out.grown hG HB7.out.size (fun j hj => by injection hj with hj; have := HB2.out.size; omega))
  have z0 := clamp_ge z
  have z1 := clamp_le z
  rw [feed_zero] at hF
  rw [feed_zero, val_256]
  have HF8 := Lib.hid hF
  clear hF hG
  go_wp2_with fail
  refine (rheld255_c _ _).mono ?_
  rintro e w' ⟨rfl, rfl⟩
  go_wp2_with fail
  refine (count_c _ _ _ _ HF8.out).mono ?_
  rintro e w' ⟨rfl, rfl⟩
  go_wp2_with fail
  refine (fine_c _ _ _ _ HF8.out).mono ?_
  rintro e w' ⟨rfl, rfl⟩
  go_wp2_with fail
  refine (value_c _ _ _ _ HF8.out (by omega) (by omega)).mono ?_
  rintro e w' ⟨rfl, rfl⟩
  rw [val_256]
  go_wp2_with fail
  go_ret
  exact ⟨rfl, HB8.out⟩

set_option maxHeartbeats 2000000 in
theorem smoothSteps_eq (x y z : Int) (w : World) (hc : clamp x = clamp y) :
    Calls Try.prog 6 #[.int .i64 x, .int .i64 y, .int .i64 z] w fun e w' => e = .returned (.bool true) ∧ Below w.heap.size w w' := by
  have a0 := clamp_ge x
  have a1 := clamp_le x
  have b0 := clamp_ge y
  have b1 := clamp_le y
  have HL := Lib.hid (steps_law (clamp x) (clamp y) a0 a1 b0 b1)
  have hS := steps_le (256 * clamp x) (clamp y)
  obtain ⟨S, hSe⟩ : ∃ S, S = steps (256 * clamp x) (clamp y) := ⟨_, rfl⟩
  obtain ⟨A, hA⟩ : ∃ A, A = clamp x := ⟨_, rfl⟩
  obtain ⟨B, hB⟩ : ∃ B, B = clamp y := ⟨_, rfl⟩
  obtain ⟨V, hV⟩ : ∃ V, V = val (stepF (256 * A) (256 * B)) := ⟨_, rfl⟩
  obtain ⟨F, hF⟩ : ∃ F, F = stepF (256 * A) (256 * B) := ⟨_, rfl⟩
  rw [← hSe] at hS
  rw [← hA] at a0 a1 hc
  rw [← hB] at b0 b1 hc
  have f0 : 0 ≤ F := by rw [hF]; exact stepF_ge _ _ (by omega) (by omega)
  have f1 : F ≤ 65280 := by rw [hF]; exact stepF_le _ _ (by omega) (by omega)
  have hl := HL.out
  rw [← hSe, ← hA, ← hB, ← hV] at hl
  have HA := Lib.hid hA
  have HB := Lib.hid hB
  have HSe := Lib.hid hSe
  have HV : Hid (val F = V) := Lib.hid (by rw [hV, hF])
  have HF := Lib.hid hF
  have s0 : ((S : Int) == 0) = true := by have h : S = 0 := hl.1.2 hc; simpa using h
  have c1 : (A == B) = true := by simpa using hc
  have c2 : (V != A) = false := by have := hl.2.2.2 hc; simpa using this
  have c3 : A ≤ B := by omega
  have c4 : B ≤ A := by omega
  clear hSe hA hB hV hF hl hc
  go_enter Try.func6, Try.ntmps6
  go_wp2_with fail
  refine (alive_c _).mono ?_
  rintro e w1 ⟨rfl, hB⟩
  have HB1 := Lib.hid hB
  clear hB
  go_wp2_with fail
  refine (steps_c _ _ _).mono ?_
  rintro e w2 ⟨rfl, hB⟩
  have HB2 := Lib.hid (HB1.out.trans (hB.mono HB1.out.size))
  clear hB
  rw [← HSe.out]
  go_wp2_with fail
  refine (rheld255_c _ _).mono ?_
  rintro e w' ⟨rfl, rfl⟩
  rw [← HA.out]
  go_wp2_with fail
  refine (rheld255_c _ _).mono ?_
  rintro e w' ⟨rfl, rfl⟩
  rw [← HB.out]
  go_wp2_with fail
  refine (feed_c _ _ _ _ _ (Blk.made w2 25 #[.int .i64 0, .int .i64 0]) (by omega) (by omega) (by omega) (by omega)).mono ?_
  rintro e w3 ⟨rfl, hF, hG⟩
  have HB3 := Lib.hid (HB2.out.trans ((below_new hG).mono HB2.out.size))
  rw [feed_zero, ← HA.out] at hF
  rw [feed_zero, ← HA.out, val_256]
  have HF1 := Lib.hid hF
  clear hF hG
  go_wp2_with fail
  refine (feed_c _ _ _ _ _ HF1.out (by omega) (by omega) (by omega) (by omega)).mono ?_
  rintro e w4 ⟨rfl, hF, hG⟩
  have HB4 := Lib.hid (HB3.out.grown hG HB3.out.size (fun j hj => by injection hj with hj; have := HB2.out.size; omega))
  rw [feed_step _ _ _ (by omega), ← HB.out, ← HF.out] at hF
  rw [feed_step _ _ _ (by omega), ← HB.out, ← HF.out, HV.out]
  have HF2 := Lib.hid hF
  clear hF hG
  go_wp2_with fail
  refine (clone_c _ _ _ _ HF2.out).mono ?_
  rintro e w5 ⟨rfl, hB⟩
  have HB5 := Lib.hid (HB4.out.trans (hB.mono HB4.out.size))
  have HF5 := Lib.hid (HF2.out.below hB HF2.out.lt)
  clear hB
  go_wp2_with fail
  refine (value_c _ _ _ _ (HF5.out.alloc _) f0 f1).mono ?_
  rintro e w' ⟨rfl, rfl⟩
  rw [HV.out]
  go_wp2_with fail
  refine (feed_c _ _ _ _ _ (Blk.made w5 25 #[.int .i64 F, .int .i64 2]) f0 f1 (by omega) (by omega)).mono ?_
  rintro e w6 ⟨rfl, hF, hG⟩
  have HB6 := Lib.hid (HB5.out.trans ((below_new hG).mono HB5.out.size))
  have HF6 := Lib.hid ((HF5.out.alloc _).grown hG (by have := HF5.out.lt; simp; omega))
  have HC6 := Lib.hid hF
  clear hF hG
  go_wp2_with fail
  refine (value_c _ _ _ _ HF6.out f0 f1).mono ?_
  rintro e w' ⟨rfl, rfl⟩
  rw [HV.out]
  go_wp2_with fail
  refine (count_c _ _ _ _ HF6.out).mono ?_
  rintro e w' ⟨rfl, rfl⟩
  go_wp2_with fail
  refine (count_c _ _ _ _ HC6.out).mono ?_
  rintro e w' ⟨rfl, rfl⟩
  go_wp2_with fail
  refine (clear_c _ _ _ _ HF6.out).mono ?_
  rintro e w7 ⟨rfl, hF, hG⟩
  have HB7 := Lib.hid (HB6.out.grown hG HB6.out.size (fun j hj => by injection hj with hj; have := HB2.out.size; omega))
  have HF7 := Lib.hid hF
  clear hF hG
  go_wp2_with fail
  refine (feed_c _ _ _ _ _ HF7.out (by omega) (by omega) (by omega) (by omega)).mono ?_
  rintro e w8 ⟨rfl, hF, hG⟩
  have HB8 := Lib.hid (HB7.out.grown hG HB7.out.size (fun j hj => by injection hj with hj; have := HB2.out.size; omega))
  have z0 := clamp_ge z
  have z1 := clamp_le z
  rw [feed_zero] at hF
  rw [feed_zero, val_256]
  have HF8 := Lib.hid hF
  clear hF hG
  go_wp2_with fail
  refine (rheld255_c _ _).mono ?_
  rintro e w' ⟨rfl, rfl⟩
  go_wp2_with fail
  refine (count_c _ _ _ _ HF8.out).mono ?_
  rintro e w' ⟨rfl, rfl⟩
  go_wp2_with fail
  refine (fine_c _ _ _ _ HF8.out).mono ?_
  rintro e w' ⟨rfl, rfl⟩
  go_wp2_with fail
  refine (value_c _ _ _ _ HF8.out (by omega) (by omega)).mono ?_
  rintro e w' ⟨rfl, rfl⟩
  rw [val_256]
  go_wp2_with fail
  go_ret
  exact ⟨rfl, HB8.out⟩

theorem smoothSteps_w (x : Int) (wx : (Lit.int .i64 x).wf = true) (y : Int) (wy : (Lit.int .i64 y).wf = true) (z : Int) (wz : (Lit.int .i64 z).wf = true) (w : World) :
    Calls Try.prog 6 #[.int .i64 x, .int .i64 y, .int .i64 z] w fun e w' => e = .returned (.bool true) ∧ Below w.heap.size w w' := by
  rcases Int.lt_trichotomy (clamp x) (clamp y) with h | h | h
  · exact smoothSteps_lt x y z w h
  · exact smoothSteps_eq x y z w h
  · exact smoothSteps_gt x y z w h

end Go.Proofs.Ytjjekkpncdmcbaa
