/-
  THE WALKS of the law SerialTwo.
-/
import Derived.Test.YtkpkfgnebgcoaaaSeB
set_option linter.unusedVariables false
set_option linter.unusedSimpArgs false
namespace Go.Proofs.Ytkpkfgnebgcoaaa
open Go.RowKit

theorem u16_wf {a : Int} (h : (Lit.int .u16 a).wf = true) : 0 ≤ a ∧ a ≤ 65535 := by simpa [Lit.wf, IntKind.min, IntKind.max, IntKind.bits, IntKind.signed] using h
theorem u32_wf {a : Int} (h : (Lit.int .u32 a).wf = true) : 0 ≤ a ∧ a ≤ 4294967295 := by simpa [Lit.wf, IntKind.min, IntKind.max, IntKind.bits, IntKind.signed] using h

set_option maxRecDepth 100000 in
set_option maxHeartbeats 8000000 in
theorem serialTwo_w (w : World) (a : Int) (wa : (Lit.int .u16 a).wf = true) (b : Int) (wb : (Lit.int .u16 b).wf = true) (c : Int) (wc : (Lit.int .u32 c).wf = true) (d : Int) (wd : (Lit.int .u32 d).wf = true) (n : Int) (wn : (Lit.int .i64 n).wf = true) (m : Int) (wm : (Lit.int .i64 m).wf = true) :
    Calls Try.prog 3 #[.int .u16 a, .int .u16 b, .int .u32 c, .int .u32 d, .int .i64 n, .int .i64 m] w fun e w' => e = .returned (.bool true) ∧ Below w.heap.size w w' := by
  obtain ⟨a0, a1⟩ := u16_wf wa
  obtain ⟨b0, b1⟩ := u16_wf wb
  obtain ⟨c0, c1⟩ := u32_wf wc
  obtain ⟨d0, d1⟩ := u32_wf wd
  clear wa wb wc wd wn wm
  obtain ⟨p, hp⟩ : ∃ p, p = ah16 a b := ⟨_, rfl⟩
  obtain ⟨q, hq⟩ : ∃ q, q = ah16 b a := ⟨_, rfl⟩
  obtain ⟨r, hr⟩ : ∃ r, r = ah32 c d := ⟨_, rfl⟩
  obtain ⟨s, hs⟩ : ∃ s, s = add16 a n := ⟨_, rfl⟩
  obtain ⟨t, ht⟩ : ∃ t, t = add32 c m := ⟨_, rfl⟩
  have hnw : newer a b = decide (0 < p) := by unfold newer; rw [hp]
  have hlt : later a b = if 0 < q then b else a := by unfold later newer; rw [hq]; simp
  have H1 : Hid (∀ W, Calls Try.prog 10 #[.int .u16 a, .int .u16 b] W fun e w' => e = .returned (.int .i64 p) ∧ W = w') := Lib.hid fun W => by rw [hp]; exact rahead_c a b W a0 a1 b0 b1
  have H2 : Hid (∀ W, Calls Try.prog 10 #[.int .u16 b, .int .u16 a] W fun e w' => e = .returned (.int .i64 q) ∧ W = w') := Lib.hid fun W => by rw [hq]; exact rahead_c b a W b0 b1 a0 a1
  have H3 : Hid (∀ W, Calls Try.prog 11 #[.int .u16 a, .int .u16 b] W fun e w' => e = .returned (.int .i64 p) ∧ W = w') := Lib.hid fun W => by rw [hp]; exact ahead_c a b W a0 a1 b0 b1
  have H4 : Hid (∀ W, Calls Try.prog 12 #[.int .u32 c, .int .u32 d] W fun e w' => e = .returned (.int .i64 r) ∧ W = w') := Lib.hid fun W => by rw [hr]; exact ahead32_c c d W c0 c1 d0 d1
  have H5 : Hid (∀ W, Calls Try.prog 13 #[.int .u32 c, .int .u32 d] W fun e w' => e = .returned (.int .i64 r) ∧ W = w') := Lib.hid fun W => by rw [hr]; exact rahead32_c c d W c0 c1 d0 d1
  have H6 : Hid (∀ W, Calls Try.prog 14 #[.int .u16 a, .int .u16 b] W fun e w' => e = .returned (.bool (decide (0 < p))) ∧ W = w') := Lib.hid fun W => by rw [← hnw]; exact newer_c a b W a0 a1 b0 b1
  have H8 : Hid (∀ W, Calls Try.prog 16 #[.int .u16 a, .int .i64 n] W fun e w' => e = .returned (.int .u16 s) ∧ W = w') := Lib.hid fun W => by rw [hs]; exact add_c a n W a0 a1
  have H9 : Hid (∀ W, Calls Try.prog 17 #[.int .u16 a, .int .i64 n] W fun e w' => e = .returned (.int .u16 s) ∧ W = w') := Lib.hid fun W => by rw [hs]; exact radd_c a n W a0 a1
  have HA : Hid (∀ W, Calls Try.prog 18 #[.int .u32 c, .int .i64 m] W fun e w' => e = .returned (.int .u32 t) ∧ W = w') := Lib.hid fun W => by rw [ht]; exact add32_c c m W c0 c1
  have HB : Hid (∀ W, Calls Try.prog 19 #[.int .u32 c, .int .i64 m] W fun e w' => e = .returned (.int .u32 t) ∧ W = w') := Lib.hid fun W => by rw [ht]; exact radd32_c c m W c0 c1
  have HLt := Lib.hid hlt
  by_cases hq0 : 0 < q
  · have hL : later a b = b := by rw [HLt.out, if_pos hq0]
    have H7 : Hid (∀ W, Calls Try.prog 15 #[.int .u16 a, .int .u16 b] W fun e w' => e = .returned (.int .u16 b) ∧ W = w') := Lib.hid fun W => by have h7 := max_c a b W a0 a1 b0 b1; rw [hL] at h7; exact h7
    clear hL hp hq hr hs ht hnw hlt
    go_enter Try.func3, Try.ntmps3
    go_wp2_with fail
    refine (alive_c _).mono ?_
    rintro e w1 ⟨rfl, hf⟩
    have HF := Lib.hid hf
    clear hf
    go_wp2_with fail
    refine (H1.out _).mono ?_
    rintro e w' ⟨rfl, rfl⟩
    go_wp2_with fail
    refine (H2.out _).mono ?_
    rintro e w' ⟨rfl, rfl⟩
    go_wp2_with fail
    refine (H3.out _).mono ?_
    rintro e w' ⟨rfl, rfl⟩
    go_wp2_with fail
    refine (H1.out _).mono ?_
    rintro e w' ⟨rfl, rfl⟩
    go_wp2_with fail
    refine (H4.out _).mono ?_
    rintro e w' ⟨rfl, rfl⟩
    go_wp2_with fail
    refine (H5.out _).mono ?_
    rintro e w' ⟨rfl, rfl⟩
    go_wp2_with fail
    refine (H6.out _).mono ?_
    rintro e w' ⟨rfl, rfl⟩
    go_wp2_with fail
    refine (H7.out _).mono ?_
    rintro e w' ⟨rfl, rfl⟩
    go_wp2_with fail
    refine (H8.out _).mono ?_
    rintro e w' ⟨rfl, rfl⟩
    go_wp2_with fail
    refine (H9.out _).mono ?_
    rintro e w' ⟨rfl, rfl⟩
    go_wp2_with fail
    refine (HA.out _).mono ?_
    rintro e w' ⟨rfl, rfl⟩
    go_wp2_with fail
    refine (HB.out _).mono ?_
    rintro e w' ⟨rfl, rfl⟩
    go_wp2_with fail
    go_ret
    exact ⟨rfl, HF.out.below⟩
  · have hL : later a b = a := by rw [HLt.out, if_neg hq0]
    have H7 : Hid (∀ W, Calls Try.prog 15 #[.int .u16 a, .int .u16 b] W fun e w' => e = .returned (.int .u16 a) ∧ W = w') := Lib.hid fun W => by have h7 := max_c a b W a0 a1 b0 b1; rw [hL] at h7; exact h7
    clear hL hp hq hr hs ht hnw hlt
    go_enter Try.func3, Try.ntmps3
    go_wp2_with fail
    refine (alive_c _).mono ?_
    rintro e w1 ⟨rfl, hf⟩
    have HF := Lib.hid hf
    clear hf
    go_wp2_with fail
    refine (H1.out _).mono ?_
    rintro e w' ⟨rfl, rfl⟩
    go_wp2_with fail
    refine (H2.out _).mono ?_
    rintro e w' ⟨rfl, rfl⟩
    go_wp2_with fail
    refine (H3.out _).mono ?_
    rintro e w' ⟨rfl, rfl⟩
    go_wp2_with fail
    refine (H1.out _).mono ?_
    rintro e w' ⟨rfl, rfl⟩
    go_wp2_with fail
    refine (H4.out _).mono ?_
    rintro e w' ⟨rfl, rfl⟩
    go_wp2_with fail
    refine (H5.out _).mono ?_
    rintro e w' ⟨rfl, rfl⟩
    go_wp2_with fail
    refine (H6.out _).mono ?_
    rintro e w' ⟨rfl, rfl⟩
    go_wp2_with fail
    refine (H7.out _).mono ?_
    rintro e w' ⟨rfl, rfl⟩
    go_wp2_with fail
    refine (H8.out _).mono ?_
    rintro e w' ⟨rfl, rfl⟩
    go_wp2_with fail
    refine (H9.out _).mono ?_
    rintro e w' ⟨rfl, rfl⟩
    go_wp2_with fail
    refine (HA.out _).mono ?_
    rintro e w' ⟨rfl, rfl⟩
    go_wp2_with fail
    refine (HB.out _).mono ?_
    rintro e w' ⟨rfl, rfl⟩
    go_wp2_with fail
    go_ret
    exact ⟨rfl, HF.out.below⟩

end Go.Proofs.Ytkpkfgnebgcoaaa
