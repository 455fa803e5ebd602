/-
  THE WALKS of the laws SerialTurns.
-/
import Derived.Test.YtkpkfgnebgcoaaaSeC
set_option linter.unusedVariables false
set_option linter.unusedSimpArgs false
namespace Go.Proofs.Ytkpkfgnebgcoaaa
open Go.RowKit

theorem bv_and16383 (m : BitVec 64) : (m &&& 16383#64).toNat ≤ 16383 := by
  rw [BitVec.toNat_and]
  exact Nat.and_le_right
theorem and16383 (m : Int) : 0 ≤ bits .and .i64 m 16383 ∧ bits .and .i64 m 16383 ≤ 16383 := by
  have h : bits .and .i64 m 16383 = IntKind.i64.wrap ((BitVec.ofInt 64 m &&& 16383#64).toNat : Int) := rfl
  have h2 := bv_and16383 (BitVec.ofInt 64 m)
  rw [h, IntWalk.i64_in _ (by omega)]
  omega

set_option maxRecDepth 100000 in
set_option maxHeartbeats 8000000 in
theorem serialTurns_w (w : World) (a : Int) (wa : (Lit.int .u16 a).wf = true) (b : Int) (wb : (Lit.int .u16 b).wf = true) (n : Int) (wn : (Lit.int .i64 n).wf = true) (m : Int) (wm : (Lit.int .i64 m).wf = true) :
    Calls Try.prog 6 #[.int .u16 a, .int .u16 b, .int .i64 n, .int .i64 m] w fun e w' => e = .returned (.bool true) ∧ Below w.heap.size w w' := by
  obtain ⟨a0, a1⟩ := u16_wf wa
  obtain ⟨b0, b1⟩ := u16_wf wb
  clear wa wb wn wm
  obtain ⟨n0, n1⟩ := and16383 n
  obtain ⟨m0, m1⟩ := and16383 m
  obtain ⟨N, hN⟩ : ∃ N, bits .and .i64 n 16383 = N := ⟨_, rfl⟩
  obtain ⟨M, hM⟩ : ∃ M, bits .and .i64 m 16383 = M := ⟨_, rfl⟩
  rw [hN] at n0 n1
  rw [hM] at m0 m1
  obtain ⟨s, hs⟩ : ∃ s, add16 a N = s := ⟨_, rfl⟩
  obtain ⟨y, hy⟩ : ∃ y, add16 a (N + M) = y := ⟨_, rfl⟩
  obtain ⟨d, hd⟩ : ∃ d, ah16 a b = d := ⟨_, rfl⟩
  have s0 : 0 ≤ s ∧ s ≤ 65535 := by rw [← hs]; unfold add16; omega
  have y0 : 0 ≤ y ∧ y ≤ 65535 := by rw [← hy]; unfold add16; omega
  have d0 : -32768 ≤ d ∧ d ≤ 32767 := by rw [← hd]; exact ah16_in _ _
  obtain ⟨s0, s1⟩ := s0
  obtain ⟨y0, y1⟩ := y0
  obtain ⟨d0, d1⟩ := d0
  have v1 : ah16 s a = N := by rw [← hs]; unfold ah16 add16; omega
  have v2 : ah16 a s = -N := by rw [← hs]; unfold ah16 add16; omega
  have v3 : add16 s (-N) = a := by rw [← hs]; unfold add16; omega
  have v4 : d ≠ -32768 → ah16 b a = -d := by intro h; rw [← hd] at h ⊢; unfold ah16 at *; omega
  have v5 : d = -32768 → ah16 b a = d := by intro h; rw [← hd] at h ⊢; unfold ah16 at *; omega
  have v6 : add16 b d = a := by rw [← hd]; unfold add16 ah16; omega
  have v7 : ah16 y s = M := by rw [← hs, ← hy]; unfold ah16 add16; omega
  have v8 : ah16 y a = M + N := by rw [← hy]; unfold ah16 add16; omega
  have v9 : newer y a = decide (0 < N + M) := by unfold newer; rw [v8, Int.add_comm]
  have vA : later a s = s := by
    unfold later newer
    rw [v1]
    by_cases h : 0 < N
    · rw [if_pos (by simpa using h)]
    · rw [if_neg (by simpa using h), ← hs]; unfold add16; omega
  have H1 : Hid (∀ W, Calls Try.prog 16 #[.int .u16 a, .int .i64 N] W fun e w' => e = .returned (.int .u16 s) ∧ W = w') := Lib.hid fun W => by
    have h := add_c a N W a0 a1
    rw [hs] at h
    exact h
  have H2 : Hid (∀ W, Calls Try.prog 11 #[.int .u16 s, .int .u16 a] W fun e w' => e = .returned (.int .i64 N) ∧ W = w') := Lib.hid fun W => by
    have h := ahead_c s a W s0 s1 a0 a1
    rw [v1] at h
    exact h
  have H3 : Hid (∀ W, Calls Try.prog 11 #[.int .u16 a, .int .u16 s] W fun e w' => e = .returned (.int .i64 (-N)) ∧ W = w') := Lib.hid fun W => by
    have h := ahead_c a s W a0 a1 s0 s1
    rw [v2] at h
    exact h
  have H4 : Hid (∀ W, Calls Try.prog 16 #[.int .u16 s, .int .i64 (-N)] W fun e w' => e = .returned (.int .u16 a) ∧ W = w') := Lib.hid fun W => by
    have h := add_c s (-N) W s0 s1
    rw [v3] at h
    exact h
  have H5 : Hid (∀ W, Calls Try.prog 11 #[.int .u16 a, .int .u16 b] W fun e w' => e = .returned (.int .i64 d) ∧ W = w') := Lib.hid fun W => by
    have h := ahead_c a b W a0 a1 b0 b1
    rw [hd] at h
    exact h
  have H6 : Hid (∀ W, Calls Try.prog 16 #[.int .u16 b, .int .i64 d] W fun e w' => e = .returned (.int .u16 a) ∧ W = w') := Lib.hid fun W => by
    have h := add_c b d W b0 b1
    rw [v6] at h
    exact h
  have H7 : Hid (∀ W, Calls Try.prog 16 #[.int .u16 a, .int .i64 (N + M)] W fun e w' => e = .returned (.int .u16 y) ∧ W = w') := Lib.hid fun W => by
    have h := add_c a (N + M) W a0 a1
    rw [hy] at h
    exact h
  have H8 : Hid (∀ W, Calls Try.prog 11 #[.int .u16 y, .int .u16 s] W fun e w' => e = .returned (.int .i64 M) ∧ W = w') := Lib.hid fun W => by
    have h := ahead_c y s W y0 y1 s0 s1
    rw [v7] at h
    exact h
  have H9 : Hid (∀ W, Calls Try.prog 11 #[.int .u16 y, .int .u16 a] W fun e w' => e = .returned (.int .i64 (M + N)) ∧ W = w') := Lib.hid fun W => by
    have h := ahead_c y a W y0 y1 a0 a1
    rw [v8] at h
    exact h
  have HA : Hid (∀ W, Calls Try.prog 14 #[.int .u16 y, .int .u16 a] W fun e w' => e = .returned (.bool (decide (0 < N + M))) ∧ W = w') := Lib.hid fun W => by
    have h := newer_c y a W y0 y1 a0 a1
    rw [v9] at h
    exact h
  have HB : Hid (∀ W, Calls Try.prog 15 #[.int .u16 a, .int .u16 s] W fun e w' => e = .returned (.int .u16 s) ∧ W = w') := Lib.hid fun W => by
    have h := max_c a s W a0 a1 s0 s1
    rw [vA] at h
    exact h
  have H4' := Lib.hid v4
  have H5' := Lib.hid v5
  clear hs hy hd v1 v2 v3 v4 v5 v6 v7 v8 v9 vA
  by_cases hdd : d = -32768
  · have HC : Hid (∀ W, Calls Try.prog 11 #[.int .u16 b, .int .u16 a] W fun e w' => e = .returned (.int .i64 d) ∧ W = w') := Lib.hid fun W => by
      have h := ahead_c b a W b0 b1 a0 a1
      rw [H5'.out hdd] at h
      exact h
    have g1 : (d == -32768) = true := beq_iff_eq.2 hdd
    have g2 : (d != -32768) = false := by rw [bne_eq_false_iff_eq]; exact hdd
    clear hdd
    go_enter Try.func6, Try.ntmps6
    go_wp2_with fail
    refine (alive_c _).mono ?_
    rintro e w1 ⟨rfl, hf⟩
    have HF := Lib.hid hf
    clear hf
    go_wp2_with fail
    refine (H1.out _).mono ?_
    rintro e w' ⟨rfl, rfl⟩
    go_wp2_with fail
    refine (H2.out _).mono ?_
    rintro e w' ⟨rfl, rfl⟩
    go_wp2_with fail
    refine (H1.out _).mono ?_
    rintro e w' ⟨rfl, rfl⟩
    go_wp2_with fail
    refine (H3.out _).mono ?_
    rintro e w' ⟨rfl, rfl⟩
    go_wp2_with fail
    refine (H1.out _).mono ?_
    rintro e w' ⟨rfl, rfl⟩
    go_wp2_with fail
    refine (H4.out _).mono ?_
    rintro e w' ⟨rfl, rfl⟩
    go_wp2_with fail
    refine (H5.out _).mono ?_
    rintro e w' ⟨rfl, rfl⟩
    go_wp2_with fail
    refine (HC.out _).mono ?_
    rintro e w' ⟨rfl, rfl⟩
    go_wp2_with fail
    refine (H6.out _).mono ?_
    rintro e w' ⟨rfl, rfl⟩
    go_wp2_with fail
    refine (H1.out _).mono ?_
    rintro e w' ⟨rfl, rfl⟩
    go_wp2_with fail
    refine (H7.out _).mono ?_
    rintro e w' ⟨rfl, rfl⟩
    go_wp2_with fail
    refine (H8.out _).mono ?_
    rintro e w' ⟨rfl, rfl⟩
    go_wp2_with fail
    refine (H2.out _).mono ?_
    rintro e w' ⟨rfl, rfl⟩
    go_wp2_with fail
    refine (H9.out _).mono ?_
    rintro e w' ⟨rfl, rfl⟩
    go_wp2_with fail
    refine (HA.out _).mono ?_
    rintro e w' ⟨rfl, rfl⟩
    go_wp2_with fail
    refine (HB.out _).mono ?_
    rintro e w' ⟨rfl, rfl⟩
    go_wp2_with fail
    go_ret
    exact ⟨rfl, HF.out.below⟩
  · have HC : Hid (∀ W, Calls Try.prog 11 #[.int .u16 b, .int .u16 a] W fun e w' => e = .returned (.int .i64 (-d)) ∧ W = w') := Lib.hid fun W => by
      have h := ahead_c b a W b0 b1 a0 a1
      rw [H4'.out hdd] at h
      exact h
    have g1 : (d == -32768) = false := beq_eq_false_iff_ne.2 hdd
    have g2 : (d != -32768) = true := by rw [bne_iff_ne]; exact hdd
    clear hdd
    go_enter Try.func6, Try.ntmps6
    go_wp2_with fail
    refine (alive_c _).mono ?_
    rintro e w1 ⟨rfl, hf⟩
    have HF := Lib.hid hf
    clear hf
    go_wp2_with fail
    refine (H1.out _).mono ?_
    rintro e w' ⟨rfl, rfl⟩
    go_wp2_with fail
    refine (H2.out _).mono ?_
    rintro e w' ⟨rfl, rfl⟩
    go_wp2_with fail
    refine (H1.out _).mono ?_
    rintro e w' ⟨rfl, rfl⟩
    go_wp2_with fail
    refine (H3.out _).mono ?_
    rintro e w' ⟨rfl, rfl⟩
    go_wp2_with fail
    refine (H1.out _).mono ?_
    rintro e w' ⟨rfl, rfl⟩
    go_wp2_with fail
    refine (H4.out _).mono ?_
    rintro e w' ⟨rfl, rfl⟩
    go_wp2_with fail
    refine (H5.out _).mono ?_
    rintro e w' ⟨rfl, rfl⟩
    go_wp2_with fail
    refine (HC.out _).mono ?_
    rintro e w' ⟨rfl, rfl⟩
    go_wp2_with fail
    refine (H6.out _).mono ?_
    rintro e w' ⟨rfl, rfl⟩
    go_wp2_with fail
    refine (H1.out _).mono ?_
    rintro e w' ⟨rfl, rfl⟩
    go_wp2_with fail
    refine (H7.out _).mono ?_
    rintro e w' ⟨rfl, rfl⟩
    go_wp2_with fail
    refine (H8.out _).mono ?_
    rintro e w' ⟨rfl, rfl⟩
    go_wp2_with fail
    refine (H2.out _).mono ?_
    rintro e w' ⟨rfl, rfl⟩
    go_wp2_with fail
    refine (H9.out _).mono ?_
    rintro e w' ⟨rfl, rfl⟩
    go_wp2_with fail
    refine (HA.out _).mono ?_
    rintro e w' ⟨rfl, rfl⟩
    go_wp2_with fail
    refine (HB.out _).mono ?_
    rintro e w' ⟨rfl, rfl⟩
    go_wp2_with fail
    go_ret
    exact ⟨rfl, HF.out.below⟩

end Go.Proofs.Ytkpkfgnebgcoaaa
