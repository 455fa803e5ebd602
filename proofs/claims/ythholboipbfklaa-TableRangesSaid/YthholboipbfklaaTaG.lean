/-
  THE WALK of the law TableRises; plain laws of the count.
-/
import Derived.Test.YthholboipbfklaaTaF
import Derived.Test.YthholboipbfklaaBits
set_option linter.unusedVariables false
set_option linter.unusedSimpArgs false
namespace Go.Proofs.Ythholboipbfklaa
open Go.RowKit

theorem tcnt_monoq {kind q q' l : Int} (q0 : 0 ≤ q) (l0 : 0 ≤ l) (h : q ≤ q') : tcnt kind q l ≤ tcnt kind q' l := by
  have hm : q * l ≤ q' * l := Int.mul_le_mul_of_nonneg_right h l0
  have hp : 0 ≤ q * l := Int.mul_nonneg q0 l0
  have hp' : 0 ≤ q' * l := Int.mul_nonneg (by omega) l0
  unfold tcnt
  by_cases h1 : l = 0 ∨ q = 0
  · rw [if_pos h1]
    split
    · omega
    · split <;> omega
  · have h2 : ¬ (l = 0 ∨ q' = 0) := by omega
    rw [if_neg h1, if_neg h2]
    split <;> omega
theorem tcount_monok (kind l : Int) {k k' : Int} (h : k ≤ k') : tcount kind l k ≤ tcount kind l k' := by
  unfold tcount
  exact tcnt_monoq (upTo_ge k 48 (by decide)) (upTo_ge l 255 (by decide)) (by unfold upTo; omega)
theorem tcount_pos {kind l k : Int} (hl : 0 < l) (hk : 0 < k) : 0 < tcount kind l k := by
  unfold tcount tcnt
  have l0 : 0 < upTo l 255 := by unfold upTo; omega
  have q0 : 0 < upTo k 48 := by unfold upTo; omega
  have hp : 0 < upTo k 48 * upTo l 255 := Int.mul_pos q0 l0
  rw [if_neg (by omega)]
  split <;> omega
theorem tcount_zero {kind l k : Int} (h : l ≤ 0 ∨ k ≤ 0) : tcount kind l k = 0 := by
  unfold tcount tcnt
  rw [if_pos (by unfold upTo; omega)]
theorem tcount_kinds (l k : Int) : tcount 0 l k ≤ tcount 1 l k := by
  unfold tcount tcnt
  have q0 := upTo_ge k 48 (by decide)
  have l0 := upTo_ge l 255 (by decide)
  have hp := Int.mul_nonneg q0 l0
  split
  · omega
  · rw [if_neg (by decide), if_pos rfl]
    omega
theorem cost_le {t q : Int} (h0 : 0 ≤ t) (h : t ≤ q) (hq : q ≤ 48) : (if q = 0 then 0 else t * 100 / q) ≤ 100 := by
  split
  · omega
  · have hq1 : 0 < q := by omega
    have : t * 100 / q < 101 := Int.ediv_lt_of_lt_mul hq1 (by omega)
    omega

set_option maxRecDepth 100000 in
set_option maxHeartbeats 16000000 in
theorem tableRises_w (w : World) (loss : Int) (wl : (Lit.int .i64 loss).wf = true) (k : Int) (wk : (Lit.int .i64 k).wf = true) (more : Int) (wm : (Lit.int .i64 more).wf = true) :
    Calls Try.prog 4 #[.int .i64 loss, .int .i64 k, .int .i64 more] w fun e w' => e = .returned (.bool true) ∧ Below w.heap.size w w' := by
  obtain ⟨l, hl⟩ : ∃ z, bits .and .i64 loss 255 = z := ⟨_, rfl⟩
  have hlb := and_i64 loss 255 (by omega) (by omega)
  obtain ⟨q, hq⟩ : ∃ z, bits .and .i64 k 63 = z := ⟨_, rfl⟩
  have hqb := and_i64 k 63 (by omega) (by omega)
  obtain ⟨m, hm⟩ : ∃ z, bits .and .i64 more 63 = z := ⟨_, rfl⟩
  have hmb := and_i64 more 63 (by omega) (by omega)
  rw [hl] at hlb
  rw [hq] at hqb
  rw [hm] at hmb
  obtain ⟨l0, l1⟩ := hlb
  obtain ⟨q0, q1⟩ := hqb
  obtain ⟨m0, m1⟩ := hmb
  clear wl wk wm
  go_enter Try.func4, Try.ntmps4
  go_wp2_with fail
  refine (alive_c _).mono ?_
  rintro e w1 ⟨rfl, hf⟩
  have HF := Lib.hid hf
  clear hf
  go_wp2_with fail
  go_loopw [7] (fun i wr => ∃ j : Nat, j ≤ 2 ∧ i = .int .i64 j ∧ w1 = wr) (fun i _ => 2 - (intOf i).toNat)
  case atStart => exact ⟨0, Nat.zero_le _, rfl, rfl⟩
  case round =>
    obtain ⟨j, hj, rfl, rfl⟩ := hrel
    by_cases hlt : j < 2
    · have i1 : (j : Int) < 2 := by omega
      obtain ⟨N, hN⟩ : ∃ N, N = tcount j l q := ⟨_, rfl⟩
      obtain ⟨X, hX⟩ : ∃ X, X = tcount j (l + m) q := ⟨_, rfl⟩
      obtain ⟨Y, hY⟩ : ∃ Y, Y = tcount j l (q + m) := ⟨_, rfl⟩
      have g1 : decide (X < N) = false := by rw [decide_eq_false_iff_not, hX, hN]; have := tcount_mono j q (show l ≤ l + m by omega); omega
      have g2 : decide (Y < N) = false := by rw [decide_eq_false_iff_not, hY, hN]; have := tcount_monok j l (show q ≤ q + m by omega); omega
      have hb := tcount_bd j l q
      rw [← hN] at hb
      have hd : (decide (0 < N) = false ∧ decide (0 < l) = false) ∨ (decide (0 < N) = false ∧ decide (0 < l) = true ∧ decide (0 < q) = false) ∨ (decide (0 < N) = true ∧ decide (0 < l) = true ∧ decide (0 < q) = true) := by
        by_cases h1 : 0 < l
        · by_cases h2 : 0 < q
          · exact .inr (.inr ⟨by rw [decide_eq_true_iff, hN]; exact tcount_pos h1 h2, by simpa using h1, by simpa using h2⟩)
          · exact .inr (.inl ⟨by rw [decide_eq_false_iff_not, hN, tcount_zero (.inr (by omega))]; omega, by simpa using h1, by simpa using h2⟩)
        · exact .inl ⟨by rw [decide_eq_false_iff_not, hN, tcount_zero (.inl (by omega))]; omega, by simpa using h1⟩
      have n1 : N ≤ 48 := by unfold upTo at hb; omega
      have n2 : N ≤ q := by unfold upTo at hb; omega
      have n3 : decide (48 < N) = false := by rw [decide_eq_false_iff_not]; omega
      have n4 : decide (q < N) = false := by rw [decide_eq_false_iff_not]; omega
      have hk : 48 < q ∨ q ≤ 48 := by omega
      have HN := Lib.hid hN
      have HX := Lib.hid hX
      have HY := Lib.hid hY
      clear hN hX hY hb
      rcases hd with ⟨e1, e2⟩ | ⟨e1, e2, e3⟩ | ⟨e1, e2, e3⟩
      all_goals
        rcases hk with c1 | c1
        all_goals
          go_wp2_with fail
          refine (tcount_c j l q _).mono ?_
          rintro e w' ⟨rfl, rfl⟩
          rw [← HN.out]
          go_wp2_with fail
          refine (tcount_c j (l + m) q _).mono ?_
          rintro e w' ⟨rfl, rfl⟩
          rw [← HX.out]
          go_wp2_with fail
          refine (tcount_c j l (q + m) _).mono ?_
          rintro e w' ⟨rfl, rfl⟩
          rw [← HY.out]
          go_wp2_with fail
          refine ⟨⟨j + 1, by omega, by go_num, trivial⟩, by simp [intOf]; omega⟩
    · obtain rfl : j = 2 := by omega
      obtain ⟨A, hA⟩ : ∃ A, A = tcount 1 l q := ⟨_, rfl⟩
      obtain ⟨B, hB⟩ : ∃ B, B = tcount 0 l q := ⟨_, rfl⟩
      obtain ⟨C, hC⟩ : ∃ C, C = (if upTo q 48 = 0 then 0 else tcount 0 l q * 100 / upTo q 48) := ⟨_, rfl⟩
      have h1 : B ≤ A := by rw [hA, hB]; exact tcount_kinds l q
      have h2 : decide (B ≤ A) = true := by simpa using h1
      have h3 : C ≤ 100 := by rw [hC]; exact cost_le (tcount_bd 0 l q).1 (tcount_bd 0 l q).2 (upTo_le q 48)
      have h4 : decide (C ≤ 100) = true := by simpa using h3
      have HA := Lib.hid hA
      have HB := Lib.hid hB
      have HC := Lib.hid hC
      clear hA hB hC
      go_wp2_with fail
      refine (tcount_c 1 l q _).mono ?_
      rintro e w' ⟨rfl, rfl⟩
      rw [← HA.out]
      go_wp2_with fail
      refine (tcount_c 0 l q _).mono ?_
      rintro e w' ⟨rfl, rfl⟩
      rw [← HB.out]
      go_wp2_with fail
      refine (cost_c 0 l q _).mono ?_
      rintro e w' ⟨rfl, rfl⟩
      rw [← HC.out]
      go_wp2_with fail
      go_ret
      exact ⟨by first | rfl | rw [h4], HF.out.below⟩

end Go.Proofs.Ythholboipbfklaa
