/-
  THE WALK of the law BudgetBlocks.
-/
import Derived.Test.YtjmnbhcbgjigdaaBuC
import Derived.Laws.BitsAllLaws
set_option linter.unusedVariables false
set_option linter.unusedSimpArgs false
namespace Go.Proofs.Ytjmnbhcbgjigdaa
open Go.RowKit

theorem tcount_in (kind loss k : Int) : 0 ≤ tcount kind loss k ∧ tcount kind loss k ≤ upTo k 48 ∧ (0 < loss → 0 < k → 1 ≤ tcount kind loss k) := by
  unfold tcount tcnt
  have l0 := upTo_ge loss 255 (by decide)
  have l1 := upTo_le loss 255
  have q0 := upTo_ge k 48 (by decide)
  have q1 := upTo_le k 48
  have hl : 0 < loss → 0 < upTo loss 255 := by unfold upTo; omega
  have hk : 0 < k → 0 < upTo k 48 := by unfold upTo; omega
  obtain ⟨l, hle⟩ : ∃ l, l = upTo loss 255 := ⟨_, rfl⟩
  obtain ⟨q, hqe⟩ : ∃ q, q = upTo k 48 := ⟨_, rfl⟩
  rw [← hle] at l0 l1 hl ⊢
  rw [← hqe] at q0 q1 hk ⊢
  obtain ⟨p0, p1⟩ := prod_in q l q0 q1 l0 l1
  by_cases hz : l = 0 ∨ q = 0
  · rw [if_pos hz]
    omega
  · rw [if_neg hz]
    have : 0 < q * l := Int.mul_pos (by omega) (by omega)
    split <;> omega

theorem blockN_eq (kind loss k pct : Int) : blockN kind loss k pct = min (tcount kind loss k) (upTo k 48 * upTo pct 100 / 100) := by
  have h := tcount_in kind loss k
  have p := prod2_in (upTo k 48) (upTo pct 100) (upTo_ge k 48 (by decide)) (upTo_le k 48) (upTo_ge pct 100 (by decide)) (upTo_le pct 100)
  unfold blockN grantN earnC
  omega

/-- What the law asks. -/
theorem blocks_law (kind loss k pct m : Int) (hm : 0 ≤ m) :
    blockN kind loss k 100 = tcount kind loss k ∧ blockN kind loss k pct ≤ blockN kind loss k (upTo pct 100 + m) ∧ blockN kind loss k pct ≤ tcount kind loss k ∧
    (100 ≤ upTo k 48 * upTo pct 100 → 0 < loss → 1 ≤ blockN kind loss k pct) := by
  have h := tcount_in kind loss k
  have q0 := upTo_ge k 48 (by decide)
  have q1 := upTo_le k 48
  have p0 := upTo_ge pct 100 (by decide)
  have p1 := upTo_le pct 100
  have h100 : upTo 100 100 = 100 := by decide +kernel
  have hp : upTo pct 100 ≤ upTo (upTo pct 100 + m) 100 := by unfold upTo; omega
  have hmul : upTo k 48 * upTo pct 100 ≤ upTo k 48 * upTo (upTo pct 100 + m) 100 := Int.mul_le_mul_of_nonneg_left hp q0
  rw [blockN_eq, blockN_eq, blockN_eq, h100]
  refine ⟨by omega, by omega, by omega, fun h1 h2 => ?_⟩
  have hk : 0 < k := by
    rcases Int.lt_or_le 0 k with h3 | h3
    · exact h3
    · exfalso
      have : upTo k 48 = 0 := by unfold upTo; omega
      rw [this] at h1
      omega
  have := h.2.2 h2 hk
  omega

theorem bv_and127 (m : BitVec 64) : (m &&& 127#64).toNat ≤ 127 := by
  rw [BitVec.toNat_and]
  exact Nat.and_le_right
theorem and127 (m : Int) : 0 ≤ bits .and .i64 m 127 ∧ bits .and .i64 m 127 ≤ 127 := by
  have h : bits .and .i64 m 127 = IntKind.i64.wrap ((BitVec.ofInt 64 m &&& 127#64).toNat : Int) := rfl
  have h2 := bv_and127 (BitVec.ofInt 64 m)
  rw [h, IntWalk.i64_in _ (by omega)]
  omega

set_option maxHeartbeats 2000000 in
theorem budgetBlocks_w (w : World) (kind : Int) (wk : (Lit.int .i64 kind).wf = true) (loss : Int) (wl : (Lit.int .i64 loss).wf = true) (k : Int) (wq : (Lit.int .i64 k).wf = true) (pct : Int) (wp : (Lit.int .i64 pct).wf = true) (more : Int) (wm : (Lit.int .i64 more).wf = true) :
    Calls Try.prog 5 #[.int .i64 kind, .int .i64 loss, .int .i64 k, .int .i64 pct, .int .i64 more] w fun e w' => e = .returned (.bool true) ∧ Below w.heap.size w w' := by
  clear wk wl wq wp wm
  have p0 := upTo_ge pct 100 (by decide)
  have p1 := upTo_le pct 100
  have q0 := upTo_ge k 48 (by decide)
  have q1 := upTo_le k 48
  obtain ⟨m0, m1⟩ := and127 more
  obtain ⟨z, hz⟩ : ∃ z, bits .and .i64 more 127 = z := ⟨_, rfl⟩
  rw [hz] at m0 m1
  obtain ⟨L1, L2, L3, L4⟩ := blocks_law kind loss k pct z m0
  obtain ⟨r0, r1⟩ := prod2_in (upTo k 48) (upTo pct 100) q0 q1 p0 p1
  obtain ⟨P1, hP1⟩ : ∃ P1, (if pct < 0 then 0 else pct) = P1 := ⟨_, rfl⟩
  obtain ⟨P, hP⟩ : ∃ P, (if (100 : Int) < P1 then 100 else P1) = P := ⟨_, rfl⟩
  obtain ⟨Q1, hQ1⟩ : ∃ Q1, (if k < 0 then 0 else k) = Q1 := ⟨_, rfl⟩
  obtain ⟨Q, hQ⟩ : ∃ Q, (if (48 : Int) < Q1 then 48 else Q1) = Q := ⟨_, rfl⟩
  have hP2 : upTo pct 100 = P := by unfold upTo; rw [← hP, ← hP1]; split <;> split at * <;> omega
  have hQ2 : upTo k 48 = Q := by unfold upTo; rw [← hQ, ← hQ1]; split <;> split at * <;> omega
  obtain ⟨n, hn⟩ : ∃ n, n = blockN kind loss k pct := ⟨_, rfl⟩
  obtain ⟨t, ht⟩ : ∃ t, t = tcount kind loss k := ⟨_, rfl⟩
  obtain ⟨n2, hn2⟩ : ∃ n2, n2 = blockN kind loss k (P + z) := ⟨_, rfl⟩
  rw [hP2] at p0 p1 L2 L4 r0 r1
  rw [hQ2] at q0 q1 L4 r0 r1
  rw [← hn, ← hn2] at L2
  rw [← hn, ← ht] at L3
  rw [← hn] at L4
  rw [← ht] at L1
  have HN := Lib.hid hn
  have HT := Lib.hid ht
  have HN2 := Lib.hid hn2
  have HL1 := Lib.hid L1
  have HL4 := Lib.hid L4
  clear hn ht hn2 L1 L4 hP2 hQ2
  go_enter Try.func5, Try.ntmps5
  go_wp2_with fail
  refine (alive_c _).mono ?_
  rintro e w1 ⟨rfl, hf⟩
  have HF1 := Lib.hid hf
  clear hf
  go_wp2_with fail
  refine (block_c _ _ _ _ _).mono ?_
  rintro e w2 ⟨rfl, hf⟩
  have HF2 := Lib.hid (HF1.out.trans hf)
  rw [← HN.out]
  clear hf
  go_wp2_with fail
  refine (rblock_c _ _ _ _ _).mono ?_
  rintro e w3 ⟨rfl, hf⟩
  have HF3 := Lib.hid (HF2.out.trans hf)
  rw [← HN.out]
  clear hf
  go_wp2_with fail
  refine (block_c _ _ _ _ _).mono ?_
  rintro e w4 ⟨rfl, hf⟩
  have HF4 := Lib.hid (HF3.out.trans hf)
  rw [HL1.out]
  clear hf
  go_wp2_with fail
  refine (rcount_c _ _ _ _).mono ?_
  rintro e w' ⟨rfl, rfl⟩
  rw [← HT.out]
  go_wp2_with fail
  refine (block_c _ _ _ _ _).mono ?_
  rintro e w5 ⟨rfl, hf⟩
  have HF5 := Lib.hid (HF4.out.trans hf)
  rw [← HN2.out]
  clear hf
  go_wp2_with fail
  refine (rcount_c _ _ _ _).mono ?_
  rintro e w' ⟨rfl, rfl⟩
  rw [← HT.out]
  go_wp2_with fail
  all_goals go_ret
  · have h1 : 100 ≤ Q * P := by assumption
    have h2 : 0 < loss := by assumption
    have h3 := HL4.out h1 h2
    exact ⟨ret_bool (by simp [h3]), HF5.out.below⟩
  all_goals exact ⟨rfl, HF5.out.below⟩

end Go.Proofs.Ytjmnbhcbgjigdaa
