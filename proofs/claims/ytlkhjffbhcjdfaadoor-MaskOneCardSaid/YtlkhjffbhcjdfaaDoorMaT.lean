/-
  PLAIN: what MaskBack says.
-/
import Derived.Test.YtlkhjffbhcjdfaaDoorMaR
set_option linter.unusedVariables false
set_option linter.unusedSimpArgs false
namespace Go.Proofs.YtlkhjffbhcjdfaaDoor

def fwL (R : List Nat) : List Int := R.map fun x : Nat => (x : Int)
theorem fwL_all {h l : Nat} (h0 : h < 18446744073709551616) (h1 : l < 18446744073709551616) : ofH (fwL (bitsOf h l)) = h ∧ ofL (fwL (bitsOf h l)) = l :=
  of_bits h0 h1 _ fun i hi => by
    unfold fwL
    rw [List.mem_map]
    constructor
    · rintro ⟨x, hx, he⟩
      have : x = i := by omega
      subst this
      exact (bitsOf_mem.1 hx).2
    · exact fun hb => ⟨i, bitsOf_mem.2 ⟨hi, hb⟩, rfl⟩
theorem bits_sorted (h l : Nat) : (bitsOf h l).Pairwise (· < ·) := List.Pairwise.sublist List.filter_sublist List.pairwise_lt_range
theorem pre_next {h l x : Nat} {pre : List Nat} (e : (pre ++ [x]) <+: bitsOf h l) : lastOf pre < (x : Int) ∧ bt h l x = true ∧ x < 128 ∧ lastOf (pre ++ [x]) = (x : Int) := by
  have hs := List.Pairwise.sublist e.sublist (bits_sorted h l)
  have hm := bitsOf_mem.1 (e.subset (show x ∈ pre ++ [x] by simp))
  refine ⟨?_, hm.2, hm.1, lastOf_of rfl⟩
  rcases lastOf_cases pre with ⟨_, h1⟩ | ⟨i, hi, h1⟩
  · rw [h1]; omega
  · rw [h1]
    have := (List.pairwise_append.1 hs).2.2 i hi x (by simp)
    omega

theorem part_lay (f n : Nat) (x : Nat) (hf : f ≤ 63) (hn : n ≤ 63) : ptN (lyH (f : Int) (n : Int) x) (lyL (f : Int) (n : Int) x) (f : Int) (n : Int) = x &&& (2 ^ n - 1) := by
  rw [Nat.and_two_pow_sub_one_eq_mod]
  apply Nat.eq_of_testBit_eq
  intro j
  rw [tb_part (lyH_lt _ _ _) (lyL_lt _ _ _) (f : Int) (n : Int) (by omega) (by omega), Nat.testBit_mod_two_pow]
  by_cases hj : j < n
  · rw [decide_eq_true (show (j : Int) < (n : Int) ∧ 0 ≤ (f : Int) + n - 1 - j ∧ (f : Int) + n - 1 - j < 128 by omega), decide_eq_true hj, bt_lay (f : Int) (n : Int) x (by omega) (by omega) _ (by omega), decide_eq_true (by omega)]
    simp only [Bool.true_and]
    congr 1
    omega
  · rw [decide_eq_false (show ¬ ((j : Int) < (n : Int) ∧ 0 ≤ (f : Int) + n - 1 - j ∧ (f : Int) + n - 1 - j < 128) by omega), decide_eq_false hj]
    simp
theorem filter_shift (q : Nat → Bool) (f n N : Nat) (h : f + n ≤ N) : ((List.range N).filter fun i => decide (f ≤ i ∧ i < f + n) && q (i - f)).length = ((List.range n).filter q).length := by
  have e1 : List.range N = List.range' 0 f ++ (List.range' f n ++ List.range' (f + n) (N - f - n)) := by
    rw [List.range_eq_range', ← List.append_assoc, show List.range' f n = List.range' (0 + 1 * f) n by simp, List.range'_append, show List.range' (f + n) (N - f - n) = List.range' (0 + 1 * (f + n)) (N - f - n) by simp, List.range'_append]
    congr 1
    omega
  rw [e1, List.filter_append, List.filter_append, List.filter_eq_nil_iff.2 (fun i hi => ?_), List.nil_append, List.filter_eq_nil_iff (l := List.range' (f + n) (N - f - n)) |>.2 (fun i hi => ?_), List.append_nil]
  · have e2 : List.range' f n = (List.range n).map (f + ·) := by rw [List.range_eq_range', List.map_add_range']; simp
    rw [e2, List.filter_map, List.length_map]
    congr 1
    refine List.filter_congr fun i hi => ?_
    have := List.mem_range.1 hi
    simp only [Function.comp]
    rw [decide_eq_true (by omega), Bool.true_and, Nat.add_sub_cancel_left]
  · have := List.mem_range'_1.1 hi
    rw [decide_eq_false (by omega)]; simp
  · have := List.mem_range'_1.1 hi
    rw [decide_eq_false (by omega)]; simp
theorem lay_count (f n : Nat) (x : Nat) (hf : f ≤ 63) (hn : n ≤ 63) : cnt (lyH (f : Int) (n : Int) x) 64 + cnt (lyL (f : Int) (n : Int) x) 64 = ((List.range n).filter fun i => x.testBit (n - 1 - i)).length := by
  rw [← count_len, ← filter_shift (fun i => x.testBit (n - 1 - i)) f n 128 (by omega)]
  unfold bitsOf
  congr 1
  refine List.filter_congr fun i hi => ?_
  have hi := List.mem_range.1 hi
  rw [bt_lay (f : Int) (n : Int) x (by omega) (by omega) i hi]
  by_cases hc : f ≤ i ∧ i < f + n
  · rw [decide_eq_true hc, decide_eq_true (by omega)]
    congr 2
    omega
  · rw [decide_eq_false hc, decide_eq_false (by omega)]
    simp

end Go.Proofs.YtlkhjffbhcjdfaaDoor
