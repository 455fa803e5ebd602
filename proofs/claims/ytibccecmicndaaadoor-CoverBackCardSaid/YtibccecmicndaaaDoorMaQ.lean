/-
  PLAIN: what MaskTwo says of the bits.
-/
import Derived.Test.YtibccecmicndaaaDoorMaP
set_option linter.unusedVariables false
set_option linter.unusedSimpArgs false
namespace Go.Proofs.YtibccecmicndaaaDoor

theorem firstOf_cases (L : List Nat) : (L = [] ∧ firstOf L = -1) ∨ ∃ i, i ∈ L ∧ firstOf L = (i : Int) := by
  cases L with
  | nil => exact .inl ⟨rfl, rfl⟩
  | cons x t => exact .inr ⟨x, by simp, rfl⟩
theorem lastOf_cases (L : List Nat) : (L = [] ∧ lastOf L = -1) ∨ ∃ i, i ∈ L ∧ lastOf L = (i : Int) := by
  cases h : L.getLast? with
  | none => exact .inl ⟨List.getLast?_eq_none_iff.1 h, by unfold lastOf; rw [h]⟩
  | some x => exact .inr ⟨x, List.mem_of_getLast? h, by unfold lastOf; rw [h]⟩
theorem filter_sum {α : Type} (p q r : α → Bool) (L : List α) (h : ∀ x ∈ L, p x = (q x ^^ r x) ∧ (q x && r x) = false) : (L.filter p).length = (L.filter q).length + (L.filter r).length := by
  induction L with
  | nil => rfl
  | cons x L ih =>
    have h1 := ih (fun y hy => h y (by simp [hy]))
    obtain ⟨h2, h3⟩ := h x (by simp)
    simp only [List.filter_cons, h2]
    cases hq : q x <;> cases hr : r x <;> simp [hq, hr] at h3 ⊢ <;> omega

section
variable {a b : Nat} (h0 : a < 18446744073709551616) (h1 : b < 18446744073709551616) (n : Int)
theorem bt_cut (i : Nat) (hi : i < 128) : bt (a &&& fuH n) (b &&& fuL n) i = (bt a b i && decide ((i : Int) < n)) := by rw [bt_and, bt_full n i hi]
theorem bt_rest (i : Nat) (hi : i < 128) : bt (a ^^^ (a &&& fuH n)) (b ^^^ (b &&& fuL n)) i = (bt a b i && !decide ((i : Int) < n)) := by
  rw [bt_xor, bt_cut n i hi]
  cases bt a b i <;> cases decide ((i : Int) < n) <;> rfl
include h0 h1
theorem two_or : (a ^^^ (a &&& fuH n)) ||| (a &&& fuH n) = a ∧ (b ^^^ (b &&& fuL n)) ||| (b &&& fuL n) = b :=
  bt_eq (or_lt (xor_lt h0 (less_lt _ _ h0)) (less_lt _ _ h0)) (or_lt (xor_lt h1 (less_lt _ _ h1)) (less_lt _ _ h1)) h0 h1 fun i hi => by
    rw [bt_or, bt_rest n i hi, bt_cut n i hi]
    cases bt a b i <;> cases decide ((i : Int) < n) <;> rfl
theorem two_and : (a ^^^ (a &&& fuH n)) &&& (a &&& fuH n) = 0 ∧ (b ^^^ (b &&& fuL n)) &&& (b &&& fuL n) = 0 :=
  bt_eq (less_lt _ _ (xor_lt h0 (less_lt _ _ h0))) (less_lt _ _ (xor_lt h1 (less_lt _ _ h1))) (by decide) (by decide) fun i hi => by
    rw [bt_and, bt_rest n i hi, bt_cut n i hi, show bt 0 0 i = false from pb_zero _]
    cases bt a b i <;> cases decide ((i : Int) < n) <;> rfl
theorem two_first : fiN (a ^^^ (a &&& fuH n)) (b ^^^ (b &&& fuL n)) < 0 ∨ n ≤ fiN (a ^^^ (a &&& fuH n)) (b ^^^ (b &&& fuL n)) := by
  rw [fiN_eq (xor_lt h0 (less_lt _ _ h0)) (xor_lt h1 (less_lt _ _ h1))]
  rcases firstOf_cases (bitsOf (a ^^^ (a &&& fuH n)) (b ^^^ (b &&& fuL n))) with ⟨_, h⟩ | ⟨i, hi, h⟩
  · rw [h]; left; decide
  · right
    obtain ⟨hi2, hb⟩ := bitsOf_mem.1 hi
    rw [bt_rest n i hi2] at hb
    simp only [Bool.and_eq_true, Bool.not_eq_true', decide_eq_false_iff_not] at hb
    rw [h]; omega
theorem two_last (hn : 0 ≤ n) : laN (a &&& fuH n) (b &&& fuL n) < n := by
  rw [laN_eq (less_lt _ _ h0) (less_lt _ _ h1)]
  rcases lastOf_cases (bitsOf (a &&& fuH n) (b &&& fuL n)) with ⟨_, h⟩ | ⟨i, hi, h⟩
  · rw [h]; omega
  · obtain ⟨hi2, hb⟩ := bitsOf_mem.1 hi
    rw [bt_cut n i hi2] at hb
    simp only [Bool.and_eq_true, decide_eq_true_eq] at hb
    rw [h]; omega
theorem two_down (hn : 0 ≤ n) (hn2 : n < 128) : dwH (dwH a b n) (dwL a b n) (-n) = a &&& fuH (128 - n) ∧ dwL (dwH a b n) (dwL a b n) (-n) = b &&& fuL (128 - n) :=
  bt_eq (dwH_lt _ _ _ (dwH_lt _ _ _ h0 h1) (dwL_lt _ _ _ h0 h1)) (dwL_lt _ _ _ (dwH_lt _ _ _ h0 h1) (dwL_lt _ _ _ h0 h1)) (less_lt _ _ h0) (less_lt _ _ h1) fun i hi => by
    rw [bt_down (dwH_lt _ _ _ h0 h1) (dwL_lt _ _ _ h0 h1) _ i hi, bt_cut _ i hi]
    by_cases hc : 0 ≤ (i : Int) - -n ∧ (i : Int) - -n < 128
    · rw [if_pos hc, bt_down h0 h1 _ _ (by omega), if_pos (by omega), decide_eq_true (by omega), Bool.and_true]
      congr 1; omega
    · rw [if_neg hc, decide_eq_false (by omega), Bool.and_false]
omit h0 h1 in
theorem two_count : cnt a 64 + cnt b 64 = (cnt (a &&& fuH n) 64 + cnt (b &&& fuL n) 64) + (cnt (a ^^^ (a &&& fuH n)) 64 + cnt (b ^^^ (b &&& fuL n)) 64) := by
  rw [← count_len, ← count_len, ← count_len]
  unfold bitsOf
  refine filter_sum _ _ _ _ fun i hi => ?_
  have hi := List.mem_range.1 hi
  rw [bt_cut n i hi, bt_rest n i hi]
  cases bt a b i <;> cases decide ((i : Int) < n) <;> simp
end

end Go.Proofs.YtibccecmicndaaaDoor
