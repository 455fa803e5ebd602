/-
  PLAIN: what MaskOne's lists are.
-/
import Derived.Test.YtlkhjffbhcjdfaaDoorMbB
set_option linter.unusedVariables false
set_option linter.unusedSimpArgs false
namespace Go.Proofs.YtlkhjffbhcjdfaaDoor
open Go.RowKit

theorem bools_ext {h l : Nat} {bs : List Bool} (hl : bs.length = 128) (h2 : ∀ i, i < 128 → bs[i]? = some (bt h l i)) : bs = bools h l := by
  apply List.ext_getElem?
  intro i
  by_cases hi : i < 128
  · rw [h2 i hi, bools_at hi]
  · rw [List.getElem?_eq_none (by omega), List.getElem?_eq_none (by rw [bools_len128]; omega)]
theorem set_with (h l k : Nat) (hk : k < 128) : (bools h l).set k true = bools (h ||| bH (k : Int)) (l ||| bL (k : Int)) := by
  refine bools_ext (by rw [List.length_set, bools_len128]) fun i hi => ?_
  rw [List.getElem?_set, bools_at hi, bt_or, bt_bit _ _ hi, bools_len128, if_pos hk]
  by_cases e : k = i
  · subst e; simp
  · rw [if_neg e, decide_eq_false (by omega), Bool.or_false]
theorem set_less (h l k : Nat) (hk : k < 128) : (bools h l).set k false = bools (h &&& (18446744073709551615 - bH (k : Int))) (l &&& (18446744073709551615 - bL (k : Int))) := by
  refine bools_ext (by rw [List.length_set, bools_len128]) fun i hi => ?_
  rw [List.getElem?_set, bools_at hi, bt_less _ _ hi, bools_len128, if_pos hk]
  by_cases e : k = i
  · subst e; simp
  · rw [if_neg e, decide_eq_true (by omega), Bool.and_true]
theorem out_bit (i : Int) (h : ¬ (0 ≤ i ∧ i < 128)) : bH i = 0 ∧ bL i = 0 := by
  unfold bH bL
  rw [if_neg (by omega), if_neg (by omega)]
  exact ⟨rfl, rfl⟩
theorem out_with {h l : Nat} (i : Int) (hi : ¬ (0 ≤ i ∧ i < 128)) : bools (h ||| bH i) (l ||| bL i) = bools h l := by rw [(out_bit i hi).1, (out_bit i hi).2, Nat.or_zero, Nat.or_zero]
theorem out_less {h l : Nat} (h0 : h < 18446744073709551616) (h1 : l < 18446744073709551616) (i : Int) (hi : ¬ (0 ≤ i ∧ i < 128)) : bools (h &&& (18446744073709551615 - bH i)) (l &&& (18446744073709551615 - bL i)) = bools h l := by
  refine bools_ext (bools_len128 _ _) fun j hj => ?_
  rw [bools_at hj, bt_less _ _ hj, decide_eq_true (by omega), Bool.and_true]

/-- The first bits, and the bits cut, after j rounds. -/
def fuB (n : Int) (j : Nat) : List Bool := (List.range 128).map fun i : Nat => decide (i < j) && decide ((i : Int) < n)
def ctB (h l : Nat) (n : Int) (j : Nat) : List Bool := (List.range 128).map fun i : Nat => bt h l i && (decide (j ≤ i) || decide ((i : Int) < n))
theorem fuB_len (n : Int) (j : Nat) : (fuB n j).length = 128 := by simp [fuB]
theorem ctB_len (h l : Nat) (n : Int) (j : Nat) : (ctB h l n j).length = 128 := by simp [ctB]
theorem fuB_at (n : Int) (j : Nat) {i : Nat} (hi : i < 128) : (fuB n j)[i]? = some (decide (i < j) && decide ((i : Int) < n)) := by unfold fuB; rw [List.getElem?_map, List.getElem?_range hi]; rfl
theorem ctB_at (h l : Nat) (n : Int) (j : Nat) {i : Nat} (hi : i < 128) : (ctB h l n j)[i]? = some (bt h l i && (decide (j ≤ i) || decide ((i : Int) < n))) := by unfold ctB; rw [List.getElem?_map, List.getElem?_range hi]; rfl
theorem fuB_zero (n : Int) : fuB n 0 = List.replicate 128 false := by
  unfold fuB
  rw [List.eq_replicate_iff]
  refine ⟨by simp, fun b hb => ?_⟩
  obtain ⟨i, _, rfl⟩ := List.mem_map.1 hb
  simp
theorem ctB_zero (h l : Nat) (n : Int) : ctB h l n 0 = bools h l := bools_ext (ctB_len _ _ _ _) fun i hi => by rw [ctB_at _ _ _ _ hi]; simp
theorem fuB_succ (n : Int) (j : Nat) (hj : j < 128) : fuB n (j + 1) = (fuB n j).set j (decide ((j : Int) < n)) := by
  apply List.ext_getElem?
  intro i
  rw [List.getElem?_set]
  by_cases hi : i < 128
  · rw [fuB_at n _ hi, fuB_at n _ hi, fuB_len]
    by_cases e : j = i
    · subst e; rw [if_pos rfl, if_pos hj]; simp
    · rw [if_neg e]
      congr 2
      exact decide_eq_decide.2 (by omega)
  · rw [List.getElem?_eq_none (by rw [fuB_len]; omega), if_neg (by omega), List.getElem?_eq_none (by rw [fuB_len]; omega)]
theorem ctB_succ (h l : Nat) (n : Int) (j : Nat) (hj : j < 128) : ctB h l n (j + 1) = (ctB h l n j).set j (bt h l j && decide ((j : Int) < n)) := by
  apply List.ext_getElem?
  intro i
  rw [List.getElem?_set]
  by_cases hi : i < 128
  · rw [ctB_at _ _ n _ hi, ctB_at _ _ n _ hi, ctB_len]
    by_cases e : j = i
    · subst e; rw [if_pos rfl, if_pos hj, decide_eq_false (by omega), Bool.false_or]
    · rw [if_neg e]
      congr 3
      exact decide_eq_decide.2 (by omega)
  · rw [List.getElem?_eq_none (by rw [ctB_len]; omega), if_neg (by omega), List.getElem?_eq_none (by rw [ctB_len]; omega)]
theorem fuB_all (n : Int) : fuB n 128 = bools (fuH n) (fuL n) := bools_ext (fuB_len _ _) fun i hi => by rw [fuB_at _ _ hi, bt_full n i hi, decide_eq_true hi, Bool.true_and]
theorem ctB_all (h l : Nat) (n : Int) : ctB h l n 128 = bools (h &&& fuH n) (l &&& fuL n) := bools_ext (ctB_len _ _ _ _) fun i hi => by rw [ctB_at _ _ _ _ hi, bt_cut n i hi, decide_eq_false (by omega), Bool.false_or]
theorem ctB_cur (h l : Nat) (n : Int) (j : Nat) (hj : j < 128) : (ctB h l n j)[j]? = some (bt h l j) := by rw [ctB_at _ _ _ _ hj]; simp
theorem frB_all (zs : List Int) : frB zs 128 = bools (ofH zs) (ofL zs) := bools_ext (by simp [frB]) fun i hi => by rw [bt_of zs i hi]; unfold frB; rw [List.getElem?_map, List.getElem?_range hi]; rfl
theorem rdI_Z {w : World} {a : Option Addr} {zs : List Int} (h : RdI .i64 w a zs) : RdZ w a zs := fun i v hv => by
  rw [List.getElem?_map] at hv
  cases hz : zs[i]? with
  | none => rw [hz] at hv; cases hv
  | some x => rw [hz] at hv; simp at hv; subst hv; exact h i x hz
theorem first_at {R : List Nat} (h : 0 < R.length) : ∃ x : Nat, (fwL R)[0]? = some (x : Int) ∧ firstOf R = (x : Int) := by
  cases R with
  | nil => simp at h
  | cons x t => exact ⟨x, by simp [fwL], rfl⟩
theorem last_at {R : List Nat} (h : 0 < R.length) : ∃ x : Nat, (fwL R)[R.length - 1]? = some (x : Int) ∧ lastOf R = (x : Int) := by
  obtain ⟨t, x, rfl⟩ : ∃ t x, R = t ++ [x] := ⟨R.dropLast, R.getLast (by intro e; subst e; simp at h), (List.dropLast_concat_getLast _).symm⟩
  refine ⟨x, ?_, lastOf_of rfl⟩
  simp [fwL]

end Go.Proofs.YtlkhjffbhcjdfaaDoor
