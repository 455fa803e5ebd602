/-
  PLAIN LAWS on masks: the list of a mask's bits.
-/
import Derived.Test.YtibccecmicndaaaDoorMaH
import Derived.Lib.ItoaNum
set_option linter.unusedVariables false
set_option linter.unusedSimpArgs false
namespace Go.Proofs.YtibccecmicndaaaDoor
open Go.RowKit

theorem pb_and (h l h' l' j : Nat) : pb (h &&& h') (l &&& l') j = (pb h l j && pb h' l' j) := by
  unfold pb
  split
  · exact Nat.testBit_and ..
  · split
    · exact Nat.testBit_and ..
    · rfl
theorem pb_or (h l h' l' j : Nat) : pb (h ||| h') (l ||| l') j = (pb h l j || pb h' l' j) := by
  unfold pb
  split
  · exact Nat.testBit_or ..
  · split
    · exact Nat.testBit_or ..
    · rfl
theorem pb_xor (h l h' l' j : Nat) : pb (h ^^^ h') (l ^^^ l') j = (pb h l j ^^ pb h' l' j) := by
  unfold pb
  split
  · exact Nat.testBit_xor ..
  · split
    · exact Nat.testBit_xor ..
    · rfl
theorem pb_bit (i : Int) (j : Nat) (hj : j < 128) : pb (bH i) (bL i) j = decide (i = 127 - (j : Int)) := by
  unfold pb bH bL
  by_cases h : j < 64
  · rw [if_pos h]
    split
    · rw [Nat.testBit_two_pow]
      exact decide_eq_decide.2 (by omega)
    · rw [Nat.zero_testBit]
      exact (decide_eq_false (by omega)).symm
  · rw [if_neg h, if_pos hj]
    split
    · rw [Nat.testBit_two_pow]
      exact decide_eq_decide.2 (by omega)
    · rw [Nat.zero_testBit]
      exact (decide_eq_false (by omega)).symm
theorem tb_not {x : Nat} (hx : x < 18446744073709551616) (j : Nat) : (18446744073709551615 - x).testBit j = (decide (j < 64) && !x.testBit j) := by
  rw [show 18446744073709551615 - x = 2 ^ 64 - (x + 1) from by omega]
  exact Nat.testBit_two_pow_sub_succ hx j
theorem pb_not {h l : Nat} (h0 : h < 18446744073709551616) (h1 : l < 18446744073709551616) (j : Nat) (hj : j < 128) : pb (18446744073709551615 - h) (18446744073709551615 - l) j = !pb h l j := by
  unfold pb
  by_cases h : j < 64
  · rw [if_pos h, if_pos h, tb_not h1]; simp [h]
  · rw [if_neg h, if_pos hj, if_neg h, if_pos hj, tb_not h0]
    have : j - 64 < 64 := by omega
    simp [this]
theorem pb_full (n : Int) (j : Nat) (hj : j < 128) : pb (fuH n) (fuL n) j = decide (127 - (j : Int) < n) := by
  unfold fuH fuL
  rw [pb_xor, pb_down (by decide) (by decide) _ _ hj]
  have ha : ∀ k, k < 128 → pb 18446744073709551615 18446744073709551615 k = true := by
    intro k hk
    unfold pb
    by_cases h : k < 64
    · rw [if_pos h]
      have := Nat.testBit_two_pow_sub_one 64 k
      rw [show 2 ^ 64 - 1 = 18446744073709551615 from rfl] at this
      rw [this]; simp [h]
    · rw [if_neg h, if_pos hk]
      have := Nat.testBit_two_pow_sub_one 64 (k - 64)
      rw [show 2 ^ 64 - 1 = 18446744073709551615 from rfl] at this
      rw [this]; simp; omega
  rw [ha j hj]
  unfold held
  split
  · split
    · rw [ha _ (by omega)]; symm; rw [decide_eq_false (by omega)]; rfl
    · rename_i h; omega
  · split
    · split
      · rename_i h; omega
      · symm; rw [decide_eq_true (by omega)]; rfl
    · split
      · rw [ha _ (by omega)]; symm; rw [decide_eq_false (by omega)]; rfl
      · symm; rw [decide_eq_true (by omega)]; rfl

/-- The document's bit i. -/
def bt (h l i : Nat) : Bool := pb h l (127 - i)
def bitsOf (h l : Nat) : List Nat := (List.range 128).filter (bt h l)
def bools (h l : Nat) : List Bool := (List.range 128).map (bt h l)
theorem bt_eq {h l h' l' : Nat} (a : h < 18446744073709551616) (b : l < 18446744073709551616) (c : h' < 18446744073709551616) (d : l' < 18446744073709551616) (e : ∀ i, i < 128 → bt h l i = bt h' l' i) : h = h' ∧ l = l' :=
  pb_eq a b c d fun j hj => by
    have := e (127 - j) (by omega)
    unfold bt at this
    rwa [show 127 - (127 - j) = j by omega] at this
theorem bt_and (h l h' l' i : Nat) : bt (h &&& h') (l &&& l') i = (bt h l i && bt h' l' i) := pb_and ..
theorem bt_or (h l h' l' i : Nat) : bt (h ||| h') (l ||| l') i = (bt h l i || bt h' l' i) := pb_or ..
theorem bt_xor (h l h' l' i : Nat) : bt (h ^^^ h') (l ^^^ l') i = (bt h l i ^^ bt h' l' i) := pb_xor ..
theorem bt_bit (k : Int) (i : Nat) (hi : i < 128) : bt (bH k) (bL k) i = decide (k = (i : Int)) := by
  unfold bt
  rw [pb_bit _ _ (by omega)]
  exact decide_eq_decide.2 (by omega)
theorem bt_less {h l : Nat} (k : Int) (i : Nat) (hi : i < 128) : bt (h &&& (18446744073709551615 - bH k)) (l &&& (18446744073709551615 - bL k)) i = (bt h l i && decide (k ≠ (i : Int))) := by
  rw [bt_and]
  congr 1
  unfold bt
  rw [pb_not (bH_lt k) (bL_lt k) _ (by omega), pb_bit _ _ (by omega), ← decide_not]
  exact decide_eq_decide.2 (by omega)
theorem bt_full (n : Int) (i : Nat) (hi : i < 128) : bt (fuH n) (fuL n) i = decide ((i : Int) < n) := by
  unfold bt
  rw [pb_full _ _ (by omega)]
  exact decide_eq_decide.2 (by omega)
theorem bt_down {h l : Nat} (h0 : h < 18446744073709551616) (h1 : l < 18446744073709551616) (n : Int) (i : Nat) (hi : i < 128) :
    bt (dwH h l n) (dwL h l n) i = if 0 ≤ (i : Int) - n ∧ (i : Int) - n < 128 then bt h l ((i : Int) - n).toNat else false := by
  unfold bt
  rw [pb_down h0 h1 _ _ (by omega)]
  by_cases h : 0 ≤ (i : Int) - n ∧ (i : Int) - n < 128
  · rw [if_pos h, if_pos (by omega)]
    congr 1
    omega
  · rw [if_neg h, if_neg (by omega)]
theorem has_bt (h l : Nat) (i : Int) : decide (h &&& bH i ≠ 0 ∨ l &&& bL i ≠ 0) = (decide (0 ≤ i ∧ i < 128) && bt h l i.toNat) := by
  by_cases hi : 0 ≤ i ∧ i < 128
  · rw [decide_eq_true hi, Bool.true_and]
    have key : ∀ x k : Nat, (x &&& 2 ^ k ≠ 0) ↔ x.testBit k = true := by
      intro x k
      constructor
      · intro hne
        cases hb : x.testBit k with
        | true => rfl
        | false =>
          refine absurd (Nat.eq_of_testBit_eq fun i => ?_) hne
          rw [Nat.testBit_and, Nat.testBit_two_pow, Nat.zero_testBit]
          by_cases h : k = i
          · subst h; rw [hb]; rfl
          · rw [decide_eq_false h, Bool.and_false]
      · intro hb hz
        have : (x &&& 2 ^ k).testBit k = true := by rw [Nat.testBit_and, Nat.testBit_two_pow, hb]; simp
        rw [hz, Nat.zero_testBit] at this
        cases this
    unfold bH bL bt pb
    by_cases h6 : i < 64
    · rw [if_pos ⟨hi.1, h6⟩, if_neg (by omega), if_neg (by omega), if_pos (by omega)]
      rw [show 127 - i.toNat - 64 = (63 - i).toNat by omega]
      have := key h (63 - i).toNat
      cases hb : h.testBit (63 - i).toNat with
      | true => rw [decide_eq_true_iff]; exact .inl (this.2 hb)
      | false =>
        rw [decide_eq_false_iff_not]
        rintro (k | k)
        · rw [this.1 k] at hb; cases hb
        · simp at k
    · rw [if_neg (by omega), if_pos (by omega), if_pos (by omega)]
      rw [show 127 - i.toNat = (127 - i).toNat by omega]
      have := key l (127 - i).toNat
      cases hb : l.testBit (127 - i).toNat with
      | true => rw [decide_eq_true_iff]; exact .inr (this.2 hb)
      | false =>
        rw [decide_eq_false_iff_not]
        rintro (k | k)
        · simp at k
        · rw [this.1 k] at hb; cases hb
  · rw [decide_eq_false hi, Bool.false_and, decide_eq_false_iff_not]
    unfold bH bL
    rw [if_neg (by omega), if_neg (by omega)]
    simp

theorem filt_split {n i : Nat} (p : Nat → Bool) (hi : i < n) :
    (List.range n).filter p = (List.range i).filter p ++ ((if p i then [i] else []) ++ ((List.range (n - i - 1)).map (i + 1 + ·)).filter p) := by
  have e : List.range n = List.range i ++ ([i] ++ (List.range (n - i - 1)).map (i + 1 + ·)) := by
    rw [← List.append_assoc, ← List.range_succ, ← List.range_add]
    congr 1
    omega
  rw [e, List.filter_append, List.filter_append]
  congr 2
  cases h : p i <;> simp [List.filter_cons, h]
def firstOf : List Nat → Int
  | [] => -1
  | x :: _ => (x : Int)
def lastOf (L : List Nat) : Int := match L.getLast? with
  | none => -1
  | some x => (x : Int)
theorem filt_first {n i : Nat} {p : Nat → Bool} (hi : i < n) (hp : p i = true) (hn : ∀ j, j < i → p j = false) : ∃ t, (List.range n).filter p = i :: t := by
  rw [filt_split p hi, if_pos hp, List.filter_eq_nil_iff.2 (fun j hj => by rw [hn j (List.mem_range.1 hj)]; simp)]
  exact ⟨_, rfl⟩
theorem filt_last {n i : Nat} {p : Nat → Bool} (hi : i < n) (hp : p i = true) (hn : ∀ j, i < j → j < n → p j = false) : ∃ t, (List.range n).filter p = t ++ [i] := by
  have e : ((List.range (n - i - 1)).map (i + 1 + ·)).filter p = [] := List.filter_eq_nil_iff.2 (fun j hj => by
    obtain ⟨k, hk, rfl⟩ := List.mem_map.1 hj
    rw [hn _ (by omega) (by have := List.mem_range.1 hk; omega)]; simp)
  rw [filt_split p hi, if_pos hp, e, List.append_nil]
  exact ⟨_, rfl⟩
theorem pb_zero (j : Nat) : pb 0 0 j = false := by unfold pb; simp
theorem bitsOf_zero : bitsOf 0 0 = [] := List.filter_eq_nil_iff.2 fun j _ => by rw [show bt 0 0 j = false from pb_zero _]; simp

theorem blen_spec {x : Nat} (hx : x < 18446744073709551616) (h0 : x ≠ 0) : 1 ≤ blen x ∧ x.testBit (blen x - 1) = true ∧ ∀ j, blen x ≤ j → x.testBit j = false := by
  obtain ⟨a, b, c⟩ := Lib.bitLenAux_bounds 64 x hx h0
  refine ⟨a, ?_, fun j hj => ?_⟩
  · refine Nat.testBit_of_two_pow_le_and_two_pow_add_one_gt b ?_
    rw [show blen x - 1 + 1 = blen x from by unfold blen; exact Nat.sub_add_cancel a]
    exact c
  · exact Nat.testBit_lt_two_pow (Nat.lt_of_lt_of_le c (Nat.pow_le_pow_right (by decide) hj))
theorem czn_spec {x : Nat} (hx : x < 18446744073709551616) (h0 : x ≠ 0) : czn x < 64 ∧ x.testBit (czn x) = true ∧ ∀ j, j < czn x → x.testBit j = false := by
  obtain ⟨m, hm, hl⟩ := Lib.ctzFrom_spec 64 x (by omega) hx
  have hc : czn x = Lib.ctzFrom 64 x := by unfold czn Lib.ctz; rw [if_neg h0]
  rw [hc]
  obtain ⟨k, hk⟩ : ∃ k, k = Lib.ctzFrom 64 x := ⟨_, rfl⟩
  rw [← hk] at hm hl ⊢
  refine ⟨hl, ?_, fun j hj => ?_⟩
  · rw [hm, Nat.testBit_two_pow_mul]
    simp [Nat.testBit_zero]
  · rw [hm, Nat.testBit_two_pow_mul]
    have : ¬ j ≥ k := by omega
    simp [this]
theorem firstOf_of {L t : List Nat} {i : Nat} (h : L = i :: t) : firstOf L = (i : Int) := by rw [h]; rfl
theorem lastOf_of {L t : List Nat} {i : Nat} (h : L = t ++ [i]) : lastOf L = (i : Int) := by rw [h]; unfold lastOf; rw [List.getLast?_concat]
theorem fiN_eq {h l : Nat} (h0 : h < 18446744073709551616) (h1 : l < 18446744073709551616) : fiN h l = firstOf (bitsOf h l) := by
  unfold fiN
  by_cases ha : h = 0
  · subst ha
    rw [if_neg (by simp)]
    by_cases hb : l = 0
    · subst hb
      rw [if_neg (by simp), bitsOf_zero]
      rfl
    · rw [if_pos hb]
      obtain ⟨a, b, c⟩ := blen_spec h1 hb
      have d := blen_le l h1
      obtain ⟨t, ht⟩ := filt_first (n := 128) (i := 128 - blen l) (p := bt 0 l) (by omega)
        (by unfold bt pb; rw [if_pos (by omega), show 127 - (128 - blen l) = blen l - 1 by omega]; exact b)
        (fun j hj => by unfold bt pb; split; · exact c _ (by omega)
                        · split; · simp
                          · rfl)
      rw [firstOf_of (L := bitsOf _ _) ht]
      omega
  · rw [if_pos ha]
    obtain ⟨a, b, c⟩ := blen_spec h0 ha
    have d := blen_le h h0
    obtain ⟨t, ht⟩ := filt_first (n := 128) (i := 64 - blen h) (p := bt h l) (by omega)
      (by unfold bt pb; rw [if_neg (by omega), if_pos (by omega), show 127 - (64 - blen h) - 64 = blen h - 1 by omega]; exact b)
      (fun j hj => by unfold bt pb; rw [if_neg (by omega), if_pos (by omega)]; exact c _ (by omega))
    rw [firstOf_of (L := bitsOf _ _) ht]
    omega
theorem laN_eq {h l : Nat} (h0 : h < 18446744073709551616) (h1 : l < 18446744073709551616) : laN h l = lastOf (bitsOf h l) := by
  unfold laN
  by_cases ha : l = 0
  · subst ha
    rw [if_neg (by simp)]
    by_cases hb : h = 0
    · subst hb
      rw [if_neg (by simp), bitsOf_zero]
      rfl
    · rw [if_pos hb]
      obtain ⟨a, b, c⟩ := czn_spec h0 hb
      obtain ⟨t, ht⟩ := filt_last (n := 128) (i := 63 - czn h) (p := bt h 0) (by omega)
        (by unfold bt pb; rw [if_neg (by omega), if_pos (by omega), show 127 - (63 - czn h) - 64 = czn h by omega]; exact b)
        (fun j hj hj2 => by unfold bt pb; split; · simp
                            · split; · exact c _ (by omega)
                              · rfl)
      rw [lastOf_of (L := bitsOf _ _) ht]
      omega
  · rw [if_pos ha]
    obtain ⟨a, b, c⟩ := czn_spec h1 ha
    obtain ⟨t, ht⟩ := filt_last (n := 128) (i := 127 - czn l) (p := bt h l) (by omega)
      (by unfold bt pb; rw [if_pos (by omega), show 127 - (127 - czn l) = czn l by omega]; exact b)
      (fun j hj hj2 => by unfold bt pb; rw [if_pos (by omega)]; exact c _ (by omega))
    rw [lastOf_of (L := bitsOf _ _) ht]
    omega

theorem count_len (h l : Nat) : (bitsOf h l).length = cnt h 64 + cnt l 64 := by
  unfold bitsOf
  rw [← List.countP_eq_length_filter]
  have e : (List.range 128).map (127 - ·) = (List.range 128).reverse := by decide +kernel
  have e1 : (List.range 128).countP (bt h l) = (List.range 128).countP (pb h l) := by
    rw [← List.countP_reverse (l := List.range 128), ← e, List.countP_map]
    refine List.countP_congr fun j hj => ?_
    have := List.mem_range.1 hj
    simp only [Function.comp_apply]
    unfold bt
    rw [show 127 - (127 - j) = j by omega]
  rw [e1, show (128 : Nat) = 64 + 64 from rfl, List.range_add, List.countP_append, List.countP_map, Nat.add_comm]
  unfold cnt
  congr 1
theorem bitsOf_nodup (h l : Nat) : (bitsOf h l).Nodup := List.Nodup.sublist List.filter_sublist List.nodup_range
theorem bitsOf_lt {h l i : Nat} (hi : i ∈ bitsOf h l) : i < 128 := List.mem_range.1 (List.mem_filter.1 hi).1
theorem bitsOf_mem {h l i : Nat} : i ∈ bitsOf h l ↔ i < 128 ∧ bt h l i = true := by unfold bitsOf; rw [List.mem_filter, List.mem_range]
theorem bitsOf_tail {h l i : Nat} {t : List Nat} (e : bitsOf h l = i :: t) : bitsOf (h &&& (18446744073709551615 - bH (i : Int))) (l &&& (18446744073709551615 - bL (i : Int))) = t := by
  have e1 : bitsOf (h &&& (18446744073709551615 - bH (i : Int))) (l &&& (18446744073709551615 - bL (i : Int))) = (bitsOf h l).filter (fun j => decide (i ≠ j)) := by
    unfold bitsOf
    rw [List.filter_filter]
    refine List.filter_congr fun j hj => ?_
    rw [bt_less _ _ (List.mem_range.1 hj), Bool.and_comm]
    congr 1
    exact decide_eq_decide.2 (by omega)
  have hn := bitsOf_nodup h l
  rw [e] at hn
  rw [e1, e, List.filter_cons_of_neg (by simp)]
  refine List.filter_eq_self.2 fun j hj => ?_
  have := (List.nodup_cons.1 hn).1
  rw [decide_eq_true_iff]
  rintro rfl
  exact this hj
theorem less_lt (x y : Nat) (hx : x < 18446744073709551616) : x &&& y < 18446744073709551616 := Nat.lt_of_le_of_lt Nat.and_le_left hx
theorem or_lt {x y : Nat} (hx : x < 18446744073709551616) (hy : y < 18446744073709551616) : x ||| y < 18446744073709551616 := Nat.or_lt_two_pow (n := 64) hx hy
theorem xor_lt {x y : Nat} (hx : x < 18446744073709551616) (hy : y < 18446744073709551616) : x ^^^ y < 18446744073709551616 := Nat.xor_lt_two_pow (n := 64) hx hy

end Go.Proofs.YtibccecmicndaaaDoor
