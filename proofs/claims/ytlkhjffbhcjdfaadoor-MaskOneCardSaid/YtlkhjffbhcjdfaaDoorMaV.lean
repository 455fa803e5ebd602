/-
  PLAIN: the document's answer (a list of truths) and the program's halves.
-/
import Derived.Test.YtlkhjffbhcjdfaaDoorMaR
set_option linter.unusedVariables false
set_option linter.unusedSimpArgs false
namespace Go.Proofs.YtlkhjffbhcjdfaaDoor

def hasB (bs : List Bool) (i : Int) : Bool := decide (0 ≤ i ∧ i < 128) && bs.getD i.toNat false
theorem bools_len128 (h l : Nat) : (bools h l).length = 128 := by simp [bools]
theorem bools_at {h l i : Nat} (hi : i < 128) : (bools h l)[i]? = some (bt h l i) := by simp [bools, hi]
theorem bools_getD {h l i : Nat} (hi : i < 128) : (bools h l).getD i false = bt h l i := by rw [List.getD_eq_getElem?_getD, bools_at hi]; try rfl
theorem hasB_bools (h l : Nat) (i : Int) : hasB (bools h l) i = (decide (0 ≤ i ∧ i < 128) && bt h l i.toNat) := by
  unfold hasB
  by_cases hi : 0 ≤ i ∧ i < 128
  · rw [bools_getD (by omega)]
  · rw [decide_eq_false hi]; try rfl

/-- A number from its bits, the highest first. -/
def nb (bs : List Bool) : Nat := bs.foldl (fun a b => 2 * a + b.toNat) 0
theorem nb_snoc (bs : List Bool) (b : Bool) : nb (bs ++ [b]) = 2 * nb bs + b.toNat := by simp [nb]
theorem nb_lt (bs : List Bool) : nb bs < 2 ^ bs.length := by
  have key : ∀ (L : List Bool), nb L.reverse < 2 ^ L.length := by
    intro L
    induction L with
    | nil => simp [nb]
    | cons b L ih =>
      rw [List.reverse_cons, nb_snoc, List.length_cons, Nat.pow_succ]
      cases b <;> simp <;> omega
  have := key bs.reverse
  rwa [List.reverse_reverse, List.length_reverse] at this
theorem nb_test (bs : List Bool) (j : Nat) : (nb bs).testBit j = (decide (j < bs.length) && bs.getD (bs.length - 1 - j) false) := by
  have key : ∀ (L : List Bool) (j : Nat), (nb L.reverse).testBit j = (decide (j < L.length) && L.getD j false) := by
    intro L
    induction L with
    | nil => intro j; simp [nb]
    | cons b L ih =>
      intro j
      rw [List.reverse_cons, nb_snoc]
      cases j with
      | zero => cases b <;> simp [Nat.testBit_zero]
      | succ j =>
        rw [Nat.testBit_succ, show (2 * nb L.reverse + b.toNat) / 2 = nb L.reverse by cases b <;> simp <;> omega, ih]
        simp
  have h := key bs.reverse j
  rw [List.reverse_reverse, List.length_reverse] at h
  rw [h]
  by_cases hj : j < bs.length
  · congr 1
    rw [List.getD_eq_getElem?_getD, List.getD_eq_getElem?_getD, List.getElem?_reverse hj]
  · rw [decide_eq_false hj]; try rfl
theorem nb_hi {h l : Nat} (h0 : h < 18446744073709551616) : nb ((bools h l).take 64) = h := by
  apply Nat.eq_of_testBit_eq
  intro j
  rw [nb_test]
  have hl : ((bools h l).take 64).length = 64 := by rw [List.length_take, bools_len128]; try rfl
  rw [hl]
  by_cases hj : j < 64
  · rw [decide_eq_true hj, Bool.true_and, List.getD_eq_getElem?_getD, List.getElem?_take_of_lt (by omega), bools_at (by omega)]
    show bt h l (64 - 1 - j) = _
    unfold bt pb
    rw [if_neg (by omega), if_pos (by omega)]
    congr 1
    omega
  · rw [decide_eq_false hj, Bool.false_and]
    exact (tb_none h0 (by omega)).symm
theorem nb_lo {h l : Nat} (h1 : l < 18446744073709551616) : nb ((bools h l).drop 64) = l := by
  apply Nat.eq_of_testBit_eq
  intro j
  rw [nb_test]
  have hl : ((bools h l).drop 64).length = 64 := by rw [List.length_drop, bools_len128]
  rw [hl]
  by_cases hj : j < 64
  · rw [decide_eq_true hj, Bool.true_and, List.getD_eq_getElem?_getD, List.getElem?_drop, bools_at (by omega)]
    show bt h l (64 + (64 - 1 - j)) = _
    unfold bt pb
    rw [if_pos (by omega)]
    congr 1
    omega
  · rw [decide_eq_false hj, Bool.false_and]
    exact (tb_none h1 (by omega)).symm

/-- The part's number, bit by bit. -/
def prL (bs : List Bool) (f : Int) (k : Nat) : List Bool := (List.range k).map fun i : Nat => hasB bs (f + (i : Int))
theorem prL_succ (bs : List Bool) (f : Int) (k : Nat) : prL bs f (k + 1) = prL bs f k ++ [hasB bs (f + (k : Int))] := by unfold prL; rw [List.range_succ, List.map_append]; try rfl
theorem held_idem (n a b : Int) (h : a ≤ b) : held (held n a b) a b = held n a b := by unfold held; split <;> (try split) <;> (try split) <;> (try split) <;> omega
theorem held_in (n a b : Int) (h : a ≤ b) : a ≤ held n a b ∧ held n a b ≤ b := by unfold held; split <;> (try split) <;> omega
theorem part_ref {h l : Nat} (h0 : h < 18446744073709551616) (h1 : l < 18446744073709551616) (f n : Int) : ptN h l f n = nb (prL (bools h l) (held f (-200) 200) (held n 0 64).toNat) := by
  have e1 : ptN h l f n = ptN h l (held f (-128) 128) (held n 0 64) := by unfold ptN; rw [held_idem f _ _ (by omega), held_idem n _ _ (by omega)]
  have hf := held_in f (-128) 128 (by omega)
  have hg := held_in f (-200) 200 (by omega)
  have hfg : held f (-128) 128 = held f (-200) 200 ∨ (held f (-128) 128 = 128 ∧ 128 < held f (-200) 200) ∨ (held f (-128) 128 = -128 ∧ held f (-200) 200 < -128) := by
    unfold held
    by_cases c1 : f < -200
    · rw [if_pos (by omega), if_pos c1]; right; right; omega
    · by_cases c2 : f < -128
      · rw [if_pos c2, if_neg c1, if_neg (by omega)]; right; right; omega
      · by_cases c3 : 200 < f
        · rw [if_neg c2, if_pos (by omega), if_neg c1, if_pos c3]; right; left; omega
        · by_cases c4 : 128 < f
          · rw [if_neg c2, if_pos c4, if_neg c1, if_neg c3]; right; left; omega
          · rw [if_neg c2, if_neg c4, if_neg c1, if_neg c3]; left; rfl
  have hn := held_in n 0 64 (by omega)
  rw [e1]
  obtain ⟨F, hF⟩ : ∃ F, F = held f (-128) 128 := ⟨_, rfl⟩
  obtain ⟨G, hG⟩ : ∃ G, G = held f (-200) 200 := ⟨_, rfl⟩
  obtain ⟨N, hN⟩ : ∃ N, N = held n 0 64 := ⟨_, rfl⟩
  rw [← hF, ← hG] at hfg
  rw [← hF] at hf ⊢
  rw [← hG] at hg ⊢
  rw [← hN] at hn ⊢
  apply Nat.eq_of_testBit_eq
  intro j
  rw [tb_part h0 h1 F N hf hn, nb_test]
  have hl : (prL (bools h l) G N.toNat).length = N.toNat := by simp [prL]
  rw [hl]
  by_cases hj : (j : Int) < N
  · rw [decide_eq_true (show j < N.toNat by omega), Bool.true_and]
    have e2 : (prL (bools h l) G N.toNat).getD (N.toNat - 1 - j) false = hasB (bools h l) (G + ((N.toNat - 1 - j : Nat) : Int)) := by
      rw [List.getD_eq_getElem?_getD]
      unfold prL
      rw [List.getElem?_map, List.getElem?_range (by omega)]
      rfl
    rw [e2, hasB_bools, show G + ((N.toNat - 1 - j : Nat) : Int) = G + N - 1 - j by omega]
    rcases hfg with e | ⟨e, e'⟩ | ⟨e, e'⟩
    · rw [e]
      by_cases hc : 0 ≤ G + N - 1 - (j : Int) ∧ G + N - 1 - (j : Int) < 128
      · rw [decide_eq_true ⟨hj, hc⟩, decide_eq_true hc]
      · rw [decide_eq_false (fun h => hc h.2), decide_eq_false hc]; try rfl
    · rw [decide_eq_false (by omega), decide_eq_false (by omega)]; try rfl
    · rw [decide_eq_false (by omega), decide_eq_false (by omega)]; try rfl
  · rw [decide_eq_false (fun h => hj h.1), decide_eq_false (show ¬ (j < N.toNat) by omega)]; try rfl

/-- What has been laid after k bits. -/
def lyK (f n : Int) (x k : Nat) : List Bool := (List.range 128).map fun i : Nat => decide (0 ≤ f + n - 1 - (i : Int) ∧ f + n - 1 - (i : Int) < k) && x.testBit (f + n - 1 - (i : Int)).toNat
theorem lyK_zero (f n : Int) (x : Nat) : lyK f n x 0 = List.replicate 128 false := by
  unfold lyK
  rw [List.eq_replicate_iff]
  refine ⟨by simp, fun b hb => ?_⟩
  obtain ⟨i, _, rfl⟩ := List.mem_map.1 hb
  rw [decide_eq_false (by omega)]; try rfl
theorem lyK_in (f n : Int) (x k : Nat) (h : 0 ≤ f + n - 1 - (k : Int) ∧ f + n - 1 - (k : Int) < 128) : lyK f n x (k + 1) = (lyK f n x k).set (f + n - 1 - (k : Int)).toNat (x.testBit k) := by
  apply List.ext_getElem?
  intro i
  unfold lyK
  rw [List.getElem?_set]
  by_cases hi : i < 128
  · rw [List.getElem?_map, List.getElem?_range hi, List.getElem?_map, List.getElem?_range hi]
    by_cases he : (f + n - 1 - (k : Int)).toNat = i
    · rw [if_pos he, if_pos (by simp; omega)]
      simp only [Option.map_some]
      rw [decide_eq_true (by omega), Bool.true_and]
      congr 2
      omega
    · rw [if_neg he]
      simp only [Option.map_some]
      congr 2
      exact decide_eq_decide.2 (by omega)
  · rw [List.getElem?_eq_none (by simp; omega), if_neg (by omega), List.getElem?_eq_none (by simp; omega)]
theorem lyK_out (f n : Int) (x k : Nat) (h : ¬ (0 ≤ f + n - 1 - (k : Int) ∧ f + n - 1 - (k : Int) < 128)) : lyK f n x (k + 1) = lyK f n x k := by
  unfold lyK
  refine List.map_congr_left fun i hi => ?_
  have := List.mem_range.1 hi
  congr 1
  exact decide_eq_decide.2 (by omega)
theorem lay_ref (f n : Int) (x : Nat) : bools (lyH f n x) (lyL f n x) = lyK (held f (-200) 200) (held n 0 64) x (held n 0 64).toNat := by
  have e1 : lyH f n x = lyH (held f (-128) 128) (held n 0 64) x := by unfold lyH; rw [held_idem f _ _ (by omega), held_idem n _ _ (by omega)]
  have e2 : lyL f n x = lyL (held f (-128) 128) (held n 0 64) x := by unfold lyL; rw [held_idem f _ _ (by omega), held_idem n _ _ (by omega)]
  have hf := held_in f (-128) 128 (by omega)
  have hg := held_in f (-200) 200 (by omega)
  have hfg : held f (-128) 128 = held f (-200) 200 ∨ (held f (-128) 128 = 128 ∧ 128 < held f (-200) 200) ∨ (held f (-128) 128 = -128 ∧ held f (-200) 200 < -128) := by
    unfold held
    by_cases c1 : f < -200
    · rw [if_pos (by omega), if_pos c1]; right; right; omega
    · by_cases c2 : f < -128
      · rw [if_pos c2, if_neg c1, if_neg (by omega)]; right; right; omega
      · by_cases c3 : 200 < f
        · rw [if_neg c2, if_pos (by omega), if_neg c1, if_pos c3]; right; left; omega
        · by_cases c4 : 128 < f
          · rw [if_neg c2, if_pos c4, if_neg c1, if_neg c3]; right; left; omega
          · rw [if_neg c2, if_neg c4, if_neg c1, if_neg c3]; left; rfl
  have hn := held_in n 0 64 (by omega)
  rw [e1, e2]
  obtain ⟨F, hF⟩ : ∃ F, F = held f (-128) 128 := ⟨_, rfl⟩
  obtain ⟨G, hG⟩ : ∃ G, G = held f (-200) 200 := ⟨_, rfl⟩
  obtain ⟨N, hN⟩ : ∃ N, N = held n 0 64 := ⟨_, rfl⟩
  rw [← hF, ← hG] at hfg
  rw [← hF] at hf ⊢
  rw [← hG] at hg ⊢
  rw [← hN] at hn ⊢
  unfold bools lyK
  refine List.map_congr_left fun i hi => ?_
  have hi := List.mem_range.1 hi
  rw [bt_lay F N x hf hn i hi]
  rcases hfg with e | ⟨e, e'⟩ | ⟨e, e'⟩
  · rw [e, show N - 1 - ((i : Int) - G) = G + N - 1 - i by omega]
    congr 1
    exact decide_eq_decide.2 (by omega)
  · rw [decide_eq_false (by omega), decide_eq_false (by omega)]; try rfl
  · rw [decide_eq_false (by omega), decide_eq_false (by omega)]; try rfl

end Go.Proofs.YtlkhjffbhcjdfaaDoor
