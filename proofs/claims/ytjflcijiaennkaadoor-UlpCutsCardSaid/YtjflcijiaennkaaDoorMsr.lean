/-
  MASK: the reference's functions. Printed by collect.py out of XMaJ XMaO XMaT XMaV XMaW XMaX XMaU XMaY XMbB.
-/
import Derived.Test.YtjflcijiaennkaaDoorSpi
import Derived.Deep.DeepCutAuto
import Derived.BigQuiet
import Derived.Test.YtjflcijiaennkaaDoorBb
import Derived.Deep.RegionHeld3
import Derived.Deep.QuietTactic
import Derived.Test.YtjflcijiaennkaaDoorMsk
set_option linter.unusedVariables false
set_option linter.unusedSimpArgs false
namespace Go.Proofs.YtjflcijiaennkaaDoor
open Go.RowKit

section
open Go.RowKit Go.Maps Go.Shelf
attribute [local go_sem] Oper.semAt_some
def encI (x : Nat) : Value := .int .i64 x
theorem own_nil1 (w : World) (e : TypeId) : w.ownsRow 0 e 1 (.slice none 0 0) 0 [] := ⟨by simp, .inl ⟨rfl, rfl⟩⟩
theorem info_int : (Tryd.prog.info? 3).map (fun i => (i.zero, i.size, i.bytes)) = some (some (.int .i64 0), 1, 8) := by kernel_rfl
theorem own_cases {w : World} {base e size : Nat} {v : Value} {n : Nat} {xs : List Value} (h : w.ownsRow base e size v n xs) : ∃ a c, v = .slice a n c ∧ (a = none → c = 0) := by
  rcases h.2 with ⟨rfl, h0⟩ | ⟨g, c, cur, rfl, _, _, hc, _⟩
  · exact ⟨none, 0, by rw [h0], fun _ => rfl⟩
  · exact ⟨_, c, rfl, fun h => by cases h⟩
end
section
open Go.RowKit
theorem below_of (x : Int) (m : Nat) (h : 0 ≤ x ∧ x ≤ m) : ∃ k : Nat, x = (k : Int) ∧ k ≤ m := ⟨x.toNat, by omega, by omega⟩
def ag (h l : Nat) : Value := .agg #[.int .u64 (h : Int), .int .u64 (l : Int)]
end
section
def fwL (R : List Nat) : List Int := R.map fun x : Nat => (x : Int)
theorem fwL_all {h l : Nat} (h0 : h < 18446744073709551616) (h1 : l < 18446744073709551616) : ofH (fwL (bitsOf h l)) = h ∧ ofL (fwL (bitsOf h l)) = l :=
  of_bits h0 h1 _ fun i hi => by
    unfold fwL
    rw [List.mem_map]
    constructor
    · rintro ⟨x, hx, he⟩
      have : x = i := by omega
      subst this
      exact (bitsOf_mem.1 hx).2
    · exact fun hb => ⟨i, bitsOf_mem.2 ⟨hi, hb⟩, rfl⟩
theorem bits_sorted (h l : Nat) : (bitsOf h l).Pairwise (· < ·) := List.Pairwise.sublist List.filter_sublist List.pairwise_lt_range
theorem pre_next {h l x : Nat} {pre : List Nat} (e : (pre ++ [x]) <+: bitsOf h l) : lastOf pre < (x : Int) ∧ bt h l x = true ∧ x < 128 ∧ lastOf (pre ++ [x]) = (x : Int) := by
  have hs := List.Pairwise.sublist e.sublist (bits_sorted h l)
  have hm := bitsOf_mem.1 (e.subset (show x ∈ pre ++ [x] by simp))
  refine ⟨?_, hm.2, hm.1, lastOf_of rfl⟩
  rcases lastOf_cases pre with ⟨_, h1⟩ | ⟨i, hi, h1⟩
  · rw [h1]; omega
  · rw [h1]
    have := (List.pairwise_append.1 hs).2.2 i hi x (by simp)
    omega
theorem part_lay (f n : Nat) (x : Nat) (hf : f ≤ 63) (hn : n ≤ 63) : ptN (lyH (f : Int) (n : Int) x) (lyL (f : Int) (n : Int) x) (f : Int) (n : Int) = x &&& (2 ^ n - 1) := by
  rw [Nat.and_two_pow_sub_one_eq_mod]
  apply Nat.eq_of_testBit_eq
  intro j
  rw [tb_part (lyH_lt _ _ _) (lyL_lt _ _ _) (f : Int) (n : Int) (by omega) (by omega), Nat.testBit_mod_two_pow]
  by_cases hj : j < n
  · rw [decide_eq_true (show (j : Int) < (n : Int) ∧ 0 ≤ (f : Int) + n - 1 - j ∧ (f : Int) + n - 1 - j < 128 by omega), decide_eq_true hj, bt_lay (f : Int) (n : Int) x (by omega) (by omega) _ (by omega), decide_eq_true (by omega)]
    simp only [Bool.true_and]
    congr 1
    omega
  · rw [decide_eq_false (show ¬ ((j : Int) < (n : Int) ∧ 0 ≤ (f : Int) + n - 1 - j ∧ (f : Int) + n - 1 - j < 128) by omega), decide_eq_false hj]
    simp
theorem filter_shift (q : Nat → Bool) (f n N : Nat) (h : f + n ≤ N) : ((List.range N).filter fun i => decide (f ≤ i ∧ i < f + n) && q (i - f)).length = ((List.range n).filter q).length := by
  have e1 : List.range N = List.range' 0 f ++ (List.range' f n ++ List.range' (f + n) (N - f - n)) := by
    rw [List.range_eq_range', ← List.append_assoc, show List.range' f n = List.range' (0 + 1 * f) n by simp, List.range'_append, show List.range' (f + n) (N - f - n) = List.range' (0 + 1 * (f + n)) (N - f - n) by simp, List.range'_append]
    congr 1
    omega
  rw [e1, List.filter_append, List.filter_append, List.filter_eq_nil_iff.2 (fun i hi => ?_), List.nil_append, List.filter_eq_nil_iff (l := List.range' (f + n) (N - f - n)) |>.2 (fun i hi => ?_), List.append_nil]
  · have e2 : List.range' f n = (List.range n).map (f + ·) := by rw [List.range_eq_range', List.map_add_range']; simp
    rw [e2, List.filter_map, List.length_map]
    congr 1
    refine List.filter_congr fun i hi => ?_
    have := List.mem_range.1 hi
    simp only [Function.comp]
    rw [decide_eq_true (by omega), Bool.true_and, Nat.add_sub_cancel_left]
  · have := List.mem_range'_1.1 hi
    rw [decide_eq_false (by omega)]; simp
  · have := List.mem_range'_1.1 hi
    rw [decide_eq_false (by omega)]; simp
theorem lay_count (f n : Nat) (x : Nat) (hf : f ≤ 63) (hn : n ≤ 63) : cnt (lyH (f : Int) (n : Int) x) 64 + cnt (lyL (f : Int) (n : Int) x) 64 = ((List.range n).filter fun i => x.testBit (n - 1 - i)).length := by
  rw [← count_len, ← filter_shift (fun i => x.testBit (n - 1 - i)) f n 128 (by omega)]
  unfold bitsOf
  congr 1
  refine List.filter_congr fun i hi => ?_
  have hi := List.mem_range.1 hi
  rw [bt_lay (f : Int) (n : Int) x (by omega) (by omega) i hi]
  by_cases hc : f ≤ i ∧ i < f + n
  · rw [decide_eq_true hc, decide_eq_true (by omega)]
    congr 2
    omega
  · rw [decide_eq_false hc, decide_eq_false (by omega)]
    simp
end
section
def hasB (bs : List Bool) (i : Int) : Bool := decide (0 ≤ i ∧ i < 128) && bs.getD i.toNat false
theorem bools_len128 (h l : Nat) : (bools h l).length = 128 := by simp [bools]
theorem bools_at {h l i : Nat} (hi : i < 128) : (bools h l)[i]? = some (bt h l i) := by simp [bools, hi]
theorem bools_getD {h l i : Nat} (hi : i < 128) : (bools h l).getD i false = bt h l i := by rw [List.getD_eq_getElem?_getD, bools_at hi]; try rfl
theorem hasB_bools (h l : Nat) (i : Int) : hasB (bools h l) i = (decide (0 ≤ i ∧ i < 128) && bt h l i.toNat) := by
  unfold hasB
  by_cases hi : 0 ≤ i ∧ i < 128
  · rw [bools_getD (by omega)]
  · rw [decide_eq_false hi]; try rfl
/-- A number from its bits, the highest first. -/
def nb (bs : List Bool) : Nat := bs.foldl (fun a b => 2 * a + b.toNat) 0
theorem nb_snoc (bs : List Bool) (b : Bool) : nb (bs ++ [b]) = 2 * nb bs + b.toNat := by simp [nb]
theorem nb_lt (bs : List Bool) : nb bs < 2 ^ bs.length := by
  have key : ∀ (L : List Bool), nb L.reverse < 2 ^ L.length := by
    intro L
    induction L with
    | nil => simp [nb]
    | cons b L ih =>
      rw [List.reverse_cons, nb_snoc, List.length_cons, Nat.pow_succ]
      cases b <;> simp <;> omega
  have := key bs.reverse
  rwa [List.reverse_reverse, List.length_reverse] at this
theorem nb_test (bs : List Bool) (j : Nat) : (nb bs).testBit j = (decide (j < bs.length) && bs.getD (bs.length - 1 - j) false) := by
  have key : ∀ (L : List Bool) (j : Nat), (nb L.reverse).testBit j = (decide (j < L.length) && L.getD j false) := by
    intro L
    induction L with
    | nil => intro j; simp [nb]
    | cons b L ih =>
      intro j
      rw [List.reverse_cons, nb_snoc]
      cases j with
      | zero => cases b <;> simp [Nat.testBit_zero]
      | succ j =>
        rw [Nat.testBit_succ, show (2 * nb L.reverse + b.toNat) / 2 = nb L.reverse by cases b <;> simp <;> omega, ih]
        simp
  have h := key bs.reverse j
  rw [List.reverse_reverse, List.length_reverse] at h
  rw [h]
  by_cases hj : j < bs.length
  · congr 1
    rw [List.getD_eq_getElem?_getD, List.getD_eq_getElem?_getD, List.getElem?_reverse hj]
  · rw [decide_eq_false hj]; try rfl
theorem nb_hi {h l : Nat} (h0 : h < 18446744073709551616) : nb ((bools h l).take 64) = h := by
  apply Nat.eq_of_testBit_eq
  intro j
  rw [nb_test]
  have hl : ((bools h l).take 64).length = 64 := by rw [List.length_take, bools_len128]; try rfl
  rw [hl]
  by_cases hj : j < 64
  · rw [decide_eq_true hj, Bool.true_and, List.getD_eq_getElem?_getD, List.getElem?_take_of_lt (by omega), bools_at (by omega)]
    show bt h l (64 - 1 - j) = _
    unfold bt pb
    rw [if_neg (by omega), if_pos (by omega)]
    congr 1
    omega
  · rw [decide_eq_false hj, Bool.false_and]
    exact (tb_none h0 (by omega)).symm
theorem nb_lo {h l : Nat} (h1 : l < 18446744073709551616) : nb ((bools h l).drop 64) = l := by
  apply Nat.eq_of_testBit_eq
  intro j
  rw [nb_test]
  have hl : ((bools h l).drop 64).length = 64 := by rw [List.length_drop, bools_len128]
  rw [hl]
  by_cases hj : j < 64
  · rw [decide_eq_true hj, Bool.true_and, List.getD_eq_getElem?_getD, List.getElem?_drop, bools_at (by omega)]
    show bt h l (64 + (64 - 1 - j)) = _
    unfold bt pb
    rw [if_pos (by omega)]
    congr 1
    omega
  · rw [decide_eq_false hj, Bool.false_and]
    exact (tb_none h1 (by omega)).symm
/-- The part's number, bit by bit. -/
def prL (bs : List Bool) (f : Int) (k : Nat) : List Bool := (List.range k).map fun i : Nat => hasB bs (f + (i : Int))
theorem prL_succ (bs : List Bool) (f : Int) (k : Nat) : prL bs f (k + 1) = prL bs f k ++ [hasB bs (f + (k : Int))] := by unfold prL; rw [List.range_succ, List.map_append]; try rfl
theorem held_idem (n a b : Int) (h : a ≤ b) : held (held n a b) a b = held n a b := by unfold held; split <;> (try split) <;> (try split) <;> (try split) <;> omega
theorem held_in (n a b : Int) (h : a ≤ b) : a ≤ held n a b ∧ held n a b ≤ b := by unfold held; split <;> (try split) <;> omega
theorem part_ref {h l : Nat} (h0 : h < 18446744073709551616) (h1 : l < 18446744073709551616) (f n : Int) : ptN h l f n = nb (prL (bools h l) (held f (-200) 200) (held n 0 64).toNat) := by
  have e1 : ptN h l f n = ptN h l (held f (-128) 128) (held n 0 64) := by unfold ptN; rw [held_idem f _ _ (by omega), held_idem n _ _ (by omega)]
  have hf := held_in f (-128) 128 (by omega)
  have hg := held_in f (-200) 200 (by omega)
  have hfg : held f (-128) 128 = held f (-200) 200 ∨ (held f (-128) 128 = 128 ∧ 128 < held f (-200) 200) ∨ (held f (-128) 128 = -128 ∧ held f (-200) 200 < -128) := by
    unfold held
    by_cases c1 : f < -200
    · rw [if_pos (by omega), if_pos c1]; right; right; omega
    · by_cases c2 : f < -128
      · rw [if_pos c2, if_neg c1, if_neg (by omega)]; right; right; omega
      · by_cases c3 : 200 < f
        · rw [if_neg c2, if_pos (by omega), if_neg c1, if_pos c3]; right; left; omega
        · by_cases c4 : 128 < f
          · rw [if_neg c2, if_pos c4, if_neg c1, if_neg c3]; right; left; omega
          · rw [if_neg c2, if_neg c4, if_neg c1, if_neg c3]; left; rfl
  have hn := held_in n 0 64 (by omega)
  rw [e1]
  obtain ⟨F, hF⟩ : ∃ F, F = held f (-128) 128 := ⟨_, rfl⟩
  obtain ⟨G, hG⟩ : ∃ G, G = held f (-200) 200 := ⟨_, rfl⟩
  obtain ⟨N, hN⟩ : ∃ N, N = held n 0 64 := ⟨_, rfl⟩
  rw [← hF, ← hG] at hfg
  rw [← hF] at hf ⊢
  rw [← hG] at hg ⊢
  rw [← hN] at hn ⊢
  apply Nat.eq_of_testBit_eq
  intro j
  rw [tb_part h0 h1 F N hf hn, nb_test]
  have hl : (prL (bools h l) G N.toNat).length = N.toNat := by simp [prL]
  rw [hl]
  by_cases hj : (j : Int) < N
  · rw [decide_eq_true (show j < N.toNat by omega), Bool.true_and]
    have e2 : (prL (bools h l) G N.toNat).getD (N.toNat - 1 - j) false = hasB (bools h l) (G + ((N.toNat - 1 - j : Nat) : Int)) := by
      rw [List.getD_eq_getElem?_getD]
      unfold prL
      rw [List.getElem?_map, List.getElem?_range (by omega)]
      rfl
    rw [e2, hasB_bools, show G + ((N.toNat - 1 - j : Nat) : Int) = G + N - 1 - j by omega]
    rcases hfg with e | ⟨e, e'⟩ | ⟨e, e'⟩
    · rw [e]
      by_cases hc : 0 ≤ G + N - 1 - (j : Int) ∧ G + N - 1 - (j : Int) < 128
      · rw [decide_eq_true ⟨hj, hc⟩, decide_eq_true hc]
      · rw [decide_eq_false (fun h => hc h.2), decide_eq_false hc]; try rfl
    · rw [decide_eq_false (by omega), decide_eq_false (by omega)]; try rfl
    · rw [decide_eq_false (by omega), decide_eq_false (by omega)]; try rfl
  · rw [decide_eq_false (fun h => hj h.1), decide_eq_false (show ¬ (j < N.toNat) by omega)]; try rfl
/-- What has been laid after k bits. -/
def lyK (f n : Int) (x k : Nat) : List Bool := (List.range 128).map fun i : Nat => decide (0 ≤ f + n - 1 - (i : Int) ∧ f + n - 1 - (i : Int) < k) && x.testBit (f + n - 1 - (i : Int)).toNat
theorem lyK_zero (f n : Int) (x : Nat) : lyK f n x 0 = List.replicate 128 false := by
  unfold lyK
  rw [List.eq_replicate_iff]
  refine ⟨by simp, fun b hb => ?_⟩
  obtain ⟨i, _, rfl⟩ := List.mem_map.1 hb
  rw [decide_eq_false (by omega)]; try rfl
theorem lyK_in (f n : Int) (x k : Nat) (h : 0 ≤ f + n - 1 - (k : Int) ∧ f + n - 1 - (k : Int) < 128) : lyK f n x (k + 1) = (lyK f n x k).set (f + n - 1 - (k : Int)).toNat (x.testBit k) := by
  apply List.ext_getElem?
  intro i
  unfold lyK
  rw [List.getElem?_set]
  by_cases hi : i < 128
  · rw [List.getElem?_map, List.getElem?_range hi, List.getElem?_map, List.getElem?_range hi]
    by_cases he : (f + n - 1 - (k : Int)).toNat = i
    · rw [if_pos he, if_pos (by simp; omega)]
      simp only [Option.map_some]
      rw [decide_eq_true (by omega), Bool.true_and]
      congr 2
      omega
    · rw [if_neg he]
      simp only [Option.map_some]
      congr 2
      exact decide_eq_decide.2 (by omega)
  · rw [List.getElem?_eq_none (by simp; omega), if_neg (by omega), List.getElem?_eq_none (by simp; omega)]
theorem lyK_out (f n : Int) (x k : Nat) (h : ¬ (0 ≤ f + n - 1 - (k : Int) ∧ f + n - 1 - (k : Int) < 128)) : lyK f n x (k + 1) = lyK f n x k := by
  unfold lyK
  refine List.map_congr_left fun i hi => ?_
  have := List.mem_range.1 hi
  congr 1
  exact decide_eq_decide.2 (by omega)
theorem lay_ref (f n : Int) (x : Nat) : bools (lyH f n x) (lyL f n x) = lyK (held f (-200) 200) (held n 0 64) x (held n 0 64).toNat := by
  have e1 : lyH f n x = lyH (held f (-128) 128) (held n 0 64) x := by unfold lyH; rw [held_idem f _ _ (by omega), held_idem n _ _ (by omega)]
  have e2 : lyL f n x = lyL (held f (-128) 128) (held n 0 64) x := by unfold lyL; rw [held_idem f _ _ (by omega), held_idem n _ _ (by omega)]
  have hf := held_in f (-128) 128 (by omega)
  have hg := held_in f (-200) 200 (by omega)
  have hfg : held f (-128) 128 = held f (-200) 200 ∨ (held f (-128) 128 = 128 ∧ 128 < held f (-200) 200) ∨ (held f (-128) 128 = -128 ∧ held f (-200) 200 < -128) := by
    unfold held
    by_cases c1 : f < -200
    · rw [if_pos (by omega), if_pos c1]; right; right; omega
    · by_cases c2 : f < -128
      · rw [if_pos c2, if_neg c1, if_neg (by omega)]; right; right; omega
      · by_cases c3 : 200 < f
        · rw [if_neg c2, if_pos (by omega), if_neg c1, if_pos c3]; right; left; omega
        · by_cases c4 : 128 < f
          · rw [if_neg c2, if_pos c4, if_neg c1, if_neg c3]; right; left; omega
          · rw [if_neg c2, if_neg c4, if_neg c1, if_neg c3]; left; rfl
  have hn := held_in n 0 64 (by omega)
  rw [e1, e2]
  obtain ⟨F, hF⟩ : ∃ F, F = held f (-128) 128 := ⟨_, rfl⟩
  obtain ⟨G, hG⟩ : ∃ G, G = held f (-200) 200 := ⟨_, rfl⟩
  obtain ⟨N, hN⟩ : ∃ N, N = held n 0 64 := ⟨_, rfl⟩
  rw [← hF, ← hG] at hfg
  rw [← hF] at hf ⊢
  rw [← hG] at hg ⊢
  rw [← hN] at hn ⊢
  unfold bools lyK
  refine List.map_congr_left fun i hi => ?_
  have hi := List.mem_range.1 hi
  rw [bt_lay F N x hf hn i hi]
  rcases hfg with e | ⟨e, e'⟩ | ⟨e, e'⟩
  · rw [e, show N - 1 - ((i : Int) - G) = G + N - 1 - i by omega]
    congr 1
    exact decide_eq_decide.2 (by omega)
  · rw [decide_eq_false (by omega), decide_eq_false (by omega)]; try rfl
  · rw [decide_eq_false (by omega), decide_eq_false (by omega)]; try rfl
end
section
open Go.RowKit
def RdB (w : World) (a : Option Addr) (bs : List Bool) : Prop := RdV w a (bs.map Value.bool)
theorem RdB.at_ {w : World} {a : Option Addr} {zs : List Bool} (h : RdB w a zs) {j : Nat} (hj : j < zs.length) : ∃ b off x, x = zs[j] ∧ a = some ⟨b, off, none⟩ ∧ b < w.heap.size ∧ w.cell? ⟨b, off + j, none⟩ = some (.bool x) := by
  obtain ⟨b, off, ha, hb, hc⟩ := h j (.bool zs[j]) (by rw [List.getElem?_map, List.getElem?_eq_getElem hj]; rfl)
  exact ⟨b, off, _, rfl, ha, hb, hc⟩
theorem RdB.below {w w' : World} {a : Option Addr} {zs : List Bool} (h : RdB w a zs) (hb : Below w.heap.size w w') : RdB w' a zs := RdV.below h hb
set_option maxHeartbeats 1000000 in
theorem rhas_c (a : Option Addr) (c : Nat) (bs : List Bool) (i : Int) (w : World) (h : RdB w a bs) (hl : bs.length = 128) :
    Calls Tryd.prog 63 #[.slice a 128 c, .int .i64 i] w fun e w' => e = .returned (.bool (hasB bs i)) ∧ w = w' := by
  by_cases h1 : 0 ≤ i
  · by_cases h2 : i < 128
    · obtain ⟨k, rfl⟩ := Int.eq_ofNat_of_zero_le h1
      have hk : k < 128 := by omega
      obtain ⟨b, off, x, hx, rfl, hb, hc⟩ := h.at_ (j := k) (by omega)
      have e1 : hasB bs (k : Int) = x := by
        unfold hasB
        rw [decide_eq_true ⟨h1, h2⟩, Bool.true_and, Int.toNat_natCast, List.getD_eq_getElem?_getD, List.getElem?_eq_getElem (by omega), hx]; rfl
      rw [e1]
      have b1 : decide ((k : Int) ≥ 0) = true := decide_eq_true h1
      have b2 : decide ((k : Int) < 128) = true := decide_eq_true h2
      have b3 : decide (0 ≤ (k : Int)) = true := decide_eq_true h1
      clear hx hb e1 h hl
      go_enter Tryd.func63, Tryd.ntmps63
      go_wp2_with fail
      go_ret
      exact ⟨rfl, rfl⟩
    · have e1 : hasB bs i = false := by unfold hasB; rw [decide_eq_false (fun h => h2 h.2)]; rfl
      rw [e1]
      have b1 : decide (i ≥ 0) = true := decide_eq_true h1
      have b3 : decide (0 ≤ i) = true := decide_eq_true h1
      have b2 : decide (i < 128) = false := decide_eq_false h2
      clear e1 h hl
      go_enter Tryd.func63, Tryd.ntmps63
      go_wp2_with fail
      go_ret
      exact ⟨rfl, rfl⟩
  · have e1 : hasB bs i = false := by unfold hasB; rw [decide_eq_false (fun h => h1 h.1)]; rfl
    rw [e1]
    have b1 : decide (i ≥ 0) = false := decide_eq_false h1
    have b3 : decide (0 ≤ i) = false := decide_eq_false h1
    clear e1 h hl
    go_enter Tryd.func63, Tryd.ntmps63
    go_wp2_with fail
    go_ret
    exact ⟨rfl, rfl⟩
set_option maxRecDepth 100000 in
set_option maxHeartbeats 4000000 in
theorem rnums_c (a : Option Addr) (c : Nat) (bs : List Bool) (w : World) (h : RdB w a bs) (hl : bs.length = 128) :
    Calls Tryd.prog 28 #[.slice a 128 c] w fun e w' => e = .returned (.tuple #[.int .u64 (nb (bs.take 64) : Int), .int .u64 (nb (bs.drop 64) : Int)]) ∧ w = w' := by
  have HR := Lib.hid h
  have HL := Lib.hid hl
  clear h hl
  go_enter Tryd.func28, Tryd.ntmps28
  go_wp2_with fail
  go_loop [4, 5, 6] (fun x y i => ∃ j : Nat, j ≤ 64 ∧ i = .int .i64 j ∧ x = .int .u64 (nb (bs.take j) : Int) ∧ y = .int .u64 (nb ((bs.drop 64).take j) : Int)) (fun _ _ i => 64 - (intOf i).toNat)
  case atStart => exact ⟨0, by omega, rfl, rfl, rfl⟩
  case round =>
    obtain ⟨j, hj, rfl, rfl, rfl⟩ := hrel
    have hd64 : (bs.drop 64).length = 64 := by rw [List.length_drop, HL.out]
    by_cases hlt : j < 64
    · obtain ⟨b, off, x, hx, ha, hb, hc⟩ := HR.out.at_ (j := j) (by rw [HL.out]; omega)
      obtain ⟨b2, off2, y, hy, ha2, hb2, hc2⟩ := HR.out.at_ (j := 64 + j) (by rw [HL.out]; omega)
      have hab : b2 = b ∧ off2 = off := by rw [ha] at ha2; injection ha2 with h1; injection h1 with h2 h3; exact ⟨h2.symm, h3.symm⟩
      obtain ⟨rfl, rfl⟩ := hab
      subst ha
      have e1 : nb (bs.take (j + 1)) = 2 * nb (bs.take j) + x.toNat := by rw [List.take_succ_eq_append_getElem (by rw [HL.out]; omega), nb_snoc, hx]
      have e2 : nb ((bs.drop 64).take (j + 1)) = 2 * nb ((bs.drop 64).take j) + y.toNat := by rw [List.take_succ_eq_append_getElem (by rw [hd64]; omega), nb_snoc, List.getElem_drop, hy]
      have p1 := nb_lt (bs.take j)
      have p2 := nb_lt ((bs.drop 64).take j)
      rw [List.length_take, HL.out, Nat.min_eq_left (by omega)] at p1
      rw [List.length_take, hd64, Nat.min_eq_left (by omega)] at p2
      have p3 : 2 ^ j ≤ 2 ^ 63 := Nat.pow_le_pow_right (by omega) (by omega)
      obtain ⟨H, hH⟩ : ∃ H, H = nb (bs.take j) := ⟨_, rfl⟩
      obtain ⟨L, hL⟩ : ∃ L, L = nb ((bs.drop 64).take j) := ⟨_, rfl⟩
      rw [← hH] at e1 p1 ⊢
      rw [← hL] at e2 p2 ⊢
      have k1 : H < 9223372036854775808 := by omega
      have k2 : L < 9223372036854775808 := by omega
      have m1 : IntKind.u64.wrap ((H : Int) * 2) = ((2 * H : Nat) : Int) := by rw [show (H : Int) * 2 = ((2 * H : Nat) : Int) by omega]; exact u_wrap (by omega)
      have m2 : IntKind.u64.wrap ((L : Int) * 2) = ((2 * L : Nat) : Int) := by rw [show (L : Int) * 2 = ((2 * L : Nat) : Int) by omega]; exact u_wrap (by omega)
      obtain ⟨H2, hH2⟩ : ∃ H2, H2 = 2 * H := ⟨_, rfl⟩
      obtain ⟨L2, hL2⟩ : ∃ L2, L2 = 2 * L := ⟨_, rfl⟩
      rw [← hH2] at m1 e1
      rw [← hL2] at m2 e2
      have m3 : IntKind.u64.wrap ((H2 : Int) + 1) = ((H2 + 1 : Nat) : Int) := by rw [show (H2 : Int) + 1 = ((H2 + 1 : Nat) : Int) by omega]; exact u_wrap (by omega)
      have m4 : IntKind.u64.wrap ((L2 : Int) + 1) = ((L2 + 1 : Nat) : Int) := by rw [show (L2 : Int) + 1 = ((L2 + 1 : Nat) : Int) by omega]; exact u_wrap (by omega)
      have m5 : IntKind.i64.wrap (64 + (j : Int)) = ((64 + j : Nat) : Int) := by rw [IntWalk.i64_in _ (by omega)]; omega
      have m6 : 64 + (j : Int) = ((64 + j : Nat) : Int) := by omega
      have HE := Lib.hid (And.intro e1 e2)
      obtain ⟨J, hJ⟩ : ∃ J, J = 64 + j := ⟨_, rfl⟩
      rw [← hJ] at m5 hc2 m6
      have j0 : (0 : Int) ≤ (J : Int) := by omega
      have j1 : (J : Int) < 128 := by omega
      have i1 : (j : Int) < 64 := by omega
      have i2 : (j : Int) < 128 := by omega
      have i0 : (0 : Int) ≤ (j : Int) := by omega
      clear hx hy hb hb2 ha2 e1 e2 p1 p2 p3 hH hL k1 k2 hH2 hL2 hd64 HR HL
      cases x <;> cases y
      all_goals
        clear hJ m6
        go_wp2_with fail
        go_round
        case rel => exact ⟨j + 1, by omega, by go_num, by rw [HE.out.1]; rfl, by rw [HE.out.2]; rfl⟩
        case measure => simp [intOf]; omega
    · obtain rfl : j = 64 := by omega
      have e2 := List.take_length (l := bs.drop 64)
      rw [hd64] at e2
      rw [e2]
      clear e2 hd64
      go_wp2_with fail
      go_ret2
      exact ⟨rfl, rfl⟩
end
section
open Go.RowKit
theorem info_bool : (Tryd.prog.info? 4).map (fun i => (i.zero, i.size, i.bytes)) = some (some (.bool false), 1, 1) := by kernel_rfl
theorem rdB_own {w : World} {v : Value} {n : Nat} {bs : List Bool} (h : w.ownsRow 0 4 1 v n (bs.map Value.bool)) : ∃ a c, v = .slice a bs.length c ∧ n = bs.length ∧ (a = none → c = 0) ∧ RdB w a bs := by
  have hn : n = bs.length := by have := h.1; simpa using this.symm
  subst hn
  rcases h.2 with ⟨rfl, h0⟩ | ⟨g, cap, cur, rfl, hb, hh, hc, _⟩
  · have : bs = [] := List.length_eq_zero_iff.1 h0
    subst this
    exact ⟨none, 0, rfl, rfl, fun _ => rfl, RdV.nil _ _⟩
  · refine ⟨_, cap, rfl, rfl, (fun h => by cases h), fun i v hv => ⟨g, 0, rfl, (Array.getElem?_eq_some_iff.1 hh).1, ?_⟩⟩
    have := h.cells (g := g) rfl i v hv
    have hadd : (⟨g, 0, none⟩ : Addr).add i = ⟨g, 0 + i, none⟩ := by unfold Addr.add; split <;> simp_all
    rw [hadd] at this
    exact this
/-- The first k bits of a half, the highest first. -/
def hbs (h k : Nat) : List Bool := (List.range k).map fun i => h.testBit (63 - i)
theorem hbs_succ (h k : Nat) : hbs h (k + 1) = hbs h k ++ [h.testBit (63 - k)] := by unfold hbs; rw [List.range_succ, List.map_append]; rfl
theorem hbs_len (h k : Nat) : (hbs h k).length = k := by simp [hbs]
theorem hbs_all (h l : Nat) : hbs h 64 ++ hbs l 64 = bools h l := by
  apply List.ext_getElem?
  intro i
  by_cases hi : i < 128
  · rw [bools_at hi]
    by_cases hj : i < 64
    · rw [List.getElem?_append_left (by rw [hbs_len]; exact hj)]
      unfold hbs
      rw [List.getElem?_map, List.getElem?_range hj]
      show some (h.testBit (63 - i)) = _
      unfold bt pb
      rw [if_neg (by omega), if_pos (by omega)]
      congr 2
      omega
    · rw [List.getElem?_append_right (by rw [hbs_len]; omega), hbs_len]
      unfold hbs
      rw [List.getElem?_map, List.getElem?_range (by omega)]
      show some (l.testBit (63 - (i - 64))) = _
      unfold bt pb
      rw [if_pos (by omega)]
      congr 2
      omega
  · rw [List.getElem?_eq_none (by rw [List.length_append, hbs_len, hbs_len]; omega), List.getElem?_eq_none (by rw [bools_len128]; omega)]
theorem bit_eq (h i : Nat) : ((h / 2 ^ i) % 2 == 1) = h.testBit i := by
  rw [Nat.testBit_eq_decide_div_mod_eq]; rfl
set_option maxRecDepth 100000 in
set_option maxHeartbeats 4000000 in
theorem rof_c (h l : Nat) (w : World) (h0 : h < 18446744073709551616) (h1 : l < 18446744073709551616) :
    Calls Tryd.prog 36 #[.int .u64 (h : Int), .int .u64 (l : Int)] w fun e w' => ∃ a c, e = .returned (.slice a 128 c) ∧ Sep [] w w' [ownR 4 1 (.slice a 128 c) 128 ((bools h l).map Value.bool)] := by
  obtain ⟨i0, hi, hz0, hz1, hz2⟩ := info_parts info_bool
  have HS0 := Lib.hid ((Sep.init w).made 4 1 0 #[] (Nat.zero_le _) rfl)
  have HH := Lib.hid (And.intro h0 h1)
  clear h0 h1
  go_enter Tryd.func36, Tryd.ntmps36
  go_wp2_with fail
  go_loopw [5, 6] (fun v i wr => ∃ j : Nat, j ≤ 64 ∧ i = .int .i64 (63 - (j : Int)) ∧ Sep [] w wr [ownR 4 1 v j ((hbs h j).map Value.bool)]) (fun _ i _ => (intOf i + 1).toNat)
  case atStart => exact ⟨0, by omega, rfl, HS0.out⟩
  case round =>
    obtain ⟨j, hj, rfl, hS⟩ := hrel
    have HS := Lib.hid hS
    clear hS
    by_cases hlt : j < 64
    · obtain ⟨r, hr⟩ : ∃ r : Nat, r = 63 - j := ⟨_, rfl⟩
      have e1 : 63 - (j : Int) = (r : Int) := by omega
      have hr1 : r + j ≤ 63 := by omega
      have hr2 : 63 ≤ r + j := by omega
      rw [e1]
      have i1 : (0 : Int) ≤ (r : Int) := by omega
      have b1 : decide ((r : Int) ≥ 0) = true := decide_eq_true i1
      have i2 : ¬ ((r : Int) < 0) := by omega
      have d0 : min r 64 = r := by omega
      have d1 := c_div h r
      have hb := bit_eq h r
      obtain ⟨D, hD⟩ : ∃ D, D = h / 2 ^ r := ⟨_, rfl⟩
      rw [← hD] at d1 hb
      have m1 : Int.tmod (D : Int) 2 = ((D % 2 : Nat) : Int) := by rw [Int.tmod_eq_emod_of_nonneg (by omega)]; omega
      have m2 : (D : Int) % 2 = ((D % 2 : Nat) : Int) := by omega
      obtain ⟨x, hx⟩ : ∃ x, x = h.testBit r := ⟨_, rfl⟩
      have m3 : (((D % 2 : Nat) : Int) == 1) = x := by rw [hx, ← hb]; exact Bool.eq_iff_iff.2 (by simp only [beq_iff_eq]; omega)
      obtain ⟨E, hE⟩ : ∃ E, E = D % 2 := ⟨_, rfl⟩
      rw [← hE] at m1 m2 m3
      have HX := Lib.hid (show hbs h (j + 1) = hbs h j ++ [x] by rw [hbs_succ, hx, hr])
      have m4 : IntKind.i64.wrap ((r : Int) - 1) = 63 - ((j + 1 : Nat) : Int) := by rw [IntWalk.i64_in _ (by omega)]; omega
      clear hr e1 hb hD hx hE
      go_wp2_with (at_builtin; refine wpList_append_sep rfl _ _ 71 rfl 0 4 i0 (.bool false) 1 Tryd.underlying71 hi hz0 hz1 hz2 rfl _ _ _ rfl (HS.out.skip _) rfl _ 1 (.bool x) rfl (World.cell?_alloc_at _ _ _ _ rfl) rfl (by unfold maxLen; omega) (by omega) ?_; intro g4 c4 w4 hS4; have HS4 := Lib.hid hS4; clear hS4)
      go_roundw
      case rel => exact ⟨j + 1, by omega, by go_num, by rw [HX.out, List.map_append]; exact HS4.out⟩
      case measure => simp [intOf]; omega
    · obtain rfl : j = 64 := by omega
      obtain ⟨a5, c5, hv, _⟩ := own_cases (HS.out.own 0 rfl)
      subst hv
      have HS5 := Lib.hid (show Sep [] w wr [ownR 4 1 (.slice a5 64 c5) (64 + 0) ((hbs h 64).map Value.bool ++ (hbs l 0).map Value.bool)] from by rw [show (hbs l 0).map Value.bool = [] from rfl, List.append_nil]; exact HS.out)
      clear HS
      go_wp2_with fail
      go_loopw [5, 7] (fun v i wr => ∃ j : Nat, j ≤ 64 ∧ i = .int .i64 (63 - (j : Int)) ∧ Sep [] w wr [ownR 4 1 v (64 + j) ((hbs h 64).map Value.bool ++ (hbs l j).map Value.bool)]) (fun _ i _ => (intOf i + 1).toNat)
      case atStart => exact ⟨0, by omega, rfl, HS5.out⟩
      case round =>
        obtain ⟨j, hj, rfl, hS⟩ := hrel
        have HS := Lib.hid hS
        clear hS
        by_cases hlt : j < 64
        · obtain ⟨r, hr⟩ : ∃ r : Nat, r = 63 - j := ⟨_, rfl⟩
          have e1 : 63 - (j : Int) = (r : Int) := by omega
          have hr1 : r + j ≤ 63 := by omega
          have hr2 : 63 ≤ r + j := by omega
          rw [e1]
          have i1 : (0 : Int) ≤ (r : Int) := by omega
          have b1 : decide ((r : Int) ≥ 0) = true := decide_eq_true i1
          have i2 : ¬ ((r : Int) < 0) := by omega
          have d0 : min r 64 = r := by omega
          have d1 := c_div l r
          have hb := bit_eq l r
          obtain ⟨D, hD⟩ : ∃ D, D = l / 2 ^ r := ⟨_, rfl⟩
          rw [← hD] at d1 hb
          have m1 : Int.tmod (D : Int) 2 = ((D % 2 : Nat) : Int) := by rw [Int.tmod_eq_emod_of_nonneg (by omega)]; omega
          have m2 : (D : Int) % 2 = ((D % 2 : Nat) : Int) := by omega
          obtain ⟨x, hx⟩ : ∃ x, x = l.testBit r := ⟨_, rfl⟩
          have m3 : (((D % 2 : Nat) : Int) == 1) = x := by rw [hx, ← hb]; exact Bool.eq_iff_iff.2 (by simp only [beq_iff_eq]; omega)
          obtain ⟨E, hE⟩ : ∃ E, E = D % 2 := ⟨_, rfl⟩
          rw [← hE] at m1 m2 m3
          have HX := Lib.hid (show hbs l (j + 1) = hbs l j ++ [x] by rw [hbs_succ, hx, hr])
          have m4 : IntKind.i64.wrap ((r : Int) - 1) = 63 - ((j + 1 : Nat) : Int) := by rw [IntWalk.i64_in _ (by omega)]; omega
          clear hr e1 hb hD hx hE
          go_wp2_with (at_builtin; refine wpList_append_sep rfl _ _ 71 rfl 0 4 i0 (.bool false) 1 Tryd.underlying71 hi hz0 hz1 hz2 rfl _ _ _ rfl (HS.out.skip _) rfl _ 1 (.bool x) rfl (World.cell?_alloc_at _ _ _ _ rfl) rfl (by unfold maxLen; omega) (by omega) ?_; intro g4 c4 w4 hS4; have HS4 := Lib.hid hS4; clear hS4)
          go_roundw
          case rel => exact ⟨j + 1, by omega, by go_num, by rw [HX.out, List.map_append, ← List.append_assoc]; exact HS4.out⟩
          case measure => simp [intOf]; omega
        · obtain rfl : j = 64 := by omega
          rw [← List.map_append, hbs_all] at HS
          obtain ⟨a, c, hv, _⟩ := own_cases (HS.out.own 0 rfl)
          subst hv
          go_wp2_with fail
          go_ret
          exact ⟨a, c, rfl, HS.out⟩
end
section
open Go.RowKit Go.Maps Go.Shelf
attribute [local go_sem] Oper.semAt_some
theorem rdZ_own {w : World} {v : Value} {n : Nat} {R : List Nat} (h : w.ownsRow 0 3 1 v n (R.map encI)) : ∃ a c, v = .slice a R.length c ∧ n = R.length ∧ (a = none → c = 0) ∧ RdZ w a (fwL R) := by
  have hn : n = R.length := by have := h.1; simpa using this.symm
  subst hn
  rcases h.2 with ⟨rfl, h0⟩ | ⟨g, cap, cur, rfl, hb, hh, hc, _⟩
  · have : R = [] := List.length_eq_zero_iff.1 h0
    subst this
    exact ⟨none, 0, rfl, rfl, fun _ => rfl, RdV.nil _ _⟩
  · refine ⟨_, cap, rfl, rfl, (fun h => by cases h), fun i v hv => ⟨g, 0, rfl, (Array.getElem?_eq_some_iff.1 hh).1, ?_⟩⟩
    have h1 : (R.map encI)[i]? = some v := by rw [← hv]; unfold fwL; rw [List.map_map]; rfl
    have := h.cells (g := g) rfl i v h1
    have hadd : (⟨g, 0, none⟩ : Addr).add i = ⟨g, 0 + i, none⟩ := by unfold Addr.add; split <;> simp_all
    rw [hadd] at this
    exact this
end
section
open Go.RowKit
def frB (zs : List Int) (k : Nat) : List Bool := (List.range k).map fun i : Nat => decide ((i : Int) ∈ zs)
theorem frB_succ (zs : List Int) (k : Nat) : frB zs (k + 1) = frB zs k ++ [decide ((k : Int) ∈ zs)] := by unfold frB; rw [List.range_succ, List.map_append]; rfl
theorem frB_nil : frB [] 128 = List.replicate 128 false := by decide +kernel
theorem own_cell2 {w : World} {e : TypeId} {g n c : Nat} {xs : List Value} (h : w.ownsRow 0 e 1 (.slice (some ⟨g, 0, none⟩) n c) n xs) {j : Nat} {v : Value} (hv : xs[j]? = some v) : w.cell? ⟨g, j, none⟩ = some v := by
  have h3 := h.cells (g := g) rfl j v hv
  have hadd : (⟨g, 0, none⟩ : Addr).add j = ⟨g, 0 + j, none⟩ := by unfold Addr.add; split <;> simp_all
  rw [hadd, Nat.zero_add] at h3
  exact h3
theorem own_addr2 {w : World} {e : TypeId} {a : Option Addr} {n c : Nat} {xs : List Value} (h : w.ownsRow 0 e 1 (.slice a n c) n xs) (hn : 0 < n) : ∃ g, a = some ⟨g, 0, none⟩ := by
  rcases h.2 with ⟨he, h0⟩ | ⟨g, cap, cur, hv, _⟩
  · omega
  · injection hv with h1; exact ⟨g, h1⟩
theorem own_free {w : World} {e : TypeId} {g n c : Nat} {xs : List Value} (h : w.ownsRow 0 e 1 (.slice (some ⟨g, 0, none⟩) n c) n xs) (j : Nat) : w.frozen? ⟨g, j, none⟩ = false := by
  rcases h.2 with ⟨he, h0⟩ | ⟨g2, cap, cur, hv, _, hh, _⟩
  · cases he
  · injection hv with h1 _ _
    injection h1 with h1
    injection h1 with h1 _ _
    subst h1
    simp [World.frozen?, hh]
theorem own_set {w : World} {e : TypeId} {g n c : Nat} {xs : List Value} (h : w.ownsRow 0 e 1 (.slice (some ⟨g, 0, none⟩) n c) n xs) (j : Nat) (u : Value) (hj : j < n) : (w.setCell ⟨g, j, none⟩ u).ownsRow 0 e 1 (.slice (some ⟨g, 0, none⟩) n c) n (xs.set j u) := by
  refine ⟨by rw [List.length_set]; exact h.1, ?_⟩
  rcases h.2 with ⟨he, h0⟩ | ⟨g2, cap, cur, hv, hb, hh, hc, hm, hs, ht⟩
  · cases he
  · injection hv with h1 _ h3
    injection h1 with h1
    injection h1 with h1 _ _
    subst h1; subst h3
    have hB : Blk w g e cur := hh
    refine .inr ⟨g, c, _, rfl, hb, hB.put j u, hc, hm, by simpa using hs, ?_⟩
    rw [← ht]
    simp [List.take_set]
set_option maxRecDepth 100000 in
set_option maxHeartbeats 4000000 in
theorem rfrom_c (a : Option Addr) (c : Nat) (zs : List Int) (w : World) (h : RdZ w a zs) (hl : zs.length ≤ 1000000) :
    Calls Tryd.prog 51 #[.slice a zs.length c] w fun e w' => ∃ a c, e = .returned (.slice a 128 c) ∧ Sep [] w w' [ownR 4 1 (.slice a 128 c) 128 ((frB zs 128).map Value.bool)] := by
  obtain ⟨i0, hi, hz0, hz1, hz2⟩ := info_parts info_bool
  have HS0 := Lib.hid ((Sep.init w).made 4 1 0 #[] (Nat.zero_le _) rfl)
  have HR := Lib.hid h
  clear h
  go_enter Tryd.func51, Tryd.ntmps51
  go_wp2_with fail
  go_loopw [3, 4] (fun v i wr => ∃ j : Nat, j ≤ 128 ∧ i = .int .i64 (j : Int) ∧ Sep [] w wr [ownR 4 1 v j ((frB zs j).map Value.bool)]) (fun _ i _ => 128 - (intOf i).toNat)
  case atStart => exact ⟨0, by omega, rfl, HS0.out⟩
  case round =>
    obtain ⟨j, hj, rfl, hS⟩ := hrel
    have HRw := Lib.hid (HR.out.below hS.frm.below)
    have HS := Lib.hid hS
    clear hS
    by_cases hlt : j < 128
    · have i1 : (j : Int) < 128 := by omega
      go_wp2_with fail
      go_loopw [5, 6] (fun b k wi => ∃ m : Nat, m ≤ zs.length ∧ k = .int .i64 (m : Int) ∧ b = .bool (decide ((j : Int) ∈ zs.take m)) ∧ wi = wr) (fun _ k _ => zs.length - (intOf k).toNat)
      case atStart => exact ⟨0, by omega, rfl, by simp, rfl⟩
      case round =>
        obtain ⟨m, hm, rfl, rfl, rfl⟩ := hrel
        by_cases hmt : m < zs.length
        · obtain ⟨b, off, y, hy, rfl, hb, hc⟩ := HRw.out.at_ hmt
          have k0 : (0 : Int) ≤ (m : Int) := by omega
          have k1 : (m : Int) < (zs.length : Int) := by omega
          have hs : decide ((j : Int) ∈ zs.take (m + 1)) = (decide ((j : Int) ∈ zs.take m) || decide (y = (j : Int))) := by
            rw [List.take_succ_eq_append_getElem hmt, ← hy, Bool.eq_iff_iff]
            simp only [List.mem_append, List.mem_singleton, Bool.or_eq_true, decide_eq_true_eq]
            exact ⟨fun h => h.imp id Eq.symm, fun h => h.imp id Eq.symm⟩
          obtain ⟨x, hx⟩ : ∃ x, x = decide ((j : Int) ∈ zs.take m) := ⟨_, rfl⟩
          obtain ⟨z, hz⟩ : ∃ z, z = decide (y = (j : Int)) := ⟨_, rfl⟩
          have b1 : (y == (j : Int)) = z := by rw [hz, Bool.eq_iff_iff]; simp
          rw [← hx, ← hz] at hs
          rw [← hx]
          have HSt := Lib.hid hs
          clear hs hx hz hy hb HR HRw HS0
          cases x
          all_goals
            go_wp2_with fail
            go_roundw
            case rel => exact ⟨m + 1, by omega, by go_num, by rw [HSt.out]; rfl, by first | rfl | trivial⟩
            case measure => simp [intOf]; omega
        · obtain rfl : m = zs.length := by omega
          rw [List.take_length]
          have HX := Lib.hid (frB_succ zs j)
          obtain ⟨x, hx⟩ : ∃ x, x = decide ((j : Int) ∈ zs) := ⟨_, rfl⟩
          rw [← hx] at HX ⊢
          clear hx
          go_wp2_with (at_builtin; refine wpList_append_sep rfl _ _ 71 rfl 0 4 i0 (.bool false) 1 Tryd.underlying71 hi hz0 hz1 hz2 rfl _ _ _ rfl (HS.out.skip _) rfl _ 1 (.bool x) rfl (World.cell?_alloc_at _ _ _ _ rfl) rfl (by unfold maxLen; omega) (by omega) ?_; intro g4 c4 w4 hS4; have HS4 := Lib.hid hS4; clear hS4)
          go_roundw
          case rel => exact ⟨j + 1, by omega, by go_num, by rw [HX.out, List.map_append]; exact HS4.out⟩
          case measure => simp [intOf]; omega
    · obtain rfl : j = 128 := by omega
      obtain ⟨a5, c5, hv, _⟩ := own_cases (HS.out.own 0 rfl)
      subst hv
      go_wp2_with fail
      go_ret
      exact ⟨a5, c5, rfl, HS.out⟩
set_option maxRecDepth 100000 in
set_option maxHeartbeats 4000000 in
theorem rpart_c (a : Option Addr) (c : Nat) (bs : List Bool) (f : Int) (N : Nat) (w : World) (h : RdB w a bs) (hl : bs.length = 128) (hf : -200 ≤ f ∧ f ≤ 200) (hn : N ≤ 64) :
    Calls Tryd.prog 35 #[.slice a 128 c, .int .i64 f, .int .i64 (N : Int)] w fun e w' => e = .returned (.int .u64 (nb (prL bs f N) : Int)) ∧ w = w' := by
  have HHas := Lib.hid (fun i => rhas_c a c bs i w h hl)
  have HP := Lib.hid (prL_succ bs f)
  have HL := Lib.hid (fun k => nb_lt (prL bs f k))
  have HZ := Lib.hid (fun k => (show (prL bs f k).length = k by simp [prL]))
  clear h hl
  go_enter Tryd.func35, Tryd.ntmps35
  go_wp2_with fail
  go_loop [7, 8] (fun x i => ∃ j : Nat, j ≤ N ∧ i = .int .i64 j ∧ x = .int .u64 (nb (prL bs f j) : Int)) (fun _ i => N - (intOf i).toNat)
  case atStart => exact ⟨0, by omega, rfl, rfl⟩
  case round =>
    obtain ⟨j, hj, rfl, rfl⟩ := hrel
    by_cases hlt : j < N
    · have e1 : nb (prL bs f (j + 1)) = 2 * nb (prL bs f j) + (hasB bs (f + (j : Int))).toNat := by rw [HP.out, nb_snoc]
      have p1 := HL.out j
      rw [HZ.out] at p1
      have p3 : 2 ^ j ≤ 2 ^ 63 := Nat.pow_le_pow_right (by omega) (by omega)
      have hh := HHas.out (f + (j : Int))
      obtain ⟨x, hx⟩ : ∃ x, x = hasB bs (f + (j : Int)) := ⟨_, rfl⟩
      rw [← hx] at e1 hh
      obtain ⟨H, hH⟩ : ∃ H, H = nb (prL bs f j) := ⟨_, rfl⟩
      rw [← hH] at e1 p1 ⊢
      have k1 : H < 9223372036854775808 := by omega
      have m1 : IntKind.u64.wrap ((H : Int) * 2) = ((2 * H : Nat) : Int) := by rw [show (H : Int) * 2 = ((2 * H : Nat) : Int) by omega]; exact u_wrap (by omega)
      obtain ⟨H2, hH2⟩ : ∃ H2, H2 = 2 * H := ⟨_, rfl⟩
      rw [← hH2] at m1 e1
      have m3 : IntKind.u64.wrap ((H2 : Int) + 1) = ((H2 + 1 : Nat) : Int) := by rw [show (H2 : Int) + 1 = ((H2 + 1 : Nat) : Int) by omega]; exact u_wrap (by omega)
      have m5 : IntKind.i64.wrap (f + (j : Int)) = f + (j : Int) := IntWalk.i64_in _ (by omega)
      have i1 : (j : Int) < (N : Int) := by omega
      have HE := Lib.hid e1
      have HH := Lib.hid hh
      clear e1 p1 p3 hx hH k1 hH2 hh HHas HP HL HZ
      cases x
      all_goals
        go_wp2_with fail
        refine HH.out.mono ?_
        rintro e w' ⟨rfl, rfl⟩
        go_wp2_with fail
        go_round
        case rel => exact ⟨j + 1, by omega, by go_num, by rw [HE.out]; rfl⟩
        case measure => simp [intOf]; omega
    · obtain rfl : j = N := by omega
      go_wp2_with fail
      go_ret
      exact ⟨rfl, rfl⟩
set_option maxRecDepth 100000 in
set_option maxHeartbeats 8000000 in
theorem rlay_c (f : Int) (N X : Nat) (w : World) (hf : -200 ≤ f ∧ f ≤ 200) (hn : N ≤ 64) (hX : X < 18446744073709551616) :
    Calls Tryd.prog 29 #[.int .i64 f, .int .i64 (N : Int), .int .u64 (X : Int)] w fun e w' => ∃ a c, e = .returned (.slice a 128 c) ∧ Sep [] w w' [ownR 4 1 (.slice a 128 c) 128 ((lyK f (N : Int) X N).map Value.bool)] := by
  have hfr := rfrom_c none 0 [] w (RdV.nil _ _) (by simp)
  rw [frB_nil, ← lyK_zero f (N : Int) X] at hfr
  have HFr := Lib.hid hfr
  have HIn := Lib.hid (lyK_in f (N : Int) X)
  have HOut := Lib.hid (lyK_out f (N : Int) X)
  have HLn := Lib.hid (fun k => (show (lyK f (N : Int) X k).length = 128 by simp [lyK]))
  clear hfr
  go_enter Tryd.func29, Tryd.ntmps29
  go_wp2_with fail
  refine HFr.out.mono ?_
  rintro e w1 ⟨a, c, rfl, hS⟩
  obtain ⟨g, rfl⟩ := own_addr2 (hS.own 0 rfl) (by decide)
  have HS0 := Lib.hid hS
  clear hS HFr
  go_wp2_with fail
  go_loopw [2, 8] (fun y i wr => ∃ j : Nat, j ≤ N ∧ i = .int .i64 (j : Int) ∧ y = .int .u64 ((X / 2 ^ j : Nat) : Int) ∧ Sep [] w wr [ownR 4 1 (.slice (some ⟨g, 0, none⟩) 128 c) 128 ((lyK f (N : Int) X j).map Value.bool)]) (fun _ i _ => N - (intOf i).toNat)
  case atStart => exact ⟨0, by omega, rfl, by simp, HS0.out⟩
  case round =>
    obtain ⟨j, hj, rfl, rfl, hS⟩ := hrel
    have HS := Lib.hid hS
    clear hS
    by_cases hlt : j < N
    · have i1 : (j : Int) < (N : Int) := by omega
      have q1 : X / 2 ^ (j + 1) = (X / 2 ^ j) / 2 := by rw [Nat.pow_succ, Nat.div_div_eq_div_mul]
      have hb := bit_eq X j
      obtain ⟨D, hD⟩ : ∃ D, D = X / 2 ^ j := ⟨_, rfl⟩
      rw [← hD] at q1 hb ⊢
      have q2 : (D : Int).tdiv 2 = ((D / 2 : Nat) : Int) := by rw [Int.tdiv_eq_ediv_of_nonneg (by omega)]; omega
      have q3 : (D : Int) / 2 = ((D / 2 : Nat) : Int) := by omega
      obtain ⟨D2, hD2⟩ : ∃ D2, D2 = D / 2 := ⟨_, rfl⟩
      rw [← hD2] at q1 q2 q3
      have q4 : IntKind.u64.wrap (D2 : Int) = (D2 : Int) := u_wrap (by have := Nat.div_le_self X (2 ^ j); omega)
      have m1 : Int.tmod (D : Int) 2 = ((D % 2 : Nat) : Int) := by rw [Int.tmod_eq_emod_of_nonneg (by omega)]; omega
      have m2 : (D : Int) % 2 = ((D % 2 : Nat) : Int) := by omega
      obtain ⟨x, hx⟩ : ∃ x, x = X.testBit j := ⟨_, rfl⟩
      have m3 : (((D % 2 : Nat) : Int) == 1) = x := by rw [hx, ← hb]; exact Bool.eq_iff_iff.2 (by simp only [beq_iff_eq]; omega)
      obtain ⟨E, hE⟩ : ∃ E, E = D % 2 := ⟨_, rfl⟩
      rw [← hE] at m1 m2 m3
      have s1 : IntKind.i64.wrap (f + (N : Int)) = f + (N : Int) := IntWalk.i64_in _ (by omega)
      have s2 : IntKind.i64.wrap (f + (N : Int) - 1) = f + (N : Int) - 1 := IntWalk.i64_in _ (by omega)
      obtain ⟨T, hT⟩ : ∃ T, T = f + (N : Int) - 1 - (j : Int) := ⟨_, rfl⟩
      have s3 : IntKind.i64.wrap (f + (N : Int) - 1 - (j : Int)) = T := by rw [hT]; exact IntWalk.i64_in _ (by omega)
      have HQ := Lib.hid q1
      have hin := HIn.out j
      have hout := HOut.out j
      rw [← hT] at hin hout
      rw [← hx] at hin
      clear hT hx hb hD hD2 hE q1
      by_cases hc : 0 ≤ T ∧ T < 128
      · obtain ⟨k, rfl⟩ := Int.eq_ofNat_of_zero_le hc.1
        have hk : k < 128 := by omega
        have hn := hin hc
        rw [Int.toNat_natCast] at hn
        have k0 : (0 : Int) ≤ (k : Int) := by omega
        have k1 : (k : Int) < 128 := by omega
        have b1 : decide ((k : Int) ≥ 0) = true := decide_eq_true k0
        have hov : ∃ v, ((lyK f (N : Int) X j).map Value.bool)[k]? = some v := ⟨_, List.getElem?_eq_getElem (by rw [List.length_map, HLn.out]; exact hk)⟩
        obtain ⟨v, hv⟩ := hov
        obtain ⟨vb, rfl⟩ : ∃ vb, v = .bool vb := by rw [List.getElem?_map] at hv; obtain ⟨b, _, rfl⟩ := Option.map_eq_some_iff.1 hv; exact ⟨b, rfl⟩
        have c0 := own_cell2 (HS.out.own 0 rfl) hv
        have f0 := own_free (HS.out.own 0 rfl) k
        have h5 := own_set (HS.out.own 0 rfl) k (.bool x) hk
        rw [← List.map_set, ← hn] at h5
        have HS5 := Lib.hid (HS.out.grow 0 rfl (grown_put (grown_refl wr _) k (.bool x)) h5 (.inl rfl))
        clear hin hout hn hv hc h5 HS0 HIn HOut HLn
        go_wp2_with fail
        go_roundw
        case rel => exact ⟨j + 1, by omega, by go_num, by rw [HQ.out], HS5.out⟩
        case measure => simp [intOf]; omega
      · have hn := hout hc
        have HN := Lib.hid hn
        by_cases hc1 : 0 ≤ T
        · have b1 : decide (T ≥ 0) = true := decide_eq_true hc1
          have b2 : decide (T < 128) = false := decide_eq_false (fun h => hc ⟨hc1, h⟩)
          clear hin hout hn hc HS0 HIn HOut HLn
          go_wp2_with fail
          go_roundw
          case rel => exact ⟨j + 1, by omega, by go_num, by rw [HQ.out], by rw [HN.out]; exact HS.out⟩
          case measure => simp [intOf]; omega
        · have b1 : decide (T ≥ 0) = false := decide_eq_false hc1
          clear hin hout hn hc HS0 HIn HOut HLn
          go_wp2_with fail
          go_roundw
          case rel => exact ⟨j + 1, by omega, by go_num, by rw [HQ.out], by rw [HN.out]; exact HS.out⟩
          case measure => simp [intOf]; omega
    · obtain rfl : j = N := by omega
      go_wp2_with fail
      go_ret
      exact ⟨_, c, rfl, HS.out⟩
end
section
open Go.RowKit
def liB (bs : List Bool) (k : Nat) : List Nat := (List.range k).filter fun i => bs.getD i false
theorem liB_succ (bs : List Bool) (k : Nat) : liB bs (k + 1) = liB bs k ++ if bs.getD k false then [k] else [] := by
  unfold liB
  rw [List.range_succ, List.filter_append]
  congr 1
  rw [List.filter_cons, List.filter_nil]
theorem liB_all (h l : Nat) : liB (bools h l) 128 = bitsOf h l := by
  unfold liB bitsOf
  exact List.filter_congr fun i hi => bools_getD (List.mem_range.1 hi)
theorem liB_len (bs : List Bool) (k : Nat) : (liB bs k).length ≤ k := by unfold liB; exact Nat.le_trans (List.length_filter_le _ _) (by simp)
set_option maxRecDepth 100000 in
set_option maxHeartbeats 4000000 in
theorem rlist_c (a : Option Addr) (c : Nat) (bs : List Bool) (w : World) (h : RdB w a bs) (hl : bs.length = 128) :
    Calls Tryd.prog 62 #[.slice a 128 c] w fun e w' => ∃ a c, e = .returned (.slice a (liB bs 128).length c) ∧ (a = none → c = 0) ∧ RdZ w' a (fwL (liB bs 128)) ∧ Frm [] w w' := by
  obtain ⟨i0, hi, hz0, hz1, hz2⟩ := info_parts info_int
  have HS0 := Lib.hid ((Sep.init w).made 3 1 0 #[] (Nat.zero_le _) rfl)
  have HR := Lib.hid h
  have HL := Lib.hid hl
  clear h hl
  go_enter Tryd.func62, Tryd.ntmps62
  go_wp2_with fail
  go_loopw [3, 4] (fun v i wr => ∃ j : Nat, j ≤ 128 ∧ i = .int .i64 (j : Int) ∧ Sep [] w wr [ownR 3 1 v (liB bs j).length ((liB bs j).map encI)]) (fun _ i _ => 128 - (intOf i).toNat)
  case atStart => exact ⟨0, by omega, rfl, HS0.out⟩
  case round =>
    obtain ⟨j, hj, rfl, hS⟩ := hrel
    have hrw := HR.out.below hS.frm.below
    have HS := Lib.hid hS
    clear hS
    by_cases hlt : j < 128
    · obtain ⟨b, off, x, hx, rfl, hb, hc⟩ := hrw.at_ (j := j) (by rw [HL.out]; exact hlt)
      have i0' : (0 : Int) ≤ (j : Int) := by omega
      have i1 : (j : Int) < 128 := by omega
      have hst := liB_succ bs j
      rw [show bs.getD j false = x from by rw [List.getD_eq_getElem?_getD, List.getElem?_eq_getElem (by rw [HL.out]; exact hlt), hx]; rfl] at hst
      have hle := liB_len bs j
      have HSt := Lib.hid hst
      clear hx hb hrw hst
      obtain ⟨Y, hY⟩ : ∃ Y, Y = liB bs j := ⟨_, rfl⟩
      rw [← hY] at HS HSt hle
      obtain ⟨n, hn⟩ : ∃ n, n = Y.length := ⟨_, rfl⟩
      rw [← hn] at HS hle
      have HN := Lib.hid hn
      clear hY hn
      cases x
      · go_wp2_with fail
        go_roundw
        case rel => exact ⟨j + 1, by omega, by go_num, by rw [HSt.out, if_neg (by simp), List.append_nil, ← HN.out]; exact HS.out⟩
        case measure => simp [intOf]; omega
      · go_wp2_with (at_builtin; refine wpList_append_sep rfl _ _ 86 rfl 0 3 i0 (.int .i64 0) 8 Tryd.underlying86 hi hz0 hz1 hz2 rfl _ _ _ rfl (HS.out.skip _) rfl _ 1 (.int .i64 (j : Int)) rfl (World.cell?_alloc_at _ _ _ _ rfl) rfl (by unfold maxLen; omega) (by omega) ?_; intro g4 c4 w4 hS4; have HS4 := Lib.hid hS4; clear hS4)
        go_roundw
        case rel => exact ⟨j + 1, by omega, by go_num, by rw [HSt.out, if_pos rfl, List.length_append, List.map_append, ← HN.out]; exact HS4.out⟩
        case measure => simp [intOf]; omega
    · obtain rfl : j = 128 := by omega
      obtain ⟨a5, c5, he, hq1, hac, hz⟩ := rdZ_own (HS.out.own 0 rfl)
      subst he
      clear hq1
      have HZ := Lib.hid hz
      have HA := Lib.hid hac
      clear hz hac hrw
      go_wp2_with fail
      go_ret
      exact ⟨a5, c5, rfl, HA.out, HZ.out, HS.out.frm⟩
end

end Go.Proofs.YtjflcijiaennkaaDoor
