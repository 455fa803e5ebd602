/-
  PLAIN: bits of Of, Part, Lay; what MaskSteps and MaskBack say.
-/
import Derived.Test.YtlkhjffbhcjdfaaDoorMaQ
import Derived.Test.YtlkhjffbhcjdfaaDoorMaK
set_option linter.unusedVariables false
set_option linter.unusedSimpArgs false
namespace Go.Proofs.YtlkhjffbhcjdfaaDoor

theorem bt_zero (i : Nat) : bt 0 0 i = false := pb_zero _
theorem bt_fold (zs : List Int) (i : Nat) (hi : i < 128) : ∀ (s t : Nat), bt (zs.foldl (fun m i => m ||| bH i) s) (zs.foldl (fun m i => m ||| bL i) t) i = (bt s t i || decide ((i : Int) ∈ zs)) := by
  induction zs with
  | nil => intro s t; simp
  | cons z zs ih =>
    intro s t
    rw [List.foldl_cons, List.foldl_cons, ih, bt_or, bt_bit z i hi, Bool.or_assoc]
    congr 1
    rw [Bool.eq_iff_iff]
    simp only [Bool.or_eq_true, decide_eq_true_eq, List.mem_cons]
    exact ⟨fun h => h.imp Eq.symm id, fun h => h.imp Eq.symm id⟩
theorem bt_of (zs : List Int) (i : Nat) (hi : i < 128) : bt (ofH zs) (ofL zs) i = decide ((i : Int) ∈ zs) := by
  unfold ofH ofL
  rw [bt_fold zs i hi, bt_zero, Bool.false_or]
theorem of_bits {h l : Nat} (h0 : h < 18446744073709551616) (h1 : l < 18446744073709551616) (zs : List Int) (hz : ∀ i : Nat, i < 128 → ((i : Int) ∈ zs ↔ bt h l i = true)) : ofH zs = h ∧ ofL zs = l :=
  bt_eq (ofH_lt _) (ofL_lt _) h0 h1 fun i hi => by
    rw [bt_of zs i hi, Bool.eq_iff_iff, decide_eq_true_eq]
    exact hz i hi

section
variable {h l : Nat} (h0 : h < 18446744073709551616) (h1 : l < 18446744073709551616)
include h0 h1
theorem dw_dw (a b : Int) (hab : (0 ≤ a ∧ 0 ≤ b) ∨ (a ≤ 0 ∧ b ≤ 0)) : dwH (dwH h l a) (dwL h l a) b = dwH h l (a + b) ∧ dwL (dwH h l a) (dwL h l a) b = dwL h l (a + b) :=
  bt_eq (dwH_lt _ _ _ (dwH_lt _ _ _ h0 h1) (dwL_lt _ _ _ h0 h1)) (dwL_lt _ _ _ (dwH_lt _ _ _ h0 h1) (dwL_lt _ _ _ h0 h1)) (dwH_lt _ _ _ h0 h1) (dwL_lt _ _ _ h0 h1) fun i hi => by
    rw [bt_down (dwH_lt _ _ _ h0 h1) (dwL_lt _ _ _ h0 h1) _ i hi, bt_down h0 h1 _ i hi]
    by_cases hc : 0 ≤ (i : Int) - b ∧ (i : Int) - b < 128
    · rw [if_pos hc, bt_down h0 h1 _ _ (by omega)]
      by_cases hd : 0 ≤ (i : Int) - (a + b) ∧ (i : Int) - (a + b) < 128
      · rw [if_pos hd, if_pos (by omega)]; congr 1; omega
      · rw [if_neg hd, if_neg (by omega)]
    · rw [if_neg hc, if_neg (by omega)]
theorem with_less (a : Int) : (h ||| bH a) &&& (18446744073709551615 - bH a) = h &&& (18446744073709551615 - bH a) ∧ (l ||| bL a) &&& (18446744073709551615 - bL a) = l &&& (18446744073709551615 - bL a) :=
  bt_eq (less_lt _ _ (or_lt h0 (bH_lt a))) (less_lt _ _ (or_lt h1 (bL_lt a))) (less_lt _ _ h0) (less_lt _ _ h1) fun i hi => by
    rw [bt_less a i hi, bt_less a i hi, bt_or, bt_bit a i hi]
    by_cases e : a = (i : Int) <;> simp [e]
theorem cut_down (a : Int) (ha : 0 ≤ a) : (h &&& fuH a) ||| dwH (dwH h l (-a)) (dwL h l (-a)) a = h ∧ (l &&& fuL a) ||| dwL (dwH h l (-a)) (dwL h l (-a)) a = l :=
  bt_eq (or_lt (less_lt _ _ h0) (dwH_lt _ _ _ (dwH_lt _ _ _ h0 h1) (dwL_lt _ _ _ h0 h1))) (or_lt (less_lt _ _ h1) (dwL_lt _ _ _ (dwH_lt _ _ _ h0 h1) (dwL_lt _ _ _ h0 h1))) h0 h1 fun i hi => by
    rw [bt_or, bt_cut a i hi, bt_down (dwH_lt _ _ _ h0 h1) (dwL_lt _ _ _ h0 h1) _ i hi]
    by_cases hc : (i : Int) < a
    · rw [decide_eq_true hc, if_neg (by omega)]; simp
    · rw [decide_eq_false hc]
      by_cases hd : (i : Int) - a < 128
      · rw [if_pos ⟨by omega, hd⟩, bt_down h0 h1 _ _ (by omega), if_pos (by omega)]
        simp only [Bool.and_false, Bool.false_or]
        congr 1; omega
      · omega
/-- A part's bits. -/
theorem tb_part (f n : Int) (hf : -128 ≤ f ∧ f ≤ 128) (hn : 0 ≤ n ∧ n ≤ 64) (j : Nat) : (ptN h l f n).testBit j = (decide ((j : Int) < n ∧ 0 ≤ f + n - 1 - j ∧ f + n - 1 - j < 128) && bt h l (f + n - 1 - j).toNat) := by
  unfold ptN
  rw [show held f (-128) 128 = f from by unfold held; rw [if_neg (by omega), if_neg (by omega)], show held n 0 64 = n from by unfold held; rw [if_neg (by omega), if_neg (by omega)], tb_div]
  by_cases hj : (j : Int) < n
  · have hb := bt_down h0 h1 (-f) (n - 1 - j).toNat (by omega)
    unfold bt at hb ⊢
    have e1 : pb (dwH h l (-f)) (dwL h l (-f)) (127 - (n - 1 - (j : Int)).toNat) = (dwH h l (-f)).testBit (j + (64 - n).toNat) := by
      unfold pb
      rw [if_neg (by omega), if_pos (by omega)]
      congr 1
      omega
    rw [← e1, hb]
    by_cases hc : 0 ≤ f + n - 1 - (j : Int) ∧ f + n - 1 - (j : Int) < 128
    · rw [if_pos (by omega), decide_eq_true ⟨hj, hc⟩, Bool.true_and]
      congr 2
      omega
    · rw [if_neg (by omega), decide_eq_false (fun h => hc h.2), Bool.false_and]
  · rw [decide_eq_false (fun h => hj h.1), Bool.false_and]
    exact tb_none (dwH_lt _ _ _ h0 h1) (by omega)
end
/-- A laid number's bits. -/
theorem bt_lay (f n : Int) (x : Nat) (hf : -128 ≤ f ∧ f ≤ 128) (hn : 0 ≤ n ∧ n ≤ 64) (i : Nat) (hi : i < 128) : bt (lyH f n x) (lyL f n x) i = (decide (0 ≤ (i : Int) - f ∧ (i : Int) - f < n) && x.testBit (n - 1 - ((i : Int) - f)).toNat) := by
  unfold lyH lyL
  rw [show held f (-128) 128 = f from by unfold held; rw [if_neg (by omega), if_neg (by omega)], show held n 0 64 = n from by unfold held; rw [if_neg (by omega), if_neg (by omega)],
    bt_down (Nat.mod_lt _ (by decide)) (by decide) _ i hi]
  by_cases hc : 0 ≤ (i : Int) - f ∧ (i : Int) - f < 128
  · rw [if_pos hc]
    unfold bt pb
    by_cases hd : (i : Int) - f < 64
    · rw [if_neg (by omega), if_pos (by omega), tb_mod, tb_mul]
      by_cases he : (i : Int) - f < n
      · rw [decide_eq_true (show 127 - ((i : Int) - f).toNat - 64 < 64 by omega), decide_eq_true (show (64 - n).toNat ≤ 127 - ((i : Int) - f).toNat - 64 by omega), decide_eq_true (show 0 ≤ (i : Int) - f ∧ (i : Int) - f < n by omega)]
        simp only [Bool.true_and]
        congr 1
        omega
      · rw [decide_eq_false (show ¬ ((64 - n).toNat ≤ 127 - ((i : Int) - f).toNat - 64) by omega), decide_eq_false (show ¬ (0 ≤ (i : Int) - f ∧ (i : Int) - f < n) by omega)]
        simp
    · rw [if_pos (by omega), decide_eq_false (show ¬ (0 ≤ (i : Int) - f ∧ (i : Int) - f < n) by omega), Nat.zero_testBit, Bool.false_and]
  · rw [if_neg hc, decide_eq_false (show ¬ (0 ≤ (i : Int) - f ∧ (i : Int) - f < n) by omega), Bool.false_and]
theorem lyH_lt (f n : Int) (x : Nat) : lyH f n x < 18446744073709551616 := dwH_lt _ _ _ (Nat.mod_lt _ (by decide)) (by decide)
theorem lyL_lt (f n : Int) (x : Nat) : lyL f n x < 18446744073709551616 := dwL_lt _ _ _ (Nat.mod_lt _ (by decide)) (by decide)
theorem lay_part {h l : Nat} (h0 : h < 18446744073709551616) (h1 : l < 18446744073709551616) (f n : Int) (hf : 0 ≤ f ∧ f ≤ 128) (hn : 0 ≤ n ∧ n ≤ 64) (i : Nat) (hi : i < 128) :
    bt (lyH f n (ptN h l f n)) (lyL f n (ptN h l f n)) i = (decide (f ≤ (i : Int) ∧ (i : Int) < f + n) && bt h l i) := by
  rw [bt_lay f n _ (by omega) hn i hi, tb_part h0 h1 f n (by omega) hn]
  by_cases hc : f ≤ (i : Int) ∧ (i : Int) < f + n
  · rw [decide_eq_true hc, decide_eq_true (show 0 ≤ (i : Int) - f ∧ (i : Int) - f < n by omega), decide_eq_true (by omega)]
    simp only [Bool.true_and]
    congr 1
    omega
  · rw [decide_eq_false hc, decide_eq_false (show ¬ (0 ≤ (i : Int) - f ∧ (i : Int) - f < n) by omega)]
    simp
theorem parts_all {h l : Nat} (h0 : h < 18446744073709551616) (h1 : l < 18446744073709551616) (a : Int) (ha : 0 ≤ a ∧ a ≤ 63) :
    (lyH 0 a (ptN h l 0 a) ||| lyH a 64 (ptN h l a 64)) ||| lyH (a + 64) 64 (ptN h l (a + 64) 64) = h ∧ (lyL 0 a (ptN h l 0 a) ||| lyL a 64 (ptN h l a 64)) ||| lyL (a + 64) 64 (ptN h l (a + 64) 64) = l :=
  bt_eq (or_lt (or_lt (lyH_lt _ _ _) (lyH_lt _ _ _)) (lyH_lt _ _ _)) (or_lt (or_lt (lyL_lt _ _ _) (lyL_lt _ _ _)) (lyL_lt _ _ _)) h0 h1 fun i hi => by
    rw [bt_or, bt_or, lay_part h0 h1 0 a (by omega) (by omega) i hi, lay_part h0 h1 a 64 (by omega) (by omega) i hi, lay_part h0 h1 (a + 64) 64 (by omega) (by omega) i hi]
    by_cases e1 : (i : Int) < a
    · rw [decide_eq_true (show 0 ≤ (i : Int) ∧ (i : Int) < 0 + a by omega), decide_eq_false (show ¬ (a ≤ (i : Int) ∧ (i : Int) < a + 64) by omega), decide_eq_false (show ¬ (a + 64 ≤ (i : Int) ∧ (i : Int) < a + 64 + 64) by omega)]
      simp
    · by_cases e2 : (i : Int) < a + 64
      · rw [decide_eq_false (show ¬ (0 ≤ (i : Int) ∧ (i : Int) < 0 + a) by omega), decide_eq_true (show a ≤ (i : Int) ∧ (i : Int) < a + 64 by omega), decide_eq_false (show ¬ (a + 64 ≤ (i : Int) ∧ (i : Int) < a + 64 + 64) by omega)]
        simp
      · rw [decide_eq_false (show ¬ (0 ≤ (i : Int) ∧ (i : Int) < 0 + a) by omega), decide_eq_false (show ¬ (a ≤ (i : Int) ∧ (i : Int) < a + 64) by omega), decide_eq_true (show a + 64 ≤ (i : Int) ∧ (i : Int) < a + 64 + 64 by omega)]
        simp

end Go.Proofs.YtlkhjffbhcjdfaaDoor
