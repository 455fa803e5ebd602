/-
  mask.Down in one; the mask as one number; its bits.
-/
import Derived.Test.YtibccecmicndaaaDoorMaD
set_option linter.unusedVariables false
set_option linter.unusedSimpArgs false
namespace Go.Proofs.YtibccecmicndaaaDoor
open Go.RowKit

def dwH (h l : Nat) (n : Int) : Nat :=
  if 128 ≤ n ∨ n ≤ -128 then 0 else if 64 ≤ n then 0 else if 0 ≤ n then h / 2 ^ n.toNat else if n ≤ -64 then l * 2 ^ (-n - 64).toNat % 18446744073709551616 else (h * 2 ^ (-n).toNat % 18446744073709551616) ||| l / 2 ^ (64 + n).toNat
def dwL (h l : Nat) (n : Int) : Nat :=
  if 128 ≤ n ∨ n ≤ -128 then 0 else if 64 ≤ n then h / 2 ^ (n - 64).toNat else if 0 ≤ n then l / 2 ^ n.toNat ||| (h * 2 ^ (64 - n).toNat % 18446744073709551616) else if n ≤ -64 then 0 else l * 2 ^ (-n).toNat % 18446744073709551616
theorem down_c (h l : Nat) (n : Int) (w : World) (h0 : h < 18446744073709551616) (h1 : l < 18446744073709551616) :
    Calls Tryd.prog 27 #[mV h l, .int .i64 n] w fun e w' => e = .returned (mV (dwH h l n) (dwL h l n)) ∧ Frm [] w w' := by
  unfold dwH dwL
  by_cases ha : 128 ≤ n ∨ n ≤ -128
  · rw [if_pos ha, if_pos ha]
    exact downA h l n w h0 h1 ha
  rw [if_neg ha, if_neg ha]
  by_cases hb : 64 ≤ n
  · rw [if_pos hb, if_pos hb]
    exact downB h l n w h0 h1 hb (by omega)
  rw [if_neg hb, if_neg hb]
  by_cases hc : 0 ≤ n
  · rw [if_pos hc, if_pos hc]
    exact downC h l n w h0 h1 hc (by omega)
  rw [if_neg hc, if_neg hc]
  by_cases hd : n ≤ -64
  · rw [if_pos hd, if_pos hd]
    exact downD h l n w h0 h1 (by omega) hd
  · rw [if_neg hd, if_neg hd]
    exact downE h l n w h0 h1 (by omega) (by omega)

/-- The bits of a mask, the last one number 0. -/
def pb (h l j : Nat) : Bool := if j < 64 then l.testBit j else if j < 128 then h.testBit (j - 64) else false
theorem tb_none {x j : Nat} (hx : x < 18446744073709551616) (hj : 64 ≤ j) : x.testBit j = false :=
  Nat.testBit_lt_two_pow (Nat.lt_of_lt_of_le hx (show 2 ^ 64 ≤ 2 ^ j from Nat.pow_le_pow_right (by decide) hj))
theorem tb_div (x k j : Nat) : (x / 2 ^ k).testBit j = x.testBit (j + k) := Nat.testBit_div_two_pow x j
theorem tb_mod (x j : Nat) : (x % 18446744073709551616).testBit j = (decide (j < 64) && x.testBit j) := by
  rw [show (18446744073709551616 : Nat) = 2 ^ 64 from rfl, Nat.testBit_mod_two_pow]
theorem tb_mul (x k j : Nat) : (x * 2 ^ k).testBit j = (decide (k ≤ j) && x.testBit (j - k)) := by
  rw [Nat.mul_comm, Nat.testBit_two_pow_mul]
theorem pb_eq {h l h' l' : Nat} (a : h < 18446744073709551616) (b : l < 18446744073709551616) (c : h' < 18446744073709551616) (d : l' < 18446744073709551616) (e : ∀ j, j < 128 → pb h l j = pb h' l' j) : h = h' ∧ l = l' := by
  constructor
  · apply Nat.eq_of_testBit_eq
    intro i
    by_cases hi : i < 64
    · have := e (i + 64) (by omega)
      unfold pb at this
      rw [if_neg (by omega), if_pos (by omega), if_neg (by omega), if_pos (by omega)] at this
      rw [show i + 64 - 64 = i by omega] at this
      exact this
    · rw [tb_none a (by omega), tb_none c (by omega)]
  · apply Nat.eq_of_testBit_eq
    intro i
    by_cases hi : i < 64
    · have := e i (by omega)
      unfold pb at this
      rw [if_pos hi, if_pos hi] at this
      exact this
    · rw [tb_none b (by omega), tb_none d (by omega)]
theorem dwH_lt (h l : Nat) (n : Int) (h0 : h < 18446744073709551616) (h1 : l < 18446744073709551616) : dwH h l n < 18446744073709551616 := by
  unfold dwH
  split
  · decide
  split
  · decide
  split
  · exact Nat.lt_of_le_of_lt (Nat.div_le_self _ _) h0
  split
  · omega
  · exact Nat.or_lt_two_pow (n := 64) (show _ < 2 ^ 64 by omega) (Nat.lt_of_le_of_lt (Nat.div_le_self _ _) h1)
theorem dwL_lt (h l : Nat) (n : Int) (h0 : h < 18446744073709551616) (h1 : l < 18446744073709551616) : dwL h l n < 18446744073709551616 := by
  unfold dwL
  split
  · decide
  split
  · exact Nat.lt_of_le_of_lt (Nat.div_le_self _ _) h0
  split
  · exact Nat.or_lt_two_pow (n := 64) (Nat.lt_of_le_of_lt (Nat.div_le_self _ _) h1) (show _ < 2 ^ 64 by omega)
  split
  · decide
  · omega
/-- Down moves the bits. -/
theorem pb_down {h l : Nat} (h0 : h < 18446744073709551616) (h1 : l < 18446744073709551616) (n : Int) (j : Nat) (hj : j < 128) :
    pb (dwH h l n) (dwL h l n) j = if 0 ≤ (j : Int) + n ∧ (j : Int) + n < 128 then pb h l ((j : Int) + n).toNat else false := by
  unfold dwH dwL
  by_cases ha : 128 ≤ n ∨ n ≤ -128
  · rw [if_pos ha, if_pos ha, if_neg (by omega)]
    unfold pb
    split <;> simp
  rw [if_neg ha, if_neg ha]
  by_cases hb : 64 ≤ n
  · rw [if_pos hb, if_pos hb]
    obtain ⟨k, hk⟩ : ∃ k : Nat, n = 64 + (k : Int) := ⟨(n - 64).toNat, by omega⟩
    subst hk
    rw [show (64 + (k : Int) - 64).toNat = k by omega]
    unfold pb
    by_cases h64 : j < 64
    · rw [if_pos h64, tb_div]
      by_cases hr : j + k < 64
      · rw [if_pos (by omega), if_neg (by omega), if_pos (by omega), show ((j : Int) + (64 + (k : Int))).toNat - 64 = j + k by omega]
      · rw [if_neg (by omega), tb_none h0 (by omega)]
    · rw [if_neg h64, if_pos (by omega), if_neg (by omega)]
      simp
  rw [if_neg hb, if_neg hb]
  by_cases hc : 0 ≤ n
  · rw [if_pos hc, if_pos hc]
    obtain ⟨k, hk⟩ : ∃ k : Nat, n = (k : Int) := ⟨n.toNat, by omega⟩
    subst hk
    rw [show ((k : Int)).toNat = k by omega, show (64 - (k : Int)).toNat = 64 - k by omega]
    unfold pb
    by_cases h64 : j < 64
    · rw [if_pos h64, Nat.testBit_or, tb_div, tb_mod, tb_mul, if_pos (by omega), show ((j : Int) + (k : Int)).toNat = j + k by omega]
      by_cases hr : j + k < 64
      · rw [if_pos hr]
        have : decide (64 - k ≤ j) = false := by rw [decide_eq_false_iff_not]; omega
        rw [this]
        simp
      · rw [if_neg hr, if_pos (by omega), tb_none h1 (by omega)]
        have e1 : decide (64 - k ≤ j) = true := by rw [decide_eq_true_iff]; omega
        have e2 : decide (j < 64) = true := decide_eq_true h64
        rw [e1, e2, show j - (64 - k) = j + k - 64 by omega]
        simp
    · rw [if_neg h64, if_pos (by omega), tb_div]
      by_cases hr : j + k < 128
      · rw [if_pos (by omega), show ((j : Int) + (k : Int)).toNat = j + k by omega, if_neg (by omega), if_pos hr, show j - 64 + k = j + k - 64 by omega]
      · rw [if_neg (by omega), tb_none h0 (by omega)]
  rw [if_neg hc, if_neg hc]
  by_cases hd : n ≤ -64
  · rw [if_pos hd, if_pos hd]
    obtain ⟨k, hk⟩ : ∃ k : Nat, n = -64 - (k : Int) := ⟨(-n - 64).toNat, by omega⟩
    subst hk
    rw [show (-(-64 - (k : Int)) - 64).toNat = k by omega]
    unfold pb
    by_cases h64 : j < 64
    · rw [if_pos h64, if_neg (by omega)]
      simp
    · rw [if_neg h64, if_pos hj, tb_mod, tb_mul]
      have e2 : decide (j - 64 < 64) = true := decide_eq_true (by omega)
      rw [e2]
      by_cases hr : 64 + k ≤ j
      · have e1 : decide (k ≤ j - 64) = true := decide_eq_true (by omega)
        rw [e1, if_pos (by omega), if_pos (by omega), show ((j : Int) + (-64 - (k : Int))).toNat = j - 64 - k by omega]
        simp
      · have e1 : decide (k ≤ j - 64) = false := decide_eq_false (by omega)
        rw [e1, if_neg (by omega)]
        simp
  · rw [if_neg hd, if_neg hd]
    obtain ⟨k, hk⟩ : ∃ k : Nat, n = -(k : Int) := ⟨(-n).toNat, by omega⟩
    subst hk
    rw [show (-(-(k : Int))).toNat = k by omega, show (64 + -(k : Int)).toNat = 64 - k by omega]
    unfold pb
    by_cases h64 : j < 64
    · rw [if_pos h64, tb_mod, tb_mul]
      have e2 : decide (j < 64) = true := decide_eq_true h64
      rw [e2]
      by_cases hr : k ≤ j
      · have e1 : decide (k ≤ j) = true := decide_eq_true hr
        rw [e1, if_pos (by omega), show ((j : Int) + -(k : Int)).toNat = j - k by omega, if_pos (by omega)]
        simp
      · have e1 : decide (k ≤ j) = false := decide_eq_false hr
        rw [e1, if_neg (by omega)]
        simp
    · rw [if_neg h64, if_pos hj, Nat.testBit_or, tb_mod, tb_mul, tb_div]
      have e2 : decide (j - 64 < 64) = true := decide_eq_true (by omega)
      rw [e2, if_pos (by omega), show ((j : Int) + -(k : Int)).toNat = j - k by omega]
      by_cases hr : k ≤ j - 64
      · have e1 : decide (k ≤ j - 64) = true := decide_eq_true hr
        rw [e1, if_neg (by omega), if_pos (by omega), tb_none h1 (by omega), show j - 64 - k = j - k - 64 by omega]
        simp
      · have e1 : decide (k ≤ j - 64) = false := decide_eq_false hr
        rw [e1, if_pos (by omega), show j - 64 + (64 - k) = j - k by omega]
        simp

end Go.Proofs.YtibccecmicndaaaDoor
