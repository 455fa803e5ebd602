/-
  THE OPERATIONS ON NUMBERS OF 64 BITS, over the natural numbers. No program is named here.
-/
import Derived.Test.YtibccecmicndaaaDoorK
import Derived.IntWalk
set_option linter.unusedVariables false
set_option linter.unusedSimpArgs false
namespace Go.Proofs.YtibccecmicndaaaDoor
open Go.RowKit

theorem bv_nat {a : Nat} (ha : a < 18446744073709551616) : (BitVec.ofInt 64 (a : Int)).toNat = a := by
  rw [BitVec.toNat_ofInt]
  have : ((a : Int) % ((2 ^ 64 : Nat) : Int)) = (a : Int) := Int.emod_eq_of_lt (Int.natCast_nonneg _) (by omega)
  rw [this]
  exact Int.toNat_natCast a
theorem u_wrap {n : Nat} (h : n < 18446744073709551616) : IntKind.u64.wrap (n : Int) = (n : Int) := by
  rw [IntKind.wrap_u64]
  omega
theorem u_wrap_mod (n : Nat) : IntKind.u64.wrap (n : Int) = ((n % 18446744073709551616 : Nat) : Int) := by
  rw [IntKind.wrap_u64]
  omega
theorem u_and {a b : Nat} (ha : a < 18446744073709551616) (hb : b < 18446744073709551616) : bits .and .u64 (a : Int) (b : Int) = ((a &&& b : Nat) : Int) := by
  have h : bits .and .u64 (a : Int) (b : Int) = IntKind.u64.wrap ((BitVec.ofInt 64 (a : Int) &&& BitVec.ofInt 64 (b : Int)).toNat : Int) := rfl
  rw [h, BitVec.toNat_and, bv_nat ha, bv_nat hb]
  exact u_wrap (Nat.lt_of_le_of_lt Nat.and_le_left ha)
theorem u_or {a b : Nat} (ha : a < 18446744073709551616) (hb : b < 18446744073709551616) : bits .or .u64 (a : Int) (b : Int) = ((a ||| b : Nat) : Int) := by
  have h : bits .or .u64 (a : Int) (b : Int) = IntKind.u64.wrap ((BitVec.ofInt 64 (a : Int) ||| BitVec.ofInt 64 (b : Int)).toNat : Int) := rfl
  rw [h, BitVec.toNat_or, bv_nat ha, bv_nat hb]
  exact u_wrap (Nat.or_lt_two_pow (n := 64) ha hb)
theorem u_xor {a b : Nat} (ha : a < 18446744073709551616) (hb : b < 18446744073709551616) : bits .xor .u64 (a : Int) (b : Int) = ((a ^^^ b : Nat) : Int) := by
  have h : bits .xor .u64 (a : Int) (b : Int) = IntKind.u64.wrap ((BitVec.ofInt 64 (a : Int) ^^^ BitVec.ofInt 64 (b : Int)).toNat : Int) := rfl
  rw [h, BitVec.toNat_xor, bv_nat ha, bv_nat hb]
  exact u_wrap (Nat.xor_lt_two_pow (n := 64) ha hb)
theorem u_andNot {a b : Nat} (ha : a < 18446744073709551616) (hb : b < 18446744073709551616) : bits .andNot .u64 (a : Int) (b : Int) = ((a &&& (18446744073709551615 - b) : Nat) : Int) := by
  have h : bits .andNot .u64 (a : Int) (b : Int) = IntKind.u64.wrap ((BitVec.ofInt 64 (a : Int) &&& ~~~ BitVec.ofInt 64 (b : Int)).toNat : Int) := rfl
  rw [h, BitVec.toNat_and, BitVec.toNat_not, bv_nat ha, bv_nat hb]
  exact u_wrap (Nat.lt_of_le_of_lt Nat.and_le_left ha)
theorem c_div (h k : Nat) : (h : Int) / 2 ^ k = ((h / 2 ^ k : Nat) : Int) := by
  rw [Int.natCast_ediv, Int.natCast_pow]
  rfl
theorem c_shl (h k : Nat) : IntKind.u64.wrap ((h : Int) * 2 ^ k) = ((h * 2 ^ k % 18446744073709551616 : Nat) : Int) := by
  rw [← u_wrap_mod, Int.natCast_mul, Int.natCast_pow]
  rfl
theorem mod_and (X M : Nat) (hM : M < 18446744073709551616) : (X % 18446744073709551616) &&& M = X &&& M := by
  apply Nat.eq_of_testBit_eq
  intro i
  rw [Nat.testBit_and, Nat.testBit_and, show (18446744073709551616 : Nat) = 2 ^ 64 from rfl, Nat.testBit_mod_two_pow]
  by_cases hi : i < 64
  · simp [hi]
  · have : M.testBit i = false := Nat.testBit_lt_two_pow (Nat.lt_of_lt_of_le hM (show 2 ^ 64 ≤ 2 ^ i from Nat.pow_le_pow_right (by decide) (by omega)))
    simp [this]
theorem i_and127 {u : Nat} (hu : u < 18446744073709551616) : bits .and .i64 (IntKind.i64.wrap (u : Int)) 127 = ((u % 128 : Nat) : Int) := by
  have h : bits .and .i64 (IntKind.i64.wrap (u : Int)) 127 = IntKind.i64.wrap ((BitVec.ofInt 64 (IntKind.i64.wrap (u : Int)) &&& BitVec.ofInt 64 127).toNat : Int) := rfl
  have e : (BitVec.ofInt 64 (IntKind.i64.wrap (u : Int))).toNat = u := by
    rw [BitVec.toNat_ofInt, IntWalk.i64_left]
    unfold wrap64
    omega
  have e2 : (BitVec.ofInt 64 (127 : Int)).toNat = 2 ^ 7 - 1 := by decide
  rw [h, BitVec.toNat_and, e, e2, Nat.and_two_pow_sub_one_eq_mod]
  exact IntWalk.i64_in _ (by omega)

end Go.Proofs.YtibccecmicndaaaDoor
