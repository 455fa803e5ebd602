/-
  BITS OF INTEGERS: 'and' with a number that is no less than 0.
-/
import Derived.Test.YtjflcijiaennkaaDoorBa
set_option linter.unusedVariables false
set_option linter.unusedSimpArgs false
namespace Go.Proofs.YtjflcijiaennkaaDoor
open Go.RowKit

theorem and_i64 (m c : Int) (c0 : 0 ≤ c) (c1 : c ≤ 4611686018427387903) : 0 ≤ bits .and .i64 m c ∧ bits .and .i64 m c ≤ c := by
  have h : bits .and .i64 m c = IntKind.i64.wrap ((BitVec.ofInt 64 m &&& BitVec.ofInt 64 c).toNat : Int) := rfl
  have h1 : (BitVec.ofInt 64 c).toNat = c.toNat := by
    rw [BitVec.toNat_ofInt]
    have : (c % ((2 ^ 64 : Nat) : Int)) = c := Int.emod_eq_of_lt c0 (by omega)
    rw [this]
  have h2 : (BitVec.ofInt 64 m &&& BitVec.ofInt 64 c).toNat ≤ c.toNat := by
    rw [BitVec.toNat_and, h1]
    exact Nat.and_le_right
  have h3 : IntKind.i64.wrap ((BitVec.ofInt 64 m &&& BitVec.ofInt 64 c).toNat : Int) = ((BitVec.ofInt 64 m &&& BitVec.ofInt 64 c).toNat : Int) := IntWalk.i64_in _ (by omega)
  rw [h, h3]
  omega

end Go.Proofs.YtjflcijiaennkaaDoor
