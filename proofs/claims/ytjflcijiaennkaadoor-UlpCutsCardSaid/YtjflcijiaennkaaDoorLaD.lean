/-
  WHAT THE ROW's CONDITION ON THE LISTED VARIABLE GIVES THE WALKS: the table's cells; the door's own heap meets it.
-/
import Derived.Test.YtjflcijiaennkaaDoorTab
import Derived.Test.YtjflcijiaennkaaDoorRows
import Derived.LaidSub
import Derived.Lib.LaidTab
import Derived.MakeChecks
import Derived.LaidMore
import Derived.ProofKit
set_option linter.unusedVariables false
set_option linter.unusedSimpArgs false
namespace Go.Proofs.YtjflcijiaennkaaDoor
open Go.RowKit

def laidL : List (String × DataW Unit) := [("math/bits.deBruijn64tab", Rows.laid_math_bits_deBruijn64tab)]

/-- The door's own heap meets the condition. -/
theorem door_met (os : Os) (args : Array Value) : laidMetH Tryd.prog laidL ((World.doorLaid Tryd.prog 400 os).forCall (fun _ _ => 0) ⟨#[], args, []⟩).memory :=
  laidMetH_of_parts3 (fuel := 8) (laidMet_of_run' 8 (by kernel_rfl) (by kernel_rfl)) (by kernel_rfl) (by kernel_rfl)

theorem g64 : Tryd.prog.globalNamed "math/bits.deBruijn64tab" = some 0 := by kernel_rfl
theorem tabs_of {W : World} (h : laidMetH Tryd.prog laidL W) : Tabs W := by
  rw [MakeChecks.laidMetH_plain _ _ _ (by kernel_rfl)] at h
  have h1 : laidMet Tryd.prog [("math/bits.deBruijn64tab", Lib.tabData .u8 (Lib.deBruijn64tab.map fun x : Nat => (x : Int)))] W := h
  have t1 := Lib.tabIs_of_head g64 (t := 124) (e := 5) (n := 64) (by kernel_rfl) Tryd.underlying124 Tryd.underlying5 (by kernel_rfl) (by kernel_rfl) h1
  refine ⟨fun j hj => ?_, ?_⟩
  · have := t1.cell g64 j (by simpa using hj)
    rw [this]
    congr 2
    simp [List.getD, hj]
  · have := t1.cell g64 0 (by decide)
    exact World.block_lt_of_cell? _ _ this

theorem u64_nat {x : Int} (h : (Lit.int .u64 x).wf = true) : ∃ k : Nat, x = (k : Int) ∧ k < 18446744073709551616 := by
  have h2 : 0 ≤ x ∧ x ≤ 18446744073709551615 := by simpa [Lit.wf, IntKind.min, IntKind.max, IntKind.bits, IntKind.signed] using h
  exact ⟨x.toNat, by omega, by omega⟩
theorem u16_nat {x : Int} (h : (Lit.int .u16 x).wf = true) : ∃ k : Nat, x = (k : Int) ∧ k < 65536 := by
  have h2 : 0 ≤ x ∧ x ≤ 65535 := by simpa [Lit.wf, IntKind.min, IntKind.max, IntKind.bits, IntKind.signed] using h
  exact ⟨x.toNat, by omega, by omega⟩
theorem u16_in {x : Int} (h : (Lit.int .u16 x).wf = true) : 0 ≤ x ∧ x ≤ 65535 := by
  simpa [Lit.wf, IntKind.min, IntKind.max, IntKind.bits, IntKind.signed] using h
theorem i64_in {x : Int} (h : (Lit.int .i64 x).wf = true) : -9223372036854775808 ≤ x ∧ x ≤ 9223372036854775807 := by
  simpa [Lit.wf, IntKind.min, IntKind.max, IntKind.bits, IntKind.signed] using h

end Go.Proofs.YtjflcijiaennkaaDoor
