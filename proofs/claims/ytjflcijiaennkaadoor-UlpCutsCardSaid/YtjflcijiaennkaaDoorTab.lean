/-
  THE TABLE OF TRAILING ZEROS in memory.
-/
import Derived.Test.YtjflcijiaennkaaDoorMsk
import Derived.Test.YtjflcijiaennkaaDoorBa
set_option linter.unusedVariables false
set_option linter.unusedSimpArgs false
namespace Go.Proofs.YtjflcijiaennkaaDoor
open Go.RowKit

def Tabs (w : World) : Prop := TabAt 0 Lib.deBruijn64tab w ∧ 0 < w.heap.size
theorem Tabs.frm {S : List Nat} {w w' : World} (h : Tabs w) (hf : Frm S w w') (hs : 0 ∉ S) : Tabs w' := by
  refine ⟨fun j hj => ?_, Nat.lt_of_lt_of_le h.2 hf.size⟩
  rw [hf.cell h.2 hs]
  exact h.1 j hj

end Go.Proofs.YtjflcijiaennkaaDoor
