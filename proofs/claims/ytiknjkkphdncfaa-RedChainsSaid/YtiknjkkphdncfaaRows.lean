/-
  No cell of these rows narrows 'for every input' (looked for: loops, veiled, ifaces, maps, wideKeys, modest, calm, conditions, laid).
  DERIVED. THE GIVEN ROWS OF THIS SEAT. 3 by the template 'for every input the law returns true; each argument reads behind the call as it read before'; 0 by the template 'total and deterministic' (their statements: YtiknjkkphdncfaaTotals.lean).
  GIVEN WITH THE SEED: the statements are not yours to turn. If you find one false, say at which input.
  Laid BY PROGRAM, IN A SANDBOX (cutbox-rows.mjs): the forced cells as the released guide's own fill.sh prints them over the translation 285e54bd8db310e9… (all of the seat's roots in one cut). By AI agents, Wed Nov 11 2026. No macro, syntax, notation, axiom, sorry.
-/
import Derived.Test.YtiknjkkphdncfaaChecked
import GoSem.Claim
import GoSem.ClaimJoined
import GoSem.ClaimMapViews
import Derived.JoinedTies
import Derived.KernelRfl
namespace Go.Proofs.Ytiknjkkphdncfaa
/- THE CELL 'sum', in the pinned program and in every row, IS THE sha256 OF THE DUMP (.gsa) THAT YtiknjkkphdncfaaProg.lean LOADS. Nothing in Lean hashes anything: it is a label: what it is worth is what the hold of that sum in a sandbox is worth. -/
noncomputable def Try.pinned : Pinned := { name := "ytiknjkkphdncfaa", sum := "285e54bd8db310e942ceb8c90a2e9e6e2a29a1bdf3590c87c93970f9f2b44f5d", checked := Try.checked }
namespace Rows
def none {H : Type} : Left H := { results := [], args := [] }

/-- 'confluxlaw06.RedWrites': WHATEVER THE INPUT: true; the input reads as it did. -/
def redWritesSpec : ChangeSpec := { name := "redWrites", fn := fun _ => fun
  | [d] => { results := [.lit (.bool true)], args := [d] }
  | _ => none }
def redWritesRow : OpenClaim := { program := "ytiknjkkphdncfaa", sum := "285e54bd8db310e942ceb8c90a2e9e6e2a29a1bdf3590c87c93970f9f2b44f5d", func := "conflux/confluxlaw06.RedWrites", spec := "redWrites", unfollowed := true, recurses := true, apart := false }
def RedWritesSaid : Prop := redWritesRow.holds Try.pinned (OpenSpec.ofChange redWritesSpec)

/-- ITS FALSE NEIGHBOUR: 'it returns false'. Refute it at one input. -/
def redWritesWrong : ChangeSpec := { name := "redWrites", fn := fun _ => fun
  | [d] => { results := [.lit (.bool false)], args := [d] }
  | _ => none }
def RedWritesWrongFalsely : Prop := redWritesRow.holds Try.pinned (OpenSpec.ofChange redWritesWrong)

/-- 'confluxlaw06.RedBack': WHATEVER THE INPUT: true; the input reads as it did. -/
def redBackSpec : ChangeSpec := { name := "redBack", fn := fun _ => fun
  | [d1, d2, d3, d4] => { results := [.lit (.bool true)], args := [d1, d2, d3, d4] }
  | _ => none }
def redBackRow : OpenClaim := { program := "ytiknjkkphdncfaa", sum := "285e54bd8db310e942ceb8c90a2e9e6e2a29a1bdf3590c87c93970f9f2b44f5d", func := "conflux/confluxlaw06.RedBack", spec := "redBack", unfollowed := true, recurses := true, apart := false }
def RedBackSaid : Prop := redBackRow.holds Try.pinned (OpenSpec.ofChange redBackSpec)

/-- ITS FALSE NEIGHBOUR: 'it returns false'. Refute it at one input. -/
def redBackWrong : ChangeSpec := { name := "redBack", fn := fun _ => fun
  | [d1, d2, d3, d4] => { results := [.lit (.bool false)], args := [d1, d2, d3, d4] }
  | _ => none }
def RedBackWrongFalsely : Prop := redBackRow.holds Try.pinned (OpenSpec.ofChange redBackWrong)

/-- 'confluxlaw06.RedChains': WHATEVER THE INPUT: true; the input reads as it did. -/
def redChainsSpec : ChangeSpec := { name := "redChains", fn := fun _ => fun
  | [d1, d2] => { results := [.lit (.bool true)], args := [d1, d2] }
  | _ => none }
def redChainsRow : OpenClaim := { program := "ytiknjkkphdncfaa", sum := "285e54bd8db310e942ceb8c90a2e9e6e2a29a1bdf3590c87c93970f9f2b44f5d", func := "conflux/confluxlaw06.RedChains", spec := "redChains", unfollowed := true, recurses := true, apart := false }
def RedChainsSaid : Prop := redChainsRow.holds Try.pinned (OpenSpec.ofChange redChainsSpec)

/-- ITS FALSE NEIGHBOUR: 'it returns false'. Refute it at one input. -/
def redChainsWrong : ChangeSpec := { name := "redChains", fn := fun _ => fun
  | [d1, d2] => { results := [.lit (.bool false)], args := [d1, d2] }
  | _ => none }
def RedChainsWrongFalsely : Prop := redChainsRow.holds Try.pinned (OpenSpec.ofChange redChainsWrong)

/- THE SECOND FORM. 'bulk': how many values and letters a reading holds, each counted each time it is reached (what is shared counts as often as it is met; a slice's spare places count too). A statement '..UptoSaid' is the law's where the arguments, and the package variables that the reading takes, are together of bulk at most 1048576: NARROWER than '..Said'. Prove '..Said' where nothing that the law and all that it calls make is longer than what came in: it says more and counts as full. Else prove '..UptoSaid'. A law counts once. -/
mutual
def uptoBulk {H : Type} : DataW H → Nat
  | .lit (.string bytes) => bytes.length + 1
  | .lit _ => 1
  | .nil => 1
  | .ptr d => uptoBulk d + 1
  | .slice elems spare => uptoBulkAll elems + uptoBulkAll spare + 1
  | .agg parts => uptoBulkAll parts + 1
  | .iface _ d => uptoBulk d + 1
  | .map entries => uptoBulkEntries entries + 1
  | .held _ => 1
def uptoBulkAll {H : Type} : List (DataW H) → Nat
  | [] => 0
  | d :: r => uptoBulk d + uptoBulkAll r
def uptoBulkEntries {H : Type} : List (Lit × DataW H) → Nat
  | [] => 0
  | x :: r => uptoBulkEntry x + uptoBulkEntries r
def uptoBulkEntry {H : Type} : Lit × DataW H → Nat
  | (.string bytes, d) => bytes.length + uptoBulk d + 1
  | (_, d) => uptoBulk d + 1
 end
def uptoSmall : (H : Type) → List (DataW H) → Bool := fun _ ds => decide (uptoBulkAll ds ≤ 1048576)
def OpenSpec.upto (s : _root_.Go.ChangeSpec) : _root_.Go.OpenSpec := { _root_.Go.OpenSpec.ofChange s with cond := some uptoSmall }

/-- 'confluxlaw06.RedWrites', WHERE WHAT IT READS IS OF BULK AT MOST 1048576: true; the input reads as it did. -/
def redWritesUptoRow : OpenClaim := { program := "ytiknjkkphdncfaa", sum := "285e54bd8db310e942ceb8c90a2e9e6e2a29a1bdf3590c87c93970f9f2b44f5d", func := "conflux/confluxlaw06.RedWrites", spec := "redWrites", unfollowed := true, recurses := true, apart := false, narrowed := true }
def RedWritesUptoSaid : Prop := redWritesUptoRow.holds Try.pinned (OpenSpec.upto redWritesSpec)

/-- 'confluxlaw06.RedBack', WHERE WHAT IT READS IS OF BULK AT MOST 1048576: true; the input reads as it did. -/
def redBackUptoRow : OpenClaim := { program := "ytiknjkkphdncfaa", sum := "285e54bd8db310e942ceb8c90a2e9e6e2a29a1bdf3590c87c93970f9f2b44f5d", func := "conflux/confluxlaw06.RedBack", spec := "redBack", unfollowed := true, recurses := true, apart := false, narrowed := true }
def RedBackUptoSaid : Prop := redBackUptoRow.holds Try.pinned (OpenSpec.upto redBackSpec)

/-- 'confluxlaw06.RedChains', WHERE WHAT IT READS IS OF BULK AT MOST 1048576: true; the input reads as it did. -/
def redChainsUptoRow : OpenClaim := { program := "ytiknjkkphdncfaa", sum := "285e54bd8db310e942ceb8c90a2e9e6e2a29a1bdf3590c87c93970f9f2b44f5d", func := "conflux/confluxlaw06.RedChains", spec := "redChains", unfollowed := true, recurses := true, apart := false, narrowed := true }
def RedChainsUptoSaid : Prop := redChainsUptoRow.holds Try.pinned (OpenSpec.upto redChainsSpec)

end Rows
end Go.Proofs.Ytiknjkkphdncfaa
