/-
  No cell of these rows narrows 'for every input' (looked for: loops, veiled, ifaces, maps, wideKeys, modest, calm, conditions, laid).
  DERIVED. THE GIVEN ROWS OF THIS SEAT. 4 by the template 'for every input the law returns true; each argument reads behind the call as it read before'; 0 by the template 'total and deterministic' (their statements: YtbodmoefogkciaaTotals.lean).
  GIVEN WITH THE SEED: the statements are not yours to turn. If you find one false, say at which input.
  Laid BY PROGRAM, IN A SANDBOX (cutbox-rows.mjs): the forced cells as the released guide's own fill.sh prints them over the translation 52bb89601ab4d934… (all of the seat's roots in one cut). By AI agents, Wed Nov 11 2026. No macro, syntax, notation, axiom, sorry.
-/
import Derived.Test.YtbodmoefogkciaaChecked
import GoSem.Claim
import GoSem.ClaimJoined
import GoSem.ClaimMapViews
import Derived.JoinedTies
import Derived.KernelRfl
namespace Go.Proofs.Ytbodmoefogkciaa
/- THE CELL 'sum', in the pinned program and in every row, IS THE sha256 OF THE DUMP (.gsa) THAT YtbodmoefogkciaaProg.lean LOADS. Nothing in Lean hashes anything: it is a label: what it is worth is what the hold of that sum in a sandbox is worth. -/
noncomputable def Try.pinned : Pinned := { name := "ytbodmoefogkciaa", sum := "52bb89601ab4d934751ee5244b07f3ceb927899a988da397b1b1a3e9da1d4c00", checked := Try.checked }
namespace Rows
def none {H : Type} : Left H := { results := [], args := [] }

/-- 'confluxlaw08.ReportPlays': WHATEVER THE INPUT: true; the input reads as it did. -/
def reportPlaysSpec : ChangeSpec := { name := "reportPlays", fn := fun _ => fun
  | [d1, d2] => { results := [.lit (.bool true)], args := [d1, d2] }
  | _ => none }
def reportPlaysRow : OpenClaim := { program := "ytbodmoefogkciaa", sum := "52bb89601ab4d934751ee5244b07f3ceb927899a988da397b1b1a3e9da1d4c00", func := "conflux/confluxlaw08.ReportPlays", spec := "reportPlays", apart := false }
def ReportPlaysSaid : Prop := reportPlaysRow.holds Try.pinned (OpenSpec.ofChange reportPlaysSpec)

/-- ITS FALSE NEIGHBOUR: 'it returns false'. Refute it at one input. -/
def reportPlaysWrong : ChangeSpec := { name := "reportPlays", fn := fun _ => fun
  | [d1, d2] => { results := [.lit (.bool false)], args := [d1, d2] }
  | _ => none }
def ReportPlaysWrongFalsely : Prop := reportPlaysRow.holds Try.pinned (OpenSpec.ofChange reportPlaysWrong)

/-- 'confluxlaw08.ReportClones': WHATEVER THE INPUT: true; the input reads as it did. -/
def reportClonesSpec : ChangeSpec := { name := "reportClones", fn := fun _ => fun
  | [d1, d2, d3] => { results := [.lit (.bool true)], args := [d1, d2, d3] }
  | _ => none }
def reportClonesRow : OpenClaim := { program := "ytbodmoefogkciaa", sum := "52bb89601ab4d934751ee5244b07f3ceb927899a988da397b1b1a3e9da1d4c00", func := "conflux/confluxlaw08.ReportClones", spec := "reportClones", apart := false }
def ReportClonesSaid : Prop := reportClonesRow.holds Try.pinned (OpenSpec.ofChange reportClonesSpec)

/-- ITS FALSE NEIGHBOUR: 'it returns false'. Refute it at one input. -/
def reportClonesWrong : ChangeSpec := { name := "reportClones", fn := fun _ => fun
  | [d1, d2, d3] => { results := [.lit (.bool false)], args := [d1, d2, d3] }
  | _ => none }
def ReportClonesWrongFalsely : Prop := reportClonesRow.holds Try.pinned (OpenSpec.ofChange reportClonesWrong)

/-- 'confluxlaw08.ReportLoses': WHATEVER THE INPUT: true; the input reads as it did. -/
def reportLosesSpec : ChangeSpec := { name := "reportLoses", fn := fun _ => fun
  | [d1, d2] => { results := [.lit (.bool true)], args := [d1, d2] }
  | _ => none }
def reportLosesRow : OpenClaim := { program := "ytbodmoefogkciaa", sum := "52bb89601ab4d934751ee5244b07f3ceb927899a988da397b1b1a3e9da1d4c00", func := "conflux/confluxlaw08.ReportLoses", spec := "reportLoses", apart := false }
def ReportLosesSaid : Prop := reportLosesRow.holds Try.pinned (OpenSpec.ofChange reportLosesSpec)

/-- ITS FALSE NEIGHBOUR: 'it returns false'. Refute it at one input. -/
def reportLosesWrong : ChangeSpec := { name := "reportLoses", fn := fun _ => fun
  | [d1, d2] => { results := [.lit (.bool false)], args := [d1, d2] }
  | _ => none }
def ReportLosesWrongFalsely : Prop := reportLosesRow.holds Try.pinned (OpenSpec.ofChange reportLosesWrong)

/-- 'confluxlaw08.ReportParts': WHATEVER THE INPUT: true; the input reads as it did. -/
def reportPartsSpec : ChangeSpec := { name := "reportParts", fn := fun _ => fun
  | [d1, d2, d3] => { results := [.lit (.bool true)], args := [d1, d2, d3] }
  | _ => none }
def reportPartsRow : OpenClaim := { program := "ytbodmoefogkciaa", sum := "52bb89601ab4d934751ee5244b07f3ceb927899a988da397b1b1a3e9da1d4c00", func := "conflux/confluxlaw08.ReportParts", spec := "reportParts", apart := false }
def ReportPartsSaid : Prop := reportPartsRow.holds Try.pinned (OpenSpec.ofChange reportPartsSpec)

/-- ITS FALSE NEIGHBOUR: 'it returns false'. Refute it at one input. -/
def reportPartsWrong : ChangeSpec := { name := "reportParts", fn := fun _ => fun
  | [d1, d2, d3] => { results := [.lit (.bool false)], args := [d1, d2, d3] }
  | _ => none }
def ReportPartsWrongFalsely : Prop := reportPartsRow.holds Try.pinned (OpenSpec.ofChange reportPartsWrong)

/- THE SECOND FORM. 'bulk': how many values and letters a reading holds, each counted each time it is reached (what is shared counts as often as it is met; a slice's spare places count too). A statement '..UptoSaid' is the law's where the arguments, and the package variables that the reading takes, are together of bulk at most 1048576: NARROWER than '..Said'. Prove '..Said' where nothing that the law and all that it calls make is longer than what came in: it says more and counts as full. Else prove '..UptoSaid'. A law counts once. -/
mutual
def uptoBulk {H : Type} : DataW H → Nat
  | .lit (.string bytes) => bytes.length + 1
  | .lit _ => 1
  | .nil => 1
  | .ptr d => uptoBulk d + 1
  | .slice elems spare => uptoBulkAll elems + uptoBulkAll spare + 1
  | .agg parts => uptoBulkAll parts + 1
  | .iface _ d => uptoBulk d + 1
  | .map entries => uptoBulkEntries entries + 1
  | .held _ => 1
def uptoBulkAll {H : Type} : List (DataW H) → Nat
  | [] => 0
  | d :: r => uptoBulk d + uptoBulkAll r
def uptoBulkEntries {H : Type} : List (Lit × DataW H) → Nat
  | [] => 0
  | x :: r => uptoBulkEntry x + uptoBulkEntries r
def uptoBulkEntry {H : Type} : Lit × DataW H → Nat
  | (.string bytes, d) => bytes.length + uptoBulk d + 1
  | (_, d) => uptoBulk d + 1
 end
def uptoSmall : (H : Type) → List (DataW H) → Bool := fun _ ds => decide (uptoBulkAll ds ≤ 1048576)
def OpenSpec.upto (s : _root_.Go.ChangeSpec) : _root_.Go.OpenSpec := { _root_.Go.OpenSpec.ofChange s with cond := some uptoSmall }

/-- 'confluxlaw08.ReportPlays', WHERE WHAT IT READS IS OF BULK AT MOST 1048576: true; the input reads as it did. -/
def reportPlaysUptoRow : OpenClaim := { program := "ytbodmoefogkciaa", sum := "52bb89601ab4d934751ee5244b07f3ceb927899a988da397b1b1a3e9da1d4c00", func := "conflux/confluxlaw08.ReportPlays", spec := "reportPlays", apart := false, narrowed := true }
def ReportPlaysUptoSaid : Prop := reportPlaysUptoRow.holds Try.pinned (OpenSpec.upto reportPlaysSpec)

/-- 'confluxlaw08.ReportClones', WHERE WHAT IT READS IS OF BULK AT MOST 1048576: true; the input reads as it did. -/
def reportClonesUptoRow : OpenClaim := { program := "ytbodmoefogkciaa", sum := "52bb89601ab4d934751ee5244b07f3ceb927899a988da397b1b1a3e9da1d4c00", func := "conflux/confluxlaw08.ReportClones", spec := "reportClones", apart := false, narrowed := true }
def ReportClonesUptoSaid : Prop := reportClonesUptoRow.holds Try.pinned (OpenSpec.upto reportClonesSpec)

/-- 'confluxlaw08.ReportLoses', WHERE WHAT IT READS IS OF BULK AT MOST 1048576: true; the input reads as it did. -/
def reportLosesUptoRow : OpenClaim := { program := "ytbodmoefogkciaa", sum := "52bb89601ab4d934751ee5244b07f3ceb927899a988da397b1b1a3e9da1d4c00", func := "conflux/confluxlaw08.ReportLoses", spec := "reportLoses", apart := false, narrowed := true }
def ReportLosesUptoSaid : Prop := reportLosesUptoRow.holds Try.pinned (OpenSpec.upto reportLosesSpec)

/-- 'confluxlaw08.ReportParts', WHERE WHAT IT READS IS OF BULK AT MOST 1048576: true; the input reads as it did. -/
def reportPartsUptoRow : OpenClaim := { program := "ytbodmoefogkciaa", sum := "52bb89601ab4d934751ee5244b07f3ceb927899a988da397b1b1a3e9da1d4c00", func := "conflux/confluxlaw08.ReportParts", spec := "reportParts", apart := false, narrowed := true }
def ReportPartsUptoSaid : Prop := reportPartsUptoRow.holds Try.pinned (OpenSpec.upto reportPartsSpec)

end Rows
end Go.Proofs.Ytbodmoefogkciaa
