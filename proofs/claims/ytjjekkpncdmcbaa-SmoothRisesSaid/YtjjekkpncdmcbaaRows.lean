/-
  No cell of these rows narrows 'for every input' (looked for: loops, veiled, ifaces, maps, wideKeys, modest, calm, conditions, laid).
  DERIVED. THE GIVEN ROWS OF THIS SEAT. 4 by the template 'for every input the law returns true; each argument reads behind the call as it read before'; 0 by the template 'total and deterministic' (their statements: YtjjekkpncdmcbaaTotals.lean).
  GIVEN WITH THE SEED: the statements are not yours to turn. If you find one false, say at which input.
  Laid BY PROGRAM, IN A SANDBOX (cutbox-rows.mjs): the forced cells as the released guide's own fill.sh prints them over the translation 8033c036e309a4e6… (all of the seat's roots in one cut). By AI agents, Wed Nov 11 2026. No macro, syntax, notation, axiom, sorry.
-/
import Derived.Test.YtjjekkpncdmcbaaChecked
import GoSem.Claim
import GoSem.ClaimJoined
import GoSem.ClaimMapViews
import Derived.JoinedTies
import Derived.KernelRfl
namespace Go.Proofs.Ytjjekkpncdmcbaa
/- THE CELL 'sum', in the pinned program and in every row, IS THE sha256 OF THE DUMP (.gsa) THAT YtjjekkpncdmcbaaProg.lean LOADS. Nothing in Lean hashes anything: it is a label: what it is worth is what the hold of that sum in a sandbox is worth. -/
noncomputable def Try.pinned : Pinned := { name := "ytjjekkpncdmcbaa", sum := "8033c036e309a4e6bc3396e43ffd793c28dc36b163965aa0be62afec61ca2854", checked := Try.checked }
namespace Rows
def none {H : Type} : Left H := { results := [], args := [] }

/-- 'confluxlaw19.SmoothPlays': WHATEVER THE INPUT: true; the input reads as it did. -/
def smoothPlaysSpec : ChangeSpec := { name := "smoothPlays", fn := fun _ => fun
  | [d] => { results := [.lit (.bool true)], args := [d] }
  | _ => none }
def smoothPlaysRow : OpenClaim := { program := "ytjjekkpncdmcbaa", sum := "8033c036e309a4e6bc3396e43ffd793c28dc36b163965aa0be62afec61ca2854", func := "conflux/confluxlaw19.SmoothPlays", spec := "smoothPlays", apart := false }
def SmoothPlaysSaid : Prop := smoothPlaysRow.holds Try.pinned (OpenSpec.ofChange smoothPlaysSpec)

/-- ITS FALSE NEIGHBOUR: 'it returns false'. Refute it at one input. -/
def smoothPlaysWrong : ChangeSpec := { name := "smoothPlays", fn := fun _ => fun
  | [d] => { results := [.lit (.bool false)], args := [d] }
  | _ => none }
def SmoothPlaysWrongFalsely : Prop := smoothPlaysRow.holds Try.pinned (OpenSpec.ofChange smoothPlaysWrong)

/-- 'confluxlaw19.SmoothHolds': WHATEVER THE INPUT: true; the input reads as it did. -/
def smoothHoldsSpec : ChangeSpec := { name := "smoothHolds", fn := fun _ => fun
  | [d1, d2] => { results := [.lit (.bool true)], args := [d1, d2] }
  | _ => none }
def smoothHoldsRow : OpenClaim := { program := "ytjjekkpncdmcbaa", sum := "8033c036e309a4e6bc3396e43ffd793c28dc36b163965aa0be62afec61ca2854", func := "conflux/confluxlaw19.SmoothHolds", spec := "smoothHolds", apart := false }
def SmoothHoldsSaid : Prop := smoothHoldsRow.holds Try.pinned (OpenSpec.ofChange smoothHoldsSpec)

/-- ITS FALSE NEIGHBOUR: 'it returns false'. Refute it at one input. -/
def smoothHoldsWrong : ChangeSpec := { name := "smoothHolds", fn := fun _ => fun
  | [d1, d2] => { results := [.lit (.bool false)], args := [d1, d2] }
  | _ => none }
def SmoothHoldsWrongFalsely : Prop := smoothHoldsRow.holds Try.pinned (OpenSpec.ofChange smoothHoldsWrong)

/-- 'confluxlaw19.SmoothRises': WHATEVER THE INPUT: true; the input reads as it did. -/
def smoothRisesSpec : ChangeSpec := { name := "smoothRises", fn := fun _ => fun
  | [d1, d2] => { results := [.lit (.bool true)], args := [d1, d2] }
  | _ => none }
def smoothRisesRow : OpenClaim := { program := "ytjjekkpncdmcbaa", sum := "8033c036e309a4e6bc3396e43ffd793c28dc36b163965aa0be62afec61ca2854", func := "conflux/confluxlaw19.SmoothRises", spec := "smoothRises", apart := false }
def SmoothRisesSaid : Prop := smoothRisesRow.holds Try.pinned (OpenSpec.ofChange smoothRisesSpec)

/-- ITS FALSE NEIGHBOUR: 'it returns false'. Refute it at one input. -/
def smoothRisesWrong : ChangeSpec := { name := "smoothRises", fn := fun _ => fun
  | [d1, d2] => { results := [.lit (.bool false)], args := [d1, d2] }
  | _ => none }
def SmoothRisesWrongFalsely : Prop := smoothRisesRow.holds Try.pinned (OpenSpec.ofChange smoothRisesWrong)

/-- 'confluxlaw19.SmoothSteps': WHATEVER THE INPUT: true; the input reads as it did. -/
def smoothStepsSpec : ChangeSpec := { name := "smoothSteps", fn := fun _ => fun
  | [d1, d2, d3] => { results := [.lit (.bool true)], args := [d1, d2, d3] }
  | _ => none }
def smoothStepsRow : OpenClaim := { program := "ytjjekkpncdmcbaa", sum := "8033c036e309a4e6bc3396e43ffd793c28dc36b163965aa0be62afec61ca2854", func := "conflux/confluxlaw19.SmoothSteps", spec := "smoothSteps", apart := false }
def SmoothStepsSaid : Prop := smoothStepsRow.holds Try.pinned (OpenSpec.ofChange smoothStepsSpec)

/-- ITS FALSE NEIGHBOUR: 'it returns false'. Refute it at one input. -/
def smoothStepsWrong : ChangeSpec := { name := "smoothSteps", fn := fun _ => fun
  | [d1, d2, d3] => { results := [.lit (.bool false)], args := [d1, d2, d3] }
  | _ => none }
def SmoothStepsWrongFalsely : Prop := smoothStepsRow.holds Try.pinned (OpenSpec.ofChange smoothStepsWrong)

/- THE SECOND FORM. 'bulk': how many values and letters a reading holds, each counted each time it is reached (what is shared counts as often as it is met; a slice's spare places count too). A statement '..UptoSaid' is the law's where the arguments, and the package variables that the reading takes, are together of bulk at most 1048576: NARROWER than '..Said'. Prove '..Said' where nothing that the law and all that it calls make is longer than what came in: it says more and counts as full. Else prove '..UptoSaid'. A law counts once. -/
mutual
def uptoBulk {H : Type} : DataW H → Nat
  | .lit (.string bytes) => bytes.length + 1
  | .lit _ => 1
  | .nil => 1
  | .ptr d => uptoBulk d + 1
  | .slice elems spare => uptoBulkAll elems + uptoBulkAll spare + 1
  | .agg parts => uptoBulkAll parts + 1
  | .iface _ d => uptoBulk d + 1
  | .map entries => uptoBulkEntries entries + 1
  | .held _ => 1
def uptoBulkAll {H : Type} : List (DataW H) → Nat
  | [] => 0
  | d :: r => uptoBulk d + uptoBulkAll r
def uptoBulkEntries {H : Type} : List (Lit × DataW H) → Nat
  | [] => 0
  | x :: r => uptoBulkEntry x + uptoBulkEntries r
def uptoBulkEntry {H : Type} : Lit × DataW H → Nat
  | (.string bytes, d) => bytes.length + uptoBulk d + 1
  | (_, d) => uptoBulk d + 1
 end
def uptoSmall : (H : Type) → List (DataW H) → Bool := fun _ ds => decide (uptoBulkAll ds ≤ 1048576)
def OpenSpec.upto (s : _root_.Go.ChangeSpec) : _root_.Go.OpenSpec := { _root_.Go.OpenSpec.ofChange s with cond := some uptoSmall }

/-- 'confluxlaw19.SmoothPlays', WHERE WHAT IT READS IS OF BULK AT MOST 1048576: true; the input reads as it did. -/
def smoothPlaysUptoRow : OpenClaim := { program := "ytjjekkpncdmcbaa", sum := "8033c036e309a4e6bc3396e43ffd793c28dc36b163965aa0be62afec61ca2854", func := "conflux/confluxlaw19.SmoothPlays", spec := "smoothPlays", apart := false, narrowed := true }
def SmoothPlaysUptoSaid : Prop := smoothPlaysUptoRow.holds Try.pinned (OpenSpec.upto smoothPlaysSpec)

/-- 'confluxlaw19.SmoothHolds', WHERE WHAT IT READS IS OF BULK AT MOST 1048576: true; the input reads as it did. -/
def smoothHoldsUptoRow : OpenClaim := { program := "ytjjekkpncdmcbaa", sum := "8033c036e309a4e6bc3396e43ffd793c28dc36b163965aa0be62afec61ca2854", func := "conflux/confluxlaw19.SmoothHolds", spec := "smoothHolds", apart := false, narrowed := true }
def SmoothHoldsUptoSaid : Prop := smoothHoldsUptoRow.holds Try.pinned (OpenSpec.upto smoothHoldsSpec)

/-- 'confluxlaw19.SmoothRises', WHERE WHAT IT READS IS OF BULK AT MOST 1048576: true; the input reads as it did. -/
def smoothRisesUptoRow : OpenClaim := { program := "ytjjekkpncdmcbaa", sum := "8033c036e309a4e6bc3396e43ffd793c28dc36b163965aa0be62afec61ca2854", func := "conflux/confluxlaw19.SmoothRises", spec := "smoothRises", apart := false, narrowed := true }
def SmoothRisesUptoSaid : Prop := smoothRisesUptoRow.holds Try.pinned (OpenSpec.upto smoothRisesSpec)

/-- 'confluxlaw19.SmoothSteps', WHERE WHAT IT READS IS OF BULK AT MOST 1048576: true; the input reads as it did. -/
def smoothStepsUptoRow : OpenClaim := { program := "ytjjekkpncdmcbaa", sum := "8033c036e309a4e6bc3396e43ffd793c28dc36b163965aa0be62afec61ca2854", func := "conflux/confluxlaw19.SmoothSteps", spec := "smoothSteps", apart := false, narrowed := true }
def SmoothStepsUptoSaid : Prop := smoothStepsUptoRow.holds Try.pinned (OpenSpec.upto smoothStepsSpec)

end Rows
end Go.Proofs.Ytjjekkpncdmcbaa
