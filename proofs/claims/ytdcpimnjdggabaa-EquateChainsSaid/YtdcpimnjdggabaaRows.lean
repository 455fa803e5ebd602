/-
  No cell of these rows narrows 'for every input' (looked for: loops, veiled, ifaces, maps, wideKeys, modest, calm, conditions, laid).
  DERIVED. THE GIVEN ROWS OF THIS SEAT. 4 by the template 'for every input the law returns true; each argument reads behind the call as it read before'; 0 by the template 'total and deterministic' (their statements: YtdcpimnjdggabaaTotals.lean).
  GIVEN WITH THE SEED: the statements are not yours to turn. If you find one false, say at which input.
  Laid BY PROGRAM, IN A SANDBOX (cutbox-rows.mjs): the forced cells as the released guide's own fill.sh prints them over the translation b704bd27737a8c01… (all of the seat's roots in one cut). By AI agents, Wed Nov 11 2026. No macro, syntax, notation, axiom, sorry.
-/
import Derived.Test.YtdcpimnjdggabaaChecked
import GoSem.Claim
import GoSem.ClaimJoined
import GoSem.ClaimMapViews
import Derived.JoinedTies
import Derived.KernelRfl
namespace Go.Proofs.Ytdcpimnjdggabaa
/- THE CELL 'sum', in the pinned program and in every row, IS THE sha256 OF THE DUMP (.gsa) THAT YtdcpimnjdggabaaProg.lean LOADS. Nothing in Lean hashes anything: it is a label: what it is worth is what the hold of that sum in a sandbox is worth. -/
noncomputable def Try.pinned : Pinned := { name := "ytdcpimnjdggabaa", sum := "b704bd27737a8c01e9817d3bb7640d19e2db0b76a7eb2183b313f621c5dff3c8", checked := Try.checked }
namespace Rows
def none {H : Type} : Left H := { results := [], args := [] }

/-- 'confluxlaw15.EquateTells': WHATEVER THE INPUT: true; the input reads as it did. -/
def equateTellsSpec : ChangeSpec := { name := "equateTells", fn := fun _ => fun
  | [d1, d2, d3] => { results := [.lit (.bool true)], args := [d1, d2, d3] }
  | _ => none }
def equateTellsRow : OpenClaim := { program := "ytdcpimnjdggabaa", sum := "b704bd27737a8c01e9817d3bb7640d19e2db0b76a7eb2183b313f621c5dff3c8", func := "conflux/confluxlaw15.EquateTells", spec := "equateTells", unfollowed := true, recurses := true, apart := false }
def EquateTellsSaid : Prop := equateTellsRow.holds Try.pinned (OpenSpec.ofChange equateTellsSpec)

/-- ITS FALSE NEIGHBOUR: 'it returns false'. Refute it at one input. -/
def equateTellsWrong : ChangeSpec := { name := "equateTells", fn := fun _ => fun
  | [d1, d2, d3] => { results := [.lit (.bool false)], args := [d1, d2, d3] }
  | _ => none }
def EquateTellsWrongFalsely : Prop := equateTellsRow.holds Try.pinned (OpenSpec.ofChange equateTellsWrong)

/-- 'confluxlaw15.EquateStuck': WHATEVER THE INPUT: true; the input reads as it did. -/
def equateStuckSpec : ChangeSpec := { name := "equateStuck", fn := fun _ => fun
  | [d1, d2, d3] => { results := [.lit (.bool true)], args := [d1, d2, d3] }
  | _ => none }
def equateStuckRow : OpenClaim := { program := "ytdcpimnjdggabaa", sum := "b704bd27737a8c01e9817d3bb7640d19e2db0b76a7eb2183b313f621c5dff3c8", func := "conflux/confluxlaw15.EquateStuck", spec := "equateStuck", unfollowed := true, recurses := true, apart := false }
def EquateStuckSaid : Prop := equateStuckRow.holds Try.pinned (OpenSpec.ofChange equateStuckSpec)

/-- ITS FALSE NEIGHBOUR: 'it returns false'. Refute it at one input. -/
def equateStuckWrong : ChangeSpec := { name := "equateStuck", fn := fun _ => fun
  | [d1, d2, d3] => { results := [.lit (.bool false)], args := [d1, d2, d3] }
  | _ => none }
def EquateStuckWrongFalsely : Prop := equateStuckRow.holds Try.pinned (OpenSpec.ofChange equateStuckWrong)

/-- 'confluxlaw15.EquateMore': WHATEVER THE INPUT: true; the input reads as it did. -/
def equateMoreSpec : ChangeSpec := { name := "equateMore", fn := fun _ => fun
  | [d1, d2, d3, d4] => { results := [.lit (.bool true)], args := [d1, d2, d3, d4] }
  | _ => none }
def equateMoreRow : OpenClaim := { program := "ytdcpimnjdggabaa", sum := "b704bd27737a8c01e9817d3bb7640d19e2db0b76a7eb2183b313f621c5dff3c8", func := "conflux/confluxlaw15.EquateMore", spec := "equateMore", unfollowed := true, recurses := true, apart := false }
def EquateMoreSaid : Prop := equateMoreRow.holds Try.pinned (OpenSpec.ofChange equateMoreSpec)

/-- ITS FALSE NEIGHBOUR: 'it returns false'. Refute it at one input. -/
def equateMoreWrong : ChangeSpec := { name := "equateMore", fn := fun _ => fun
  | [d1, d2, d3, d4] => { results := [.lit (.bool false)], args := [d1, d2, d3, d4] }
  | _ => none }
def EquateMoreWrongFalsely : Prop := equateMoreRow.holds Try.pinned (OpenSpec.ofChange equateMoreWrong)

/-- 'confluxlaw15.EquateChains': WHATEVER THE INPUT: true; the input reads as it did. -/
def equateChainsSpec : ChangeSpec := { name := "equateChains", fn := fun _ => fun
  | [d1, d2, d3, d4] => { results := [.lit (.bool true)], args := [d1, d2, d3, d4] }
  | _ => none }
def equateChainsRow : OpenClaim := { program := "ytdcpimnjdggabaa", sum := "b704bd27737a8c01e9817d3bb7640d19e2db0b76a7eb2183b313f621c5dff3c8", func := "conflux/confluxlaw15.EquateChains", spec := "equateChains", unfollowed := true, recurses := true, apart := false }
def EquateChainsSaid : Prop := equateChainsRow.holds Try.pinned (OpenSpec.ofChange equateChainsSpec)

/-- ITS FALSE NEIGHBOUR: 'it returns false'. Refute it at one input. -/
def equateChainsWrong : ChangeSpec := { name := "equateChains", fn := fun _ => fun
  | [d1, d2, d3, d4] => { results := [.lit (.bool false)], args := [d1, d2, d3, d4] }
  | _ => none }
def EquateChainsWrongFalsely : Prop := equateChainsRow.holds Try.pinned (OpenSpec.ofChange equateChainsWrong)

/- THE SECOND FORM. 'bulk': how many values and letters a reading holds, each counted each time it is reached (what is shared counts as often as it is met; a slice's spare places count too). A statement '..UptoSaid' is the law's where the arguments, and the package variables that the reading takes, are together of bulk at most 1048576: NARROWER than '..Said'. Prove '..Said' where nothing that the law and all that it calls make is longer than what came in: it says more and counts as full. Else prove '..UptoSaid'. A law counts once. -/
mutual
def uptoBulk {H : Type} : DataW H → Nat
  | .lit (.string bytes) => bytes.length + 1
  | .lit _ => 1
  | .nil => 1
  | .ptr d => uptoBulk d + 1
  | .slice elems spare => uptoBulkAll elems + uptoBulkAll spare + 1
  | .agg parts => uptoBulkAll parts + 1
  | .iface _ d => uptoBulk d + 1
  | .map entries => uptoBulkEntries entries + 1
  | .held _ => 1
def uptoBulkAll {H : Type} : List (DataW H) → Nat
  | [] => 0
  | d :: r => uptoBulk d + uptoBulkAll r
def uptoBulkEntries {H : Type} : List (Lit × DataW H) → Nat
  | [] => 0
  | x :: r => uptoBulkEntry x + uptoBulkEntries r
def uptoBulkEntry {H : Type} : Lit × DataW H → Nat
  | (.string bytes, d) => bytes.length + uptoBulk d + 1
  | (_, d) => uptoBulk d + 1
 end
def uptoSmall : (H : Type) → List (DataW H) → Bool := fun _ ds => decide (uptoBulkAll ds ≤ 1048576)
def OpenSpec.upto (s : _root_.Go.ChangeSpec) : _root_.Go.OpenSpec := { _root_.Go.OpenSpec.ofChange s with cond := some uptoSmall }

/-- 'confluxlaw15.EquateTells', WHERE WHAT IT READS IS OF BULK AT MOST 1048576: true; the input reads as it did. -/
def equateTellsUptoRow : OpenClaim := { program := "ytdcpimnjdggabaa", sum := "b704bd27737a8c01e9817d3bb7640d19e2db0b76a7eb2183b313f621c5dff3c8", func := "conflux/confluxlaw15.EquateTells", spec := "equateTells", unfollowed := true, recurses := true, apart := false, narrowed := true }
def EquateTellsUptoSaid : Prop := equateTellsUptoRow.holds Try.pinned (OpenSpec.upto equateTellsSpec)

/-- 'confluxlaw15.EquateStuck', WHERE WHAT IT READS IS OF BULK AT MOST 1048576: true; the input reads as it did. -/
def equateStuckUptoRow : OpenClaim := { program := "ytdcpimnjdggabaa", sum := "b704bd27737a8c01e9817d3bb7640d19e2db0b76a7eb2183b313f621c5dff3c8", func := "conflux/confluxlaw15.EquateStuck", spec := "equateStuck", unfollowed := true, recurses := true, apart := false, narrowed := true }
def EquateStuckUptoSaid : Prop := equateStuckUptoRow.holds Try.pinned (OpenSpec.upto equateStuckSpec)

/-- 'confluxlaw15.EquateMore', WHERE WHAT IT READS IS OF BULK AT MOST 1048576: true; the input reads as it did. -/
def equateMoreUptoRow : OpenClaim := { program := "ytdcpimnjdggabaa", sum := "b704bd27737a8c01e9817d3bb7640d19e2db0b76a7eb2183b313f621c5dff3c8", func := "conflux/confluxlaw15.EquateMore", spec := "equateMore", unfollowed := true, recurses := true, apart := false, narrowed := true }
def EquateMoreUptoSaid : Prop := equateMoreUptoRow.holds Try.pinned (OpenSpec.upto equateMoreSpec)

/-- 'confluxlaw15.EquateChains', WHERE WHAT IT READS IS OF BULK AT MOST 1048576: true; the input reads as it did. -/
def equateChainsUptoRow : OpenClaim := { program := "ytdcpimnjdggabaa", sum := "b704bd27737a8c01e9817d3bb7640d19e2db0b76a7eb2183b313f621c5dff3c8", func := "conflux/confluxlaw15.EquateChains", spec := "equateChains", unfollowed := true, recurses := true, apart := false, narrowed := true }
def EquateChainsUptoSaid : Prop := equateChainsUptoRow.holds Try.pinned (OpenSpec.upto equateChainsSpec)

end Rows
end Go.Proofs.Ytdcpimnjdggabaa
