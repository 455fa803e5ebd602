/-
  No cell of these rows narrows 'for every input' (looked for: loops, veiled, ifaces, maps, wideKeys, modest, calm, conditions, laid).
  DERIVED. THE GIVEN ROWS OF THIS SEAT. 4 by the template 'for every input the law returns true; each argument reads behind the call as it read before'; 0 by the template 'total and deterministic' (their statements: YtmdjdhbnigppcaaTotals.lean).
  GIVEN WITH THE SEED: the statements are not yours to turn. If you find one false, say at which input.
  Laid BY PROGRAM, IN A SANDBOX (cutbox-rows.mjs): the forced cells as the released guide's own fill.sh prints them over the translation 7f14bff3bb93b4d9… (all of the seat's roots in one cut). By AI agents, Wed Nov 11 2026. No macro, syntax, notation, axiom, sorry.
-/
import Derived.Test.YtmdjdhbnigppcaaChecked
import GoSem.Claim
import GoSem.ClaimJoined
import GoSem.ClaimMapViews
import Derived.JoinedTies
import Derived.KernelRfl
namespace Go.Proofs.Ytmdjdhbnigppcaa
/- THE CELL 'sum', in the pinned program and in every row, IS THE sha256 OF THE DUMP (.gsa) THAT YtmdjdhbnigppcaaProg.lean LOADS. Nothing in Lean hashes anything: it is a label: what it is worth is what the hold of that sum in a sandbox is worth. -/
noncomputable def Try.pinned : Pinned := { name := "ytmdjdhbnigppcaa", sum := "7f14bff3bb93b4d9442f993aeface6b53499c0e3784a7f69c61779105bea41b8", checked := Try.checked }
namespace Rows
def none {H : Type} : Left H := { results := [], args := [] }

/-- 'confluxlaw04.StripeRows': WHATEVER THE INPUT: true; the input reads as it did. -/
def stripeRowsSpec : ChangeSpec := { name := "stripeRows", fn := fun _ => fun
  | [d] => { results := [.lit (.bool true)], args := [d] }
  | _ => none }
def stripeRowsRow : OpenClaim := { program := "ytmdjdhbnigppcaa", sum := "7f14bff3bb93b4d9442f993aeface6b53499c0e3784a7f69c61779105bea41b8", func := "conflux/confluxlaw04.StripeRows", spec := "stripeRows", unfollowed := true, recurses := true, apart := false }
def StripeRowsSaid : Prop := stripeRowsRow.holds Try.pinned (OpenSpec.ofChange stripeRowsSpec)

/-- ITS FALSE NEIGHBOUR: 'it returns false'. Refute it at one input. -/
def stripeRowsWrong : ChangeSpec := { name := "stripeRows", fn := fun _ => fun
  | [d] => { results := [.lit (.bool false)], args := [d] }
  | _ => none }
def StripeRowsWrongFalsely : Prop := stripeRowsRow.holds Try.pinned (OpenSpec.ofChange stripeRowsWrong)

/-- 'confluxlaw04.StripeTwo': WHATEVER THE INPUT: true; the input reads as it did. -/
def stripeTwoSpec : ChangeSpec := { name := "stripeTwo", fn := fun _ => fun
  | [d1, d2, d3] => { results := [.lit (.bool true)], args := [d1, d2, d3] }
  | _ => none }
def stripeTwoRow : OpenClaim := { program := "ytmdjdhbnigppcaa", sum := "7f14bff3bb93b4d9442f993aeface6b53499c0e3784a7f69c61779105bea41b8", func := "conflux/confluxlaw04.StripeTwo", spec := "stripeTwo", unfollowed := true, recurses := true, apart := false }
def StripeTwoSaid : Prop := stripeTwoRow.holds Try.pinned (OpenSpec.ofChange stripeTwoSpec)

/-- ITS FALSE NEIGHBOUR: 'it returns false'. Refute it at one input. -/
def stripeTwoWrong : ChangeSpec := { name := "stripeTwo", fn := fun _ => fun
  | [d1, d2, d3] => { results := [.lit (.bool false)], args := [d1, d2, d3] }
  | _ => none }
def StripeTwoWrongFalsely : Prop := stripeTwoRow.holds Try.pinned (OpenSpec.ofChange stripeTwoWrong)

/-- 'confluxlaw04.StripeTurns': WHATEVER THE INPUT: true; the input reads as it did. -/
def stripeTurnsSpec : ChangeSpec := { name := "stripeTurns", fn := fun _ => fun
  | [d1, d2, d3] => { results := [.lit (.bool true)], args := [d1, d2, d3] }
  | _ => none }
def stripeTurnsRow : OpenClaim := { program := "ytmdjdhbnigppcaa", sum := "7f14bff3bb93b4d9442f993aeface6b53499c0e3784a7f69c61779105bea41b8", func := "conflux/confluxlaw04.StripeTurns", spec := "stripeTurns", unfollowed := true, recurses := true, apart := false }
def StripeTurnsSaid : Prop := stripeTurnsRow.holds Try.pinned (OpenSpec.ofChange stripeTurnsSpec)

/-- ITS FALSE NEIGHBOUR: 'it returns false'. Refute it at one input. -/
def stripeTurnsWrong : ChangeSpec := { name := "stripeTurns", fn := fun _ => fun
  | [d1, d2, d3] => { results := [.lit (.bool false)], args := [d1, d2, d3] }
  | _ => none }
def StripeTurnsWrongFalsely : Prop := stripeTurnsRow.holds Try.pinned (OpenSpec.ofChange stripeTurnsWrong)

/-- 'confluxlaw04.StripeCuts': WHATEVER THE INPUT: true; the input reads as it did. -/
def stripeCutsSpec : ChangeSpec := { name := "stripeCuts", fn := fun _ => fun
  | [d1, d2, d3, d4] => { results := [.lit (.bool true)], args := [d1, d2, d3, d4] }
  | _ => none }
def stripeCutsRow : OpenClaim := { program := "ytmdjdhbnigppcaa", sum := "7f14bff3bb93b4d9442f993aeface6b53499c0e3784a7f69c61779105bea41b8", func := "conflux/confluxlaw04.StripeCuts", spec := "stripeCuts", unfollowed := true, recurses := true, apart := false }
def StripeCutsSaid : Prop := stripeCutsRow.holds Try.pinned (OpenSpec.ofChange stripeCutsSpec)

/-- ITS FALSE NEIGHBOUR: 'it returns false'. Refute it at one input. -/
def stripeCutsWrong : ChangeSpec := { name := "stripeCuts", fn := fun _ => fun
  | [d1, d2, d3, d4] => { results := [.lit (.bool false)], args := [d1, d2, d3, d4] }
  | _ => none }
def StripeCutsWrongFalsely : Prop := stripeCutsRow.holds Try.pinned (OpenSpec.ofChange stripeCutsWrong)

/- THE SECOND FORM. 'bulk': how many values and letters a reading holds, each counted each time it is reached (what is shared counts as often as it is met; a slice's spare places count too). A statement '..UptoSaid' is the law's where the arguments, and the package variables that the reading takes, are together of bulk at most 1048576: NARROWER than '..Said'. Prove '..Said' where nothing that the law and all that it calls make is longer than what came in: it says more and counts as full. Else prove '..UptoSaid'. A law counts once. -/
mutual
def uptoBulk {H : Type} : DataW H → Nat
  | .lit (.string bytes) => bytes.length + 1
  | .lit _ => 1
  | .nil => 1
  | .ptr d => uptoBulk d + 1
  | .slice elems spare => uptoBulkAll elems + uptoBulkAll spare + 1
  | .agg parts => uptoBulkAll parts + 1
  | .iface _ d => uptoBulk d + 1
  | .map entries => uptoBulkEntries entries + 1
  | .held _ => 1
def uptoBulkAll {H : Type} : List (DataW H) → Nat
  | [] => 0
  | d :: r => uptoBulk d + uptoBulkAll r
def uptoBulkEntries {H : Type} : List (Lit × DataW H) → Nat
  | [] => 0
  | x :: r => uptoBulkEntry x + uptoBulkEntries r
def uptoBulkEntry {H : Type} : Lit × DataW H → Nat
  | (.string bytes, d) => bytes.length + uptoBulk d + 1
  | (_, d) => uptoBulk d + 1
 end
def uptoSmall : (H : Type) → List (DataW H) → Bool := fun _ ds => decide (uptoBulkAll ds ≤ 1048576)
def OpenSpec.upto (s : _root_.Go.ChangeSpec) : _root_.Go.OpenSpec := { _root_.Go.OpenSpec.ofChange s with cond := some uptoSmall }

/-- 'confluxlaw04.StripeRows', WHERE WHAT IT READS IS OF BULK AT MOST 1048576: true; the input reads as it did. -/
def stripeRowsUptoRow : OpenClaim := { program := "ytmdjdhbnigppcaa", sum := "7f14bff3bb93b4d9442f993aeface6b53499c0e3784a7f69c61779105bea41b8", func := "conflux/confluxlaw04.StripeRows", spec := "stripeRows", unfollowed := true, recurses := true, apart := false, narrowed := true }
def StripeRowsUptoSaid : Prop := stripeRowsUptoRow.holds Try.pinned (OpenSpec.upto stripeRowsSpec)

/-- 'confluxlaw04.StripeTwo', WHERE WHAT IT READS IS OF BULK AT MOST 1048576: true; the input reads as it did. -/
def stripeTwoUptoRow : OpenClaim := { program := "ytmdjdhbnigppcaa", sum := "7f14bff3bb93b4d9442f993aeface6b53499c0e3784a7f69c61779105bea41b8", func := "conflux/confluxlaw04.StripeTwo", spec := "stripeTwo", unfollowed := true, recurses := true, apart := false, narrowed := true }
def StripeTwoUptoSaid : Prop := stripeTwoUptoRow.holds Try.pinned (OpenSpec.upto stripeTwoSpec)

/-- 'confluxlaw04.StripeTurns', WHERE WHAT IT READS IS OF BULK AT MOST 1048576: true; the input reads as it did. -/
def stripeTurnsUptoRow : OpenClaim := { program := "ytmdjdhbnigppcaa", sum := "7f14bff3bb93b4d9442f993aeface6b53499c0e3784a7f69c61779105bea41b8", func := "conflux/confluxlaw04.StripeTurns", spec := "stripeTurns", unfollowed := true, recurses := true, apart := false, narrowed := true }
def StripeTurnsUptoSaid : Prop := stripeTurnsUptoRow.holds Try.pinned (OpenSpec.upto stripeTurnsSpec)

/-- 'confluxlaw04.StripeCuts', WHERE WHAT IT READS IS OF BULK AT MOST 1048576: true; the input reads as it did. -/
def stripeCutsUptoRow : OpenClaim := { program := "ytmdjdhbnigppcaa", sum := "7f14bff3bb93b4d9442f993aeface6b53499c0e3784a7f69c61779105bea41b8", func := "conflux/confluxlaw04.StripeCuts", spec := "stripeCuts", unfollowed := true, recurses := true, apart := false, narrowed := true }
def StripeCutsUptoSaid : Prop := stripeCutsUptoRow.holds Try.pinned (OpenSpec.upto stripeCutsSpec)

end Rows
end Go.Proofs.Ytmdjdhbnigppcaa
