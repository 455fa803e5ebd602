/-
  No cell of these rows narrows 'for every input' (looked for: loops, veiled, ifaces, maps, wideKeys, modest, calm, conditions, laid).
  DERIVED. THE GIVEN ROWS OF THIS SEAT. 6 by the template 'for every input the law returns true; each argument reads behind the call as it read before'; 0 by the template 'total and deterministic' (their statements: YtkpkfgnebgcoaaaTotals.lean).
  GIVEN WITH THE SEED: the statements are not yours to turn. If you find one false, say at which input.
  Laid BY PROGRAM, IN A SANDBOX (cutbox-rows.mjs): the forced cells as the released guide's own fill.sh prints them over the translation 7f30f7551ef3c0cc… (all of the seat's roots in one cut). By AI agents, Wed Nov 11 2026. No macro, syntax, notation, axiom, sorry.
-/
import Derived.Test.YtkpkfgnebgcoaaaChecked
import GoSem.Claim
import GoSem.ClaimJoined
import GoSem.ClaimMapViews
import Derived.JoinedTies
import Derived.KernelRfl
namespace Go.Proofs.Ytkpkfgnebgcoaaa
/- THE CELL 'sum', in the pinned program and in every row, IS THE sha256 OF THE DUMP (.gsa) THAT YtkpkfgnebgcoaaaProg.lean LOADS. Nothing in Lean hashes anything: it is a label: what it is worth is what the hold of that sum in a sandbox is worth. -/
noncomputable def Try.pinned : Pinned := { name := "ytkpkfgnebgcoaaa", sum := "7f30f7551ef3c0cc625c4138fef545ffc9973be6213251cfe5c74f439f164c91", checked := Try.checked }
namespace Rows
def none {H : Type} : Left H := { results := [], args := [] }

/-- 'confluxlaw01.SerialTwo': WHATEVER THE INPUT: true; the input reads as it did. -/
def serialTwoSpec : ChangeSpec := { name := "serialTwo", fn := fun _ => fun
  | [d1, d2, d3, d4, d5, d6] => { results := [.lit (.bool true)], args := [d1, d2, d3, d4, d5, d6] }
  | _ => none }
def serialTwoRow : OpenClaim := { program := "ytkpkfgnebgcoaaa", sum := "7f30f7551ef3c0cc625c4138fef545ffc9973be6213251cfe5c74f439f164c91", func := "conflux/confluxlaw01.SerialTwo", spec := "serialTwo", unfollowed := true, recurses := true, apart := false }
def SerialTwoSaid : Prop := serialTwoRow.holds Try.pinned (OpenSpec.ofChange serialTwoSpec)

/-- ITS FALSE NEIGHBOUR: 'it returns false'. Refute it at one input. -/
def serialTwoWrong : ChangeSpec := { name := "serialTwo", fn := fun _ => fun
  | [d1, d2, d3, d4, d5, d6] => { results := [.lit (.bool false)], args := [d1, d2, d3, d4, d5, d6] }
  | _ => none }
def SerialTwoWrongFalsely : Prop := serialTwoRow.holds Try.pinned (OpenSpec.ofChange serialTwoWrong)

/-- 'confluxlaw01.SerialWides': WHATEVER THE INPUT: true; the input reads as it did. -/
def serialWidesSpec : ChangeSpec := { name := "serialWides", fn := fun _ => fun
  | [d1, d2] => { results := [.lit (.bool true)], args := [d1, d2] }
  | _ => none }
def serialWidesRow : OpenClaim := { program := "ytkpkfgnebgcoaaa", sum := "7f30f7551ef3c0cc625c4138fef545ffc9973be6213251cfe5c74f439f164c91", func := "conflux/confluxlaw01.SerialWides", spec := "serialWides", unfollowed := true, recurses := true, apart := false }
def SerialWidesSaid : Prop := serialWidesRow.holds Try.pinned (OpenSpec.ofChange serialWidesSpec)

/-- ITS FALSE NEIGHBOUR: 'it returns false'. Refute it at one input. -/
def serialWidesWrong : ChangeSpec := { name := "serialWides", fn := fun _ => fun
  | [d1, d2] => { results := [.lit (.bool false)], args := [d1, d2] }
  | _ => none }
def SerialWidesWrongFalsely : Prop := serialWidesRow.holds Try.pinned (OpenSpec.ofChange serialWidesWrong)

/-- 'confluxlaw01.SerialSorts': WHATEVER THE INPUT: true; the input reads as it did. -/
def serialSortsSpec : ChangeSpec := { name := "serialSorts", fn := fun _ => fun
  | [d] => { results := [.lit (.bool true)], args := [d] }
  | _ => none }
def serialSortsRow : OpenClaim := { program := "ytkpkfgnebgcoaaa", sum := "7f30f7551ef3c0cc625c4138fef545ffc9973be6213251cfe5c74f439f164c91", func := "conflux/confluxlaw01.SerialSorts", spec := "serialSorts", unfollowed := true, recurses := true, apart := false }
def SerialSortsSaid : Prop := serialSortsRow.holds Try.pinned (OpenSpec.ofChange serialSortsSpec)

/-- ITS FALSE NEIGHBOUR: 'it returns false'. Refute it at one input. -/
def serialSortsWrong : ChangeSpec := { name := "serialSorts", fn := fun _ => fun
  | [d] => { results := [.lit (.bool false)], args := [d] }
  | _ => none }
def SerialSortsWrongFalsely : Prop := serialSortsRow.holds Try.pinned (OpenSpec.ofChange serialSortsWrong)

/-- 'confluxlaw01.SerialTurns': WHATEVER THE INPUT: true; the input reads as it did. -/
def serialTurnsSpec : ChangeSpec := { name := "serialTurns", fn := fun _ => fun
  | [d1, d2, d3, d4] => { results := [.lit (.bool true)], args := [d1, d2, d3, d4] }
  | _ => none }
def serialTurnsRow : OpenClaim := { program := "ytkpkfgnebgcoaaa", sum := "7f30f7551ef3c0cc625c4138fef545ffc9973be6213251cfe5c74f439f164c91", func := "conflux/confluxlaw01.SerialTurns", spec := "serialTurns", unfollowed := true, recurses := true, apart := false }
def SerialTurnsSaid : Prop := serialTurnsRow.holds Try.pinned (OpenSpec.ofChange serialTurnsSpec)

/-- ITS FALSE NEIGHBOUR: 'it returns false'. Refute it at one input. -/
def serialTurnsWrong : ChangeSpec := { name := "serialTurns", fn := fun _ => fun
  | [d1, d2, d3, d4] => { results := [.lit (.bool false)], args := [d1, d2, d3, d4] }
  | _ => none }
def SerialTurnsWrongFalsely : Prop := serialTurnsRow.holds Try.pinned (OpenSpec.ofChange serialTurnsWrong)

/-- 'confluxlaw01.SerialFar': WHATEVER THE INPUT: true; the input reads as it did. -/
def serialFarSpec : ChangeSpec := { name := "serialFar", fn := fun _ => fun
  | [d1, d2] => { results := [.lit (.bool true)], args := [d1, d2] }
  | _ => none }
def serialFarRow : OpenClaim := { program := "ytkpkfgnebgcoaaa", sum := "7f30f7551ef3c0cc625c4138fef545ffc9973be6213251cfe5c74f439f164c91", func := "conflux/confluxlaw01.SerialFar", spec := "serialFar", unfollowed := true, recurses := true, apart := false }
def SerialFarSaid : Prop := serialFarRow.holds Try.pinned (OpenSpec.ofChange serialFarSpec)

/-- ITS FALSE NEIGHBOUR: 'it returns false'. Refute it at one input. -/
def serialFarWrong : ChangeSpec := { name := "serialFar", fn := fun _ => fun
  | [d1, d2] => { results := [.lit (.bool false)], args := [d1, d2] }
  | _ => none }
def SerialFarWrongFalsely : Prop := serialFarRow.holds Try.pinned (OpenSpec.ofChange serialFarWrong)

/-- 'confluxlaw01.SerialShifts': WHATEVER THE INPUT: true; the input reads as it did. -/
def serialShiftsSpec : ChangeSpec := { name := "serialShifts", fn := fun _ => fun
  | [d1, d2, d3] => { results := [.lit (.bool true)], args := [d1, d2, d3] }
  | _ => none }
def serialShiftsRow : OpenClaim := { program := "ytkpkfgnebgcoaaa", sum := "7f30f7551ef3c0cc625c4138fef545ffc9973be6213251cfe5c74f439f164c91", func := "conflux/confluxlaw01.SerialShifts", spec := "serialShifts", unfollowed := true, recurses := true, apart := false }
def SerialShiftsSaid : Prop := serialShiftsRow.holds Try.pinned (OpenSpec.ofChange serialShiftsSpec)

/-- ITS FALSE NEIGHBOUR: 'it returns false'. Refute it at one input. -/
def serialShiftsWrong : ChangeSpec := { name := "serialShifts", fn := fun _ => fun
  | [d1, d2, d3] => { results := [.lit (.bool false)], args := [d1, d2, d3] }
  | _ => none }
def SerialShiftsWrongFalsely : Prop := serialShiftsRow.holds Try.pinned (OpenSpec.ofChange serialShiftsWrong)

/- THE SECOND FORM. 'bulk': how many values and letters a reading holds, each counted each time it is reached (what is shared counts as often as it is met; a slice's spare places count too). A statement '..UptoSaid' is the law's where the arguments, and the package variables that the reading takes, are together of bulk at most 1048576: NARROWER than '..Said'. Prove '..Said' where nothing that the law and all that it calls make is longer than what came in: it says more and counts as full. Else prove '..UptoSaid'. A law counts once. -/
mutual
def uptoBulk {H : Type} : DataW H → Nat
  | .lit (.string bytes) => bytes.length + 1
  | .lit _ => 1
  | .nil => 1
  | .ptr d => uptoBulk d + 1
  | .slice elems spare => uptoBulkAll elems + uptoBulkAll spare + 1
  | .agg parts => uptoBulkAll parts + 1
  | .iface _ d => uptoBulk d + 1
  | .map entries => uptoBulkEntries entries + 1
  | .held _ => 1
def uptoBulkAll {H : Type} : List (DataW H) → Nat
  | [] => 0
  | d :: r => uptoBulk d + uptoBulkAll r
def uptoBulkEntries {H : Type} : List (Lit × DataW H) → Nat
  | [] => 0
  | x :: r => uptoBulkEntry x + uptoBulkEntries r
def uptoBulkEntry {H : Type} : Lit × DataW H → Nat
  | (.string bytes, d) => bytes.length + uptoBulk d + 1
  | (_, d) => uptoBulk d + 1
 end
def uptoSmall : (H : Type) → List (DataW H) → Bool := fun _ ds => decide (uptoBulkAll ds ≤ 1048576)
def OpenSpec.upto (s : _root_.Go.ChangeSpec) : _root_.Go.OpenSpec := { _root_.Go.OpenSpec.ofChange s with cond := some uptoSmall }

/-- 'confluxlaw01.SerialTwo', WHERE WHAT IT READS IS OF BULK AT MOST 1048576: true; the input reads as it did. -/
def serialTwoUptoRow : OpenClaim := { program := "ytkpkfgnebgcoaaa", sum := "7f30f7551ef3c0cc625c4138fef545ffc9973be6213251cfe5c74f439f164c91", func := "conflux/confluxlaw01.SerialTwo", spec := "serialTwo", unfollowed := true, recurses := true, apart := false, narrowed := true }
def SerialTwoUptoSaid : Prop := serialTwoUptoRow.holds Try.pinned (OpenSpec.upto serialTwoSpec)

/-- 'confluxlaw01.SerialWides', WHERE WHAT IT READS IS OF BULK AT MOST 1048576: true; the input reads as it did. -/
def serialWidesUptoRow : OpenClaim := { program := "ytkpkfgnebgcoaaa", sum := "7f30f7551ef3c0cc625c4138fef545ffc9973be6213251cfe5c74f439f164c91", func := "conflux/confluxlaw01.SerialWides", spec := "serialWides", unfollowed := true, recurses := true, apart := false, narrowed := true }
def SerialWidesUptoSaid : Prop := serialWidesUptoRow.holds Try.pinned (OpenSpec.upto serialWidesSpec)

/-- 'confluxlaw01.SerialSorts', WHERE WHAT IT READS IS OF BULK AT MOST 1048576: true; the input reads as it did. -/
def serialSortsUptoRow : OpenClaim := { program := "ytkpkfgnebgcoaaa", sum := "7f30f7551ef3c0cc625c4138fef545ffc9973be6213251cfe5c74f439f164c91", func := "conflux/confluxlaw01.SerialSorts", spec := "serialSorts", unfollowed := true, recurses := true, apart := false, narrowed := true }
def SerialSortsUptoSaid : Prop := serialSortsUptoRow.holds Try.pinned (OpenSpec.upto serialSortsSpec)

/-- 'confluxlaw01.SerialTurns', WHERE WHAT IT READS IS OF BULK AT MOST 1048576: true; the input reads as it did. -/
def serialTurnsUptoRow : OpenClaim := { program := "ytkpkfgnebgcoaaa", sum := "7f30f7551ef3c0cc625c4138fef545ffc9973be6213251cfe5c74f439f164c91", func := "conflux/confluxlaw01.SerialTurns", spec := "serialTurns", unfollowed := true, recurses := true, apart := false, narrowed := true }
def SerialTurnsUptoSaid : Prop := serialTurnsUptoRow.holds Try.pinned (OpenSpec.upto serialTurnsSpec)

/-- 'confluxlaw01.SerialFar', WHERE WHAT IT READS IS OF BULK AT MOST 1048576: true; the input reads as it did. -/
def serialFarUptoRow : OpenClaim := { program := "ytkpkfgnebgcoaaa", sum := "7f30f7551ef3c0cc625c4138fef545ffc9973be6213251cfe5c74f439f164c91", func := "conflux/confluxlaw01.SerialFar", spec := "serialFar", unfollowed := true, recurses := true, apart := false, narrowed := true }
def SerialFarUptoSaid : Prop := serialFarUptoRow.holds Try.pinned (OpenSpec.upto serialFarSpec)

/-- 'confluxlaw01.SerialShifts', WHERE WHAT IT READS IS OF BULK AT MOST 1048576: true; the input reads as it did. -/
def serialShiftsUptoRow : OpenClaim := { program := "ytkpkfgnebgcoaaa", sum := "7f30f7551ef3c0cc625c4138fef545ffc9973be6213251cfe5c74f439f164c91", func := "conflux/confluxlaw01.SerialShifts", spec := "serialShifts", unfollowed := true, recurses := true, apart := false, narrowed := true }
def SerialShiftsUptoSaid : Prop := serialShiftsUptoRow.holds Try.pinned (OpenSpec.upto serialShiftsSpec)

end Rows
end Go.Proofs.Ytkpkfgnebgcoaaa
