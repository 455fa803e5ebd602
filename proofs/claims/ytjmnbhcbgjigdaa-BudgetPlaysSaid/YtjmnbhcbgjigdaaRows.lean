/-
  No cell of these rows narrows 'for every input' (looked for: loops, veiled, ifaces, maps, wideKeys, modest, calm, conditions, laid).
  DERIVED. THE GIVEN ROWS OF THIS SEAT. 4 by the template 'for every input the law returns true; each argument reads behind the call as it read before'; 0 by the template 'total and deterministic' (their statements: YtjmnbhcbgjigdaaTotals.lean).
  GIVEN WITH THE SEED: the statements are not yours to turn. If you find one false, say at which input.
  Laid BY PROGRAM, IN A SANDBOX (cutbox-rows.mjs): the forced cells as the released guide's own fill.sh prints them over the translation 9c782e27b3d338d9… (all of the seat's roots in one cut). By AI agents, Wed Nov 11 2026. No macro, syntax, notation, axiom, sorry.
-/
import Derived.Test.YtjmnbhcbgjigdaaChecked
import GoSem.Claim
import GoSem.ClaimJoined
import GoSem.ClaimMapViews
import Derived.JoinedTies
import Derived.KernelRfl
namespace Go.Proofs.Ytjmnbhcbgjigdaa
/- THE CELL 'sum', in the pinned program and in every row, IS THE sha256 OF THE DUMP (.gsa) THAT YtjmnbhcbgjigdaaProg.lean LOADS. Nothing in Lean hashes anything: it is a label: what it is worth is what the hold of that sum in a sandbox is worth. -/
noncomputable def Try.pinned : Pinned := { name := "ytjmnbhcbgjigdaa", sum := "9c782e27b3d338d9043aaa7ebae425618fc089b6893794fb487bdbab8a74603b", checked := Try.checked }
namespace Rows
def none {H : Type} : Left H := { results := [], args := [] }

/-- 'confluxlaw20.BudgetPlays': WHATEVER THE INPUT: true; the input reads as it did. -/
def budgetPlaysSpec : ChangeSpec := { name := "budgetPlays", fn := fun _ => fun
  | [d1, d2] => { results := [.lit (.bool true)], args := [d1, d2] }
  | _ => none }
def budgetPlaysRow : OpenClaim := { program := "ytjmnbhcbgjigdaa", sum := "9c782e27b3d338d9043aaa7ebae425618fc089b6893794fb487bdbab8a74603b", func := "conflux/confluxlaw20.BudgetPlays", spec := "budgetPlays", apart := false }
def BudgetPlaysSaid : Prop := budgetPlaysRow.holds Try.pinned (OpenSpec.ofChange budgetPlaysSpec)

/-- ITS FALSE NEIGHBOUR: 'it returns false'. Refute it at one input. -/
def budgetPlaysWrong : ChangeSpec := { name := "budgetPlays", fn := fun _ => fun
  | [d1, d2] => { results := [.lit (.bool false)], args := [d1, d2] }
  | _ => none }
def BudgetPlaysWrongFalsely : Prop := budgetPlaysRow.holds Try.pinned (OpenSpec.ofChange budgetPlaysWrong)

/-- 'confluxlaw20.BudgetSpends': WHATEVER THE INPUT: true; the input reads as it did. -/
def budgetSpendsSpec : ChangeSpec := { name := "budgetSpends", fn := fun _ => fun
  | [d1, d2] => { results := [.lit (.bool true)], args := [d1, d2] }
  | _ => none }
def budgetSpendsRow : OpenClaim := { program := "ytjmnbhcbgjigdaa", sum := "9c782e27b3d338d9043aaa7ebae425618fc089b6893794fb487bdbab8a74603b", func := "conflux/confluxlaw20.BudgetSpends", spec := "budgetSpends", apart := false }
def BudgetSpendsSaid : Prop := budgetSpendsRow.holds Try.pinned (OpenSpec.ofChange budgetSpendsSpec)

/-- ITS FALSE NEIGHBOUR: 'it returns false'. Refute it at one input. -/
def budgetSpendsWrong : ChangeSpec := { name := "budgetSpends", fn := fun _ => fun
  | [d1, d2] => { results := [.lit (.bool false)], args := [d1, d2] }
  | _ => none }
def BudgetSpendsWrongFalsely : Prop := budgetSpendsRow.holds Try.pinned (OpenSpec.ofChange budgetSpendsWrong)

/-- 'confluxlaw20.BudgetBlocks': WHATEVER THE INPUT: true; the input reads as it did. -/
def budgetBlocksSpec : ChangeSpec := { name := "budgetBlocks", fn := fun _ => fun
  | [d1, d2, d3, d4, d5] => { results := [.lit (.bool true)], args := [d1, d2, d3, d4, d5] }
  | _ => none }
def budgetBlocksRow : OpenClaim := { program := "ytjmnbhcbgjigdaa", sum := "9c782e27b3d338d9043aaa7ebae425618fc089b6893794fb487bdbab8a74603b", func := "conflux/confluxlaw20.BudgetBlocks", spec := "budgetBlocks", apart := false }
def BudgetBlocksSaid : Prop := budgetBlocksRow.holds Try.pinned (OpenSpec.ofChange budgetBlocksSpec)

/-- ITS FALSE NEIGHBOUR: 'it returns false'. Refute it at one input. -/
def budgetBlocksWrong : ChangeSpec := { name := "budgetBlocks", fn := fun _ => fun
  | [d1, d2, d3, d4, d5] => { results := [.lit (.bool false)], args := [d1, d2, d3, d4, d5] }
  | _ => none }
def BudgetBlocksWrongFalsely : Prop := budgetBlocksRow.holds Try.pinned (OpenSpec.ofChange budgetBlocksWrong)

/-- 'confluxlaw20.BudgetRuns': WHATEVER THE INPUT: true; the input reads as it did. -/
def budgetRunsSpec : ChangeSpec := { name := "budgetRuns", fn := fun _ => fun
  | [d1, d2] => { results := [.lit (.bool true)], args := [d1, d2] }
  | _ => none }
def budgetRunsRow : OpenClaim := { program := "ytjmnbhcbgjigdaa", sum := "9c782e27b3d338d9043aaa7ebae425618fc089b6893794fb487bdbab8a74603b", func := "conflux/confluxlaw20.BudgetRuns", spec := "budgetRuns", apart := false }
def BudgetRunsSaid : Prop := budgetRunsRow.holds Try.pinned (OpenSpec.ofChange budgetRunsSpec)

/-- ITS FALSE NEIGHBOUR: 'it returns false'. Refute it at one input. -/
def budgetRunsWrong : ChangeSpec := { name := "budgetRuns", fn := fun _ => fun
  | [d1, d2] => { results := [.lit (.bool false)], args := [d1, d2] }
  | _ => none }
def BudgetRunsWrongFalsely : Prop := budgetRunsRow.holds Try.pinned (OpenSpec.ofChange budgetRunsWrong)

/- THE SECOND FORM. 'bulk': how many values and letters a reading holds, each counted each time it is reached (what is shared counts as often as it is met; a slice's spare places count too). A statement '..UptoSaid' is the law's where the arguments, and the package variables that the reading takes, are together of bulk at most 1048576: NARROWER than '..Said'. Prove '..Said' where nothing that the law and all that it calls make is longer than what came in: it says more and counts as full. Else prove '..UptoSaid'. A law counts once. -/
mutual
def uptoBulk {H : Type} : DataW H → Nat
  | .lit (.string bytes) => bytes.length + 1
  | .lit _ => 1
  | .nil => 1
  | .ptr d => uptoBulk d + 1
  | .slice elems spare => uptoBulkAll elems + uptoBulkAll spare + 1
  | .agg parts => uptoBulkAll parts + 1
  | .iface _ d => uptoBulk d + 1
  | .map entries => uptoBulkEntries entries + 1
  | .held _ => 1
def uptoBulkAll {H : Type} : List (DataW H) → Nat
  | [] => 0
  | d :: r => uptoBulk d + uptoBulkAll r
def uptoBulkEntries {H : Type} : List (Lit × DataW H) → Nat
  | [] => 0
  | x :: r => uptoBulkEntry x + uptoBulkEntries r
def uptoBulkEntry {H : Type} : Lit × DataW H → Nat
  | (.string bytes, d) => bytes.length + uptoBulk d + 1
  | (_, d) => uptoBulk d + 1
 end
def uptoSmall : (H : Type) → List (DataW H) → Bool := fun _ ds => decide (uptoBulkAll ds ≤ 1048576)
def OpenSpec.upto (s : _root_.Go.ChangeSpec) : _root_.Go.OpenSpec := { _root_.Go.OpenSpec.ofChange s with cond := some uptoSmall }

/-- 'confluxlaw20.BudgetPlays', WHERE WHAT IT READS IS OF BULK AT MOST 1048576: true; the input reads as it did. -/
def budgetPlaysUptoRow : OpenClaim := { program := "ytjmnbhcbgjigdaa", sum := "9c782e27b3d338d9043aaa7ebae425618fc089b6893794fb487bdbab8a74603b", func := "conflux/confluxlaw20.BudgetPlays", spec := "budgetPlays", apart := false, narrowed := true }
def BudgetPlaysUptoSaid : Prop := budgetPlaysUptoRow.holds Try.pinned (OpenSpec.upto budgetPlaysSpec)

/-- 'confluxlaw20.BudgetSpends', WHERE WHAT IT READS IS OF BULK AT MOST 1048576: true; the input reads as it did. -/
def budgetSpendsUptoRow : OpenClaim := { program := "ytjmnbhcbgjigdaa", sum := "9c782e27b3d338d9043aaa7ebae425618fc089b6893794fb487bdbab8a74603b", func := "conflux/confluxlaw20.BudgetSpends", spec := "budgetSpends", apart := false, narrowed := true }
def BudgetSpendsUptoSaid : Prop := budgetSpendsUptoRow.holds Try.pinned (OpenSpec.upto budgetSpendsSpec)

/-- 'confluxlaw20.BudgetBlocks', WHERE WHAT IT READS IS OF BULK AT MOST 1048576: true; the input reads as it did. -/
def budgetBlocksUptoRow : OpenClaim := { program := "ytjmnbhcbgjigdaa", sum := "9c782e27b3d338d9043aaa7ebae425618fc089b6893794fb487bdbab8a74603b", func := "conflux/confluxlaw20.BudgetBlocks", spec := "budgetBlocks", apart := false, narrowed := true }
def BudgetBlocksUptoSaid : Prop := budgetBlocksUptoRow.holds Try.pinned (OpenSpec.upto budgetBlocksSpec)

/-- 'confluxlaw20.BudgetRuns', WHERE WHAT IT READS IS OF BULK AT MOST 1048576: true; the input reads as it did. -/
def budgetRunsUptoRow : OpenClaim := { program := "ytjmnbhcbgjigdaa", sum := "9c782e27b3d338d9043aaa7ebae425618fc089b6893794fb487bdbab8a74603b", func := "conflux/confluxlaw20.BudgetRuns", spec := "budgetRuns", apart := false, narrowed := true }
def BudgetRunsUptoSaid : Prop := budgetRunsUptoRow.holds Try.pinned (OpenSpec.upto budgetRunsSpec)

end Rows
end Go.Proofs.Ytjmnbhcbgjigdaa
