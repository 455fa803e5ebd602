/-
  THE WALK of the references' Held.
-/
import Derived.Test.YthholboipbfklaaRows
import Derived.Test.YthholboipbfklaaReg
import Derived.WalkKit
import Derived.WalkSpells
import Derived.WalkLawsBesides
import Derived.OneCell
import Derived.Lib.Hide
import Derived.Deep.QuietTactic
import Derived.BigQuiet
import Derived.Deep.RegionWith
import Derived.StillTailTactics
set_option linter.unusedVariables false
set_option linter.unusedSimpArgs false
namespace Go.Proofs.Ythholboipbfklaa
open Go.RowKit

/-- A number held within 0 and m. -/
def upTo (x m : Int) : Int := min (max x 0) m
theorem upTo_ge (x m : Int) (h : 0 ≤ m) : 0 ≤ upTo x m := by unfold upTo; omega
theorem upTo_le (x m : Int) : upTo x m ≤ m := by unfold upTo; omega

set_option maxHeartbeats 400000 in
theorem rheld_c (x lo hi : Int) (w : World) (h : lo ≤ hi) :
    Calls Try.prog 14 #[.int .i64 x, .int .i64 lo, .int .i64 hi] w fun e w' => e = .returned (.int .i64 (min (max x lo) hi)) ∧ w = w' := by
  go_enter Try.func14, Try.ntmps14
  go_wp2
  all_goals (go_ret; exact ⟨ret_int (by omega), rfl⟩)
theorem rheld0_c (x hi : Int) (w : World) (h : 0 ≤ hi) :
    Calls Try.prog 14 #[.int .i64 x, .int .i64 0, .int .i64 hi] w fun e w' => e = .returned (.int .i64 (upTo x hi)) ∧ w = w' := rheld_c x 0 hi w h

end Go.Proofs.Ythholboipbfklaa
