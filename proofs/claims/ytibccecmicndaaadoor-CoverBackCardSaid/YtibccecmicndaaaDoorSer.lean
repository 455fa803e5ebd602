/-
  THE WALKS of package serial and of its reference: two numbers; what doesn't go round.
-/
import Derived.Test.YtibccecmicndaaaDoorRows
import Derived.Test.YtibccecmicndaaaDoorReg
import Derived.Test.YtibccecmicndaaaDoorSerP
import Derived.WalkKit
import Derived.WalkSpells
import Derived.WalkLawsBesides
import Derived.OneCell
import Derived.Lib.Hide
import Derived.Deep.QuietTactic
import Derived.BigQuiet
set_option linter.unusedVariables false
set_option linter.unusedSimpArgs false
namespace Go.Proofs.YtibccecmicndaaaDoor
open Go.RowKit

set_option maxHeartbeats 400000 in
theorem ahead_c (a b : Int) (w : World) (a0 : 0 ≤ a) (a1 : a ≤ 65535) (b0 : 0 ≤ b) (b1 : b ≤ 65535) :
    Calls Tryd.prog 39 #[.int .u16 a, .int .u16 b] w fun e w' => e = .returned (.int .i64 (ah16 a b)) ∧ w = w' := by
  go_enter Tryd.func39, Tryd.ntmps39
  go_wp2
  all_goals (go_ret; exact ⟨ret_int (by unfold ah16; simp only [wrap64, IntKind.wrap, IntKind.bits, IntKind.signed]; simp; omega), rfl⟩)


set_option maxHeartbeats 400000 in
theorem add_c (a n : Int) (w : World) (a0 : 0 ≤ a) (a1 : a ≤ 65535) :
    Calls Tryd.prog 50 #[.int .u16 a, .int .i64 n] w fun e w' => e = .returned (.int .u16 (add16 a n)) ∧ w = w' := by
  go_enter Tryd.func50, Tryd.ntmps50
  go_wp2
  all_goals (go_ret; exact ⟨ret_int (by unfold add16; rw [IntKind.wrap_u16, IntKind.wrap_u16]; omega), rfl⟩)

set_option maxHeartbeats 400000 in
theorem rahead_c (a b : Int) (w : World) (a0 : 0 ≤ a) (a1 : a ≤ 65535) (b0 : 0 ≤ b) (b1 : b ≤ 65535) :
    Calls Tryd.prog 30 #[.int .u16 a, .int .u16 b] w fun e w' => e = .returned (.int .i64 (ah16 a b)) ∧ w = w' := by
  go_enter Tryd.func30, Tryd.ntmps30
  go_wp2
  all_goals (go_ret; exact ⟨ret_int (by unfold ah16; omega), rfl⟩)


/-- The two cells of a Wide at the head of block b: the highest number (h < 0: none yet). -/
def wHead (h : Int) : Value := .int .i64 (if h < 0 then 0 else h)
def wFlag (h : Int) : Value := .bool (decide (0 ≤ h))




theorem set_same (cs : Array Value) (i : Nat) (v : Value) (h : cs[i]? = some v) : cs.setIfInBounds i v = cs := by
  apply Array.ext_getElem?
  intro j
  rw [Array.getElem?_setIfInBounds]
  split
  · rename_i hj
    subst hj
    have := (Array.getElem?_eq_some_iff.1 h).1
    rw [if_pos this, h]
  · rfl



end Go.Proofs.YtibccecmicndaaaDoor
