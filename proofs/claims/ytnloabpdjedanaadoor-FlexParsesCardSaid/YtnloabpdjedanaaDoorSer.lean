/-
  THE WALKS of package serial and of its reference: two numbers; what doesn't go round.
-/
import Derived.Test.YtnloabpdjedanaaDoorRows
import Derived.Test.YtnloabpdjedanaaDoorBa
import Derived.Test.YtnloabpdjedanaaDoorSerP
import Derived.WalkKit
import Derived.WalkSpells
import Derived.WalkLawsBesides
import Derived.OneCell
import Derived.Lib.Hide
import Derived.Deep.QuietTactic
import Derived.BigQuiet
set_option linter.unusedVariables false
set_option linter.unusedSimpArgs false
namespace Go.Proofs.YtnloabpdjedanaaDoor
open Go.RowKit



set_option maxHeartbeats 400000 in
theorem add_c (a n : Int) (w : World) (a0 : 0 ≤ a) (a1 : a ≤ 65535) :
    Calls Tryd.prog 49 #[.int .u16 a, .int .i64 n] w fun e w' => e = .returned (.int .u16 (add16 a n)) ∧ w = w' := by
  go_enter Tryd.func49, Tryd.ntmps49
  go_wp2
  all_goals (go_ret; exact ⟨ret_int (by unfold add16; rw [IntKind.wrap_u16, IntKind.wrap_u16]; omega), rfl⟩)



/-- The two cells of a Wide at the head of block b: the highest number (h < 0: none yet). -/
def wHead (h : Int) : Value := .int .i64 (if h < 0 then 0 else h)
def wFlag (h : Int) : Value := .bool (decide (0 ≤ h))




theorem set_same (cs : Array Value) (i : Nat) (v : Value) (h : cs[i]? = some v) : cs.setIfInBounds i v = cs := by
  apply Array.ext_getElem?
  intro j
  rw [Array.getElem?_setIfInBounds]
  split
  · rename_i hj
    subst hj
    have := (Array.getElem?_eq_some_iff.1 h).1
    rw [if_pos this, h]
  · rfl



end Go.Proofs.YtnloabpdjedanaaDoor
