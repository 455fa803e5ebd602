/-
  WHAT IS SHOWN OF A DRAWN REGION IN THE PLAIN WALK SERVES WITHIN A ROUND of a range over a function. No program is named here.
-/
import Derived.Test.YtlkhjffbhcjdfaaDoorMks
import Derived.RangeFuncCalls
import Derived.OrdersIn
set_option linter.unusedVariables false
set_option linter.unusedSimpArgs false
namespace Go.Proofs.YtlkhjffbhcjdfaaDoor
open Go.RowKit

def noDefer (o : Oper) : Bool := match o.op with | .defer _ => false | _ => true
theorem noDefer_ne {o : Oper} (h : noDefer o = true) : ∀ c, o.op ≠ .defer c := fun c hc => by simp [noDefer, hc] at h

section
variable {P : Program} {n r : Nat} {ops : Array Oper} {md : Region.Mode} {Q : Exit → Act → World → Prop}

theorem wpIn_round_of_wp {o : Oper} {a : Act} {K K' : Act → World → Prop} {w : World} (hd : noDefer o = true) (hL : ¬ LetsOut Q) (h : ∀ a w, K a w → K' a w) (hh : o.wp P a w K Q) : o.wpIn (Fence.wide.inRound r) n P a w K' Q := by
  unfold Oper.wp at hh
  unfold Oper.wpIn
  refine ⟨fun _ _ => trivial, ?_⟩
  rw [Oper.semAt_eq _ _ _ (noDefer_ne hd)]
  generalize (execOp a.eval o).run P w = y at *
  cases y with
  | ok x w' =>
    cases x <;> simp only [Oper.upon] at hh <;> simp only [Oper.uponIn]
    case value u => exact h _ _ hh
    case skip => exact h _ _ hh
    case defer d => exact h _ _ hh
    case enter f args =>
      refine ⟨(fun hd => by cases hd), ?_⟩
      exact CallsIn.inRound r ((callsIn_wide.2 hh).mono fun e w'' he => by cases e <;> first | exact h _ _ he | exact he)
    case row row args =>
      refine ⟨(fun hd => by cases hd), ?_⟩
      intro c cs _
      obtain ⟨v, w2, hr, hs⟩ := hh c cs
      exact ⟨v, w2, h _ _ hr, stepsIn_wide.2 hs⟩
  | halt x w' => cases x <;> simp only [Oper.upon] at hh <;> simp only [Oper.uponIn] <;> exact hh

theorem wpOpIn_round_of_wpOp {i : Nat} {a : Act} {K K' : Act → World → Prop} {w : World} (hd : ops.all noDefer = true) (hL : ¬ LetsOut Q) (h : ∀ a w, K a w → K' a w) (hh : wpOp P ops Q i K a w) :
    wpOpIn (Fence.wide.inRound r) n P ops Q i K' a w := by
  unfold wpOp at hh
  unfold wpOpIn
  split
  · rename_i ho; simp only [ho] at hh; exact h _ _ hh
  · rename_i o ho
    simp only [ho] at hh
    have hod : noDefer o = true := Array.all_eq_true_iff_forall_mem.1 hd o (Array.mem_of_getElem? ho)
    split
    · rename_i hw
      simp only [hw, if_true] at hh
      rcases hh with hh | hh
      · exact wpIn_round_of_wp hod hL h hh
      · exact absurd hh.2 hL
    · rename_i hw; simp only [hw] at hh; exact ⟨fun _ _ => trivial, h _ _ hh⟩

theorem wpAnyIn_round_of_wpAny (hd : ops.all noDefer = true) (hL : ¬ LetsOut Q) : ∀ (fuel : Nat) (listed : Array Bool) (a : Act) (w : World),
    wpAny P md ops Q fuel listed a w → wpAnyIn (Fence.wide.inRound r) n P md ops Q fuel listed a w
  | 0, _, _, _, h => h
  | fuel + 1, _, _, _, h => ⟨h.1, fun i hi => wpOpIn_round_of_wpOp hd hL (fun a' w' => wpAnyIn_round_of_wpAny hd hL fuel _ a' w') (h.2 i hi)⟩
/-- A region that draws, within a round. -/
theorem region_round {id : Nat} {a : Act} {w : World} (hm : P.follows .mixedOrders = true) (hd : ops.all noDefer = true) (hL : ¬ LetsOut Q)
    (h : wpAny P .any ops Q ops.size (Array.replicate ops.size false) a w.drew) : (Code.region id ops true).wpIn (Fence.wide.inRound r) n P Q a w :=
  wpIn_region_any hm (wpAnyIn_round_of_wpAny hd hL _ _ _ _ h)
end

end Go.Proofs.YtlkhjffbhcjdfaaDoor
