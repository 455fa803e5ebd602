/-
  A REGION THAT DRAWS ITS ORDER, whose operations only read, WITHIN A ROUND of a range over a function: the plain quiet walk serves there too. No program is named here.
-/
import Derived.Test.YtibccecmicndaaaDoorRng
import Derived.Deep.Quiet
import Derived.OrdersIn
set_option linter.unusedVariables false
set_option linter.unusedSimpArgs false
namespace Go.Proofs.YtibccecmicndaaaDoor
open Go.RowKit

section
variable {P : Program} {n r : Nat} {ops : Array Oper} {md : Region.Mode} {C : World → Prop}

theorem wpIn_round_of_quiet {o : Oper} {a : Act} {K : Act → Prop} {K' : Act → World → Prop} {Q' : Exit → Act → World → Prop} {w : World} (hw : C w) (h : ∀ a w', C w' → K a → K' a w')
    (hh : o.quiet P a C K) : o.wpIn (Fence.wide.inRound r) n P a w K' Q' := by
  obtain ⟨v, h1, h2⟩ := hh
  have h3 := h1 w hw
  unfold Oper.quietAt at h3
  unfold Oper.wpIn
  refine ⟨fun _ _ => trivial, ?_⟩
  by_cases hd : ∃ c, o.op = .defer c
  · obtain ⟨c, hc⟩ := hd
    exfalso
    unfold execOp at h3
    simp only [hc, Sem.run_bind] at h3
    cases hr : (resolve a.eval c o.type).run P w with
    | ok d w' => simp [hr, Oper.quietUpon] at h3
    | halt x w' => simp [hr, Oper.quietUpon] at h3
  · rw [Oper.semAt_eq _ _ _ (fun c hc => hd ⟨c, hc⟩)]
    generalize (execOp a.eval o).run P w = y at *
    cases y with
    | ok x w' =>
      cases x <;> simp only [Oper.quietUpon] at h3 <;> simp only [Oper.uponIn]
      case value u =>
        obtain ⟨e1, e2⟩ := h3
        rw [e1, e2]
        exact h _ _ hw h2
      case skip =>
        obtain ⟨e1, e2⟩ := h3
        rw [e1, ← e2]
        exact h _ _ hw h2
      case enter f args =>
        obtain ⟨e1, hc⟩ := h3
        rw [e1]
        refine ⟨(fun hd => by cases hd), ?_⟩
        exact CallsIn.inRound r ((callsIn_wide.2 hc).mono fun e w'' ⟨he, hw''⟩ => by subst he; exact h _ _ hw'' h2)
    | halt x w' => simp only [Oper.quietUpon] at h3

theorem wpOpIn_round_of_qOp {i : Nat} {a : Act} {K : Act → Prop} {K' : Act → World → Prop} {Q' : Exit → Act → World → Prop} {w : World} (hC : C w) (h : ∀ a w', C w' → K a → K' a w')
    (hh : qOp P ops C i K a) : wpOpIn (Fence.wide.inRound r) n P ops Q' i K' a w := by
  unfold qOp at hh
  unfold wpOpIn
  split
  · rename_i ho; simp only [ho] at hh; exact h _ _ hC hh
  · rename_i o ho
    simp only [ho] at hh
    split
    · rename_i hw; simp only [hw, if_true] at hh; exact wpIn_round_of_quiet hC h hh
    · rename_i hw; simp only [hw] at hh; exact ⟨fun _ _ => trivial, h _ _ hC hh⟩

theorem wpAnyIn_round_of_quiet {Q : Act → Prop} {Q' : Exit → Act → World → Prop} (hQ : ∀ a w, C w → Q a → Q' .normal a w) : ∀ (fuel : Nat) (listed : Array Bool) (a : Act) (w : World), C w →
    wpAnyQ P md ops C Q fuel listed a → wpAnyIn (Fence.wide.inRound r) n P md ops Q' fuel listed a w
  | 0, _, _, _, hw, h => ⟨h.1, hQ _ _ hw h.2⟩
  | fuel + 1, _, _, _, hw, h => ⟨fun h0 => hQ _ _ hw (h.1 h0), fun i hi => wpOpIn_round_of_qOp hw (fun a' w' hw' => wpAnyIn_round_of_quiet hQ fuel _ a' w' hw') (h.2 i hi)⟩

theorem region_round_quiet {id : Nat} {Q : Exit → Act → World → Prop} {a : Act} {w : World} {l : List Oper} (hm : P.follows .mixedOrders = true) (hB : Region.lexB .any l.toArray = true)
    (h : wpQuiet P l.toArray (fun w' => ∃ n, w' = w.drewN n) (fun a' => ∀ w', (∃ n, w' = w.drewN n) → Q .normal a' w') l a) : (Code.region id l.toArray true).wpIn (Fence.wide.inRound r) n P Q a w := by
  simp only [Region.lexB, Bool.and_eq_true] at hB
  refine wpIn_region_any hm (wpAnyIn_round_of_quiet (C := fun w' => ∃ n, w' = w.drewN n) (Q := fun a' => ∀ w', (∃ n, w' = w.drewN n) → Q .normal a' w') (fun _ w' hw' h => h w' hw') _ _ _ _ ⟨1, rfl⟩ ?_)
  have := wpAnyQ_lex (C := fun w' => ∃ n, w' = w.drewN n) (md := .any) hB.1 l 0 (Array.replicate l.toArray.size false) a (by simp) (by simpa using hB.2) h
  simpa using this
end

end Go.Proofs.YtibccecmicndaaaDoor
