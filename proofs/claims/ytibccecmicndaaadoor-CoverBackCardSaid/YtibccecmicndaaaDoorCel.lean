/-
  THE END of a law whose result lies in a variable (its body ranges over a function).
-/
import Derived.Test.YtibccecmicndaaaDoorRnf
import Derived.Test.YtibccecmicndaaaDoorProg
set_option linter.unusedVariables false
set_option linter.unusedSimpArgs false
namespace Go.Proofs.YtibccecmicndaaaDoor
open Go.RowKit

theorem results_cell1 {P : Program} {fn : Func} {p : Tmp} {ty : TypeId} (h : fn.results = #[.cell p ty]) (tmps : Array Value) (w : World) (g : Nat) (v : Value)
    (hp : tmps.getD p undef = .pointer (some ⟨g, 0, none⟩)) (hl : (loadVar ty ⟨g, 0, none⟩).run P w = .ok v w) : (results fn tmps).run P w = .ok v w := by
  have hp' : tmps[p]?.getD undef = .pointer (some ⟨g, 0, none⟩) := by simpa using hp
  simp [results, h, hp', asAddr, hl]
theorem load_bool (w : World) (g : Nat) (b : Bool) (h : w.cell? ⟨g, 0, none⟩ = some (.bool b)) : (loadVar 4 ⟨g, 0, none⟩).run Tryd.prog w = .ok (.bool b) w := by
  simp [loadVar, go_sem, h]
theorem no_cells {W : World} {D g : Nat} {t : TypeId} {cs : Array Value} {x : Option (List Deferred)} (hK : W.heap[D]? = some (.deferred x)) (hb : Blk W g t cs) (e : D = g) : False := by
  subst e
  unfold Blk at hb
  rw [hK] at hb
  cases hb
/-- No deferred call: the cell holds 'true'. -/
theorem cell_end0 {n : Nat} {w W : World} {g : Nat} {t : TypeId} {tmps : Array Value} {fn : Func} {p : Tmp} (hr : fn.results = #[.cell p 4]) (hb : Blk W g t #[.bool true]) (hp : tmps.getD p undef = .pointer (some ⟨g, 0, none⟩)) (hf : Frm [] w W) :
    bodyPostM Fence.wide n Tryd.prog fn (fun e w' => e = Ending.returned (Value.bool true) ∧ Below w.heap.size w w') Exit.ret { tmps := tmps, defers := [] } W :=
  ⟨_, results_cell1 hr _ _ g (.bool true) hp (load_bool _ _ _ (hb.cell 0 rfl)), rfl, hf.below⟩
/-- The record of deferred calls alone. -/
theorem cell_end1 {n : Nat} {w W : World} {g D : Nat} {t : TypeId} {tmps : Array Value} {fn : Func} {p : Tmp} (hr : fn.results = #[.cell p 4]) (hK : W.heap[D]? = some (.deferred (some []))) (hb : Blk W g t #[.bool true]) (hp : tmps.getD p undef = .pointer (some ⟨g, 0, none⟩)) (hf : Frm [] w W) (hD : w.heap.size ≤ D) :
    bodyPostM Fence.wide n Tryd.prog fn (fun e w' => e = Ending.returned (Value.bool true) ∧ Below w.heap.size w w') Exit.ret { tmps := tmps, defers := [{ target := Target.collected D, args := #[] }] } W := by
  have hgD : g ≠ D := fun e => no_cells hK hb e.symm
  refine ⟨by simp, .inl ⟨_, _, rfl, run_takeDeferred hK, ?_⟩⟩
  have hb2 : Blk (W.putObj D (.deferred none)) g t #[.bool true] := (World.putObj_heap_other (fun e => hgD e)).trans hb
  refine ⟨_, results_cell1 hr _ _ g (.bool true) hp (load_bool _ _ _ (hb2.cell 0 rfl)), rfl, ?_⟩
  exact (hf.after (Frm.of_grown (grownBy_putObj' W D (.deferred none))) (fun k hk => by simp at hk; subst hk; exact .inr hD)).below
/-- The same of a result in a slot. -/
theorem slot_end1 {n : Nat} {w W : World} {D : Nat} {v : Value} {a : Act} {fn : Func} {R : Ending → World → Prop} (hr : (results fn a.tmps).run Tryd.prog (W.putObj D (.deferred none)) = .ok v (W.putObj D (.deferred none))) (hK : W.heap[D]? = some (.deferred (some []))) (hf : Frm [] w W) (hD : w.heap.size ≤ D)
    (hR : Frm [] w (W.putObj D (.deferred none)) → R (.returned v) (W.putObj D (.deferred none))) (ha : a.defers = [{ target := Target.collected D, args := #[] }]) :
    bodyPostM Fence.wide n Tryd.prog fn R Exit.ret a W := by
  obtain ⟨tmps, ds⟩ := a
  dsimp only at ha hr
  subst ha
  refine ⟨by simp, .inl ⟨_, _, rfl, run_takeDeferred hK, ?_⟩⟩
  exact ⟨_, hr, hR (hf.after (Frm.of_grown (grownBy_putObj' W D (.deferred none))) (fun k hk => by simp at hk; subst hk; exact .inr hD))⟩

end Go.Proofs.YtibccecmicndaaaDoor
