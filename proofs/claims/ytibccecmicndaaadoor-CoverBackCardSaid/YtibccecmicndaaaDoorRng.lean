/-
  RANGE OVER A FUNCTION, no early way out of the body; each value that comes is as 'Rd' tells when it is handed on (so it may lie in memory that the iterator has just made). No program is named here.
-/
import Derived.Test.YtibccecmicndaaaDoorK
import Derived.RangeFuncNested
import Derived.RangeFuncBound
import Derived.RangeFuncCalls
import Derived.RangeFuncLeaves
import Derived.Shelf.Abstract
import Derived.WalkKit
import Derived.OwnWalkIn
import Derived.TacticsInMore
import Derived.LoopNIn
import Derived.LoopIn
set_option linter.unusedVariables false
set_option linter.unusedSimpArgs false
namespace Go.Proofs.YtibccecmicndaaaDoor
open Go.RowKit

/-- What an iterator promises: it hands on values that are as 'Rd' says at that time (B: a bound that the caller's own blocks lie below), as long as each round goes on. -/
def SeqRd {α : Type} (n : Nat) (P : Program) (g : Nat) (lb : Array Value) (encs : α → Array Value) (Kp : World → World → Prop) (Rd : Nat → α → World → Prop) (S : List α → Prop) (N : Nat) (w : World) : Prop :=
  ∀ (l : Nat) (J : List α → Nat → World → Prop) (W : World) (B0 : Nat), Below w.heap.size w W → B0 ≤ W.heap.size → (∀ pre B X Y, J pre B X → X.grownBy Y none → J pre B Y) →
    (∀ pre B x W1, J pre B W1 → Rd B x W1 → pre.length < N → YieldAt Fence.wide (n - 1) P l (encs x) W1 fun e W' => e = .returned (.bool true) ∧ J (pre ++ [x]) W'.heap.size W' ∧ Kp W1 W') →
    J [] B0 W →
    CallsIn Fence.wide n P g (#[.func (.yield l) #[] #[]] ++ lb) W fun e W' => (∃ v, e = .returned v) ∧ ∃ xs B, S xs ∧ J xs B W'

theorem range_rd {n : Nat} {P : Program} {α : Type} {g : Operand} {ps : Array Tmp} {assign body : Code} {Q : Exit → Act → World → Prop} {a : Act} {w : World}
    (h1 : 1 ≤ n) {gf : Nat} {lb : Array Value} (hg : a.eval g = .func (.func gf) #[] lb) (eg : ∀ args w, (callFunc gf args).run P w = .ok (.enter gf args) w)
    {encs : α → Array Value} {Kp : World → World → Prop} {Rd : Nat → α → World → Prop} {S : List α → Prop} {N : Nat} {w0 : World} (hseq : SeqRd (n - 1) P gf lb encs Kp Rd S N w0)
    (hKt : ∀ {A B C : World}, Kp A B → Kp B C → Kp A C) (hKb : ∀ (W : World) (l : Nat) (o o' : Obj), w.heap.size ≤ l → W.heap[l]? = some o → o.isCells = false → o.isWalk = false → Kp W (W.putObj l o'))
    (hb0 : Below w0.heap.size w0 w) (hps : ∀ x, (encs x).size = ps.size)
    (hRd : ∀ (B : Nat) (x : α) (W : World) (l : Nat) (o o' : Obj), w.heap.size ≤ l → W.heap[l]? = some o → o.isCells = false → Rd B x W → Rd B x (W.putObj l o'))
    (I : List α → Nat → World → Prop) (hI : ∀ pre B X Y row, I pre B X → X.grownBy Y row → (∀ r, row = some r → w.heap.size ≤ r ∧ ∃ o : Obj, X.heap[r]? = some o ∧ o.isCells = false) → I pre B Y)
    (h0 : I [] w.heap.size w) (a₁ : α → Act)
    (hassign : ∀ (l : Nat) (x : α) (W : World) (K : Act → World → Prop), K (a₁ x) W →
      assign.wpIn (Fence.wide.inRound l) (n - 1 - 1) P (Exit.then K (fun _ _ _ => False)) { tmps := (ps.zip (encs x)).foldl (fun t (p, v) => t.setIfInBounds p v) a.tmps, defers := [] } W)
    (hbody : ∀ (l : Nat) (pre : List α) (B : Nat) (x : α) (W : World), I pre B W → Rd B x W → pre.length < N →
      body.wpIn (Fence.wide.inRound l) (n - 1 - 1) P (Exit.then (fun _ W' => KeepsFrom w.heap.size W W' ∧ Kp W W' ∧ I (pre ++ [x]) W'.heap.size W') (fun _ _ _ => False)) (a₁ x) W)
    (hdone : ∀ (D : Nat) (xs : List α) (B : Nat) (W : World), w.heap.size ≤ D → S xs → I xs B W → W.heap[D]? = some (.deferred (some [])) → Q .normal { a with defers := { target := .collected D, args := #[] } :: a.defers } W) :
    (Code.rangeFunc g ps assign body).wpIn Fence.wide n P Q a w := by
  refine wpIn_rangeFunc fun fn hfn => ?_
  -- the two records
  let R : LoopState → Loop := fun st => { state := st, pending := none, fn, tmps := a.tmps, params := ps, assign, body, defers := w.heap.size }
  let W1 := (w.alloc (.deferred (some []))).alloc (.loop (R .ready))
  have hL1 : W1.heap[w.heap.size + 1]? = some (.loop (R .ready)) := by
    have := World.alloc_heap_new (w.alloc (.deferred (some []))) (.loop (R .ready)); rwa [World.size_alloc] at this
  have hK1 : W1.heap[w.heap.size]? = some (.deferred (some [])) := (Below.heap_alloc _ _ _ (by simp)).trans (World.alloc_heap_new w _)
  have hs1 : w.heap.size ≤ W1.heap.size := by simp [W1]; omega
  have hal : ∀ pre B X o, I pre B X → I pre B (X.alloc o) := fun pre B X o h => hI _ _ _ _ none h (World.grownBy_alloc X o none) (by simp)
  refine ⟨w.heap.size + 1, [{ target := .collected w.heap.size, args := #[] }], W1, { target := .fn (.func gf) lb, args := #[.func (.yield (w.heap.size + 1)) #[] #[]] }, W1, gf,
    #[.func (.yield (w.heap.size + 1)) #[] #[]] ++ lb, W1, run_enterLoop_outer _ _ _ _ _, ?_, fun _ _ => trivial, by simp [invoke, go_sem, eg], fun _ => h1, ?_⟩
  · simp only [resolve, hg]
    simp [go_sem]
  · refine (hseq (w.heap.size + 1) (fun pre B W => I pre B W ∧ W.heap[w.heap.size + 1]? = some (.loop (R .ready)) ∧ W.heap[w.heap.size]? = some (.deferred (some []))) W1 w.heap.size
      (hb0.trans ((((Below.refl _ w).alloc (Nat.le_refl _) _).alloc (by simp) _).mono hb0.size)) hs1 ?_ ?_ ⟨hal _ _ _ _ (hal _ _ _ _ h0), hL1, hK1⟩).mono ?_
    · rintro pre B X Y ⟨hi, hl, hk⟩ hgr
      exact ⟨hI _ _ _ _ none hi hgr (by simp), (hgr.block _ (Array.getElem?_eq_some_iff.1 hl).1 (by simp)).trans hl, (hgr.block _ (Array.getElem?_eq_some_iff.1 hk).1 (by simp)).trans hk⟩
    · rintro pre B x W ⟨hi, hl, hk⟩ hr hlen
      have hlt : w.heap.size + 1 < W.heap.size := (Array.getElem?_eq_some_iff.1 hl).1
      let Wb := W.putObj (w.heap.size + 1) (.loop (R .busy))
      have hlb : Wb.heap[w.heap.size + 1]? = some (.loop (R .busy)) := World.putObj_heap_same hlt
      have hkb : Wb.heap[w.heap.size]? = some (.deferred (some [])) := (World.putObj_heap_other (by omega)).trans hk
      have hib : I pre B Wb := hI _ _ _ _ (some (w.heap.size + 1)) hi (grownBy_putObj' W _ _) (fun r e => by cases e; exact ⟨by omega, _, hl, rfl⟩)
      refine ⟨fn, _, assign, body, run_yield (P := P) (args := encs x) hl (hps x), roundIn_of_wpIn hfn (hassign _ x W _ ⟨_, run_beginRound hl rfl, ?_⟩)⟩
      refine wpIn_mono (hbody _ pre B x Wb hib (hRd _ _ _ _ _ _ (by omega) hl rfl hr) hlen) ?_
      rintro e a3 W3 hp
      cases e with
      | normal =>
        obtain ⟨hk3, hkp3, hi3⟩ := hp
        have hl3 := hk3.same _ _ (by omega) hlb rfl
        refine ⟨_, _, run_endRound (P := P) none hl3, rfl, ⟨?_, ?_, ?_⟩, ?_⟩
        · rw [World.putObj_size]; exact hI _ _ _ _ (some (w.heap.size + 1)) hi3 (grownBy_putObj' _ _ _) (fun r e => by cases e; exact ⟨by omega, _, hl3, rfl⟩)
        · exact World.putObj_heap_same (Array.getElem?_eq_some_iff.1 hl3).1
        · exact (World.putObj_heap_other (by omega)).trans (hk3.same _ _ (Nat.le_refl _) hkb rfl)
        · exact hKt (hKt (hKb _ _ _ _ (by omega) hl rfl rfl) hkp3) (hKb _ _ _ _ (by omega) hl3 rfl rfl)
      | _ => exact hp.elim
    · rintro e W2 ⟨⟨v, rfl⟩, xs, B, hS, hi, hl, hk⟩
      exact ⟨none, _, run_endLoop (P := P) hl (by simp [R]), hdone _ xs B _ (Nat.le_refl _) hS (hI _ _ _ _ (some (w.heap.size + 1)) hi (grownBy_putObj' _ _ _) (fun r e => by cases e; exact ⟨by omega, _, hl, rfl⟩)) ((World.putObj_heap_other (by omega)).trans hk)⟩

end Go.Proofs.YtibccecmicndaaaDoor
