/-
  RANGE OVER A FUNCTION, with early ways out of the body; each value that comes is as 'Rd' tells of it and of what has come before it. No program is named here.
-/
import Derived.Test.YthholboipbfklaaRng
import Derived.Test.YthholboipbfklaaSep
import Derived.RangeFuncWrites
set_option linter.unusedVariables false
set_option linter.unusedSimpArgs false
namespace Go.Proofs.Ythholboipbfklaa
open Go.RowKit

/-- What an iterator promises: it hands on values that are as 'Rd' says, given what has come before, until a round says 'no more'. -/
def SeqG {α : Type} (n : Nat) (P : Program) (g : Nat) (lb : Array Value) (encs : α → Array Value) (Kp : World → World → Prop) (Rd : List α → Nat → α → World → Prop) (S Sp : List α → Prop) (w : World) : Prop :=
  ∀ (l : Nat) (J : List α → Nat → World → Prop) (Jx : List α → World → Prop) (W : World) (B0 : Nat), Below w.heap.size w W → B0 ≤ W.heap.size → (∀ pre B X Y, J pre B X → X.grownBy Y none → J pre B Y) → (∀ pre X Y, Jx pre X → X.grownBy Y none → Jx pre Y) →
    (∀ pre B x W1, J pre B W1 → Rd pre B x W1 → YieldAt Fence.wide (n - 1) P l (encs x) W1 fun e W' => (e = .returned (.bool true) ∧ J (pre ++ [x]) W'.heap.size W' ∧ Kp W1 W') ∨ (e = .returned (.bool false) ∧ Jx (pre ++ [x]) W')) →
    J [] B0 W →
    CallsIn Fence.wide n P g (#[.func (.yield l) #[] #[]] ++ lb) W fun e W' => (∃ v, e = .returned v) ∧ ((∃ xs B, S xs ∧ J xs B W') ∨ ∃ pre, Sp pre ∧ Jx pre W')

/-- How a round's body may be left. -/
def gPost {α : Type} (B : Nat) (Kp : World → World → Prop) (I : List α → Nat → World → Prop) (Ix : Code → List α → World → Prop) (xs : List α) (W : World) : Exit → Act → World → Prop
  | .normal, _, W' => KeepsFrom B W W' ∧ Kp W W' ∧ I xs W'.heap.size W'
  | .ret, _, W' => KeepsFrom B W W' ∧ Ix .ret xs W'
  | .exit id, _, W' => KeepsFrom B W W' ∧ Ix (.exit id) xs W'
  | _, _, _ => False

theorem range_g {n : Nat} {P : Program} {α : Type} {g : Operand} {ps : Array Tmp} {assign body : Code} {Q : Exit → Act → World → Prop} {a : Act} {w : World}
    (h1 : 1 ≤ n) {gf : Nat} {lb : Array Value} (hg : a.eval g = .func (.func gf) #[] lb) (eg : ∀ args w, (callFunc gf args).run P w = .ok (.enter gf args) w)
    {encs : α → Array Value} {Kp : World → World → Prop} {Rd : List α → Nat → α → World → Prop} {S Sp : List α → Prop} {w0 : World} (hseq : SeqG (n - 1) P gf lb encs Kp Rd S Sp w0)
    (hKt : ∀ {A B C : World}, Kp A B → Kp B C → Kp A C) (hKb : ∀ (W : World) (l : Nat) (o o' : Obj), w.heap.size ≤ l → W.heap[l]? = some o → o.isCells = false → o.isWalk = false → Kp W (W.putObj l o'))
    (hb0 : Below w0.heap.size w0 w) (hps : ∀ x, (encs x).size = ps.size)
    (hRd : ∀ (pre : List α) (B : Nat) (x : α) (W : World) (l : Nat) (o o' : Obj), w.heap.size ≤ l → W.heap[l]? = some o → o.isCells = false → Rd pre B x W → Rd pre B x (W.putObj l o'))
    (I : List α → Nat → World → Prop) (Ix : Code → List α → World → Prop)
    (hI : ∀ pre B X Y row, I pre B X → X.grownBy Y row → (∀ r, row = some r → w.heap.size ≤ r ∧ ∃ o : Obj, X.heap[r]? = some o ∧ o.isCells = false) → I pre B Y)
    (hIx : ∀ c pre X Y row, Ix c pre X → X.grownBy Y row → (∀ r, row = some r → w.heap.size ≤ r ∧ ∃ o : Obj, X.heap[r]? = some o ∧ o.isCells = false) → Ix c pre Y)
    (h0 : I [] w.heap.size w)
    (hround : ∀ (l : Nat) (pre : List α) (B : Nat) (x : α) (W Wb : World) (K : Act → World → Prop), I pre B Wb → Rd pre B x Wb →
      (∀ a₁, body.wpIn (Fence.wide.inRound l) (n - 1 - 1) P (gPost w.heap.size Kp I Ix (pre ++ [x]) Wb) a₁ Wb → K a₁ W) →
      assign.wpIn (Fence.wide.inRound l) (n - 1 - 1) P (Exit.then K (fun _ _ _ => False)) { tmps := (ps.zip (encs x)).foldl (fun t (p, v) => t.setIfInBounds p v) a.tmps, defers := [] } W)
    (hdone : ∀ (D : Nat) (xs : List α) (B : Nat) (W : World), w.heap.size ≤ D → S xs → I xs B W → W.heap[D]? = some (.deferred (some [])) → Q .normal { a with defers := { target := .collected D, args := #[] } :: a.defers } W)
    (hstop : ∀ (D : Nat) (c : Code) (pre : List α) (W : World), w.heap.size ≤ D → Sp pre → Ix c pre W → W.heap[D]? = some (.deferred (some [])) → c.wpIn Fence.wide n P Q { a with defers := { target := .collected D, args := #[] } :: a.defers } W) :
    (Code.rangeFunc g ps assign body).wpIn Fence.wide n P Q a w := by
  refine wpIn_rangeFunc fun fn hfn => ?_
  let R : LoopState → Option Code → Loop := fun st pe => { state := st, pending := pe, fn, tmps := a.tmps, params := ps, assign, body, defers := w.heap.size }
  let W1 := (w.alloc (.deferred (some []))).alloc (.loop (R .ready none))
  have hL1 : W1.heap[w.heap.size + 1]? = some (.loop (R .ready none)) := by
    have := World.alloc_heap_new (w.alloc (.deferred (some []))) (.loop (R .ready none)); rwa [World.size_alloc] at this
  have hK1 : W1.heap[w.heap.size]? = some (.deferred (some [])) := (Below.heap_alloc _ _ _ (by simp)).trans (World.alloc_heap_new w _)
  have hs1 : w.heap.size ≤ W1.heap.size := by simp [W1]; omega
  have hal : ∀ pre B X o, I pre B X → I pre B (X.alloc o) := fun pre B X o h => hI _ _ _ _ none h (World.grownBy_alloc X o none) (by simp)
  refine ⟨w.heap.size + 1, [{ target := .collected w.heap.size, args := #[] }], W1, { target := .fn (.func gf) lb, args := #[.func (.yield (w.heap.size + 1)) #[] #[]] }, W1, gf,
    #[.func (.yield (w.heap.size + 1)) #[] #[]] ++ lb, W1, run_enterLoop_outer _ _ _ _ _, ?_, fun _ _ => trivial, by simp [invoke, go_sem, eg], fun _ => h1, ?_⟩
  · simp only [resolve, hg]
    simp [go_sem]
  · refine (hseq (w.heap.size + 1) (fun pre B W => I pre B W ∧ W.heap[w.heap.size + 1]? = some (.loop (R .ready none)) ∧ W.heap[w.heap.size]? = some (.deferred (some [])))
      (fun pre W => ∃ c, Ix c pre W ∧ W.heap[w.heap.size + 1]? = some (.loop (R .done (some c))) ∧ W.heap[w.heap.size]? = some (.deferred (some []))) W1 w.heap.size
      (hb0.trans ((((Below.refl _ w).alloc (Nat.le_refl _) _).alloc (by simp) _).mono hb0.size)) hs1 ?_ ?_ ?_ ⟨hal _ _ _ _ (hal _ _ _ _ h0), hL1, hK1⟩).mono ?_
    · rintro pre B X Y ⟨hi, hl, hk⟩ hgr
      exact ⟨hI _ _ _ _ none hi hgr (by simp), (hgr.block _ (Array.getElem?_eq_some_iff.1 hl).1 (by simp)).trans hl, (hgr.block _ (Array.getElem?_eq_some_iff.1 hk).1 (by simp)).trans hk⟩
    · rintro pre X Y ⟨c, hi, hl, hk⟩ hgr
      exact ⟨c, hIx _ _ _ _ none hi hgr (by simp), (hgr.block _ (Array.getElem?_eq_some_iff.1 hl).1 (by simp)).trans hl, (hgr.block _ (Array.getElem?_eq_some_iff.1 hk).1 (by simp)).trans hk⟩
    · rintro pre B x W ⟨hi, hl, hk⟩ hr
      have hlt : w.heap.size + 1 < W.heap.size := (Array.getElem?_eq_some_iff.1 hl).1
      let Wb := W.putObj (w.heap.size + 1) (.loop (R .busy none))
      have hlb : Wb.heap[w.heap.size + 1]? = some (.loop (R .busy none)) := World.putObj_heap_same hlt
      have hkb : Wb.heap[w.heap.size]? = some (.deferred (some [])) := (World.putObj_heap_other (by omega)).trans hk
      have hib : I pre B Wb := hI _ _ _ _ (some (w.heap.size + 1)) hi (grownBy_putObj' W _ _) (fun r e => by cases e; exact ⟨by omega, _, hl, rfl⟩)
      refine ⟨fn, _, assign, body, run_yield (P := P) (args := encs x) hl (hps x), roundIn_of_wpIn hfn (hround _ pre B x W Wb _ hib (hRd _ _ _ _ _ _ _ (by omega) hl rfl hr) (fun a₁ hb => ⟨_, run_beginRound hl rfl, wpIn_mono hb ?_⟩))⟩
      have fin : ∀ (jump : Option Code) (W3 : World), KeepsFrom w.heap.size Wb W3 →
          W3.heap[w.heap.size + 1]? = some (.loop (R .busy none)) ∧ (W3.putObj (w.heap.size + 1) (.loop (R (if jump.isNone then .ready else .done) jump))).heap[w.heap.size + 1]? = some (.loop (R (if jump.isNone then .ready else .done) jump)) ∧
          (W3.putObj (w.heap.size + 1) (.loop (R (if jump.isNone then .ready else .done) jump))).heap[w.heap.size]? = some (.deferred (some [])) := fun jump W3 hk3 => by
        have hl3 := hk3.same _ _ (by omega) hlb rfl
        exact ⟨hl3, World.putObj_heap_same (Array.getElem?_eq_some_iff.1 hl3).1, (World.putObj_heap_other (by omega)).trans (hk3.same _ _ (Nat.le_refl _) hkb rfl)⟩
      rintro e a3 W3 hp
      cases e with
      | normal =>
        obtain ⟨hk3, hkp3, hi3⟩ := hp
        obtain ⟨hl3, hl4, hk4⟩ := fin none W3 hk3
        refine ⟨_, _, run_endRound (P := P) none hl3, .inl ⟨rfl, ⟨?_, hl4, hk4⟩, ?_⟩⟩
        · rw [World.putObj_size]; exact hI _ _ _ _ (some (w.heap.size + 1)) hi3 (grownBy_putObj' _ _ _) (fun r e => by cases e; exact ⟨by omega, _, hl3, rfl⟩)
        · exact hKt (hKt (hKb _ _ _ _ (by omega) hl rfl rfl) hkp3) (hKb _ _ _ _ (by omega) hl3 rfl rfl)
      | ret =>
        obtain ⟨hk3, hi3⟩ := hp
        obtain ⟨hl3, hl4, hk4⟩ := fin (some .ret) W3 hk3
        exact ⟨_, _, run_endRound (P := P) (some .ret) hl3, .inr ⟨rfl, .ret, hIx _ _ _ _ (some (w.heap.size + 1)) hi3 (grownBy_putObj' _ _ _) (fun r e => by cases e; exact ⟨by omega, _, hl3, rfl⟩), hl4, hk4⟩⟩
      | exit id =>
        obtain ⟨hk3, hi3⟩ := hp
        obtain ⟨hl3, hl4, hk4⟩ := fin (some (.exit id)) W3 hk3
        exact ⟨_, _, run_endRound (P := P) (some (.exit id)) hl3, .inr ⟨rfl, .exit id, hIx _ _ _ _ (some (w.heap.size + 1)) hi3 (grownBy_putObj' _ _ _) (fun r e => by cases e; exact ⟨by omega, _, hl3, rfl⟩), hl4, hk4⟩⟩
      | _ => exact hp.elim
    · rintro e W2 ⟨⟨v, rfl⟩, (⟨xs, B, hS, hi, hl, hk⟩ | ⟨pre, hSp, c, hi, hl, hk⟩)⟩
      · exact ⟨none, _, run_endLoop (P := P) hl (by simp [R]), hdone _ xs B _ (Nat.le_refl _) hS (hI _ _ _ _ (some (w.heap.size + 1)) hi (grownBy_putObj' _ _ _) (fun r e => by cases e; exact ⟨by omega, _, hl, rfl⟩)) ((World.putObj_heap_other (by omega)).trans hk)⟩
      · exact ⟨some c, _, run_endLoop (P := P) hl (by simp [R]), hstop _ c pre _ (Nat.le_refl _) hSp (hIx _ _ _ _ (some (w.heap.size + 1)) hi (grownBy_putObj' _ _ _) (fun r e => by cases e; exact ⟨by omega, _, hl, rfl⟩)) ((World.putObj_heap_other (by omega)).trans hk)⟩

theorem Sep.abides {S : List Nat} {w0 w w' : World} {L : List Res} {row : Option Nat} (h : Sep S w0 w L) (hg : w.grownBy w' row) (hr : ∀ r, row = some r → w0.heap.size ≤ r ∧ ∃ o : Obj, w.heap[r]? = some o ∧ o.isCells = false)
    (hc : ∀ r ∈ L, ∀ k ∈ r.bl, ∃ o : Obj, w.heap[k]? = some o ∧ o.isCells = true) : Sep S w0 w' L := by
  have hf := Frm.of_grown_opt hg
  refine ⟨h.frm.after hf (fun g hg' => .inr (hr g (by simpa using hg')).1), fun r hrL => r.stays w w' (fun k hk => hf.block k (r.lies w (h.holds r hrL) k hk) (fun hk' => ?_)) (h.holds r hrL), h.apart, h.mine⟩
  obtain ⟨_, o, ho, hn⟩ := hr k (by simpa using hk')
  obtain ⟨o2, ho2, hy⟩ := hc r hrL k hk
  rw [ho] at ho2
  injection ho2 with e
  subst e
  rw [hn] at hy
  cases hy
theorem own_cellsB {w : World} {e size : Nat} {v : Value} {n : Nat} {xs : List Value} (h : w.ownsRow 0 e size v n xs) : ∀ k ∈ v.ownBlock.toList, ∃ o : Obj, w.heap[k]? = some o ∧ o.isCells = true := fun k hk => by
  rcases h.2 with ⟨rfl, _⟩ | ⟨g, c, cur, rfl, _, hh, _⟩
  · simp [Value.ownBlock] at hk
  · simp [Value.ownBlock] at hk
    subst hk
    exact ⟨_, hh, rfl⟩
theorem blk_cells {w : World} {b : Nat} {t : TypeId} {cs : Array Value} (h : Blk w b t cs) : ∀ k ∈ (blkR b t cs).bl, ∃ o : Obj, w.heap[k]? = some o ∧ o.isCells = true := fun k hk => by
  simp [blkR] at hk
  subst hk
  exact ⟨_, h, rfl⟩

end Go.Proofs.Ythholboipbfklaa
