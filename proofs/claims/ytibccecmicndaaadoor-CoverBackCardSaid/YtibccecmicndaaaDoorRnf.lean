/-
  RANGE OVER A FUNCTION. The iterator's own blocks are told to the caller one by one ('foreign' blocks, the list F); the caller's invariant bears writes to them, a round keeps them. The loop's own records are among them. Early ways out are let; loops nest (F0: what was foreign ahead of this loop). No program is named here.
-/
import Derived.Test.YtibccecmicndaaaDoorRng
import Derived.Test.YtibccecmicndaaaDoorSep
import Derived.RangeFuncWrites
set_option linter.unusedVariables false
set_option linter.unusedSimpArgs false
namespace Go.Proofs.YtibccecmicndaaaDoor
open Go.RowKit

/-- What is kept: the blocks of F that are not of F0. -/
def KpF (F0 F : List Nat) (X Y : World) : Prop := X.heap.size ≤ Y.heap.size ∧ ∀ m ∈ F, m ∉ F0 → Y.heap[m]? = X.heap[m]?
theorem KpF.refl (F0 F : List Nat) (X : World) : KpF F0 F X X := ⟨Nat.le_refl _, fun _ _ _ => rfl⟩
theorem KpF.trans {F0 F : List Nat} {X Y Z : World} (h : KpF F0 F X Y) (k : KpF F0 F Y Z) : KpF F0 F X Z := ⟨Nat.le_trans h.1 k.1, fun m hm h0 => (k.2 m hm h0).trans (h.2 m hm h0)⟩

/-- What bears new memory, foreign blocks, writes to foreign blocks but those of F0. -/
structure Bears {β : Type} (F0 : List Nat) (J : β → List Nat → World → Prop) : Prop where
  grow : ∀ b F X Y, J b F X → X.grownBy Y none → J b F Y
  more : ∀ b F X Y m, J b F X → X.grownBy Y none → X.heap.size ≤ m → m < Y.heap.size → J b (m :: F) Y
  put : ∀ b F X Y m, J b F X → m ∈ F → m ∉ F0 → X.grownBy Y (some m) → J b F Y

/-- What an iterator promises: as long as the caller keeps what 'Kept' says, it hands on values that are as 'Rd' says, given what has come before, until a round says 'no more'. -/
def SeqF {α : Type} (n : Nat) (P : Program) (g : Nat) (lb : Array Value) (encs : α → Array Value) (Q : World → Prop) (Rd : List α → α → World → Prop) (S Sp : List α → Prop) (w : World) : Prop :=
  ∀ (l : Nat) (J Jx : List α → List Nat → World → Prop) (F0 : List Nat) (W : World), Below w.heap.size w W → Bears F0 J → Bears F0 Jx → (∀ pre F W1, J pre F W1 → Q W1) → (∀ m ∈ F0, m < W.heap.size) →
    (∀ pre F x W1, J pre F W1 → (∀ m ∈ F0, m ∈ F) → Rd pre x W1 → YieldAt Fence.wide (n - 1) P l (encs x) W1 fun e W' => KpF F0 F W1 W' ∧ ((e = .returned (.bool true) ∧ J (pre ++ [x]) F W') ∨ (e = .returned (.bool false) ∧ Jx (pre ++ [x]) F W'))) →
    J [] F0 W →
    CallsIn Fence.wide n P g (#[.func (.yield l) #[] #[]] ++ lb) W fun e W' => (∃ v, e = .returned v) ∧ ((∃ xs F, S xs ∧ (∀ m ∈ F0, m ∈ F) ∧ J xs F W') ∨ ∃ pre F, Sp pre ∧ (∀ m ∈ F0, m ∈ F) ∧ Jx pre F W')

/-- How a round's body may be left. -/
def fPost {α : Type} (F0 F : List Nat) (I : List α → List Nat → World → Prop) (Ix : Code → List α → List Nat → World → Prop) (xs : List α) (W : World) : Exit → Act → World → Prop
  | .normal, _, W' => KpF F0 F W W' ∧ I xs F W'
  | .ret, _, W' => KpF F0 F W W' ∧ Ix .ret xs F W'
  | .exit id, _, W' => KpF F0 F W W' ∧ Ix (.exit id) xs F W'
  | _, _, _ => False

theorem yieldAt_wide {m m' : Nat} {P : Program} {l : Nat} {args : Array Value} {W : World} {R : Ending → World → Prop} (h : YieldAt Fence.wide m P l args W R) : YieldAt Fence.wide m' P l args W R := by
  obtain ⟨fn, tmps, assign, body, h1, h2⟩ := h
  exact ⟨fn, tmps, assign, body, h1, h2.1, fun c cs _ => h2.2 c cs (room_wide _)⟩

theorem range_f {n : Nat} {P : Program} {α : Type} {g : Operand} {ps : Array Tmp} {assign body : Code} {Q : Exit → Act → World → Prop} {a : Act} {w : World}
    (h1 : 1 ≤ n) {gf : Nat} {lb : Array Value} (hg : a.eval g = .func (.func gf) #[] lb) (eg : ∀ args w, (callFunc gf args).run P w = .ok (.enter gf args) w)
    {encs : α → Array Value} {Kept : World → Prop} {Rd : List α → α → World → Prop} {S Sp : List α → Prop} {w0 : World} (hseq : SeqF (n - 1) P gf lb encs Kept Rd S Sp w0)
    (hb0 : Below w0.heap.size w0 w) (hps : ∀ x, (encs x).size = ps.size)
    (hRd : ∀ (pre : List α) (x : α) (W : World) (l : Nat) (o' : Obj), w.heap.size ≤ l → Rd pre x W → Rd pre x (W.putObj l o'))
    (F0 : List Nat) (hF0 : ∀ m ∈ F0, m < w.heap.size)
    (I : List α → List Nat → World → Prop) (Ix : Code → List α → List Nat → World → Prop) (hI : Bears F0 I) (hIx : ∀ c, Bears F0 (Ix c)) (hQ : ∀ pre F W, I pre F W → Kept W)
    (h0 : I [] F0 w)
    (hround : ∀ (l : Nat) (pre : List α) (F : List Nat) (x : α) (W Wb : World) (K : Act → World → Prop), I pre F Wb → (∀ m ∈ F0, m ∈ F) → Rd pre x Wb →
      (∀ a₁, body.wpIn (Fence.wide.inRound l) (n - 1 - 1) P (fPost F0 F I Ix (pre ++ [x]) Wb) a₁ Wb → K a₁ W) →
      assign.wpIn (Fence.wide.inRound l) (n - 1 - 1) P (Exit.then K (fun _ _ _ => False)) { tmps := (ps.zip (encs x)).foldl (fun t (p, v) => t.setIfInBounds p v) a.tmps, defers := [] } W)
    (hdone : ∀ (D : Nat) (xs : List α) (F : List Nat) (W : World), w.heap.size ≤ D → D ∈ F → (∀ m ∈ F0, m ∈ F) → S xs → I xs F W → W.heap[D]? = some (.deferred (some [])) → Q .normal { a with defers := { target := .collected D, args := #[] } :: a.defers } W)
    (hstop : ∀ (D : Nat) (c : Code) (pre : List α) (F : List Nat) (W : World), w.heap.size ≤ D → D ∈ F → (∀ m ∈ F0, m ∈ F) → Sp pre → Ix c pre F W → W.heap[D]? = some (.deferred (some [])) → c.wpIn Fence.wide n P Q { a with defers := { target := .collected D, args := #[] } :: a.defers } W) :
    (Code.rangeFunc g ps assign body).wpIn Fence.wide n P Q a w := by
  refine wpIn_rangeFunc fun fn hfn => ?_
  let R : LoopState → Option Code → Loop := fun st pe => { state := st, pending := pe, fn, tmps := a.tmps, params := ps, assign, body, defers := w.heap.size }
  let W1 := (w.alloc (.deferred (some []))).alloc (.loop (R .ready none))
  have hL1 : W1.heap[w.heap.size + 1]? = some (.loop (R .ready none)) := by
    have := World.alloc_heap_new (w.alloc (.deferred (some []))) (.loop (R .ready none)); rwa [World.size_alloc] at this
  have hK1 : W1.heap[w.heap.size]? = some (.deferred (some [])) := (Below.heap_alloc _ _ _ (by simp)).trans (World.alloc_heap_new w _)
  have hs1 : W1.heap.size = w.heap.size + 2 := by simp [W1]
  let F1 := (w.heap.size + 1) :: w.heap.size :: F0
  have hl1 : w.heap.size + 1 ∈ F1 := by simp [F1]
  have hd1 : w.heap.size ∈ F1 := by simp [F1]
  have h01 : ∀ m ∈ F0, m ∈ F1 := fun m hm => by simp [F1, hm]
  have hl0 : w.heap.size + 1 ∉ F0 := fun h => by have := hF0 _ h; omega
  have hI1 : I [] F1 W1 :=
    hI.more _ _ _ _ _ (hI.more _ _ _ _ _ h0 (World.grownBy_alloc w _ none) (Nat.le_refl _) (by simp)) (World.grownBy_alloc _ _ none) (by simp) (by simp [W1])
  refine ⟨w.heap.size + 1, [{ target := .collected w.heap.size, args := #[] }], W1, { target := .fn (.func gf) lb, args := #[.func (.yield (w.heap.size + 1)) #[] #[]] }, W1, gf,
    #[.func (.yield (w.heap.size + 1)) #[] #[]] ++ lb, W1, run_enterLoop_outer _ _ _ _ _, ?_, fun _ _ => trivial, by simp [invoke, go_sem, eg], fun _ => h1, ?_⟩
  · simp only [resolve, hg]
    simp [go_sem]
  · have hbear : ∀ (β : Type) (T : β → List Nat → World → Prop) (r : β → Loop) , Bears F0 T → Bears F1 (fun b F W => T b F W ∧ (∀ m ∈ F1, m ∈ F) ∧ W.heap[w.heap.size + 1]? = some (.loop (r b)) ∧ W.heap[w.heap.size]? = some (.deferred (some []))) := by
      intro β T r hT
      refine ⟨?_, ?_, ?_⟩
      · rintro b F X Y ⟨hi, hF, hl, hk⟩ hgr
        exact ⟨hT.grow _ _ _ _ hi hgr, hF, (hgr.block _ (Array.getElem?_eq_some_iff.1 hl).1 (by simp)).trans hl, (hgr.block _ (Array.getElem?_eq_some_iff.1 hk).1 (by simp)).trans hk⟩
      · rintro b F X Y m ⟨hi, hF, hl, hk⟩ hgr h2 h3
        exact ⟨hT.more _ _ _ _ _ hi hgr h2 h3, fun k hk => by simp [hF k hk], (hgr.block _ (Array.getElem?_eq_some_iff.1 hl).1 (by simp)).trans hl, (hgr.block _ (Array.getElem?_eq_some_iff.1 hk).1 (by simp)).trans hk⟩
      · rintro b F X Y m ⟨hi, hF, hl, hk⟩ hm h0' hgr
        have n1 : w.heap.size + 1 ≠ m := fun e => h0' (e ▸ hl1)
        have n2 : w.heap.size ≠ m := fun e => h0' (e ▸ hd1)
        exact ⟨hT.put _ _ _ _ _ hi hm (fun h => h0' (h01 m h)) hgr, hF, (hgr.block _ (Array.getElem?_eq_some_iff.1 hl).1 (fun e => by injection e with e; exact n1 e)).trans hl, (hgr.block _ (Array.getElem?_eq_some_iff.1 hk).1 (fun e => by injection e with e; exact n2 e)).trans hk⟩
    have hbx : Bears F1 (fun pre F W => ∃ c, Ix c pre F W ∧ (∀ m ∈ F1, m ∈ F) ∧ W.heap[w.heap.size + 1]? = some (.loop (R .done (some c))) ∧ W.heap[w.heap.size]? = some (.deferred (some []))) := by
      have hb := fun c => hbear (List α) (Ix c) (fun _ => R .done (some c)) (hIx c)
      refine ⟨?_, ?_, ?_⟩
      · rintro b F X Y ⟨c, h⟩ h2; exact ⟨c, (hb c).grow _ _ _ _ h h2⟩
      · rintro b F X Y m ⟨c, h⟩ h2 h3 h4; exact ⟨c, (hb c).more _ _ _ _ _ h h2 h3 h4⟩
      · rintro b F X Y m ⟨c, h⟩ h2 h3 h4; exact ⟨c, (hb c).put _ _ _ _ _ h h2 h3 h4⟩
    refine (hseq (w.heap.size + 1) (fun pre F W => I pre F W ∧ (∀ m ∈ F1, m ∈ F) ∧ W.heap[w.heap.size + 1]? = some (.loop (R .ready none)) ∧ W.heap[w.heap.size]? = some (.deferred (some [])))
      (fun pre F W => ∃ c, Ix c pre F W ∧ (∀ m ∈ F1, m ∈ F) ∧ W.heap[w.heap.size + 1]? = some (.loop (R .done (some c))) ∧ W.heap[w.heap.size]? = some (.deferred (some []))) F1 W1
      (hb0.trans ((((Below.refl _ w).alloc (Nat.le_refl _) _).alloc (by simp) _).mono hb0.size)) (hbear (List α) I (fun _ => R .ready none) hI) hbx (fun pre F W1 h => hQ pre F W1 h.1) (fun m hm => by
        rcases List.mem_cons.1 hm with rfl | hm
        · omega
        · rcases List.mem_cons.1 hm with rfl | hm
          · omega
          · have := hF0 m hm; omega) ?_ ⟨hI1, fun _ h => h, hL1, hK1⟩).mono ?_
    · rintro pre F x W ⟨hi, hF, hl, hk⟩ _ hr
      have hlt : w.heap.size + 1 < W.heap.size := (Array.getElem?_eq_some_iff.1 hl).1
      let Wb := W.putObj (w.heap.size + 1) (.loop (R .busy none))
      have hlb : Wb.heap[w.heap.size + 1]? = some (.loop (R .busy none)) := World.putObj_heap_same hlt
      have hkb : Wb.heap[w.heap.size]? = some (.deferred (some [])) := (World.putObj_heap_other (by omega)).trans hk
      have hib : I pre F Wb := hI.put _ _ _ _ (w.heap.size + 1) hi (hF _ hl1) hl0 (grownBy_putObj' W _ _)
      have hd0 : w.heap.size ∉ F0 := fun h => by have := hF0 _ h; omega
      refine ⟨fn, _, assign, body, run_yield (P := P) (args := encs x) hl (hps x), roundIn_of_wpIn hfn (hround _ pre F x W Wb _ hib (fun m hm => hF m (h01 m hm)) (hRd _ _ _ _ _ (by omega) hr) (fun a₁ hb => ⟨_, run_beginRound hl rfl, wpIn_mono hb ?_⟩))⟩
      have fin : ∀ (jump : Option Code) (W3 : World), KpF F0 F Wb W3 →
          W3.heap[w.heap.size + 1]? = some (.loop (R .busy none)) ∧ (W3.putObj (w.heap.size + 1) (.loop (R (if jump.isNone then .ready else .done) jump))).heap[w.heap.size + 1]? = some (.loop (R (if jump.isNone then .ready else .done) jump)) ∧
          (W3.putObj (w.heap.size + 1) (.loop (R (if jump.isNone then .ready else .done) jump))).heap[w.heap.size]? = some (.deferred (some [])) ∧
          KpF F1 F W (W3.putObj (w.heap.size + 1) (.loop (R (if jump.isNone then .ready else .done) jump))) := fun jump W3 hk3 => by
        have hl3 := (hk3.2 _ (hF _ hl1) hl0).trans hlb
        refine ⟨hl3, World.putObj_heap_same (Array.getElem?_eq_some_iff.1 hl3).1, (World.putObj_heap_other (by omega)).trans ((hk3.2 _ (hF _ hd1) hd0).trans hkb), ?_, fun m hm hm1 => ?_⟩
        · have := hk3.1
          rw [World.putObj_size] at this ⊢
          exact this
        · have hml : w.heap.size + 1 ≠ m := fun e => hm1 (e ▸ hl1)
          rw [World.putObj_heap_other hml.symm, hk3.2 m hm (fun h => hm1 (h01 m h)), World.putObj_heap_other hml.symm]
      rintro e a3 W3 hp
      cases e with
      | normal =>
        obtain ⟨hk3, hi3⟩ := hp
        obtain ⟨hl3, hl4, hk4, hkp⟩ := fin none W3 hk3
        exact ⟨_, _, run_endRound (P := P) none hl3, hkp, .inl ⟨rfl, hI.put _ _ _ _ (w.heap.size + 1) hi3 (hF _ hl1) hl0 (grownBy_putObj' _ _ _), hF, hl4, hk4⟩⟩
      | ret =>
        obtain ⟨hk3, hi3⟩ := hp
        obtain ⟨hl3, hl4, hk4, hkp⟩ := fin (some .ret) W3 hk3
        exact ⟨_, _, run_endRound (P := P) (some .ret) hl3, hkp, .inr ⟨rfl, .ret, (hIx _).put _ _ _ _ (w.heap.size + 1) hi3 (hF _ hl1) hl0 (grownBy_putObj' _ _ _), hF, hl4, hk4⟩⟩
      | exit id =>
        obtain ⟨hk3, hi3⟩ := hp
        obtain ⟨hl3, hl4, hk4, hkp⟩ := fin (some (.exit id)) W3 hk3
        exact ⟨_, _, run_endRound (P := P) (some (.exit id)) hl3, hkp, .inr ⟨rfl, .exit id, (hIx _).put _ _ _ _ (w.heap.size + 1) hi3 (hF _ hl1) hl0 (grownBy_putObj' _ _ _), hF, hl4, hk4⟩⟩
      | _ => exact hp.elim
    · rintro e W2 ⟨⟨v, rfl⟩, (⟨xs, F, hS, _, hi, hF, hl, hk⟩ | ⟨pre, F, hSp, _, c, hi, hF, hl, hk⟩)⟩
      · exact ⟨none, _, run_endLoop (P := P) hl (by simp [R]), hdone _ xs F _ (Nat.le_refl _) (hF _ hd1) (fun m hm => hF m (h01 m hm)) hS (hI.put _ _ _ _ (w.heap.size + 1) hi (hF _ hl1) hl0 (grownBy_putObj' _ _ _)) ((World.putObj_heap_other (by omega)).trans hk)⟩
      · exact ⟨some c, _, run_endLoop (P := P) hl (by simp [R]), hstop _ c pre F _ (Nat.le_refl _) (hF _ hd1) (fun m hm => hF m (h01 m hm)) hSp ((hIx c).put _ _ _ _ (w.heap.size + 1) hi (hF _ hl1) hl0 (grownBy_putObj' _ _ _)) ((World.putObj_heap_other (by omega)).trans hk)⟩

/-- The foreign blocks as a thing: they lie as in X. -/
def frgR (F : List Nat) (X : World) : Res :=
  ⟨F, fun w => ∀ k ∈ F, k < X.heap.size ∧ w.heap[k]? = X.heap[k]?, fun w w' h hp k hk => ⟨(hp k hk).1, (h k hk).trans (hp k hk).2⟩,
   fun w hp k hk => by
    obtain ⟨h1, h2⟩ := hp k hk
    have h3 : X.heap[k]? = some X.heap[k] := Array.getElem?_eq_getElem h1
    rw [h3] at h2
    exact (Array.getElem?_eq_some_iff.1 h2).1⟩
theorem frgR.same {F : List Nat} {X w : World} (h : (frgR F X).P w) : ∀ k ∈ F, w.heap[k]? = X.heap[k]? := fun k hk => (h k hk).2
/-- They are pinned anew where they lie. -/
theorem Sep.pin {S : List Nat} {w0 w X : World} {F : List Nat} {L : List Res} (h : Sep S w0 w (frgR F X :: L)) : Sep S w0 w (frgR F w :: L) :=
  ⟨h.frm, fun r hr => by
    rcases List.mem_cons.1 hr with rfl | hr
    · exact fun k hk => ⟨(frgR F X).lies w (h.holds _ (by simp)) k hk, rfl⟩
    · exact h.holds r (by simp [hr]), by
    have := h.apart
    rw [List.pairwise_cons] at this ⊢
    exact this, fun r hr => by
    rcases List.mem_cons.1 hr with rfl | hr
    · exact fun k hk => h.mine (frgR F X) (by simp) k hk
    · exact h.mine r (by simp [hr])⟩
/-- The caller's things beside the foreign blocks: that is an invariant that bears what an iterator does. -/
theorem bears_sep {β : Type} {S : List Nat} {w0 : World} (F0 : List Nat) (L : β → List Res) : Bears F0 (fun b F W => Sep S w0 W (frgR F W :: L b)) := by
  refine ⟨fun b F X Y h hg => (h.keep (Frm.of_below (below_of_grown hg))).pin, fun b F X Y m h hg h1 h2 => ?_, fun b F X Y m h hm _ hg => ?_⟩
  · have hk := (h.keep (Frm.of_below (below_of_grown hg))).pin
    refine ⟨hk.frm, fun r hr => ?_, ?_, fun r hr k hk' => ?_⟩
    · rcases List.mem_cons.1 hr with rfl | hr
      · intro k hk'
        rcases List.mem_cons.1 hk' with rfl | hk'
        · exact ⟨h2, rfl⟩
        · exact ⟨(frgR F Y).lies Y (hk.holds _ (by simp)) k hk', rfl⟩
      · exact hk.holds r (by simp [hr])
    · have ha := hk.apart
      rw [List.pairwise_cons] at ha ⊢
      refine ⟨fun r hr k hk' hkr => ?_, ha.2⟩
      rcases List.mem_cons.1 hk' with rfl | hk'
      · have := r.lies X (h.holds r (by simp [hr])) k hkr
        omega
      · exact ha.1 r hr k hk' hkr
    · rcases List.mem_cons.1 hr with rfl | hr
      · rcases List.mem_cons.1 hk' with rfl | hk'
        · exact .inr (Nat.le_trans h.frm.size h1)
        · exact hk.mine (frgR F Y) (by simp) k hk'
      · exact hk.mine r (by simp [hr]) k hk'
  · have := h.write 0 rfl (F := [m]) (Frm.of_grown hg) (by simp [frgR, hm]) (r' := frgR F Y) (fun k hk => ⟨Nat.lt_of_lt_of_le ((frgR F X).lies X (h.holds _ (by simp)) k hk) hg.size, rfl⟩) (fun k hk => .inl hk)
    exact this
theorem bears_and {β : Type} {F0 : List Nat} {J : β → List Nat → World → Prop} (h : Bears F0 J) (p : β → Prop) : Bears F0 (fun b F W => p b ∧ J b F W) :=
  ⟨fun b F X Y hj hg => ⟨hj.1, h.grow _ _ _ _ hj.2 hg⟩, fun b F X Y m hj hg h1 h2 => ⟨hj.1, h.more _ _ _ _ _ hj.2 hg h1 h2⟩, fun b F X Y m hj hm h0 hg => ⟨hj.1, h.put _ _ _ _ _ hj.2 hm h0 hg⟩⟩
/-- A round's end, from the caller's things beside the foreign blocks as they lay at its beginning. -/
theorem kpF_of {S : List Nat} {w0 W W' : World} {F0 F : List Nat} {L : List Res} (hs : W.heap.size ≤ W'.heap.size) (h : Sep S w0 W' (frgR F W :: L)) : KpF F0 F W W' := ⟨hs, fun m hm _ => frgR.same (h.holds _ (by simp)) m hm⟩
/-- No foreign block is a thing of the caller's own. -/
theorem Sep.notMine {S : List Nat} {w0 w X : World} {F : List Nat} {L : List Res} (h : Sep S w0 w (frgR F X :: L)) (i : Nat) {r : Res} (hi : L[i]? = some r) {k : Nat} (hk : k ∈ F) : k ∉ r.bl := by
  have := h.apart
  rw [List.pairwise_cons] at this
  exact this.1 r (List.mem_of_getElem? hi) k hk

end Go.Proofs.YtibccecmicndaaaDoor
