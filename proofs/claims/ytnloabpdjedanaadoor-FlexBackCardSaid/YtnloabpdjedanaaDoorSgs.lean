/-
  A GREAT REGION THAT DRAWS ITS ORDER, walked once in its listed order, in stretches: quiet operations (moves, loads, sums: no calls), then one operation that is the only one that may come up (a call, an allocation, an append). Every such operation makes new memory alone, or writes to blocks of G that nothing in the region reads ('Frm G'); so what was loaded ahead is what would be loaded later. No program is named here.
-/
import Derived.Test.YtnloabpdjedanaaDoorMix
set_option linter.unusedVariables false
set_option linter.unusedSimpArgs false
namespace Go.Proofs.YtnloabpdjedanaaDoor
open Go.RowKit

/-- No operation that may enter a function. -/
def noEnter (o : Oper) : Bool :=
  match o.op with
  | .move _ | .assign _ | .pick _ _ _ | .build _ _ | .load _ _ | .binOp _ _ _ _ _ | .unOp _ _ _ | .convert _ _ _ | .fieldAddr _ _ _ | .field _ _ _ | .indexAddr _ _ _ | .index _ _ _ | .extract _ _ | .slice _ _ _ _ _ | .nilCheck _ => true
  | .call c => match c.callee with
    | .builtin .len | .builtin .cap | .builtin .min | .builtin .max => true
    | _ => false
  | _ => false

theorem run_ret {α : Type} {P : Program} {s : Sem α} {f : α → Value} {w w' : World} {n : Next} (h : (do let x ← s; pure (Next.value (f x)) : Sem Next).run P w = .ok n w') : ∃ v, n = .value v := by
  simp only [Sem.run_bind, Sem.run_pure] at h
  cases hr : s.run P w with
  | ok x w1 => rw [hr] at h; simp only [Result.andThen] at h; injection h with h1 h2; exact ⟨_, h1.symm⟩
  | halt x w1 => rw [hr] at h; simp only [Result.andThen] at h; cases h

theorem andThen_ok {α β : Type} {r : Result α} {f : α → World → Result β} {n : β} {w' : World} (h : r.andThen f = .ok n w') : ∃ a w1, r = .ok a w1 ∧ f a w1 = .ok n w' := by
  cases r with
  | ok a w1 => exact ⟨a, w1, rfl, h⟩
  | halt x w1 => simp only [Result.andThen] at h; cases h
theorem noEnter_value {P : Program} {ρ : Operand → Value} {o : Oper} (hk : noEnter o = true) {w w' : World} {n : Next} (h : (execOp ρ o).run P w = .ok n w') : ∃ v, n = .value v := by
  unfold noEnter at hk
  unfold execOp at h
  split at hk
  all_goals (rename_i ho; simp only [ho] at h)
  case h_1 | h_2 => simp only [Sem.run_pure] at h; injection h with h1 h2; exact ⟨_, h1.symm⟩
  case h_3 => exact run_ret (f := fun b : Bool => if b then _ else _) (by simpa using h)
  case h_15 =>
    split at h
    · change Result.halt _ _ = Result.ok _ _ at h; cases h
    · change Result.halt _ _ = Result.ok _ _ at h; cases h
    · change Result.halt _ _ = Result.ok _ _ at h; cases h
    · split at h
      · change Result.halt _ _ = Result.ok _ _ at h; cases h
      · rw [Sem.run_bind] at h
        obtain ⟨p, w1, _, h⟩ := andThen_ok h
        rw [Sem.run_bind] at h
        obtain ⟨b, w2, _, h⟩ := andThen_ok h
        split at h
        · rw [Sem.run_bind] at h
          obtain ⟨u, w3, _, h⟩ := andThen_ok h
          rw [Sem.run_pure] at h
          injection h with h1 h2
          exact ⟨_, h1.symm⟩
        · rw [Sem.run_pure] at h
          injection h with h1 h2
          exact ⟨_, h1.symm⟩
      · rw [Sem.run_pure] at h
        injection h with h1 h2
        exact ⟨_, h1.symm⟩
    · rw [Sem.run_pure] at h
      injection h with h1 h2
      exact ⟨_, h1.symm⟩
  case h_16 =>
    split at hk
    all_goals (rename_i hc; simp [resolve, hc, invoke, builtin] at h; first | exact run_ret (f := id) (by simpa using h) | cases hk)
  case h_17 => cases hk
  case h_6 =>
    simp only [Sem.run_bind, Sem.run_pure] at h
    cases hr : (eqGuard _ _ _ _ (ρ _) (ρ _)).run P w with
    | ok x w1 => rw [hr] at h; exact run_ret (f := id) (by simpa [Result.andThen] using h)
    | halt x w1 => rw [hr] at h; simp only [Result.andThen] at h; cases h
  all_goals exact run_ret (f := id) (by simpa using h)

/-- Quiet, and no call: one value, in every world of the class. -/
theorem strict_of_quiet {P : Program} {C : World → Prop} {o : Oper} {a : Act} {K : Act → Prop} (hk : noEnter o = true) (w : World) (hw : C w) (h : o.quiet P a C K) : ∃ v, (∀ w, C w → (execOp a.eval o).run P w = .ok (.value v) w) ∧ K (a.put o.dst v) := by
  obtain ⟨v, h1, h2⟩ := h
  refine ⟨v, fun w hw => ?_, h2⟩
  have h3 := h1 w hw
  unfold Oper.quietAt at h3
  generalize hr : (execOp a.eval o).run P w = r at h3 ⊢
  cases r with
  | ok n w' =>
    obtain ⟨u, rfl⟩ := noEnter_value hk hr
    obtain ⟨rfl, rfl⟩ := h3
    rfl
  | halt x w' => exact h3.elim

/-- The worlds that w leads to by new memory alone. -/
def FrC (G : List Nat) (w : World) : World → Prop := fun X => ∃ x : Cls (fun v => Frm G w v), X = x.world
theorem frC_iff {G : List Nat} {w X : World} : FrC G w X ↔ Frm G w X := ⟨fun ⟨x, h⟩ => h ▸ x.ok, fun h => ⟨⟨X, h⟩, rfl⟩⟩

section
variable {G : List Nat} {P : Program} {ops : Array Oper} {Q : Exit → Act → World → Prop}

theorem wpAnyH_mono {md : Region.Mode} {S T : World → Prop} (h : ∀ w, S w → T w) : ∀ (fuel : Nat) (listed : Array Bool) (a : Act) (w : World), wpAnyH P md ops Q S fuel listed a w → wpAnyH P md ops Q T fuel listed a w
  | 0, _, _, _, hh => hh
  | fuel + 1, _, _, _, hh => ⟨hh.1, fun i hi => wpOp_mono (fun a' w' h' => ⟨h _ h'.1, wpAnyH_mono h fuel _ _ _ h'.2⟩) (hh.2 i hi)⟩

def wpMixT (G : List Nat) (P : Program) (ops : Array Oper) (Q : Exit → Act → World → Prop) : List MOp → Act → World → Prop
  | [], a, w => Q .normal a w
  | (o, _, true) :: rest, a, w => if Region.wanted o (yielded ops a.tmps) then o.wp P a w (fun a' w' => Frm G w w' ∧ wpMixT G P ops Q rest a' w') Q ∨ (o.asks P a w ∧ LetsOut Q) else wpMixT G P ops Q rest (a.put o.dst undef) w
  | (o, _, false) :: rest, a, w => ∃ v, YieldsIf P ops (Frm G w) o v a ∧ wpMixT G P ops Q rest (a.put o.dst v) w

/-- S bears new memory. -/
def Bears1 (G : List Nat) (S : World → Prop) : Prop := ∀ X Y, S X → Frm G X Y → S Y

theorem held_of_mixT (hm : ∀ c a w d v, Q (.panic c) (Act.put a d v) w → Q (.panic c) a w) (hsel : Region.noSelect ops = true) : ∀ (ms : List MOp) (listed : Array Bool) (a : Act) (w : World),
    (∀ r ∈ ms, ops[r.2.1]? = some r.1) → listed.size = ops.size → (∀ r ∈ ms, listed.getD r.2.1 true = false) → (∀ j, listed.getD j true = false → ∃ r ∈ ms, r.2.1 = j) → mixGo ops.size ops ms = true →
    wpMixT G P ops Q ms a w → ∀ S : World → Prop, Bears1 G S → S w → wpAnyH P .any ops Q S ms.length listed a w
  | [], listed, a, w, _, hz, _, h2, _, h, S, _, _ => by
    refine ⟨?_, h⟩
    cases hr : Region.ready .any ops listed with
    | nil => rfl
    | cons x xs =>
      have hx : x ∈ Region.ready .any ops listed := by rw [hr]; simp
      obtain ⟨r, hm, _⟩ := h2 x (mem_ready.1 hx).1
      cases hm
  | (o, i, fl) :: rest, listed, a, w, h0, hz, h1, h2, hB, h, S, hSb, hSw => by
    simp only [mixGo, Bool.and_eq_true] at hB
    obtain ⟨⟨⟨hrd, hne⟩, hfl⟩, hB'⟩ := hB
    have ho : ops[i]? = some o := h0 (o, i, fl) (by simp)
    have hiz : i < listed.size := by rw [hz]; exact (Array.getElem?_eq_some_iff.1 ho).1
    have hun : listed.getD i true = false := h1 (o, i, fl) (by simp)
    have hne' : ∀ r ∈ rest, r.2.1 ≠ i := fun r hr => by have := List.all_eq_true.1 hne r hr; simpa using this
    have gets : ∀ j, j < listed.size → (listed.getD j false = true ↔ ¬ listed.getD j true = false) := fun j hj => by simp [hj]
    have hedge : ∀ e ∈ o.after, Region.binds .any e = true → e.on < ops.size ∧ e.on ≠ i ∧ ∀ r ∈ rest, r.2.1 ≠ e.on := fun e he hb => by
      have h3 := Array.all_eq_true_iff_forall_mem.1 hrd e he
      simp only [hb, Bool.not_true, Bool.false_or, Bool.and_eq_true, decide_eq_true_eq, bne_iff_ne, List.all_eq_true] at h3
      exact ⟨h3.1, h3.2.1, fun r hr => h3.2.2 r hr⟩
    have hready : i ∈ Region.ready .any ops listed := mem_ready.2 ⟨hun, o, ho, fun e he hb => by
      obtain ⟨e1, e2, e3⟩ := hedge e he hb
      rw [gets e.on (by rw [hz]; exact e1)]
      intro hf
      obtain ⟨r, hr, hre⟩ := h2 e.on hf
      rcases List.mem_cons.1 hr with rfl | hr
      · exact e2 hre.symm
      · exact e3 r hr hre⟩
    have hset1 : ∀ r ∈ rest, (listed.setIfInBounds i true).getD r.2.1 true = false := fun r hr => by
      have h3 := h1 r (by simp [hr])
      have hri := hne' r hr
      have hrz : r.2.1 < listed.size := by
        rcases Nat.lt_or_ge r.2.1 listed.size with h4 | h4
        · exact h4
        · simp [Array.getElem?_eq_none h4] at h3
      simp [Array.getElem?_setIfInBounds, Ne.symm hri, hrz] at h3 ⊢
      exact h3
    have hset2 : ∀ j, (listed.setIfInBounds i true).getD j true = false → ∃ r ∈ rest, r.2.1 = j := fun j hj => by
      by_cases hji : j = i
      · subst hji; simp [hiz] at hj
      · have h3 : listed.getD j true = false := by
          simp [Array.getElem?_setIfInBounds, Ne.symm hji] at hj ⊢
          exact hj
        obtain ⟨r, hr, hre⟩ := h2 j h3
        rcases List.mem_cons.1 hr with rfl | hr
        · exact absurd hre.symm hji
        · exact ⟨r, hr, hre⟩
    have next : ∀ a' w', wpMixT G P ops Q rest a' w' → ∀ S : World → Prop, Bears1 G S → S w' → wpAnyH P .any ops Q S rest.length (listed.setIfInBounds i true) a' w' := fun a' w' h' =>
      held_of_mixT hm hsel rest _ a' w' (fun r hr => h0 r (by simp [hr])) (by simpa using hz) hset1 hset2 hB' h'
    rw [List.length_cons]
    cases fl with
    | true =>
      refine ⟨fun h3 => (by rw [h3] at hready; cases hready), fun j hj => ?_⟩
      have hji : j = i := by
        obtain ⟨hjun, oj, hoj, hall⟩ := mem_ready.1 hj
        obtain ⟨r, hr, hre⟩ := h2 j hjun
        rcases List.mem_cons.1 hr with rfl | hr
        · exact hre.symm
        · exfalso
          simp only [if_true] at hfl
          have h3 := List.all_eq_true.1 hfl r hr
          obtain ⟨q, hq, h4⟩ := Array.any_eq_true.1 h3
          simp only [Bool.and_eq_true, Bool.or_eq_true, beq_iff_eq, List.any_eq_true] at h4
          have hro : r.1 = oj := by have := h0 r (by simp [hr]); rw [hre, hoj] at this; exact (Option.some.inj this).symm
          have h5 := hall _ (hro ▸ Array.getElem_mem hq) h4.1
          rcases h4.2 with h6 | ⟨q2, hq2, h6⟩
          · rw [h6, gets i hiz] at h5
            exact h5 hun
          · rw [← h6] at h5
            have h7 := h1 q2 (by simp [hq2])
            have hz2 : q2.2.1 < listed.size := by
              rcases Nat.lt_or_ge q2.2.1 listed.size with h8 | h8
              · exact h8
              · simp [Array.getElem?_eq_none h8] at h7
            rw [gets _ hz2] at h5
            exact h5 h7
      subst hji
      unfold wpOp
      simp only [ho]
      unfold wpMixT at h
      split
      · rename_i hw
        rw [if_pos hw] at h
        exact h.imp (Oper.wp_mono (fun a' w' h' => ⟨hSb _ _ hSw h'.1, next a' w' h'.2 S hSb (hSb _ _ hSw h'.1)⟩)) id
      · rename_i hw
        rw [if_neg hw] at h
        exact ⟨hSw, next _ _ h S hSb hSw⟩
    | false =>
      obtain ⟨v, hy, h⟩ := h
      have hSb' : Bears1 G (fun X => S X ∧ Frm G w X) := fun X Y hX hXY => ⟨hSb X Y hX.1 hXY, hX.2.trans hXY⟩
      have hSw' : S w ∧ Frm G w w := ⟨hSw, Frm.refl _ _⟩
      have hy' : YieldsIf P ops (fun X => S X ∧ Frm G w X) o v a := hy.imp (fun ⟨h3, h4⟩ => ⟨h3, fun X hX => h4 X hX.2⟩) id
      refine wpAnyH_mono (S := fun X => S X ∧ Frm G w X) (fun _ h => h.1) _ _ _ _ ?_
      refine wpAnyH_first ho (Region.noSelect_spec hsel) (fun c a w => hm c a w _ _) rest.length listed a w (fun j oj hoj hji hjun hnot => ?_) hready hy' hSw' (next _ _ h _ hSb' hSw')
      obtain ⟨r, hr, hre⟩ := h2 j hjun
      rcases List.mem_cons.1 hr with rfl | hr
      · exact absurd hre.symm hji
      · have hfl' : (rest.all fun r => (r.1.after.any fun e => Region.binds .any e && e.on == i) || o.apart ops r.1) = true := hfl
        have h3 := List.all_eq_true.1 hfl' r hr
        have hro : r.1 = oj := by have := h0 r (by simp [hr]); rw [hre, hoj] at this; exact (Option.some.inj this).symm
        rw [Bool.or_eq_true] at h3
        rcases h3 with h3 | h3
        · exfalso
          obtain ⟨q, hq, h4⟩ := Array.any_eq_true.1 h3
          simp only [Bool.and_eq_true, beq_iff_eq] at h4
          exact hnot _ (hro ▸ Array.getElem_mem hq) h4.1 h4.2
        · rw [← hro]; exact h3

theorem wp_of_then2 {o : Oper} {a : Act} {w : World} {K L : Act → World → Prop} (h : o.wp P a w L (Exit.then K Q)) : o.wp P a w L Q := by
  unfold Oper.wp at *
  generalize (execOp a.eval o).run P w = r at *
  cases r with
  | ok n w' => cases n <;> exact h
  | _ => exact h
/-- The stretches: how many quiet operations lie ahead of each that is the only one. -/
def wpSegs (G : List Nat) (P : Program) (ops : Array Oper) (Q : Exit → Act → World → Prop) : List Nat → List Oper → Act → World → Prop
  | [], rem, a, w => wpQuiet P ops (fun X => ∃ x : Cls (fun v => Frm G w v), X = x.world) (fun a' => Q .normal a' w) rem a
  | n :: ns, rem, a, w => wpQuiet P ops (fun X => ∃ x : Cls (fun v => Frm G w v), X = x.world) (fun a' => wpList P ops (Exit.then (fun a'' w'' => Frm G w w'' ∧ wpSegs G P ops Q ns (rem.drop (n + 1)) a'' w'') Q) ((rem.drop n).take 1) a' w) (rem.take n) a
def segPerm : Nat → List Nat → Nat → List (Nat × Bool)
  | k, [], m => (List.range' k (m - k)).map fun i => (i, false)
  | k, n :: ns, m => (List.range' k n).map (fun i => (i, false)) ++ (k + n, true) :: segPerm (k + n + 1) ns m
def segSmall : Nat → List Nat → Nat → Bool
  | k, [], m => decide (k ≤ m)
  | k, n :: ns, m => decide (k + n < m) && segSmall (k + n + 1) ns m

theorem mix_frees {C : World → Prop} {l : List Oper} {w : World} (hC : ∀ X, C X ↔ Frm G w X) (K : Act → Prop) (ms : List MOp) : ∀ (n k : Nat) (a : Act), k + n ≤ l.length →
    ((mixOf l ((List.range' k n).map fun i => (i, false))).all fun r => noEnter r.1) = true → wpQuiet P ops C K ((l.drop k).take n) a → (∀ a', K a' → wpMixT G P ops Q ms a' w) → wpMixT G P ops Q (mixOf l ((List.range' k n).map fun i => (i, false)) ++ ms) a w
  | 0, k, a, _, _, h, hK => by simpa [mixOf] using hK a (by simpa [wpQuiet] using h)
  | n + 1, k, a, hk, hB, h, hK => by
    obtain ⟨o, ho⟩ : ∃ o, l[k]? = some o := ⟨_, List.getElem?_eq_getElem (by omega)⟩
    have e1 : (l.drop k).take (n + 1) = o :: (l.drop (k + 1)).take n := by
      rw [List.drop_eq_getElem_cons (show k < l.length by omega), List.take_succ_cons]
      congr 1
      have := List.getElem?_eq_getElem (show k < l.length by omega)
      rw [ho] at this
      exact (Option.some.inj this).symm
    have e2 : mixOf l ((List.range' k (n + 1)).map fun i => (i, false)) = (o, k, false) :: mixOf l ((List.range' (k + 1) n).map fun i => (i, false)) := by
      rw [List.range'_succ, List.map_cons]
      unfold mixOf
      rw [List.filterMap_cons]
      simp only [ho, Option.map_some]
    rw [e2] at hB ⊢
    rw [e1] at h
    rw [List.all_cons, Bool.and_eq_true] at hB
    rw [List.cons_append]
    unfold wpQuiet at h
    split at h
    · rename_i hw
      obtain ⟨v, h1, h2⟩ := strict_of_quiet hB.1 w ((hC w).2 (Frm.refl _ _)) h
      exact ⟨v, .inl ⟨hw, fun X hX => h1 X ((hC X).2 hX)⟩, mix_frees hC K ms n (k + 1) _ (by omega) hB.2 h2 hK⟩
    · rename_i hw
      exact ⟨undef, .inr ⟨by simpa using hw, rfl⟩, mix_frees hC K ms n (k + 1) _ (by omega) hB.2 h hK⟩

theorem mix_of_segs {l : List Oper} : ∀ (ns : List Nat) (k : Nat) (a : Act) (w : World), segSmall k ns l.length = true → ((mixOf l (segPerm k ns l.length)).all fun r => r.2.2 || noEnter r.1) = true →
    wpSegs G P ops Q ns (l.drop k) a w → wpMixT G P ops Q (mixOf l (segPerm k ns l.length)) a w
  | [], k, a, w, hs, hB, h => by
    unfold wpSegs at h
    simp only [segSmall, decide_eq_true_eq] at hs
    unfold segPerm at hB ⊢
    have h2 := mix_frees (G := G) (Q := Q) (P := P) (ops := ops) (C := (fun X => ∃ x : Cls (fun v => Frm G w v), X = x.world)) (l := l) (w := w) (fun X => frC_iff) (fun a' => Q .normal a' w) [] (l.length - k) k a (by omega) (by
      refine List.all_eq_true.2 fun r hr => ?_
      have h3 := List.all_eq_true.1 hB r hr
      obtain ⟨p, hp, he⟩ := List.mem_filterMap.1 hr
      obtain ⟨i, _, rfl⟩ := List.mem_map.1 hp
      obtain ⟨o, _, rfl⟩ := Option.map_eq_some_iff.1 he
      simpa using h3) (by rw [List.take_of_length_le (by simp)]; exact h) (fun a' h' => h')
    simpa using h2
  | n :: ns, k, a, w, hs, hB, h => by
    simp only [segSmall, Bool.and_eq_true, decide_eq_true_eq] at hs
    obtain ⟨o, ho⟩ : ∃ o, l[k + n]? = some o := ⟨_, List.getElem?_eq_getElem hs.1⟩
    have e1 : ((l.drop k).drop n).take 1 = [o] := by
      rw [List.drop_drop, List.drop_eq_getElem_cons hs.1, List.take_succ_cons, List.take_zero]
      congr 1
      have := List.getElem?_eq_getElem hs.1
      rw [ho] at this
      exact (Option.some.inj this).symm
    have e2 : mixOf l (segPerm k (n :: ns) l.length) = mixOf l ((List.range' k n).map fun i => (i, false)) ++ (o, k + n, true) :: mixOf l (segPerm (k + n + 1) ns l.length) := by
      rw [show segPerm k (n :: ns) l.length = (List.range' k n).map (fun i => (i, false)) ++ (k + n, true) :: segPerm (k + n + 1) ns l.length from rfl]
      unfold mixOf
      rw [List.filterMap_append, List.filterMap_cons]
      simp only [ho, Option.map_some]
    rw [e2] at hB ⊢
    rw [List.all_append, List.all_cons, Bool.and_eq_true, Bool.and_eq_true] at hB
    unfold wpSegs at h
    refine mix_frees (G := G) (C := (fun X => ∃ x : Cls (fun v => Frm G w v), X = x.world)) (fun X => frC_iff) _ _ n k a (by omega) ?_ h (fun a' h' => ?_)
    · refine List.all_eq_true.2 fun r hr => ?_
      have h3 := List.all_eq_true.1 hB.1 r hr
      obtain ⟨p, hp, he⟩ := List.mem_filterMap.1 hr
      obtain ⟨i, _, rfl⟩ := List.mem_map.1 hp
      obtain ⟨o, _, rfl⟩ := Option.map_eq_some_iff.1 he
      simpa using h3
    · rw [e1, List.drop_drop, show k + (n + 1) = k + n + 1 by omega] at h'
      unfold wpList at h'
      unfold wpMixT
      have nx : ∀ a'' w'', (Frm G w w'' ∧ wpSegs G P ops Q ns (l.drop (k + n + 1)) a'' w'') → Frm G w w'' ∧ wpMixT G P ops Q (mixOf l (segPerm (k + n + 1) ns l.length)) a'' w'' :=
        fun a'' w'' h5 => ⟨h5.1, mix_of_segs ns (k + n + 1) a'' w'' hs.2 hB.2.2 h5.2⟩
      split
      · rename_i hw
        rw [if_pos hw] at h'
        rcases h' with h' | h'
        · exact .inl (Oper.wp_mono (fun a'' w'' h5 => nx a'' w'' h5) (wp_of_then2 h'))
        · exact .inr h'
      · rename_i hw
        rw [if_neg hw] at h'
        exact (nx _ _ h').2

/-- A region that draws, in stretches. -/
theorem region_segs {id : Nat} {a : Act} {w : World} {l : List Oper} (ns : List Nat) (hm : P.follows .mixedOrders = true) (hsel : Region.noSelect l.toArray = true)
    (hs : segSmall 0 ns l.length = true) (hlen : (mixOf l (segPerm 0 ns l.length)).length = l.length) (hall : mixAll l.length (mixOf l (segPerm 0 ns l.length)) = true) (hB : mixGo l.length l.toArray (mixOf l (segPerm 0 ns l.length)) = true)
    (hF : ((mixOf l (segPerm 0 ns l.length)).all fun r => r.2.2 || noEnter r.1) = true)
    (h : wpSegs G P l.toArray (NoPanic Q) ns l a w.drew) : (Code.region id l.toArray true).wp P Q a w := by
  refine wp_region_noPanic (wp_region_any hm ?_)
  have hz : l.toArray.size = l.length := by simp
  have h' := mix_of_segs (G := G) (P := P) (ops := l.toArray) (Q := NoPanic Q) (l := l) ns 0 a w.drew hs hF (by simpa using h)
  have := held_of_mixT (G := G) (P := P) (ops := l.toArray) (Q := NoPanic Q) (fun c a w d v h => h.elim) hsel (mixOf l (segPerm 0 ns l.length)) (Array.replicate l.toArray.size false) a w.drew (fun r hr => by
    unfold mixOf at hr
    obtain ⟨p, _, hp⟩ := List.mem_filterMap.1 hr
    obtain ⟨o, ho, rfl⟩ := Option.map_eq_some_iff.1 hp
    simpa using ho) (by simp) (fun r hr => by
    unfold mixOf at hr
    obtain ⟨p, _, hp⟩ := List.mem_filterMap.1 hr
    obtain ⟨o, ho, rfl⟩ := Option.map_eq_some_iff.1 hp
    have : p.1 < l.length := (List.getElem?_eq_some_iff.1 ho).1
    simp [this]) (fun j hj => by
    have hjl : j < l.length := by
      rcases Nat.lt_or_ge j l.length with h3 | h3
      · exact h3
      · have h4 : (Array.replicate l.toArray.size false).getD j true = true := by simp [h3]
        rw [h4] at hj; cases hj
    have h3 := List.all_eq_true.1 hall j (List.mem_range.2 hjl)
    obtain ⟨r, hr, hre⟩ := List.any_eq_true.1 h3
    exact ⟨r, hr, by simpa using hre⟩) (by rw [hz]; exact hB) h' (fun _ => True) (fun _ _ _ _ => trivial) trivial
  rw [hlen, ← hz] at this
  exact wpAny_of_held _ _ _ _ this

/-- One operation that is the only one, what follows shut away. -/
theorem only_step {o : Oper} {a : Act} {w : World} {K : Act → World → Prop} (h : ∀ K' : Act → World → Prop, Shut (∀ a w, K a w → K' a w) → wpList P ops (Exit.then K' Q) [o] a w) : wpList P ops (Exit.then K Q) [o] a w :=
  h K (fun _ _ h => h)
end

/- A REGION THAT DRAWS, in stretches (XSgs), in an order that the prover names: where a quiet operation is listed behind a call that it does not wait for, it is taken ahead of it. No program is named here. -/
section
open Go.RowKit

def remOf (l : List Oper) (pi : List Nat) : List Oper := pi.filterMap fun i => l[i]?
def permP : List Nat → List Nat → List (Nat × Bool)
  | [], pi => pi.map fun i => (i, false)
  | n :: ns, pi => (pi.take n).map (fun i => (i, false)) ++ (((pi.drop n).take 1).map (fun i => (i, true)) ++ permP ns (pi.drop (n + 1)))

section
variable {G : List Nat} {P : Program} {ops : Array Oper} {Q : Exit → Act → World → Prop}

theorem remOf_take {l : List Oper} : ∀ (pi : List Nat) (n : Nat), (∀ i ∈ pi, i < l.length) → (remOf l pi).take n = remOf l (pi.take n)
  | [], n, _ => by simp [remOf]
  | i :: pi, 0, _ => by simp [remOf]
  | i :: pi, n + 1, h => by
    have hi := List.getElem?_eq_getElem (h i (by simp))
    have ih := remOf_take pi n (fun j hj => h j (by simp [hj]))
    unfold remOf at ih ⊢
    rw [List.take_succ_cons, List.filterMap_cons, List.filterMap_cons]
    simp only [hi, List.take_succ_cons, ih]
theorem remOf_drop {l : List Oper} : ∀ (pi : List Nat) (n : Nat), (∀ i ∈ pi, i < l.length) → (remOf l pi).drop n = remOf l (pi.drop n)
  | [], n, _ => by simp [remOf]
  | i :: pi, 0, _ => by simp [remOf]
  | i :: pi, n + 1, h => by
    have hi := List.getElem?_eq_getElem (h i (by simp))
    have ih := remOf_drop pi n (fun j hj => h j (by simp [hj]))
    unfold remOf at ih ⊢
    rw [List.drop_succ_cons, List.filterMap_cons]
    simp only [hi, List.drop_succ_cons, ih]

theorem mix_freesP {C : World → Prop} {l : List Oper} {w : World} (hC : ∀ X, C X ↔ Frm G w X) (K : Act → Prop) (ms : List MOp) : ∀ (pi : List Nat) (a : Act), (∀ i ∈ pi, i < l.length) →
    ((mixOf l (pi.map fun i => (i, false))).all fun r => noEnter r.1) = true → wpQuiet P ops C K (remOf l pi) a → (∀ a', K a' → wpMixT G P ops Q ms a' w) → wpMixT G P ops Q (mixOf l (pi.map fun i => (i, false)) ++ ms) a w
  | [], a, _, _, h, hK => by simpa [mixOf] using hK a (by simpa [wpQuiet, remOf] using h)
  | i :: pi, a, hk, hB, h, hK => by
    obtain ⟨o, ho⟩ : ∃ o, l[i]? = some o := ⟨_, List.getElem?_eq_getElem (hk i (by simp))⟩
    have e1 : remOf l (i :: pi) = o :: remOf l pi := by
      unfold remOf
      rw [List.filterMap_cons]
      simp only [ho]
    have e2 : mixOf l ((i :: pi).map fun i => (i, false)) = (o, i, false) :: mixOf l (pi.map fun i => (i, false)) := by
      rw [List.map_cons]
      unfold mixOf
      rw [List.filterMap_cons]
      simp only [ho, Option.map_some]
    rw [e2] at hB ⊢
    rw [e1] at h
    rw [List.all_cons, Bool.and_eq_true] at hB
    rw [List.cons_append]
    unfold wpQuiet at h
    split at h
    · rename_i hw
      obtain ⟨v, h1, h2⟩ := strict_of_quiet hB.1 w ((hC w).2 (Frm.refl _ _)) h
      exact ⟨v, .inl ⟨hw, fun X hX => h1 X ((hC X).2 hX)⟩, mix_freesP hC K ms pi _ (fun j hj => hk j (by simp [hj])) hB.2 h2 hK⟩
    · rename_i hw
      exact ⟨undef, .inr ⟨by simpa using hw, rfl⟩, mix_freesP hC K ms pi _ (fun j hj => hk j (by simp [hj])) hB.2 h hK⟩

theorem mix_of_segsP {l : List Oper} : ∀ (ns : List Nat) (pi : List Nat) (a : Act) (w : World), segSmall 0 ns pi.length = true → (∀ i ∈ pi, i < l.length) → ((mixOf l (permP ns pi)).all fun r => r.2.2 || noEnter r.1) = true →
    wpSegs G P ops Q ns (remOf l pi) a w → wpMixT G P ops Q (mixOf l (permP ns pi)) a w
  | [], pi, a, w, hs, hk, hB, h => by
    unfold wpSegs at h
    unfold permP at hB ⊢
    have h2 := mix_freesP (G := G) (Q := Q) (P := P) (ops := ops) (C := (fun X => ∃ x : Cls (fun v => Frm G w v), X = x.world)) (l := l) (w := w) (fun X => frC_iff) (fun a' => Q .normal a' w) [] pi a hk (by
      refine List.all_eq_true.2 fun r hr => ?_
      have h3 := List.all_eq_true.1 hB r hr
      obtain ⟨p, hp, he⟩ := List.mem_filterMap.1 hr
      obtain ⟨i, _, rfl⟩ := List.mem_map.1 hp
      obtain ⟨o, _, rfl⟩ := Option.map_eq_some_iff.1 he
      simpa using h3) h (fun a' h' => h')
    simpa using h2
  | n :: ns, pi, a, w, hs, hk, hB, h => by
    have hn : n < pi.length := by
      simp only [segSmall, Bool.and_eq_true, decide_eq_true_eq] at hs
      omega
    have hs2 : segSmall 0 ns (pi.drop (n + 1)).length = true := by
      have sh : ∀ (ns : List Nat) (k m d : Nat), segSmall (k + d) ns (m + d) = segSmall k ns m := by
        intro ns
        induction ns with
        | nil => intro k m d; simp [segSmall]
        | cons x ns ih => intro k m d; simp only [segSmall]; rw [show k + d + x + 1 = k + x + 1 + d by omega, ih]; congr 1; simp; omega
      simp only [segSmall, Bool.and_eq_true] at hs
      have h2 := hs.2
      have e := sh ns 0 (pi.drop (n + 1)).length (n + 1)
      rw [show 0 + (n + 1) = 0 + n + 1 by omega, show (pi.drop (n + 1)).length + (n + 1) = pi.length by simp; omega, h2] at e
      exact e.symm
    obtain ⟨i, hi⟩ : ∃ i, pi[n]? = some i := ⟨_, List.getElem?_eq_getElem hn⟩
    have him : i ∈ pi := List.mem_of_getElem? hi
    obtain ⟨o, ho⟩ : ∃ o, l[i]? = some o := ⟨_, List.getElem?_eq_getElem (hk i him)⟩
    have e0 : (pi.drop n).take 1 = [i] := by
      rw [List.drop_eq_getElem_cons hn, List.take_succ_cons, List.take_zero]
      congr 1
      have := List.getElem?_eq_getElem hn
      rw [hi] at this
      exact (Option.some.inj this).symm
    have hk1 : ∀ j ∈ pi.take n, j < l.length := fun j hj => hk j (List.mem_of_mem_take hj)
    have hk2 : ∀ j ∈ pi.drop n, j < l.length := fun j hj => hk j (List.mem_of_mem_drop hj)
    have hk3 : ∀ j ∈ pi.drop (n + 1), j < l.length := fun j hj => hk j (List.mem_of_mem_drop hj)
    have e1 : ((remOf l pi).drop n).take 1 = [o] := by
      rw [remOf_drop pi n hk, remOf_take _ 1 hk2, e0]
      unfold remOf
      simp only [List.filterMap_cons, List.filterMap_nil, ho]
    have e2 : mixOf l (permP (n :: ns) pi) = mixOf l ((pi.take n).map fun i => (i, false)) ++ (o, i, true) :: mixOf l (permP ns (pi.drop (n + 1))) := by
      rw [show permP (n :: ns) pi = (pi.take n).map (fun i => (i, false)) ++ (((pi.drop n).take 1).map (fun i => (i, true)) ++ permP ns (pi.drop (n + 1))) from rfl, e0]
      unfold mixOf
      rw [List.filterMap_append, List.filterMap_append]
      simp only [List.map_cons, List.map_nil, List.filterMap_cons, List.filterMap_nil, ho, Option.map_some]
      rfl
    rw [e2] at hB ⊢
    rw [List.all_append, List.all_cons, Bool.and_eq_true, Bool.and_eq_true] at hB
    unfold wpSegs at h
    rw [remOf_take pi n hk] at h
    refine mix_freesP (G := G) (C := (fun X => ∃ x : Cls (fun v => Frm G w v), X = x.world)) (fun X => frC_iff) _ _ (pi.take n) a hk1 ?_ h (fun a' h' => ?_)
    · refine List.all_eq_true.2 fun r hr => ?_
      have h3 := List.all_eq_true.1 hB.1 r hr
      obtain ⟨p, hp, he⟩ := List.mem_filterMap.1 hr
      obtain ⟨i, _, rfl⟩ := List.mem_map.1 hp
      obtain ⟨o, _, rfl⟩ := Option.map_eq_some_iff.1 he
      simpa using h3
    · rw [e1, remOf_drop pi (n + 1) hk] at h'
      unfold wpList at h'
      unfold wpMixT
      have nx : ∀ a'' w'', (Frm G w w'' ∧ wpSegs G P ops Q ns (remOf l (pi.drop (n + 1))) a'' w'') → Frm G w w'' ∧ wpMixT G P ops Q (mixOf l (permP ns (pi.drop (n + 1)))) a'' w'' :=
        fun a'' w'' h5 => ⟨h5.1, mix_of_segsP ns (pi.drop (n + 1)) a'' w'' hs2 hk3 hB.2.2 h5.2⟩
      split
      · rename_i hw
        rw [if_pos hw] at h'
        rcases h' with h' | h'
        · exact .inl (Oper.wp_mono (fun a'' w'' h5 => nx a'' w'' h5) (wp_of_then2 h'))
        · exact .inr h'
      · rename_i hw
        rw [if_neg hw] at h'
        exact (nx _ _ h').2

/-- A region that draws, in stretches, in the order 'pi'. -/
theorem region_segsP {id : Nat} {a : Act} {w : World} {l : List Oper} (pi ns : List Nat) (hm : P.follows .mixedOrders = true) (hsel : Region.noSelect l.toArray = true)
    (hs : segSmall 0 ns pi.length = true) (hk : (pi.all fun i => decide (i < l.length)) = true) (hlen : (mixOf l (permP ns pi)).length = l.length) (hall : mixAll l.length (mixOf l (permP ns pi)) = true) (hB : mixGo l.length l.toArray (mixOf l (permP ns pi)) = true)
    (hF : ((mixOf l (permP ns pi)).all fun r => r.2.2 || noEnter r.1) = true)
    (h : wpSegs G P l.toArray (NoPanic Q) ns (remOf l pi) a w.drew) : (Code.region id l.toArray true).wp P Q a w := by
  refine wp_region_noPanic (wp_region_any hm ?_)
  have hz : l.toArray.size = l.length := by simp
  have h' := mix_of_segsP (G := G) (P := P) (ops := l.toArray) (Q := NoPanic Q) (l := l) ns pi a w.drew hs (fun i hi => of_decide_eq_true (List.all_eq_true.1 hk i hi)) hF h
  have := held_of_mixT (G := G) (P := P) (ops := l.toArray) (Q := NoPanic Q) (fun c a w d v h => h.elim) hsel (mixOf l (permP ns pi)) (Array.replicate l.toArray.size false) a w.drew (fun r hr => by
    unfold mixOf at hr
    obtain ⟨p, _, hp⟩ := List.mem_filterMap.1 hr
    obtain ⟨o, ho, rfl⟩ := Option.map_eq_some_iff.1 hp
    simpa using ho) (by simp) (fun r hr => by
    unfold mixOf at hr
    obtain ⟨p, _, hp⟩ := List.mem_filterMap.1 hr
    obtain ⟨o, ho, rfl⟩ := Option.map_eq_some_iff.1 hp
    have : p.1 < l.length := (List.getElem?_eq_some_iff.1 ho).1
    simp [this]) (fun j hj => by
    have hjl : j < l.length := by
      rcases Nat.lt_or_ge j l.length with h3 | h3
      · exact h3
      · have h4 : (Array.replicate l.toArray.size false).getD j true = true := by simp [h3]
        rw [h4] at hj; cases hj
    have h3 := List.all_eq_true.1 hall j (List.mem_range.2 hjl)
    obtain ⟨r, hr, hre⟩ := List.any_eq_true.1 h3
    exact ⟨r, hr, by simpa using hre⟩) (by rw [hz]; exact hB) h' (fun _ => True) (fun _ _ _ _ => trivial) trivial
  rw [hlen, ← hz] at this
  exact wpAny_of_held _ _ _ _ this
/-- The same where a call may panic: the end must not look at the slots. -/
theorem region_segsQ {id : Nat} {a : Act} {w : World} {l : List Oper} (pi ns : List Nat) (hQ : ∀ c a w d v, Q (.panic c) (Act.put a d v) w → Q (.panic c) a w) (hm : P.follows .mixedOrders = true) (hsel : Region.noSelect l.toArray = true)
    (hs : segSmall 0 ns pi.length = true) (hk : (pi.all fun i => decide (i < l.length)) = true) (hlen : (mixOf l (permP ns pi)).length = l.length) (hall : mixAll l.length (mixOf l (permP ns pi)) = true) (hB : mixGo l.length l.toArray (mixOf l (permP ns pi)) = true)
    (hF : ((mixOf l (permP ns pi)).all fun r => r.2.2 || noEnter r.1) = true)
    (h : wpSegs G P l.toArray Q ns (remOf l pi) a w.drew) : (Code.region id l.toArray true).wp P Q a w := by
  refine wp_region_any hm ?_
  have hz : l.toArray.size = l.length := by simp
  have h' := mix_of_segsP (G := G) (P := P) (ops := l.toArray) (Q := Q) (l := l) ns pi a w.drew hs (fun i hi => of_decide_eq_true (List.all_eq_true.1 hk i hi)) hF h
  have := held_of_mixT (G := G) (P := P) (ops := l.toArray) (Q := Q) hQ hsel (mixOf l (permP ns pi)) (Array.replicate l.toArray.size false) a w.drew (fun r hr => by
    unfold mixOf at hr
    obtain ⟨p, _, hp⟩ := List.mem_filterMap.1 hr
    obtain ⟨o, ho, rfl⟩ := Option.map_eq_some_iff.1 hp
    simpa using ho) (by simp) (fun r hr => by
    unfold mixOf at hr
    obtain ⟨p, _, hp⟩ := List.mem_filterMap.1 hr
    obtain ⟨o, ho, rfl⟩ := Option.map_eq_some_iff.1 hp
    have : p.1 < l.length := (List.getElem?_eq_some_iff.1 ho).1
    simp [this]) (fun j hj => by
    have hjl : j < l.length := by
      rcases Nat.lt_or_ge j l.length with h3 | h3
      · exact h3
      · have h4 : (Array.replicate l.toArray.size false).getD j true = true := by simp [h3]
        rw [h4] at hj; cases hj
    have h3 := List.all_eq_true.1 hall j (List.mem_range.2 hjl)
    obtain ⟨r, hr, hre⟩ := List.any_eq_true.1 h3
    exact ⟨r, hr, by simpa using hre⟩) (by rw [hz]; exact hB) h' (fun _ => True) (fun _ _ _ _ => trivial) trivial
  rw [hlen, ← hz] at this
  exact wpAny_of_held _ _ _ _ this
end
end

end Go.Proofs.YtnloabpdjedanaaDoor
