/-
  A REGION THAT DRAWS ITS ORDER AND MAKES ONE VARIABLE that waits for nothing ('x := T{a: f(), b: g()}'), whose calls make new memory: one walk, whatever the order. What comes ahead of the variable is walked in stretches (as in XSgs), each call at a letter for the world; then the variable is there, at whatever block; then the rest. No program is named here.
-/
import Derived.Test.YtnloabpdjedanaaDoorSgs
set_option linter.unusedVariables false
set_option linter.unusedSimpArgs false
namespace Go.Proofs.YtnloabpdjedanaaDoor
open Go.RowKit

section
variable {R : World → World → Prop} {P : Program} {ops : Array Oper} {Q : Exit → Act → World → Prop}

def wpMixR (R : World → World → Prop) (P : Program) (ops : Array Oper) (Q : Exit → Act → World → Prop) : List MOp → Act → World → Prop
  | [], a, w => Q .normal a w
  | (o, _, true) :: rest, a, w => if Region.wanted o (yielded ops a.tmps) then o.wp P a w (fun a' w' => R w w' ∧ wpMixR R P ops Q rest a' w') Q ∨ (o.asks P a w ∧ LetsOut Q) else wpMixR R P ops Q rest (a.put o.dst undef) w
  | (o, _, false) :: rest, a, w => ∃ v, YieldsIf P ops (R w) o v a ∧ wpMixR R P ops Q rest (a.put o.dst v) w

/-- S bears new memory. -/
def BearsR (R : World → World → Prop) (S : World → Prop) : Prop := ∀ X Y, S X → R X Y → S Y

theorem held_of_mixR (hrf : ∀ w, R w w) (htr : ∀ a b c, R a b → R b c → R a c) (hm : ∀ c a w d v, Q (.panic c) (Act.put a d v) w → Q (.panic c) a w) (hsel : Region.noSelect ops = true) : ∀ (ms : List MOp) (listed : Array Bool) (a : Act) (w : World),
    (∀ r ∈ ms, ops[r.2.1]? = some r.1) → listed.size = ops.size → (∀ r ∈ ms, listed.getD r.2.1 true = false) → (∀ j, listed.getD j true = false → ∃ r ∈ ms, r.2.1 = j) → mixGo ops.size ops ms = true →
    wpMixR R P ops Q ms a w → ∀ S : World → Prop, BearsR R S → S w → wpAnyH P .any ops Q S ms.length listed a w
  | [], listed, a, w, _, hz, _, h2, _, h, S, _, _ => by
    refine ⟨?_, h⟩
    cases hr : Region.ready .any ops listed with
    | nil => rfl
    | cons x xs =>
      have hx : x ∈ Region.ready .any ops listed := by rw [hr]; simp
      obtain ⟨r, hm, _⟩ := h2 x (mem_ready.1 hx).1
      cases hm
  | (o, i, fl) :: rest, listed, a, w, h0, hz, h1, h2, hB, h, S, hSb, hSw => by
    simp only [mixGo, Bool.and_eq_true] at hB
    obtain ⟨⟨⟨hrd, hne⟩, hfl⟩, hB'⟩ := hB
    have ho : ops[i]? = some o := h0 (o, i, fl) (by simp)
    have hiz : i < listed.size := by rw [hz]; exact (Array.getElem?_eq_some_iff.1 ho).1
    have hun : listed.getD i true = false := h1 (o, i, fl) (by simp)
    have hne' : ∀ r ∈ rest, r.2.1 ≠ i := fun r hr => by have := List.all_eq_true.1 hne r hr; simpa using this
    have gets : ∀ j, j < listed.size → (listed.getD j false = true ↔ ¬ listed.getD j true = false) := fun j hj => by simp [hj]
    have hedge : ∀ e ∈ o.after, Region.binds .any e = true → e.on < ops.size ∧ e.on ≠ i ∧ ∀ r ∈ rest, r.2.1 ≠ e.on := fun e he hb => by
      have h3 := Array.all_eq_true_iff_forall_mem.1 hrd e he
      simp only [hb, Bool.not_true, Bool.false_or, Bool.and_eq_true, decide_eq_true_eq, bne_iff_ne, List.all_eq_true] at h3
      exact ⟨h3.1, h3.2.1, fun r hr => h3.2.2 r hr⟩
    have hready : i ∈ Region.ready .any ops listed := mem_ready.2 ⟨hun, o, ho, fun e he hb => by
      obtain ⟨e1, e2, e3⟩ := hedge e he hb
      rw [gets e.on (by rw [hz]; exact e1)]
      intro hf
      obtain ⟨r, hr, hre⟩ := h2 e.on hf
      rcases List.mem_cons.1 hr with rfl | hr
      · exact e2 hre.symm
      · exact e3 r hr hre⟩
    have hset1 : ∀ r ∈ rest, (listed.setIfInBounds i true).getD r.2.1 true = false := fun r hr => by
      have h3 := h1 r (by simp [hr])
      have hri := hne' r hr
      have hrz : r.2.1 < listed.size := by
        rcases Nat.lt_or_ge r.2.1 listed.size with h4 | h4
        · exact h4
        · simp [Array.getElem?_eq_none h4] at h3
      simp [Array.getElem?_setIfInBounds, Ne.symm hri, hrz] at h3 ⊢
      exact h3
    have hset2 : ∀ j, (listed.setIfInBounds i true).getD j true = false → ∃ r ∈ rest, r.2.1 = j := fun j hj => by
      by_cases hji : j = i
      · subst hji; simp [hiz] at hj
      · have h3 : listed.getD j true = false := by
          simp [Array.getElem?_setIfInBounds, Ne.symm hji] at hj ⊢
          exact hj
        obtain ⟨r, hr, hre⟩ := h2 j h3
        rcases List.mem_cons.1 hr with rfl | hr
        · exact absurd hre.symm hji
        · exact ⟨r, hr, hre⟩
    have next : ∀ a' w', wpMixR R P ops Q rest a' w' → ∀ S : World → Prop, BearsR R S → S w' → wpAnyH P .any ops Q S rest.length (listed.setIfInBounds i true) a' w' := fun a' w' h' =>
      held_of_mixR hrf htr hm hsel rest _ a' w' (fun r hr => h0 r (by simp [hr])) (by simpa using hz) hset1 hset2 hB' h'
    rw [List.length_cons]
    cases fl with
    | true =>
      refine ⟨fun h3 => (by rw [h3] at hready; cases hready), fun j hj => ?_⟩
      have hji : j = i := by
        obtain ⟨hjun, oj, hoj, hall⟩ := mem_ready.1 hj
        obtain ⟨r, hr, hre⟩ := h2 j hjun
        rcases List.mem_cons.1 hr with rfl | hr
        · exact hre.symm
        · exfalso
          simp only [if_true] at hfl
          have h3 := List.all_eq_true.1 hfl r hr
          obtain ⟨q, hq, h4⟩ := Array.any_eq_true.1 h3
          simp only [Bool.and_eq_true, Bool.or_eq_true, beq_iff_eq, List.any_eq_true] at h4
          have hro : r.1 = oj := by have := h0 r (by simp [hr]); rw [hre, hoj] at this; exact (Option.some.inj this).symm
          have h5 := hall _ (hro ▸ Array.getElem_mem hq) h4.1
          rcases h4.2 with h6 | ⟨q2, hq2, h6⟩
          · rw [h6, gets i hiz] at h5
            exact h5 hun
          · rw [← h6] at h5
            have h7 := h1 q2 (by simp [hq2])
            have hz2 : q2.2.1 < listed.size := by
              rcases Nat.lt_or_ge q2.2.1 listed.size with h8 | h8
              · exact h8
              · simp [Array.getElem?_eq_none h8] at h7
            rw [gets _ hz2] at h5
            exact h5 h7
      subst hji
      unfold wpOp
      simp only [ho]
      unfold wpMixR at h
      split
      · rename_i hw
        rw [if_pos hw] at h
        exact h.imp (Oper.wp_mono (fun a' w' h' => ⟨hSb _ _ hSw h'.1, next a' w' h'.2 S hSb (hSb _ _ hSw h'.1)⟩)) id
      · rename_i hw
        rw [if_neg hw] at h
        exact ⟨hSw, next _ _ h S hSb hSw⟩
    | false =>
      obtain ⟨v, hy, h⟩ := h
      have hSb' : BearsR R (fun X => S X ∧ R w X) := fun X Y hX hXY => ⟨hSb X Y hX.1 hXY, htr _ _ _ hX.2 hXY⟩
      have hSw' : S w ∧ R w w := ⟨hSw, hrf _⟩
      have hy' : YieldsIf P ops (fun X => S X ∧ R w X) o v a := hy.imp (fun ⟨h3, h4⟩ => ⟨h3, fun X hX => h4 X hX.2⟩) id
      refine wpAnyH_mono (S := fun X => S X ∧ R w X) (fun _ h => h.1) _ _ _ _ ?_
      refine wpAnyH_first ho (Region.noSelect_spec hsel) (fun c a w => hm c a w _ _) rest.length listed a w (fun j oj hoj hji hjun hnot => ?_) hready hy' hSw' (next _ _ h _ hSb' hSw')
      obtain ⟨r, hr, hre⟩ := h2 j hjun
      rcases List.mem_cons.1 hr with rfl | hr
      · exact absurd hre.symm hji
      · have hfl' : (rest.all fun r => (r.1.after.any fun e => Region.binds .any e && e.on == i) || o.apart ops r.1) = true := hfl
        have h3 := List.all_eq_true.1 hfl' r hr
        have hro : r.1 = oj := by have := h0 r (by simp [hr]); rw [hre, hoj] at this; exact (Option.some.inj this).symm
        rw [Bool.or_eq_true] at h3
        rcases h3 with h3 | h3
        · exfalso
          obtain ⟨q, hq, h4⟩ := Array.any_eq_true.1 h3
          simp only [Bool.and_eq_true, beq_iff_eq] at h4
          exact hnot _ (hro ▸ Array.getElem_mem hq) h4.1 h4.2
        · rw [← hro]; exact h3


/-- Ahead of the variable. -/
def wpMixU (G : List Nat) (R : World → World → Prop) (P : Program) (ops : Array Oper) (Q : Exit → Act → World → Prop) (fin : Act → World → Prop) : List MOp → Act → World → Prop
  | [], a, w => ∀ X, Frm G w X → fin a X
  | (o, _, true) :: rest, a, w => ∀ X, Frm G w X → if Region.wanted o (yielded ops a.tmps) then o.wp P a X (fun a' w' => Frm G X w' ∧ wpMixU G R P ops Q fin rest a' w') Q ∨ (o.asks P a X ∧ LetsOut Q) else wpMixU G R P ops Q fin rest (a.put o.dst undef) X
  | (o, _, false) :: rest, a, w => ∃ v, YieldsIf P ops (R w) o v a ∧ wpMixU G R P ops Q fin rest (a.put o.dst v) w

theorem mixU_mono {G : List Nat} {fin : Act → World → Prop} (htr : ∀ a b c, R a b → R b c → R a c) (hG : ∀ a b, Frm G a b → R a b) : ∀ (ms : List MOp) (a : Act) (w w' : World), Frm G w w' → wpMixU G R P ops Q fin ms a w → wpMixU G R P ops Q fin ms a w'
  | [], a, w, w', hf, h => fun X hX => h X (hf.trans hX)
  | (o, i, true) :: rest, a, w, w', hf, h => fun X hX => h X (hf.trans hX)
  | (o, i, false) :: rest, a, w, w', hf, h => by
    obtain ⟨v, hy, h⟩ := h
    exact ⟨v, hy.imp (fun ⟨h3, h4⟩ => ⟨h3, fun X hX => h4 X (htr _ _ _ (hG _ _ hf) hX)⟩) id, mixU_mono htr hG rest _ w w' hf h⟩

theorem wp_put {o : Oper} {a : Act} {w : World} {K K' : Act → World → Prop} {d : Option Tmp} {u : Value} (hp : ∀ c a w, Q (.panic c) a w → Q (.panic c) (Act.put a d u) w) (hs : ∀ cs b, o.op ≠ .select cs b)
    (h1 : ∀ t, d = some t → t ∉ o.looksAt ops) (h2 : ∀ t, d = some t → o.dst ≠ some t) (hK : ∀ b w', K b w' → K' (b.put d u) w') (h : o.wp P a w K Q) : o.wp P (a.put d u) w K' Q := by
  unfold Oper.wp at h ⊢
  rw [execOp_put (ops := ops) o hs a d u h1]
  generalize (execOp a.eval o).run P w = r at h ⊢
  have hc : ∀ (b : Act) v, (b.put d u).put o.dst v = (b.put o.dst v).put d u := fun b v => Act.put_comm b u v h2
  unfold Oper.upon at h ⊢
  split at h
  · simp only [hc]; exact hK _ _ h
  · simp only [hc]; exact hK _ _ h
  · rename_i dd w'
    have e : ({ (a.put d u) with defers := dd :: (a.put d u).defers } : Act) = ({ a with defers := dd :: a.defers } : Act).put d u := by cases d <;> rfl
    rw [e, hc]
    exact hK _ _ h
  · refine Calls.mono h ?_
    intro e w'' hh
    cases e with
    | returned v => simp only [hc] at hh ⊢; exact hK _ _ hh
    | panicked c => exact hp _ _ _ hh
    | outgrown => exact hh
  · refine Rows.mono h ?_
    intro v w'' hh
    simp only [hc]; exact hK _ _ hh
  · exact hp _ _ _ h
  · exact h.elim

theorem apart_slot {om o : Oper} {d : Nat} (hd : om.dst = some d) (h : om.apart ops o = true) : (∀ t, some d = some t → t ∉ o.looksAt ops) ∧ (∀ t, some d = some t → o.dst ≠ some t) := by
  obtain ⟨h1, h2, _⟩ := Oper.apart_spec h
  rw [← hd]
  exact ⟨h1, h2⟩

/-- The variable is there: its slot is looked at by none of the head. -/
theorem mixR_of_U {G : List Nat} {om : Oper} {d g B0 : Nat} {ty : TypeId} {z : Array Value} {tl : List MOp} (hrf : ∀ w, R w w) (hG : ∀ a b, Frm G a b → R a b) (hGB : ∀ k ∈ G, k < B0) (hp : ∀ c a w d u, Q (.panic c) a w → Q (.panic c) (Act.put a d u) w)
    (hsel : Region.noSelect ops = true) (hd : om.dst = some d) (hB : B0 ≤ g) : ∀ (ms : List MOp) (a : Act) (w : World), (∀ r ∈ ms, ops[r.2.1]? = some r.1) → (∀ r ∈ ms, om.apart ops r.1 = true) → Blk w g ty z →
    wpMixU G R P ops Q (fun a X => ∀ g, Blk X g ty z → B0 ≤ g → wpMixR R P ops Q tl (a.put (some d) (.pointer (some ⟨g, 0, none⟩))) X) ms a w → wpMixR R P ops Q (ms ++ tl) (a.put (some d) (.pointer (some ⟨g, 0, none⟩))) w
  | [], a, w, _, _, hb, h => h w (Frm.refl _ _) g hb hB
  | (o, i, fl) :: rest, a, w, h0, h1, hb, h => by
    obtain ⟨e1, e2⟩ := apart_slot hd (h1 (o, i, fl) (by simp))
    have ho := h0 (o, i, fl) (by simp)
    have hs := Region.noSelect_spec hsel i o
    have hs' : ∀ cs b, o.op ≠ .select cs b := fun cs b => hs cs b ho
    have ih := fun a w => mixR_of_U (om := om) (ty := ty) (z := z) (tl := tl) hrf hG hGB hp hsel hd hB rest a w (fun r hr => h0 r (by simp [hr])) (fun r hr => h1 r (by simp [hr]))
    have hcm : ∀ v, (a.put (some d) (.pointer (some ⟨g, 0, none⟩))).put o.dst v = (a.put o.dst v).put (some d) (.pointer (some ⟨g, 0, none⟩)) := fun v => Act.put_comm a _ v e2
    cases fl with
    | true =>
      have h2 := h w (Frm.refl _ _)
      rw [List.cons_append]
      unfold wpMixR
      rw [wanted_put (ops := ops) o a (some d) _ e1]
      split
      · rename_i hw
        rw [if_pos hw] at h2
        rcases h2 with h2 | ⟨h2, h3⟩
        · exact .inl (wp_put (ops := ops) (fun c a w => hp c a w _ _) hs' e1 e2 (K := fun a' w' => Frm G w w' ∧ wpMixU G R P ops Q _ rest a' w') (fun b w' hk => ⟨hG _ _ hk.1, ih b w' (hk.1.blk hb (fun hm => by have := hGB g hm; omega)) hk.2⟩) h2)
        · refine .inr ⟨?_, h3⟩
          unfold Oper.asks at h2 ⊢
          rw [execOp_put (ops := ops) o hs' a (some d) _ e1]
          exact h2
      · rename_i hw
        rw [if_neg hw] at h2
        rw [hcm]
        exact ih _ _ hb h2
    | false =>
      obtain ⟨v, hy, h2⟩ := h
      rw [List.cons_append]
      refine ⟨v, hy.of_same (execOp_put o hs' a (some d) _ e1) (wanted_put o a (some d) _ e1), ?_⟩
      rw [hcm]
      exact ih _ _ hb h2

/-- The head's order: each is ready in its turn, whether the variable is there or not; only it, and the variable, may come up where it is marked. -/
def goA (n : Nat) (ops : Array Oper) (om : Oper) (m : Nat) (tl : List MOp) : List MOp → Bool
  | [] => true
  | (o, i, fl) :: rest =>
    o.after.all (fun e => !Region.binds .any e || (decide (e.on < n) && (e.on != i && (e.on != m && (rest ++ tl).all fun r => r.2.1 != e.on)))) &&
    (i != m && (rest ++ tl).all (fun r => r.2.1 != i)) && om.apart ops o && o.apart ops om &&
    (if fl then (rest ++ tl).all fun r => r.1.after.any fun e => Region.binds .any e && (e.on == i || (rest ++ tl).any fun q => q.2.1 == e.on)
     else (rest ++ tl).all fun r => (r.1.after.any fun e => Region.binds .any e && e.on == i) || o.apart ops r.1) && goA n ops om m tl rest

theorem held_alloc {G : List Nat} {om : Oper} {m d B0 : Nat} {ty : TypeId} {z : Array Value} {tl : List MOp} (hrf : ∀ w, R w w) (htr : ∀ a b c, R a b → R b c → R a c) (hG : ∀ a b, Frm G a b → R a b) (hGB : ∀ k ∈ G, k < B0) (hp : ∀ c a w, ¬ Q (.panic c) a w)
    (hsel : Region.noSelect ops = true) (hom : ops[m]? = some om) (hgd : om.guard = none) (haf : om.after = #[]) (hd : om.dst = some d)
    (hrun : ∀ (a : Act) w, (execOp a.eval om).run P w = .ok (.value (.pointer (some ⟨w.heap.size, 0, none⟩))) (w.alloc (.cells z ty)))
    (htl : ∀ r ∈ tl, (r.1.after.any fun e => Region.binds .any e && (e.on == m || tl.any fun q => q.2.1 == e.on)) = true) : ∀ (ms : List MOp) (listed : Array Bool) (a : Act) (w : World),
    (∀ r ∈ ms ++ tl, ops[r.2.1]? = some r.1) → listed.size = ops.size → (∀ r ∈ ms ++ tl, listed.getD r.2.1 true = false) → listed.getD m true = false → (∀ r ∈ ms ++ tl, r.2.1 ≠ m) →
    (∀ j, listed.getD j true = false → j = m ∨ ∃ r ∈ ms ++ tl, r.2.1 = j) → goA ops.size ops om m tl ms = true → mixGo ops.size ops (ms ++ tl) = true → B0 ≤ w.heap.size →
    wpMixU G R P ops Q (fun a X => ∀ g, Blk X g ty z → B0 ≤ g → wpMixR R P ops Q tl (a.put (some d) (.pointer (some ⟨g, 0, none⟩))) X) ms a w →
    ∀ S : World → Prop, BearsR R S → S w → wpAnyH P .any ops Q S ((ms ++ tl).length + 1) listed a w := by
  have hp1 : ∀ c a w d u, Q (.panic c) (Act.put a d u) w → Q (.panic c) a w := fun c a w d u h => (hp _ _ _ h).elim
  have hp2 : ∀ c a w d u, Q (.panic c) a w → Q (.panic c) (Act.put a d u) w := fun c a w d u h => (hp _ _ _ h).elim
  -- the variable is made now
  have made : ∀ (ms : List MOp) (listed : Array Bool) (a : Act) (w : World), (∀ r ∈ ms, om.apart ops r.1 = true) →
      (∀ r ∈ ms ++ tl, ops[r.2.1]? = some r.1) → listed.size = ops.size → (∀ r ∈ ms ++ tl, listed.getD r.2.1 true = false) → listed.getD m true = false → (∀ r ∈ ms ++ tl, r.2.1 ≠ m) →
      (∀ j, listed.getD j true = false → j = m ∨ ∃ r ∈ ms ++ tl, r.2.1 = j) → mixGo ops.size ops (ms ++ tl) = true → B0 ≤ w.heap.size →
      wpMixU G R P ops Q (fun a X => ∀ g, Blk X g ty z → B0 ≤ g → wpMixR R P ops Q tl (a.put (some d) (.pointer (some ⟨g, 0, none⟩))) X) ms a w →
      ∀ S : World → Prop, BearsR R S → S w → wpOp P ops Q m (fun a' w' => S w' ∧ wpAnyH P .any ops Q S (ms ++ tl).length (listed.setIfInBounds m true) a' w') a w := by
    intro ms listed a w hap h0 hz h1 hun hne h2 hmg hB h S hSb hSw
    have hmz : m < listed.size := by rw [hz]; exact (Array.getElem?_eq_some_iff.1 hom).1
    unfold wpOp
    simp only [hom]
    rw [if_pos (by unfold Region.wanted; simp [hgd])]
    refine .inl ?_
    unfold Oper.wp
    rw [hrun a w]
    have hf : Frm G w (w.alloc (.cells z ty)) := (Frm.refl _ _).alloc _
    have hS' := hSb _ _ hSw (hG _ _ hf)
    refine ⟨hS', ?_⟩
    rw [hd]
    refine held_of_mixR hrf htr hp1 hsel (ms ++ tl) _ _ _ h0 (by simpa using hz) (fun r hr => ?_) (fun j hj => ?_) hmg (mixR_of_U hrf hG hGB hp2 hsel hd hB ms a _ (fun r hr => h0 r (by simp [hr])) hap (Blk.made w ty z) (mixU_mono htr hG ms a w _ hf h)) S hSb hS'
    · have h3 := h1 r hr
      rw [getD_set_ne true (Ne.symm (hne r hr))]
      exact h3
    · by_cases hjm : j = m
      · subst hjm; simp [hmz] at hj
      · have h3 : listed.getD j true = false := by rw [getD_set_ne true (Ne.symm hjm)] at hj; exact hj
        exact (h2 j h3).resolve_left hjm
  intro ms
  induction ms with
  | nil =>
    intro listed a w h0 hz h1 hun hne h2 hA hmg hB h S hSb hSw
    have hready : m ∈ Region.ready .any ops listed := mem_ready.2 ⟨hun, om, hom, by simp [haf]⟩
    refine ⟨fun h3 => (by rw [h3] at hready; cases hready), fun j hj => ?_⟩
    have hjm : j = m := by
      obtain ⟨hjun, oj, hoj, hall⟩ := mem_ready.1 hj
      rcases h2 j hjun with e | ⟨r, hr, hre⟩
      · exact e
      · exfalso
        have hr' : r ∈ tl := by simpa using hr
        obtain ⟨q, hq, h4⟩ := Array.any_eq_true.1 (htl r hr')
        simp only [Bool.and_eq_true, Bool.or_eq_true, beq_iff_eq, List.any_eq_true] at h4
        have hro : r.1 = oj := by have := h0 r hr; rw [hre, hoj] at this; exact (Option.some.inj this).symm
        have h5 := hall _ (hro ▸ Array.getElem_mem hq) h4.1
        rcases h4.2 with h6 | ⟨q2, hq2, h6⟩
        · rw [h6, getD_both hun] at h5; cases h5
        · rw [← h6, getD_both (h1 q2 (by simpa using hq2))] at h5; cases h5
    subst hjm
    exact made [] listed a w (by simp) h0 hz h1 hun hne h2 hmg hB h S hSb hSw
  | cons r0 rest ih =>
    obtain ⟨o, i, fl⟩ := r0
    intro listed a w h0 hz h1 hun hne h2 hA hmg hB h S hSb hSw
    have hapall : ∀ (l : List MOp), goA ops.size ops om m tl l = true → ∀ r ∈ l, om.apart ops r.1 = true := by
      intro l
      induction l with
      | nil => intro _ r hr; cases hr
      | cons x l ihl =>
        intro hA r hr
        obtain ⟨xo, xi, xf⟩ := x
        simp only [goA, Bool.and_eq_true] at hA
        rcases List.mem_cons.1 hr with rfl | hr
        · exact hA.1.1.1.2
        · exact ihl hA.2 r hr
    have hA0 := hA
    simp only [goA, Bool.and_eq_true] at hA
    obtain ⟨⟨⟨⟨⟨hrd, him, hnei⟩, hap1⟩, hap2⟩, hfl⟩, hA'⟩ := hA
    rw [List.cons_append] at hmg
    simp only [mixGo, Bool.and_eq_true] at hmg
    have him' : i ≠ m := by simpa using him
    have ho : ops[i]? = some o := h0 (o, i, fl) (by simp)
    have hiz : i < listed.size := by rw [hz]; exact (Array.getElem?_eq_some_iff.1 ho).1
    have huni : listed.getD i true = false := h1 (o, i, fl) (by simp)
    have hne' : ∀ r ∈ rest ++ tl, r.2.1 ≠ i := fun r hr => by have := List.all_eq_true.1 hnei r hr; simpa using this
    have hready : i ∈ Region.ready .any ops listed := mem_ready.2 ⟨huni, o, ho, fun e he hb => by
      have h3 := Array.all_eq_true_iff_forall_mem.1 hrd e he
      simp only [hb, Bool.not_true, Bool.false_or, Bool.and_eq_true, decide_eq_true_eq, bne_iff_ne, List.all_eq_true] at h3
      obtain ⟨e1, e2, e3, e4⟩ := h3
      have hez : e.on < listed.size := by rw [hz]; exact e1
      cases hq : listed.getD e.on false with
      | true => rfl
      | false =>
        exfalso
        have hq' : listed.getD e.on true = false := by
          simp [hez] at hq ⊢
          exact hq
        rcases h2 e.on hq' with h5 | ⟨r, hr, hre⟩
        · exact e3 h5
        · rcases List.mem_cons.1 (by simpa using hr : r ∈ (o, i, fl) :: (rest ++ tl)) with rfl | hr
          · exact e2 hre.symm
          · exact e4 r hr hre⟩
    have hset1 : ∀ r ∈ rest ++ tl, (listed.setIfInBounds i true).getD r.2.1 true = false := fun r hr => by
      rw [getD_set_ne true (Ne.symm (hne' r hr))]
      exact h1 r (by simpa using .inr (by simpa using hr))
    have hsetm : (listed.setIfInBounds i true).getD m true = false := by rw [getD_set_ne true him']; exact hun
    have hset2 : ∀ j, (listed.setIfInBounds i true).getD j true = false → j = m ∨ ∃ r ∈ rest ++ tl, r.2.1 = j := fun j hj => by
      by_cases hji : j = i
      · subst hji; simp [hiz] at hj
      · have h3 : listed.getD j true = false := by rw [getD_set_ne true (Ne.symm hji)] at hj; exact hj
        rcases h2 j h3 with e | ⟨r, hr, hre⟩
        · exact .inl e
        · rcases List.mem_cons.1 (by simpa using hr : r ∈ (o, i, fl) :: (rest ++ tl)) with rfl | hr
          · exact absurd hre.symm hji
          · exact .inr ⟨r, hr, hre⟩
    have next := fun a' w' => ih (listed.setIfInBounds i true) a' w' (fun r hr => h0 r (by simpa using .inr (by simpa using hr))) (by simpa using hz) hset1 hsetm (fun r hr => hne r (by simpa using .inr (by simpa using hr))) hset2 hA' hmg.2
    rw [List.cons_append, List.length_cons]
    cases fl with
    | true =>
      refine ⟨fun h3 => (by rw [h3] at hready; cases hready), fun j hj => ?_⟩
      have hji : j = i ∨ j = m := by
        obtain ⟨hjun, oj, hoj, hall⟩ := mem_ready.1 hj
        rcases h2 j hjun with e | ⟨r, hr, hre⟩
        · exact .inr e
        · rcases List.mem_cons.1 (by simpa using hr : r ∈ (o, i, true) :: (rest ++ tl)) with rfl | hr
          · exact .inl hre.symm
          · exfalso
            simp only [if_true] at hfl
            have h3 := List.all_eq_true.1 hfl r hr
            obtain ⟨q, hq, h4⟩ := Array.any_eq_true.1 h3
            simp only [Bool.and_eq_true, Bool.or_eq_true, beq_iff_eq, List.any_eq_true] at h4
            have hro : r.1 = oj := by have := h0 r (by simpa using .inr (by simpa using hr)); rw [hre, hoj] at this; exact (Option.some.inj this).symm
            have h5 := hall _ (hro ▸ Array.getElem_mem hq) h4.1
            rcases h4.2 with h6 | ⟨q2, hq2, h6⟩
            · rw [h6, getD_both huni] at h5; cases h5
            · rw [← h6, getD_both (h1 q2 (by simpa using .inr (by simpa using hq2)))] at h5; cases h5
      rcases hji with rfl | rfl
      · unfold wpOp
        simp only [ho]
        have h3 := h w (Frm.refl _ _)
        split
        · rename_i hw
          rw [if_pos hw] at h3
          refine h3.imp (Oper.wp_mono (fun a' w' h' => ?_)) id
          have hS' := hSb _ _ hSw (hG _ _ h'.1)
          exact ⟨hS', next a' w' (Nat.le_trans hB h'.1.size) h'.2 S hSb hS'⟩
        · rename_i hw
          rw [if_neg hw] at h3
          exact ⟨hSw, next _ _ hB h3 S hSb hSw⟩
      · have := made ((o, i, true) :: rest) listed a w (hapall _ hA0) h0 hz h1 hun hne h2 (by
          rw [List.cons_append]; simp only [mixGo, Bool.and_eq_true]; exact hmg) hB h S hSb hSw
        rw [List.cons_append, List.length_cons] at this
        exact this
    | false =>
      obtain ⟨v, hy, h⟩ := h
      have hSb' : BearsR R (fun X => S X ∧ R w X) := fun X Y hX hXY => ⟨hSb X Y hX.1 hXY, htr _ _ _ hX.2 hXY⟩
      have hSw' : S w ∧ R w w := ⟨hSw, hrf _⟩
      have hy' : YieldsIf P ops (fun X => S X ∧ R w X) o v a := hy.imp (fun ⟨h3, h4⟩ => ⟨h3, fun X hX => h4 X hX.2⟩) id
      refine wpAnyH_mono (S := fun X => S X ∧ R w X) (fun _ h => h.1) _ _ _ _ ?_
      refine wpAnyH_first ho (Region.noSelect_spec hsel) (fun c a w => hp1 c a w _ _) ((rest ++ tl).length + 1) listed a w (fun j oj hoj hji hjun hnot => ?_) hready hy' hSw' (next _ _ hB h _ hSb' hSw')
      rcases h2 j hjun with e | ⟨r, hr, hre⟩
      · subst e
        rw [hom] at hoj
        rw [← Option.some.inj hoj]
        exact hap2
      · rcases List.mem_cons.1 (by simpa using hr : r ∈ (o, i, false) :: (rest ++ tl)) with rfl | hr
        · exact absurd hre.symm hji
        · have hfl' : ((rest ++ tl).all fun r => (r.1.after.any fun e => Region.binds .any e && e.on == i) || o.apart ops r.1) = true := hfl
          have h3 := List.all_eq_true.1 hfl' r hr
          have hro : r.1 = oj := by have := h0 r (by simpa using .inr (by simpa using hr)); rw [hre, hoj] at this; exact (Option.some.inj this).symm
          rw [Bool.or_eq_true] at h3
          rcases h3 with h3 | h3
          · exfalso
            obtain ⟨q, hq, h4⟩ := Array.any_eq_true.1 h3
            simp only [Bool.and_eq_true, beq_iff_eq] at h4
            exact hnot _ (hro ▸ Array.getElem_mem hq) h4.1 h4.2
          · rw [← hro]; exact h3

/-- The stretches ahead of the variable, and behind it. -/
def wpSegsU (G : List Nat) (R : World → World → Prop) (P : Program) (ops : Array Oper) (Q : Exit → Act → World → Prop) (fin : Act → World → Prop) : List Nat → List Oper → Act → World → Prop
  | [], rem, a, w => wpQuiet P ops (fun X => ∃ x : Cls (fun v => R w v), X = x.world) (fun a' => ∀ X, Frm G w X → fin a' X) rem a
  | n :: ns, rem, a, w => wpQuiet P ops (fun X => ∃ x : Cls (fun v => R w v), X = x.world) (fun a' => ∀ X, Frm G w X → wpList P ops (Exit.then (fun a'' w'' => Frm G X w'' ∧ wpSegsU G R P ops Q fin ns (rem.drop (n + 1)) a'' w'') Q) ((rem.drop n).take 1) a' X) (rem.take n) a
def wpSegsR (R : World → World → Prop) (P : Program) (ops : Array Oper) (Q : Exit → Act → World → Prop) : List Nat → List Oper → Act → World → Prop
  | [], rem, a, w => wpQuiet P ops (fun X => ∃ x : Cls (fun v => R w v), X = x.world) (fun a' => Q .normal a' w) rem a
  | n :: ns, rem, a, w => wpQuiet P ops (fun X => ∃ x : Cls (fun v => R w v), X = x.world) (fun a' => wpList P ops (Exit.then (fun a'' w'' => R w w'' ∧ wpSegsR R P ops Q ns (rem.drop (n + 1)) a'' w'') Q) ((rem.drop n).take 1) a' w) (rem.take n) a

theorem cls_iff {w X : World} : (∃ x : Cls (fun v => R w v), X = x.world) ↔ R w X := ⟨fun ⟨x, h⟩ => h ▸ x.ok, fun h => ⟨⟨X, h⟩, rfl⟩⟩

theorem mixU_frees {G : List Nat} {fin : Act → World → Prop} {l : List Oper} {w : World} (hrf : ∀ w, R w w) (K : Act → Prop) (ms : List MOp) : ∀ (pi : List Nat) (a : Act), (∀ i ∈ pi, i < l.length) →
    ((mixOf l (pi.map fun i => (i, false))).all fun r => noEnter r.1) = true → wpQuiet P ops (fun X => ∃ x : Cls (fun v => R w v), X = x.world) K (remOf l pi) a → (∀ a', K a' → wpMixU G R P ops Q fin ms a' w) → wpMixU G R P ops Q fin (mixOf l (pi.map fun i => (i, false)) ++ ms) a w
  | [], a, _, _, h, hK => by simpa [mixOf] using hK a (by simpa [wpQuiet, remOf] using h)
  | i :: pi, a, hk, hB, h, hK => by
    obtain ⟨o, ho⟩ : ∃ o, l[i]? = some o := ⟨_, List.getElem?_eq_getElem (hk i (by simp))⟩
    have e1 : remOf l (i :: pi) = o :: remOf l pi := by
      unfold remOf
      rw [List.filterMap_cons]
      simp only [ho]
    have e2 : mixOf l ((i :: pi).map fun i => (i, false)) = (o, i, false) :: mixOf l (pi.map fun i => (i, false)) := by
      rw [List.map_cons]
      unfold mixOf
      rw [List.filterMap_cons]
      simp only [ho, Option.map_some]
    rw [e2] at hB ⊢
    rw [e1] at h
    rw [List.all_cons, Bool.and_eq_true] at hB
    rw [List.cons_append]
    unfold wpQuiet at h
    split at h
    · rename_i hw
      obtain ⟨v, h1, h2⟩ := strict_of_quiet hB.1 w (cls_iff.2 (hrf w)) h
      exact ⟨v, .inl ⟨hw, fun X hX => h1 X (cls_iff.2 hX)⟩, mixU_frees hrf K ms pi _ (fun j hj => hk j (by simp [hj])) hB.2 h2 hK⟩
    · rename_i hw
      exact ⟨undef, .inr ⟨by simpa using hw, rfl⟩, mixU_frees hrf K ms pi _ (fun j hj => hk j (by simp [hj])) hB.2 h hK⟩
theorem mixR_frees {l : List Oper} {w : World} (hrf : ∀ w, R w w) (K : Act → Prop) (ms : List MOp) : ∀ (pi : List Nat) (a : Act), (∀ i ∈ pi, i < l.length) →
    ((mixOf l (pi.map fun i => (i, false))).all fun r => noEnter r.1) = true → wpQuiet P ops (fun X => ∃ x : Cls (fun v => R w v), X = x.world) K (remOf l pi) a → (∀ a', K a' → wpMixR R P ops Q ms a' w) → wpMixR R P ops Q (mixOf l (pi.map fun i => (i, false)) ++ ms) a w
  | [], a, _, _, h, hK => by simpa [mixOf] using hK a (by simpa [wpQuiet, remOf] using h)
  | i :: pi, a, hk, hB, h, hK => by
    obtain ⟨o, ho⟩ : ∃ o, l[i]? = some o := ⟨_, List.getElem?_eq_getElem (hk i (by simp))⟩
    have e1 : remOf l (i :: pi) = o :: remOf l pi := by
      unfold remOf
      rw [List.filterMap_cons]
      simp only [ho]
    have e2 : mixOf l ((i :: pi).map fun i => (i, false)) = (o, i, false) :: mixOf l (pi.map fun i => (i, false)) := by
      rw [List.map_cons]
      unfold mixOf
      rw [List.filterMap_cons]
      simp only [ho, Option.map_some]
    rw [e2] at hB ⊢
    rw [e1] at h
    rw [List.all_cons, Bool.and_eq_true] at hB
    rw [List.cons_append]
    unfold wpQuiet at h
    split at h
    · rename_i hw
      obtain ⟨v, h1, h2⟩ := strict_of_quiet hB.1 w (cls_iff.2 (hrf w)) h
      exact ⟨v, .inl ⟨hw, fun X hX => h1 X (cls_iff.2 hX)⟩, mixR_frees hrf K ms pi _ (fun j hj => hk j (by simp [hj])) hB.2 h2 hK⟩
    · rename_i hw
      exact ⟨undef, .inr ⟨by simpa using hw, rfl⟩, mixR_frees hrf K ms pi _ (fun j hj => hk j (by simp [hj])) hB.2 h hK⟩

theorem seg_split {l : List Oper} {n : Nat} {ns pi : List Nat} (hs : segSmall 0 (n :: ns) pi.length = true) (hk : ∀ i ∈ pi, i < l.length) :
    ∃ i o, pi[n]? = some i ∧ l[i]? = some o ∧ segSmall 0 ns (pi.drop (n + 1)).length = true ∧ (remOf l pi).take n = remOf l (pi.take n) ∧ ((remOf l pi).drop n).take 1 = [o] ∧ (remOf l pi).drop (n + 1) = remOf l (pi.drop (n + 1)) ∧
      (∀ j ∈ pi.take n, j < l.length) ∧ (∀ j ∈ pi.drop (n + 1), j < l.length) ∧ mixOf l (permP (n :: ns) pi) = mixOf l ((pi.take n).map fun i => (i, false)) ++ (o, i, true) :: mixOf l (permP ns (pi.drop (n + 1))) := by
  have hn : n < pi.length := by
    simp only [segSmall, Bool.and_eq_true, decide_eq_true_eq] at hs
    omega
  have hs2 : segSmall 0 ns (pi.drop (n + 1)).length = true := by
    have sh : ∀ (ns : List Nat) (k m d : Nat), segSmall (k + d) ns (m + d) = segSmall k ns m := by
      intro ns
      induction ns with
      | nil => intro k m d; simp [segSmall]
      | cons x ns ih => intro k m d; simp only [segSmall]; rw [show k + d + x + 1 = k + x + 1 + d by omega, ih]; congr 1; simp; omega
    simp only [segSmall, Bool.and_eq_true] at hs
    have h2 := hs.2
    have e := sh ns 0 (pi.drop (n + 1)).length (n + 1)
    rw [show 0 + (n + 1) = 0 + n + 1 by omega, show (pi.drop (n + 1)).length + (n + 1) = pi.length by simp; omega, h2] at e
    exact e.symm
  obtain ⟨i, hi⟩ : ∃ i, pi[n]? = some i := ⟨_, List.getElem?_eq_getElem hn⟩
  have him : i ∈ pi := List.mem_of_getElem? hi
  obtain ⟨o, ho⟩ : ∃ o, l[i]? = some o := ⟨_, List.getElem?_eq_getElem (hk i him)⟩
  have e0 : (pi.drop n).take 1 = [i] := by
    rw [List.drop_eq_getElem_cons hn, List.take_succ_cons, List.take_zero]
    congr 1
    have := List.getElem?_eq_getElem hn
    rw [hi] at this
    exact (Option.some.inj this).symm
  have hk2 : ∀ j ∈ pi.drop n, j < l.length := fun j hj => hk j (List.mem_of_mem_drop hj)
  refine ⟨i, o, hi, ho, hs2, remOf_take pi n hk, ?_, remOf_drop pi (n + 1) hk, fun j hj => hk j (List.mem_of_mem_take hj), fun j hj => hk j (List.mem_of_mem_drop hj), ?_⟩
  · rw [remOf_drop pi n hk, remOf_take _ 1 hk2, e0]
    unfold remOf
    simp only [List.filterMap_cons, List.filterMap_nil, ho]
  · rw [show permP (n :: ns) pi = (pi.take n).map (fun i => (i, false)) ++ (((pi.drop n).take 1).map (fun i => (i, true)) ++ permP ns (pi.drop (n + 1))) from rfl, e0]
    unfold mixOf
    rw [List.filterMap_append, List.filterMap_append]
    simp only [List.map_cons, List.map_nil, List.filterMap_cons, List.filterMap_nil, ho, Option.map_some]
    rfl

theorem frees_all {l : List Oper} {pi : List Nat} (h : ((mixOf l (pi.map fun i => (i, false))).all fun r => r.2.2 || noEnter r.1) = true) : ((mixOf l (pi.map fun i => (i, false))).all fun r => noEnter r.1) = true := by
  refine List.all_eq_true.2 fun r hr => ?_
  have h3 := List.all_eq_true.1 h r hr
  obtain ⟨p, hp, he⟩ := List.mem_filterMap.1 hr
  obtain ⟨i, _, rfl⟩ := List.mem_map.1 hp
  obtain ⟨o, _, rfl⟩ := Option.map_eq_some_iff.1 he
  simpa using h3

theorem mixU_of_segs {G : List Nat} {fin : Act → World → Prop} {l : List Oper} (hrf : ∀ w, R w w) : ∀ (ns pi : List Nat) (a : Act) (w : World), segSmall 0 ns pi.length = true → (∀ i ∈ pi, i < l.length) → ((mixOf l (permP ns pi)).all fun r => r.2.2 || noEnter r.1) = true →
    wpSegsU G R P ops Q fin ns (remOf l pi) a w → wpMixU G R P ops Q fin (mixOf l (permP ns pi)) a w
  | [], pi, a, w, hs, hk, hB, h => by
    unfold wpSegsU at h
    unfold permP at hB ⊢
    have h2 := mixU_frees (G := G) (Q := Q) (P := P) (ops := ops) (l := l) (w := w) (fin := fin) hrf (fun a' => ∀ X, Frm G w X → fin a' X) [] pi a hk (frees_all hB) h (fun a' h' => h')
    simpa using h2
  | n :: ns, pi, a, w, hs, hk, hB, h => by
    obtain ⟨i, o, hi, ho, hs2, e1, e2, e3, hk1, hk3, e4⟩ := seg_split (l := l) hs hk
    rw [e4] at hB ⊢
    rw [List.all_append, List.all_cons, Bool.and_eq_true, Bool.and_eq_true] at hB
    unfold wpSegsU at h
    rw [e1] at h
    refine mixU_frees (G := G) hrf _ _ (pi.take n) a hk1 (frees_all hB.1) h (fun a' h' => ?_)
    intro X hX
    have h' := h' X hX
    rw [e2, e3] at h'
    unfold wpList at h'
    have nx : ∀ a'' w'', (Frm G X w'' ∧ wpSegsU G R P ops Q fin ns (remOf l (pi.drop (n + 1))) a'' w'') → Frm G X w'' ∧ wpMixU G R P ops Q fin (mixOf l (permP ns (pi.drop (n + 1)))) a'' w'' :=
      fun a'' w'' h5 => ⟨h5.1, mixU_of_segs hrf ns (pi.drop (n + 1)) a'' w'' hs2 hk3 hB.2.2 h5.2⟩
    split
    · rename_i hw
      rw [if_pos hw] at h'
      rcases h' with h' | h'
      · exact .inl (Oper.wp_mono (fun a'' w'' h5 => nx a'' w'' h5) (wp_of_then2 h'))
      · exact .inr h'
    · rename_i hw
      rw [if_neg hw] at h'
      exact (nx _ _ h').2
theorem mixR_of_segs {l : List Oper} (hrf : ∀ w, R w w) : ∀ (ns pi : List Nat) (a : Act) (w : World), segSmall 0 ns pi.length = true → (∀ i ∈ pi, i < l.length) → ((mixOf l (permP ns pi)).all fun r => r.2.2 || noEnter r.1) = true →
    wpSegsR R P ops Q ns (remOf l pi) a w → wpMixR R P ops Q (mixOf l (permP ns pi)) a w
  | [], pi, a, w, hs, hk, hB, h => by
    unfold wpSegsR at h
    unfold permP at hB ⊢
    have h2 := mixR_frees (Q := Q) (P := P) (ops := ops) (l := l) (w := w) hrf (fun a' => Q .normal a' w) [] pi a hk (frees_all hB) h (fun a' h' => h')
    simpa using h2
  | n :: ns, pi, a, w, hs, hk, hB, h => by
    obtain ⟨i, o, hi, ho, hs2, e1, e2, e3, hk1, hk3, e4⟩ := seg_split (l := l) hs hk
    rw [e4] at hB ⊢
    rw [List.all_append, List.all_cons, Bool.and_eq_true, Bool.and_eq_true] at hB
    unfold wpSegsR at h
    rw [e1] at h
    refine mixR_frees hrf _ _ (pi.take n) a hk1 (frees_all hB.1) h (fun a' h' => ?_)
    rw [e2, e3] at h'
    unfold wpList at h'
    unfold wpMixR
    have nx : ∀ a'' w'', (R w w'' ∧ wpSegsR R P ops Q ns (remOf l (pi.drop (n + 1))) a'' w'') → R w w'' ∧ wpMixR R P ops Q (mixOf l (permP ns (pi.drop (n + 1)))) a'' w'' :=
      fun a'' w'' h5 => ⟨h5.1, mixR_of_segs hrf ns (pi.drop (n + 1)) a'' w'' hs2 hk3 hB.2.2 h5.2⟩
    split
    · rename_i hw
      rw [if_pos hw] at h'
      rcases h' with h' | h'
      · exact .inl (Oper.wp_mono (fun a'' w'' h5 => nx a'' w'' h5) (wp_of_then2 h'))
      · exact .inr h'
    · rename_i hw
      rw [if_neg hw] at h'
      exact (nx _ _ h').2
end

/-- Old blocks but those of G are as they were. -/
structure FrB (B : Nat) (G : List Nat) (w w' : World) : Prop where
  os : w'.os = w.os
  tape : w'.tape = w.tape
  output : w'.output = w.output
  size : w.heap.size ≤ w'.heap.size
  block : ∀ k, k < B → k < w.heap.size → k ∉ G → w'.heap[k]? = w.heap[k]?
theorem FrB.refl (B : Nat) (G : List Nat) (w : World) : FrB B G w w := ⟨rfl, rfl, rfl, Nat.le_refl _, fun _ _ _ _ => rfl⟩
theorem FrB.trans {B : Nat} {G : List Nat} {a b c : World} (h : FrB B G a b) (k : FrB B G b c) : FrB B G a c :=
  ⟨k.os.trans h.os, k.tape.trans h.tape, k.output.trans h.output, Nat.le_trans h.size k.size, fun i h1 h2 h3 => (k.block i h1 (Nat.lt_of_lt_of_le h2 h.size) h3).trans (h.block i h1 h2 h3)⟩
theorem FrB.of {B : Nat} {G : List Nat} {a b : World} (h : Frm G a b) : FrB B G a b := ⟨h.os, h.tape, h.output, h.size, fun k _ h2 h3 => h.block k h2 h3⟩
theorem FrB.blk {B : Nat} {G : List Nat} {a b : World} (h : FrB B G a b) {g : Nat} {t : TypeId} {cs : Array Value} (hb : Blk a g t cs) (hB : g < B) (hs : g ∉ G) : Blk b g t cs := (h.block g hB hb.lt hs).trans hb
theorem FrB.cell {B : Nat} {G : List Nat} {a b : World} (h : FrB B G a b) {g i : Nat} (hg : g < a.heap.size) (hB : g < B) (hs : g ∉ G) : b.cell? ⟨g, i, none⟩ = a.cell? ⟨g, i, none⟩ := World.cell?_of_block (w := a) (h.block g hB hg hs)
theorem FrB.put {B : Nat} {G : List Nat} {a b : World} (h : FrB B G a b) {g : Nat} (hg : g ∈ G ∨ B ≤ g) (i : Nat) (u : Value) : FrB B G a (b.setCell ⟨g, i, none⟩ u) :=
  ⟨h.os, h.tape, h.output, by simpa [World.setCell] using h.size, fun k h1 h2 hs => (Below.heap_setCell b _ u k (fun e => by
    have e' : k = g := e
    subst e'
    rcases hg with hg | hg
    · exact hs hg
    · omega)).trans (h.block k h1 h2 hs)⟩

/-- All that is to be checked of the lists. -/
def chkA (l : List Oper) (om : Oper) (m : Nat) (pi ns piT nsT : List Nat) : Bool :=
  segSmall 0 ns pi.length && segSmall 0 nsT piT.length && (pi.all fun i => decide (i < l.length)) && (piT.all fun i => decide (i < l.length)) &&
  ((mixOf l (permP ns pi) ++ mixOf l (permP nsT piT)).length + 1 == l.length) && ((List.range l.length).all fun j => j == m || (mixOf l (permP ns pi) ++ mixOf l (permP nsT piT)).any fun r => r.2.1 == j) &&
  ((mixOf l (permP ns pi) ++ mixOf l (permP nsT piT)).all fun r => r.2.1 != m) && goA l.length l.toArray om m (mixOf l (permP nsT piT)) (mixOf l (permP ns pi)) && mixGo l.length l.toArray (mixOf l (permP ns pi) ++ mixOf l (permP nsT piT)) &&
  ((mixOf l (permP nsT piT)).all fun r => r.1.after.any fun e => Region.binds .any e && (e.on == m || (mixOf l (permP nsT piT)).any fun q => q.2.1 == e.on)) &&
  ((mixOf l (permP ns pi)).all fun r => r.2.2 || noEnter r.1) && ((mixOf l (permP nsT piT)).all fun r => r.2.2 || noEnter r.1)

theorem mix_mem {l : List Oper} {perm : List (Nat × Bool)} {r : MOp} (hr : r ∈ mixOf l perm) : l[r.2.1]? = some r.1 := by
  unfold mixOf at hr
  obtain ⟨p, _, hp⟩ := List.mem_filterMap.1 hr
  obtain ⟨o, ho, rfl⟩ := Option.map_eq_some_iff.1 hp
  simpa using ho

/-- A region that draws and makes one variable, at whatever time: its head in stretches, each call at a letter for the world; then what lies behind the variable. -/
theorem region_segsA {P : Program} {id : Nat} {Q : Exit → Act → World → Prop} {a : Act} {w : World} {l : List Oper} (pi ns : List Nat) (m : Nat) (piT nsT : List Nat) {om : Oper} {d : Nat} {ty : TypeId} {z : Array Value}
    (hm : P.follows .mixedOrders = true) (hsel : Region.noSelect l.toArray = true) (hom : l.toArray[m]? = some om) (hgd : om.guard = none) (haf : om.after = #[]) (hd : om.dst = some d)
    (hrun : ∀ (a : Act) w, (execOp a.eval om).run P w = .ok (.value (.pointer (some ⟨w.heap.size, 0, none⟩))) (w.alloc (.cells z ty)))
    (hc : chkA l om m pi ns piT nsT = true)
    (h : wpSegsU [] (FrB w.heap.size []) P l.toArray (NoPanic Q) (fun a' X => ∀ g, Blk X g ty z → w.heap.size ≤ g → wpSegsR (FrB w.heap.size []) P l.toArray (NoPanic Q) nsT (remOf l piT) (a'.put (some d) (.pointer (some ⟨g, 0, none⟩))) X) ns (remOf l pi) a w.drew) : (Code.region id l.toArray true).wp P Q a w := by
  refine wp_region_noPanic (wp_region_any hm ?_)
  have hz : l.toArray.size = l.length := by simp
  simp only [chkA, Bool.and_eq_true] at hc
  obtain ⟨⟨⟨⟨⟨⟨⟨⟨⟨⟨⟨c1, c2⟩, c3⟩, c4⟩, c5⟩, c6⟩, c7⟩, c8⟩, c9⟩, c10⟩, c11⟩, c12⟩ := hc
  have k3 : ∀ i ∈ pi, i < l.length := fun i hi => of_decide_eq_true (List.all_eq_true.1 c3 i hi)
  have k4 : ∀ i ∈ piT, i < l.length := fun i hi => of_decide_eq_true (List.all_eq_true.1 c4 i hi)
  have hun : ∀ j, j < l.length → (Array.replicate l.toArray.size false).getD j true = false := fun j hj => by simp [hj]
  have h' := mixU_of_segs (G := []) (P := P) (ops := l.toArray) (Q := NoPanic Q) (l := l) (FrB.refl w.heap.size []) ns pi a w.drew c1 k3 c11 h
  have h'' : wpMixU [] (FrB w.heap.size []) P l.toArray (NoPanic Q) (fun a' X => ∀ g, Blk X g ty z → w.heap.size ≤ g → wpMixR (FrB w.heap.size []) P l.toArray (NoPanic Q) (mixOf l (permP nsT piT)) (a'.put (some d) (.pointer (some ⟨g, 0, none⟩))) X) (mixOf l (permP ns pi)) a w.drew := by
    have mono : ∀ (ms : List MOp) (a : Act) (v : World), wpMixU [] (FrB w.heap.size []) P l.toArray (NoPanic Q) (fun a' X => ∀ g, Blk X g ty z → w.heap.size ≤ g → wpSegsR (FrB w.heap.size []) P l.toArray (NoPanic Q) nsT (remOf l piT) (a'.put (some d) (.pointer (some ⟨g, 0, none⟩))) X) ms a v →
        wpMixU [] (FrB w.heap.size []) P l.toArray (NoPanic Q) (fun a' X => ∀ g, Blk X g ty z → w.heap.size ≤ g → wpMixR (FrB w.heap.size []) P l.toArray (NoPanic Q) (mixOf l (permP nsT piT)) (a'.put (some d) (.pointer (some ⟨g, 0, none⟩))) X) ms a v := by
      intro ms
      induction ms with
      | nil => exact fun a v hh X hX g hb hg => mixR_of_segs (FrB.refl _ _) nsT piT _ _ c2 k4 c12 (hh X hX g hb hg)
      | cons x ms ih =>
        obtain ⟨o, i, fl⟩ := x
        intro a v hh
        cases fl with
        | true =>
          intro X hX
          have h2 := hh X hX
          split
          · rename_i hw
            rw [if_pos hw] at h2
            exact h2.imp (Oper.wp_mono fun a' w' h3 => ⟨h3.1, ih _ _ h3.2⟩) (fun h => h)
          · rename_i hw
            rw [if_neg hw] at h2
            exact ih _ _ h2
        | false =>
          obtain ⟨u, hy, h2⟩ := hh
          exact ⟨u, hy, ih _ _ h2⟩
    exact mono _ _ _ h'
  have hml : ∀ r ∈ mixOf l (permP ns pi) ++ mixOf l (permP nsT piT), l[r.2.1]? = some r.1 := fun r hr => (List.mem_append.1 hr).elim mix_mem mix_mem
  have hom' : l[m]? = some om := by simpa using hom
  have := held_alloc (G := []) (R := FrB w.heap.size []) (P := P) (ops := l.toArray) (Q := NoPanic Q) (om := om) (m := m) (d := d) (B0 := w.heap.size) (ty := ty) (z := z) (tl := mixOf l (permP nsT piT)) (FrB.refl _ _) (fun _ _ _ => FrB.trans) (fun _ _ => FrB.of) (by simp) (fun c a w h => h) hsel hom hgd haf hd hrun (fun r hr => List.all_eq_true.1 c10 r hr)
    (mixOf l (permP ns pi)) (Array.replicate l.toArray.size false) a w.drew (fun r hr => by simpa using hml r hr) (by simp) (fun r hr => hun _ (List.getElem?_eq_some_iff.1 (hml r hr)).1) (hun m (List.getElem?_eq_some_iff.1 hom').1) (fun r hr => by have := List.all_eq_true.1 c7 r hr; simpa using this)
    (fun j hj => by
      have hjl : j < l.length := by
        rcases Nat.lt_or_ge j l.length with h3 | h3
        · exact h3
        · have h4 : (Array.replicate l.toArray.size false).getD j true = true := by simp [h3]
          rw [h4] at hj; cases hj
      have h3 := List.all_eq_true.1 c6 j (List.mem_range.2 hjl)
      simp only [Bool.or_eq_true, beq_iff_eq, List.any_eq_true] at h3
      exact h3) (by rw [hz]; exact c8) (by rw [hz]; exact c9) (Nat.le_refl _) h'' (fun _ => True) (fun _ _ _ _ => trivial) trivial
  rw [show (mixOf l (permP ns pi) ++ mixOf l (permP nsT piT)).length + 1 = l.length by simpa using c5, ← hz] at this
  exact wpAny_of_held _ _ _ _ this

/-- A new thing that was made beside the others: its block bears another type. -/
theorem Sep.adopt {S : List Nat} {w0 w : World} {L : List Res} (h : Sep S w0 w L) {g : Nat} {t : TypeId} {cs : Array Value} (hb : Blk w g t cs) (hg : w0.heap.size ≤ g) (hn : ∀ r ∈ L, g ∉ r.bl) : Sep S w0 w (blkR g t cs :: L) :=
  ⟨h.frm, fun r hr => by
    rcases List.mem_cons.1 hr with rfl | hr
    · exact hb
    · exact h.holds r hr, List.Pairwise.cons (fun r hr k hk hk' => by simp [blkR] at hk; subst hk; exact hn r hr hk') h.apart, fun r hr => by
    rcases List.mem_cons.1 hr with rfl | hr
    · intro k hk; simp [blkR] at hk; subst hk; exact .inr hg
    · exact h.mine r hr⟩
theorem far_own {w : World} {g : Nat} {t e : TypeId} {cs : Array Value} {size : Nat} {v : Value} {n : Nat} {xs : List Value} (hb : Blk w g t cs) (ho : w.ownsRow 0 e size v n xs) (hne : e ≠ t) : g ∉ (ownR e size v n xs).bl := by
  intro hm
  rcases ho.2 with ⟨rfl, _⟩ | ⟨g', cap, cur, rfl, _, hh, _⟩
  · simp [ownR, Value.ownBlock] at hm
  · simp [ownR, Value.ownBlock] at hm
    subst hm
    unfold Blk at hb
    rw [hh] at hb
    injection hb with hb
    injection hb with h1 h2
    exact hne h2

end Go.Proofs.YtnloabpdjedanaaDoor
