/-
  REGIONS THAT DRAW THEIR ORDER AND MAKE ONE VARIABLE, which waits for nothing and is written last ('x := T{a: f(), b: g()}'): one walk, whatever the order. No program is named here.
-/
import Derived.Test.YtlkhjffbhcjdfaaDoorReg
set_option linter.unusedVariables false
set_option linter.unusedSimpArgs false
namespace Go.Proofs.YtlkhjffbhcjdfaaDoor
open Go.RowKit

section
variable {P : Program} {ops : Array Oper} {md : Region.Mode} {ι : Type} {C : ι → World → Prop}

/-- One value, in every world of every class. -/
def YF (P : Program) (ops : Array Oper) (C : ι → World → Prop) (o : Oper) (v : Value) (a : Act) : Prop := ∀ t, YieldsIn P ops (C t) o v a
theorem YF.of_same {o : Oper} {v : Value} {a a' : Act} (hy : YF P ops C o v a) (he : execOp a'.eval o = execOp a.eval o)
    (hw : Region.wanted o (yielded ops a'.tmps) = Region.wanted o (yielded ops a.tmps)) : YF P ops C o v a' := fun t => (hy t).of_same he hw
def qF (P : Program) (ops : Array Oper) (C : ι → World → Prop) (i : Nat) (K : Act → Prop) (a : Act) : Prop :=
  match ops[i]? with
  | none => K a
  | some o => ∃ v, YF P ops C o v a ∧ K (a.put o.dst v)
theorem qF_mono {i : Nat} {a : Act} {K K' : Act → Prop} (h : ∀ a, K a → K' a) (hh : qF P ops C i K a) : qF P ops C i K' a := by
  unfold qF at *
  split
  · rename_i ho; simp only [ho] at hh; exact h _ hh
  · rename_i o ho
    simp only [ho] at hh
    obtain ⟨v, hv, hK⟩ := hh
    exact ⟨v, hv, h _ hK⟩
theorem qF_qOp {i : Nat} {a : Act} {K : Act → Prop} (t : ι) (h : qF P ops C i K a) : qOp P ops (C t) i K a := by
  cases ho : ops[i]? with
  | none => unfold qF at h; unfold qOp; simp only [ho] at h ⊢; exact h
  | some o =>
    unfold qF at h
    simp only [ho] at h
    obtain ⟨v, hv, hK⟩ := h
    exact (hv t).qOp ho hK
theorem qF_put {j : Nat} {oi oj : Oper} {v : Value} (hj : ops[j]? = some oj) (hap : oi.apart ops oj = true)
    (hsi : ∀ cs b, oi.op ≠ .select cs b) (hsj : ∀ cs b, oj.op ≠ .select cs b) {K : Act → Prop} {a : Act}
    (hy : YF P ops C oi v a) (h : qF P ops C j K (a.put oi.dst v)) :
    qF P ops C j (fun a' => YF P ops C oi v a' ∧ K (a'.put oi.dst v)) a := by
  obtain ⟨h1, h2, h3⟩ := Oper.apart_spec hap
  unfold qF at *
  simp only [hj] at *
  obtain ⟨u, hu, hK⟩ := h
  exact ⟨u, hu.of_same (execOp_put oj hsj a oi.dst v h1).symm (wanted_put oj a oi.dst v h1).symm,
    hy.of_same (execOp_put oi hsi a oj.dst u h3) (wanted_put oi a oj.dst u h3), by rw [← Act.put_comm a v u h2]; exact hK⟩

/-- Whatever order is picked till the head is through. -/
def headF (P : Program) (md : Region.Mode) (ops : Array Oper) (C : ι → World → Prop) (n : Nat) (L : Array Bool → Act → Prop) : Nat → Array Bool → Act → Prop
  | 0, listed, a => L listed a
  | f + 1, listed, a => Region.ready md ops listed ≠ [] ∧ ∀ i ∈ Region.ready md ops listed, i < n ∧ qF P ops C i (headF P md ops C n L f (listed.setIfInBounds i true)) a

theorem headF_first {n i : Nat} {oi : Oper} {v : Value} {L : Array Bool → Act → Prop} (hi : ops[i]? = some oi) (hsel : ∀ (j : Nat) (o : Oper) cs b, ops[j]? = some o → o.op ≠ .select cs b)
    (hs : Region.sinkB md ops n = true) (hc : Region.chainB md ops n = true) (hn : n < ops.size) (hin : i < n)
    (hdone : ∀ listed a, L listed a → ∀ j ∈ Region.ready md ops listed, n ≤ j) :
    ∀ (f : Nat) (listed : Array Bool) (a : Act), HeadInv md ops n listed →
      (∀ j oj, ops[j]? = some oj → j ≠ i → listed.getD j true = false → (∀ e ∈ oj.after, Region.binds md e = true → e.on ≠ i) → oi.apart ops oj = true) →
      i ∈ Region.ready md ops listed → YF P ops C oi v a →
      headF P md ops C n L f (listed.setIfInBounds i true) (a.put oi.dst v) → headF P md ops C n L (f + 1) listed a := by
  intro f
  induction f with
  | zero =>
    intro listed a inv _ hr hy H
    have hun := (mem_ready.1 hr).1
    refine ⟨fun h => (by rw [h] at hr; cases hr), fun j hj => ?_⟩
    have hjn : j < n := by
      rcases Nat.lt_or_ge j n with h | h
      · exact h
      · exact absurd hj (tail_waits hs hc hn inv _ i rfl hin hun j h)
    refine ⟨hjn, ?_⟩
    by_cases hji : j = i
    · subst hji; unfold qF; simp only [hi]; exact ⟨v, hy, H⟩
    · have := hdone _ _ H j (ready_mono hj hji)
      omega
  | succ f ih =>
    intro listed a inv hfree hr hy H
    have hun := (mem_ready.1 hr).1
    refine ⟨fun h => (by rw [h] at hr; cases hr), fun j hj => ?_⟩
    have hjn : j < n := by
      rcases Nat.lt_or_ge j n with h | h
      · exact h
      · exact absurd hj (tail_waits hs hc hn inv _ i rfl hin hun j h)
    refine ⟨hjn, ?_⟩
    by_cases hji : j = i
    · subst hji; unfold qF; simp only [hi]; exact ⟨v, hy, H⟩
    · have h1 := (H.2 j (ready_mono hj hji)).2
      obtain ⟨hjun, oj, hoj, hall⟩ := mem_ready.1 hj
      have hnot : ∀ e ∈ oj.after, Region.binds md e = true → e.on ≠ i := fun e he hb heq => by
        have h1 := hall e he hb
        rw [heq, getD_both hun] at h1
        cases h1
      have h2 := qF_put hoj (hfree j oj hoj hji hjun hnot) (fun cs b => hsel i oi cs b hi) (fun cs b => hsel j oj cs b hoj) hy h1
      have hfree' : ∀ k ok, ops[k]? = some ok → k ≠ i → (listed.setIfInBounds j true).getD k true = false →
          (∀ e ∈ ok.after, Region.binds md e = true → e.on ≠ i) → oi.apart ops ok = true := fun k ok hk hki hun hno => by
        refine hfree k ok hk hki ?_ hno
        by_cases hjk : j = k
        · subst hjk; exact hjun
        · rw [getD_set_ne true hjk] at hun; exact hun
      refine qF_mono (fun a' h3 => ih (listed.setIfInBounds j true) a' (inv.set hj hjn) hfree' (ready_mono hr (Ne.symm hji)) h3.1 ?_) h2
      rw [Array.setIfInBounds_comm _ _ hji]
      exact h3.2

/-- The lexical walk. -/
def wpQF (P : Program) (ops : Array Oper) (C : ι → World → Prop) (Q : Act → Prop) : List Oper → Act → Prop
  | [], a => Q a
  | o :: rest, a => ∃ v, YF P ops C o v a ∧ wpQF P ops C Q rest (a.put o.dst v)

def lexA (md : Region.Mode) (ops : Array Oper) (g : Nat) : Nat → Nat → Array Bool → Bool
  | 0, k, listed => Region.seqB md ops g (k + 1) listed
  | f + 1, k, listed => (Region.ready md ops listed).contains k && Region.free md ops listed k && lexA md ops g f (k + 1) (listed.setIfInBounds k true)

theorem headF_lex {m g : Nat} {Lq : Act → Prop} (hsel : Region.noSelect ops = true) (hs : Region.sinkB md ops (m + 1) = true) (hc : Region.chainB md ops (m + 1) = true) (hn : m + 1 < ops.size) :
    ∀ (l : List Oper) (k : Nat) (listed : Array Bool) (a : Act), (∀ j, j < l.length → l[j]? = ops[k + j]?) → k + l.length = m → HeadInv md ops (m + 1) listed →
    lexA md ops g l.length k listed = true → wpQF P ops C Lq l a →
    headF P md ops C (m + 1) (fun listed' a' => Region.seqB md ops g (m + 1) listed' = true ∧ Lq a') l.length listed a
  | [], k, listed, a, _, hk, _, hB, h => by
    have : k = m := by simpa using hk
    subst this
    exact ⟨by simpa [lexA] using hB, h⟩
  | o :: l, k, listed, a, hl, hk, inv, hB, h => by
    have h0 : ops[k]? = some o := by simpa using (hl 0 (by simp)).symm
    simp only [List.length_cons, lexA, Bool.and_eq_true] at hB
    obtain ⟨⟨hr, hf⟩, hB'⟩ := hB
    have hkn : k < m + 1 := by simp only [List.length_cons] at hk; omega
    have hr' : k ∈ Region.ready md ops listed := by simpa using hr
    obtain ⟨v, hy, hK⟩ := h
    exact headF_first h0 (Region.noSelect_spec hsel) hs hc hn hkn (fun listed' a' hL => seqB_ready hL.1) l.length listed a inv (Region.free_spec h0 hf) hr' hy
      (headF_lex hsel hs hc hn l (k + 1) _ _ (fun j hj => by have := hl (j + 1) (by simp; omega); simpa [Nat.add_assoc, Nat.add_comm 1 j] using this) (by simp only [List.length_cons] at hk; omega) (inv.set hr' hkn) hB' hK)

/-- The variable's slot is looked at by none of the head. -/
theorem headF_slot {m n : Nat} {om : Oper} {u : Value} {L : Array Bool → Act → Prop} (hsel : ∀ (j : Nat) (o : Oper) cs b, ops[j]? = some o → o.op ≠ .select cs b)
    (hfree : ∀ j oj, j < n → j ≠ m → ops[j]? = some oj → om.apart ops oj = true) :
    ∀ (f : Nat) (listed : Array Bool) (a : Act), listed.getD m true = true → headF P md ops C n L f listed a → headF P md ops C n (fun l b => ∃ b', L l b' ∧ b = b'.put om.dst u) f listed (a.put om.dst u) := by
  intro f
  induction f with
  | zero => exact fun listed a _ h => ⟨a, h, rfl⟩
  | succ f ih =>
    intro listed a hl h
    refine ⟨h.1, fun i hi => ⟨(h.2 i hi).1, ?_⟩⟩
    obtain ⟨hun, oi, hoi, _⟩ := mem_ready.1 hi
    have him : i ≠ m := fun e => by subst e; rw [hl] at hun; cases hun
    obtain ⟨h1, h2, h3⟩ := Oper.apart_spec (hfree i oi (h.2 i hi).1 him hoi)
    have hq := (h.2 i hi).2
    unfold qF at hq ⊢
    simp only [hoi] at hq ⊢
    obtain ⟨v, hv, hK⟩ := hq
    refine ⟨v, hv.of_same (execOp_put oi (fun cs b => hsel i oi cs b hoi) a om.dst u h1) (wanted_put oi a om.dst u h1), ?_⟩
    rw [Act.put_comm a u v h2]
    exact ih _ _ (by rw [getD_set_ne true him]; exact hl) hK

theorem any_of_headF {n g : Nat} {L : Array Bool → Act → Prop} {Q' : Exit → Act → World → Prop} (t : ι) (hL : ∀ listed a w, C t w → L listed a → wpAny P md ops Q' g listed a w) :
    ∀ (f : Nat) (listed : Array Bool) (a : Act) (w : World), C t w → headF P md ops C n L f listed a → wpAny P md ops Q' (f + g) listed a w
  | 0, listed, a, w, hw, h => by rw [Nat.zero_add]; exact hL _ _ _ hw h
  | f + 1, listed, a, w, hw, h => by
    rw [show f + 1 + g = (f + g) + 1 by omega]
    exact ⟨fun h0 => absurd h0 h.1, fun i hi => wpOp_of_qOp hw (fun a' w' hw' h' => any_of_headF t hL f _ a' w' hw' h') (qF_qOp t (h.2 i hi).2)⟩

/-- The variable made at whatever time. -/
theorem any_free {m g : Nat} {om : Oper} {c0 : ι} {A : ι → Value → Prop} {Lq : Act → Prop} {Q' : Exit → Act → World → Prop}
    (hs : Region.sinkB md ops (m + 1) = true) (hc : Region.chainB md ops (m + 1) = true) (hn : m + 1 < ops.size)
    (hsel : ∀ (j : Nat) (o : Oper) cs b, ops[j]? = some o → o.op ≠ .select cs b) (hom : ops[m]? = some om) (hgd : om.guard = none) (haf : om.after = #[])
    (hfree : ∀ j oj, j < m + 1 → j ≠ m → ops[j]? = some oj → om.apart ops oj = true)
    (hA : ∀ a w (K : Act → World → Prop), C c0 w → (∀ t v w', A t v → C t w' → K (a.put om.dst v) w') → om.wp P a w K Q')
    (hL : ∀ t v listed a w, A t v → C t w → Region.seqB md ops g (m + 1) listed = true → Lq a → wpAny P md ops Q' g listed (a.put om.dst v) w) :
    ∀ (f : Nat) (listed : Array Bool) (a : Act) (w : World), C c0 w → listed.getD m true = false → HeadInv md ops (m + 1) listed →
      headF P md ops C (m + 1) (fun listed' a' => Region.seqB md ops g (m + 1) listed' = true ∧ Lq a') f (listed.setIfInBounds m true) a → wpAny P md ops Q' (f + 1 + g) listed a w := by
  have hready : ∀ listed : Array Bool, listed.getD m true = false → m ∈ Region.ready md ops listed := fun listed hl => mem_ready.2 ⟨hl, om, hom, by simp [haf]⟩
  have hset : ∀ listed : Array Bool, (listed.setIfInBounds m true).getD m true = true := fun listed => by
    rcases Nat.lt_or_ge m listed.size with h | h
    · simp [h]
    · simp [h]
  have made : ∀ (f : Nat) (listed : Array Bool) (a : Act) (w : World), C c0 w →
      headF P md ops C (m + 1) (fun listed' a' => Region.seqB md ops g (m + 1) listed' = true ∧ Lq a') f (listed.setIfInBounds m true) a →
      wpOp P ops Q' m (wpAny P md ops Q' (f + g) (listed.setIfInBounds m true)) a w := by
    intro f listed a w hw h
    unfold wpOp
    simp only [hom]
    rw [if_pos (by unfold Region.wanted; simp [hgd])]
    refine .inl (hA a w _ hw fun t v w' hv hw' => ?_)
    exact any_of_headF t (fun listed' a' w2 hw2 hl2 => by obtain ⟨b, ⟨h1, h2⟩, rfl⟩ := hl2; exact hL t v listed' b w2 hv hw2 h1 h2) f _ _ w' hw' (headF_slot hsel hfree f _ _ (hset listed) h)
  intro f
  induction f with
  | zero =>
    intro listed a w hw hun inv h
    rw [show 0 + 1 + g = (0 + g) + 1 by omega]
    refine ⟨fun h0 => (by have := hready _ hun; rw [h0] at this; cases this), fun i hi => ?_⟩
    by_cases him : i = m
    · subst him; exact made 0 listed a w hw h
    · have h1 := seqB_ready h.1 i (ready_mono hi him)
      exact absurd hi (tail_waits hs hc hn inv _ m rfl (by omega) hun i h1)
  | succ f ih =>
    intro listed a w hw hun inv h
    rw [show f + 1 + 1 + g = (f + 1 + g) + 1 by omega]
    refine ⟨fun h0 => (by have := hready _ hun; rw [h0] at this; cases this), fun i hi => ?_⟩
    by_cases him : i = m
    · subst him; exact made (f + 1) listed a w hw h
    · obtain ⟨hil, hq⟩ := h.2 i (ready_mono hi him)
      refine wpOp_of_qOp hw (fun a' w' hw' h' => ?_) (qF_qOp c0 hq)
      refine ih _ a' w' hw' (by rw [getD_set_ne true him]; exact hun) (inv.set hi hil) ?_
      rw [Array.setIfInBounds_comm _ _ him]
      exact h'

theorem quiet_keeps {D : World → Prop} {a' : Act} : ∀ (l : List Oper) (b : Act), wpQuiet P ops D (fun x => x = a') l b → ∀ d, (∀ o ∈ l, o.dst ≠ some d) → a'.tmps[d]? = b.tmps[d]?
  | [], b, h, d, _ => by
    have : b = a' := h
    rw [this]
  | o :: l, b, h, d, hd => by
    have hput : ∀ v, (b.put o.dst v).tmps[d]? = b.tmps[d]? := fun v => by
      have h0 := hd o (by simp)
      cases hod : o.dst with
      | none => rfl
      | some e =>
        rw [hod] at h0
        have : e ≠ d := fun x => h0 (by rw [x])
        simp [Act.put, Array.getElem?_setIfInBounds_ne this]
    unfold wpQuiet at h
    split at h
    · obtain ⟨v, _, h2⟩ := h
      rw [quiet_keeps l _ h2 d (fun o ho => hd o (by simp [ho]))]
      exact hput v
    · rw [quiet_keeps l _ h d (fun o ho => hd o (by simp [ho]))]
      exact hput _

/-- Each writes a slot of its own, one that is there. -/
def dstsB (n : Nat) : List Oper → Bool
  | [] => true
  | o :: l => (match o.dst with | some d => decide (d < n) && l.all (fun p => p.dst != some d) | none => false) && dstsB n l

theorem quiet_pin [Nonempty ι] {a' : Act} : ∀ (l : List Oper) (b : Act), dstsB b.tmps.size l = true → (∀ t, wpQuiet P ops (C t) (fun x => x = a') l b) → wpQF P ops C (fun x => x = a') l b
  | [], b, _, h => (h (Classical.choice ‹Nonempty ι›) : b = a')
  | o :: l, b, hd, h => by
    simp only [dstsB, Bool.and_eq_true] at hd
    obtain ⟨hd1, hd2⟩ := hd
    have key : ∀ t, ∃ v, YieldsIn P ops (C t) o v b ∧ wpQuiet P ops (C t) (fun x => x = a') l (b.put o.dst v) := fun t => by
      have ht := h t
      unfold wpQuiet at ht
      split at ht
      · rename_i hw
        obtain ⟨v, h1, h2⟩ := ht
        exact ⟨v, .inl ⟨hw, h1⟩, h2⟩
      · rename_i hw
        exact ⟨undef, .inr ⟨by simpa using hw, rfl⟩, ht⟩
    cases hod : o.dst with
    | none => simp [hod] at hd1
    | some d =>
      simp only [hod, Bool.and_eq_true, decide_eq_true_eq, List.all_eq_true, bne_iff_ne] at hd1
      obtain ⟨hdl, hdn⟩ := hd1
      have val : ∀ t v, wpQuiet P ops (C t) (fun x => x = a') l (b.put o.dst v) → a'.tmps[d]? = some v := fun t v hv => by
        rw [quiet_keeps l _ hv d hdn, hod]
        simp [Act.put, hdl]
      obtain ⟨t0⟩ := ‹Nonempty ι›
      obtain ⟨v0, hy0, hq0⟩ := key t0
      have all : ∀ t, YieldsIn P ops (C t) o v0 b ∧ wpQuiet P ops (C t) (fun x => x = a') l (b.put o.dst v0) := fun t => by
        obtain ⟨v, hy, hq⟩ := key t
        have e1 := val t v hq
        rw [val t0 v0 hq0] at e1
        injection e1 with e1
        subst e1
        exact ⟨hy, hq⟩
      exact ⟨v0, fun t => (all t).1, @quiet_pin ⟨t0⟩ a' l _ (by rw [hod]; simpa [Act.put] using hd2) (fun t => (all t).2)⟩
end

def freeB (md : Region.Mode) (ops : Array Oper) (m : Nat) : Bool :=
  Region.noSelect ops && decide (m + 1 < ops.size) && Region.sinkB md ops (m + 1) && Region.chainB md ops (m + 1) && lexA md ops (ops.size - (m + 1)) m 0 ((Array.replicate ops.size false).setIfInBounds m true) &&
  match ops[m]? with
  | some om => om.guard.isNone && om.after.isEmpty && (List.range (m + 1)).all fun j => j == m || match ops[j]? with
    | some oj => om.apart ops oj
    | none => true
  | none => false

theorem region_free {P : Program} {ι : Type} [Nonempty ι] {C : ι → World → Prop} {id : Nat} {Q : Exit → Act → World → Prop} {a : Act} {w : World} {l : List Oper} (m : Nat) {om : Oper} {c0 : ι} {A : ι → Value → Prop}
    (hS : C c0 w.drew) (hm : P.follows .mixedOrders = true) (hB : freeB .any l.toArray m = true) (hD : dstsB a.tmps.size (l.take m) = true) (hom : l.toArray[m]? = some om)
    (hA : ∀ (a : Act) w (K : Act → World → Prop), C c0 w → (∀ t v w', A t v → C t w' → K (a.put om.dst v) w') → om.wp P a w K Q)
    (h : ∃ a', (∀ t, wpQuiet P l.toArray (C t) (fun x => x = a') (l.take m) a) ∧ ∀ t v w', A t v → C t w' → wpList P l.toArray Q (l.drop (m + 1)) (a'.put om.dst v) w') : (Code.region id l.toArray true).wp P Q a w := by
  obtain ⟨a', hq, hr⟩ := h
  simp only [freeB, Bool.and_eq_true, decide_eq_true_eq, hom] at hB
  obtain ⟨⟨⟨⟨⟨hsel, hn⟩, hs⟩, hc⟩, hlex⟩, ⟨hgd, haf⟩, hfr⟩ := hB
  have hn' : m + 1 < l.length := by simpa using hn
  have htl : (l.take m).length = m := by simp; omega
  have hdl : (l.drop (m + 1)).length = l.toArray.size - (m + 1) := by simp
  have inv0 : HeadInv .any l.toArray (m + 1) (Array.replicate l.toArray.size false) :=
    ⟨by simp, fun j oj _ hl => (by rw [getD_replicate_false] at hl; cases hl), fun t _ ht => getD_in (by simpa using ht) (getD_replicate_false _ _)⟩
  have hun : (Array.replicate l.toArray.size false).getD m true = false := getD_in (by simp; omega) (getD_replicate_false _ _)
  have haf' : om.after = #[] := by simpa using haf
  have hgd' : om.guard = none := by simpa using hgd
  have hfree : ∀ j oj, j < m + 1 → j ≠ m → l.toArray[j]? = some oj → om.apart l.toArray oj = true := fun j oj hj hne hoj => by
    have h1 := List.all_eq_true.1 hfr j (List.mem_range.2 hj)
    simp only [Bool.or_eq_true, beq_iff_eq, hoj] at h1
    exact h1.resolve_left hne
  have hrd : m ∈ Region.ready .any l.toArray (Array.replicate l.toArray.size false) := mem_ready.2 ⟨hun, om, hom, by simp [haf']⟩
  have H := headF_lex (md := .any) (C := C) (g := l.toArray.size - (m + 1)) hsel hs hc hn (l.take m) 0 _ a (fun j hj => by
    have hj' : j < m := by rw [htl] at hj; exact hj
    simp [hj']) (by simpa using htl) (inv0.set hrd (by omega)) (by rw [htl]; exact hlex) (quiet_pin _ _ hD hq)
  refine wp_region_any hm ?_
  have := any_free (Q' := Q) (A := A) (g := l.toArray.size - (m + 1)) hs hc hn (Region.noSelect_spec hsel) hom hgd' haf' hfree hA (fun t v listed' b w' hv hw' h1 h2 => by
    subst h2
    have := wpAny_of_seq (md := .any) (Q' := Q) (l.drop (m + 1)) (m + 1) listed' (b.put om.dst v) w' (fun j => by simp [List.getElem?_drop]) (by rw [hdl]; exact h1) (hr t v w' hv hw')
    rwa [hdl] at this) _ _ a w.drew hS hun inv0 H
  rw [htl, show m + 1 + (l.toArray.size - (m + 1)) = l.toArray.size by omega] at this
  exact this

/-- In the class of the worlds at which the call's own things lie apart. M: the new variable, once it is made. -/
theorem region_sep_free {P : Program} {S : List Nat} {w0 : World} {L : List Res} {id : Nat} {Q : Exit → Act → World → Prop} {a : Act} {w : World} {l : List Oper} (m : Nat) {om : Oper} {ty : TypeId} {z : Array Value}
    (hS : Sep S w0 w L) (hm : P.follows .mixedOrders = true) (hB : freeB .any l.toArray m = true) (hD : dstsB a.tmps.size (l.take m) = true) (hom : l.toArray[m]? = some om)
    (hrun : ∀ (a : Act) w, (execOp a.eval om).run P w = .ok (.value (.pointer (some ⟨w.heap.size, 0, none⟩))) (w.alloc (.cells z ty)))
    (h : ∃ a', (∀ M, Nonempty (Cls fun v => Sep S w0 v (M ++ L)) → wpQuiet P l.toArray (fun w' => ∃ x : Cls fun v => Sep S w0 v (M ++ L), w' = x.world) (fun x => x = a') (l.take m) a) ∧
      ∀ g w', Sep S w0 w' (blkR g ty z :: L) → wpList P l.toArray Q (l.drop (m + 1)) (a'.put om.dst (.pointer (some ⟨g, 0, none⟩))) w') : (Code.region id l.toArray true).wp P Q a w := by
  obtain ⟨a', hq, hr⟩ := h
  haveI : Nonempty { M : List Res // Nonempty (Cls fun v => Sep S w0 v (M ++ L)) } := ⟨⟨[], ⟨⟨w, hS⟩⟩⟩⟩
  refine region_free (ι := { M : List Res // Nonempty (Cls fun v => Sep S w0 v (M ++ L)) }) (C := fun M w' => ∃ x : Cls fun v => Sep S w0 v (M.1 ++ L), w' = x.world) m (om := om) (c0 := ⟨[], ⟨⟨w, hS⟩⟩⟩) (A := fun M v => ∃ g, M.1 = [blkR g ty z] ∧ v = .pointer (some ⟨g, 0, none⟩))
    ⟨⟨w.drew, hS.drew⟩, rfl⟩ hm hB hD hom (fun b v K hb hK => ?_) ⟨a', fun M => hq M.1 M.2, fun M v w' hv hw' => ?_⟩
  · unfold Oper.wp
    rw [hrun b v]
    obtain ⟨x, rfl⟩ := hb
    have hx : Sep S w0 (x.world.alloc (.cells z ty)) ([blkR x.world.heap.size ty z] ++ L) := Sep.alloc x.ok z ty
    exact hK ⟨[blkR x.world.heap.size ty z], ⟨⟨_, hx⟩⟩⟩ _ _ ⟨_, rfl, rfl⟩ ⟨⟨_, hx⟩, rfl⟩
  · obtain ⟨g, hM, rfl⟩ := hv
    obtain ⟨M, hne⟩ := M
    subst hM
    obtain ⟨x, rfl⟩ := hw'
    exact hr g _ x.ok
/-- A cell of a block among the class's things, behind whatever else. -/
theorem Cls.cellM {S : List Nat} {w0 : World} {M L : List Res} (i : Nat) {b : Nat} {t : TypeId} {cs : Array Value} (hi : L[i]? = some (blkR b t cs)) (j : Nat) {v : Value} (hv : cs[j]? = some v) (x : Cls (fun v => Sep S w0 v (M ++ L))) : x.world.cell? ⟨b, j, none⟩ = some v :=
  ((x.ok.sub (List.sublist_append_right M L)).blk i hi).cell j hv
theorem Cls.rest {S : List Nat} {w0 : World} {M L : List Res} (x : Cls (fun v => Sep S w0 v (M ++ L))) : Sep S w0 x.world L := x.ok.sub (List.sublist_append_right M L)

end Go.Proofs.YtlkhjffbhcjdfaaDoor
