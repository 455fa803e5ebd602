/-
  REGIONS THAT DRAW THEIR ORDER AND WHOSE HEAD MAKES NEW MEMORY ALONE, whatever it makes and in whatever order: of each slot a word is said that new memory does not turn; each operation is shown once. No program is named here.
-/
import Derived.Test.YtekjpkppfcmjdaaReg
set_option linter.unusedVariables false
set_option linter.unusedSimpArgs false
namespace Go.Proofs.Ytekjpkppfcmjdaa
open Go.RowKit

/-- The frame, other values in the slots that l writes. -/
def fills (u : Nat → Value) : List Oper → Act → Act
  | [], a => a
  | o :: l, a => fills u l (a.put o.dst (u (o.dst.getD 0)))
/-- Each writes a slot of its own, one that is there. -/
def slotsB (n : Nat) : List Oper → Bool
  | [] => true
  | o :: l => (match o.dst with | some d => decide (d < n) && l.all (fun p => p.dst != some d) | none => false) && slotsB n l
def inDsts (l : List Oper) (j : Nat) : Bool := l.any fun o => o.dst == some j

theorem put_tmps (a : Act) (d : Nat) (v : Value) (j : Nat) : (a.put (some d) v).tmps[j]? = if j = d ∧ d < a.tmps.size then some v else a.tmps[j]? := by
  simp only [Act.put, Array.getElem?_setIfInBounds]
  by_cases h : d = j
  · subst h; by_cases h2 : d < a.tmps.size <;> simp [h2]
  · have : ¬ j = d := fun e => h e.symm
    simp [h, this]
theorem act_ext {a b : Act} (h : ∀ j : Nat, a.tmps[j]? = b.tmps[j]?) (hd : a.defers = b.defers) : a = b := by
  cases a; cases b
  simp only at h hd
  subst hd
  congr 1
  exact Array.ext_getElem? h
theorem put_defers (a : Act) (d : Option Tmp) (v : Value) : (a.put d v).defers = a.defers := by cases d <;> rfl
theorem put_size (a : Act) (d : Option Tmp) (v : Value) : (a.put d v).tmps.size = a.tmps.size := by cases d <;> simp [Act.put]
theorem fills_defers (u : Nat → Value) (l : List Oper) (a : Act) : (fills u l a).defers = a.defers := by
  induction l generalizing a with
  | nil => rfl
  | cons o l ih => simp only [fills]; rw [ih, put_defers]
theorem fills_tmps (u : Nat → Value) (l : List Oper) (a : Act) (hl : slotsB a.tmps.size l = true) (j : Nat) : (fills u l a).tmps[j]? = if inDsts l j = true then some (u j) else a.tmps[j]? := by
  induction l generalizing a with
  | nil => simp [fills, inDsts]
  | cons o l ih =>
    simp only [slotsB, Bool.and_eq_true] at hl
    obtain ⟨h1, h2⟩ := hl
    cases hod : o.dst with
    | none => simp [hod] at h1
    | some d =>
      simp only [hod, Bool.and_eq_true, decide_eq_true_eq, List.all_eq_true, bne_iff_ne] at h1
      obtain ⟨hdl, hdn⟩ := h1
      simp only [fills, hod]
      rw [ih _ (by rw [put_size]; exact h2), put_tmps]
      have hin : inDsts (o :: l) j = ((decide (j = d)) || inDsts l j) := by
        simp only [inDsts, List.any_cons, hod]
        congr 1
        by_cases h : d = j
        · subst h; simp
        · have : ¬ j = d := fun e => h e.symm
          simp [h, this]
      rw [hin]
      by_cases hjd : j = d
      · subst hjd
        by_cases hj : inDsts l j = true
        · simp [hj]
        · simp [hj, hdl]
      · simp [hjd]
theorem fills_same (u u' : Nat → Value) (l : List Oper) (a : Act) (hl : slotsB a.tmps.size l = true) (h : ∀ j, inDsts l j = true → u j = u' j) : fills u l a = fills u' l a :=
  act_ext (fun j => by
    rw [fills_tmps u l a hl, fills_tmps u' l a hl]
    by_cases hj : inDsts l j = true
    · rw [if_pos hj, if_pos hj, h j hj]
    · rw [if_neg hj, if_neg hj]) (by rw [fills_defers, fills_defers])
theorem inDsts_lt {n : Nat} {l : List Oper} (hl : slotsB n l = true) {j : Nat} (hj : inDsts l j = true) : j < n := by
  induction l with
  | nil => simp [inDsts] at hj
  | cons o l ih =>
    simp only [slotsB, Bool.and_eq_true] at hl
    obtain ⟨h1, h2⟩ := hl
    simp only [inDsts, List.any_cons, Bool.or_eq_true, beq_iff_eq] at hj
    rcases hj with hj | hj
    · rw [hj] at h1
      simp only [Bool.and_eq_true, decide_eq_true_eq] at h1
      exact h1.1
    · exact ih h2 hj
theorem fills_put (u : Nat → Value) (l : List Oper) (a : Act) (hl : slotsB a.tmps.size l = true) (d : Nat) (v : Value) (hd : inDsts l d = true) :
    (fills u l a).put (some d) v = fills (fun j => if j = d then v else u j) l a := by
  have hsz : (fills u l a).tmps.size = a.tmps.size := by
    clear hd hl
    induction l generalizing a with
    | nil => rfl
    | cons o l ih => simp only [fills]; rw [ih, put_size]
  refine act_ext (fun j => ?_) (by rw [put_defers, fills_defers, fills_defers])
  rw [put_tmps, hsz, fills_tmps _ l a hl, fills_tmps _ l a hl]
  have hdl := inDsts_lt hl hd
  by_cases hjd : j = d
  · subst hjd; rw [if_pos ⟨rfl, hdl⟩, if_pos hd, if_pos rfl]
  · rw [if_neg (fun e => hjd e.1)]
    by_cases hj : inDsts l j = true
    · rw [if_pos hj, if_pos hj, if_neg hjd]
    · rw [if_neg hj, if_neg hj]
theorem fills_self (l : List Oper) (a : Act) (hl : slotsB a.tmps.size l = true) : fills (fun j => (a.tmps[j]?).getD undef) l a = a := by
  refine act_ext (fun j => ?_) (fills_defers _ _ _)
  rw [fills_tmps _ l a hl]
  by_cases hj : inDsts l j = true
  · rw [if_pos hj]
    have := inDsts_lt hl hj
    simp [this]
  · rw [if_neg hj]

theorem eval_tmp (a : Act) (d : Nat) : a.eval (.tmp d) = (a.tmps[d]?).getD undef := by simp [Act.eval]
/-- An operation that yields v. -/
theorem wp_run {P : Program} {o : Oper} {a : Act} {w : World} {K : Act → World → Prop} {Q : Exit → Act → World → Prop} (v : Value) (w' : World) (h : (execOp a.eval o).run P w = .ok (.value v) w') (hK : K (a.put o.dst v) w') : o.wp P a w K Q := by
  unfold Oper.wp
  rw [h]
  exact hK

/-- How many of the first n are still to come. -/
def toCome (listed : Array Bool) (n : Nat) : Nat := ((List.range n).filter fun i => !listed.getD i true).length
theorem toCome_zero {listed : Array Bool} {n : Nat} (h : toCome listed n = 0) : ∀ i, i < n → listed.getD i true = true := by
  intro i hi
  have h1 := List.eq_nil_of_length_eq_zero h
  have h2 := (List.filter_eq_nil_iff.1 h1) i (List.mem_range.2 hi)
  simpa using h2
theorem toCome_set {listed : Array Bool} {n i : Nat} (hi : i < n) (hun : listed.getD i true = false) : toCome (listed.setIfInBounds i true) n + 1 = toCome listed n := by
  unfold toCome
  have hil : i < listed.size := by
    rcases Nat.lt_or_ge i listed.size with h | h
    · exact h
    · simp [Array.getElem?_eq_none h] at hun
  have hset : (listed.setIfInBounds i true).getD i true = true := by simp [hil]
  induction n with
  | zero => omega
  | succ n ih =>
    rw [List.range_succ, List.filter_append, List.filter_append, List.length_append, List.length_append]
    by_cases h : i = n
    · subst h
      have same : (List.range i).filter (fun j => !(listed.setIfInBounds i true).getD j true) = (List.range i).filter (fun j => !listed.getD j true) := by
        apply List.filter_congr
        intro j hj
        have := List.mem_range.1 hj
        rw [getD_set_ne true (by omega)]
      rw [same]
      have e1 : List.filter (fun j => !(listed.setIfInBounds i true).getD j true) [i] = [] := by simp only [List.filter_cons, hset]; rfl
      have e2 : List.filter (fun j => !listed.getD j true) [i] = [i] := by simp only [List.filter_cons, hun]; rfl
      rw [e1, e2]
      simp
    · have := ih (by omega)
      have hn : (listed.setIfInBounds i true).getD n true = listed.getD n true := getD_set_ne true h
      have he : List.filter (fun j => !(listed.setIfInBounds i true).getD j true) [n] = List.filter (fun j => !listed.getD j true) [n] := by simp only [List.filter_cons, hn, List.filter_nil]
      rw [he]
      omega
theorem toCome_pos {listed : Array Bool} {n k : Nat} (h : toCome listed n = k + 1) : ∃ i, i < n ∧ listed.getD i true = false := by
  cases hl : (List.range n).filter fun i => !listed.getD i true with
  | nil => unfold toCome at h; rw [hl] at h; simp at h
  | cons x r =>
    have hx : x ∈ (List.range n).filter fun i => !listed.getD i true := by rw [hl]; simp
    simp only [List.mem_filter, List.mem_range, Bool.not_eq_true'] at hx
    exact ⟨x, hx.1, hx.2⟩

/-- Each waits for earlier ones alone. -/
def earlierB (ops : Array Oper) (n : Nat) : Bool :=
  (List.range n).all fun i => match ops[i]? with
  | some o => o.guard.isNone && o.after.all fun e => decide (e.on < i)
  | none => false
def makesB (md : Region.Mode) (ops : Array Oper) (n : Nat) : Bool :=
  decide (n < ops.size) && Region.sinkB md ops n && Region.chainB md ops n && earlierB ops n && Region.seqB md ops (ops.size - n) n ((Array.replicate n true) ++ (Array.replicate (ops.size - n) false))

section
variable {P : Program}

theorem region_makes_any {Q : Exit → Act → World → Prop} {a : Act} {w : World} {l : List Oper} (n : Nat) (S : World → Prop) (T : Nat → Value → World → Prop)
    (hS : ∀ w w', Frm [] w w' → S w → S w') (hT : ∀ d v w w', Frm [] w w' → T d v w → T d v w') (h0 : S w.drew) (hB : makesB .any l.toArray n = true) (hD : slotsB a.tmps.size (l.take n) = true)
    (step : ∀ o ∈ l.take n, ∀ (u : Nat → Value) (A : Act) w' (K : Act → World → Prop), (∀ d, inDsts (l.take n) d = true → A.eval (.tmp d) = u d) → (∀ d, inDsts (l.take n) d = false → A.eval (.tmp d) = a.eval (.tmp d)) → S w' →
      (∀ e ∈ o.after, Region.binds .any e = true → ∀ oe d, l[e.on]? = some oe → oe.dst = some d → T d (u d) w') →
      (∀ v w'', Frm [] w' w'' → T (o.dst.getD 0) v w'' → K (A.put o.dst v) w'') → o.wp P A w' K Q)
    (rest : ∀ (u : Nat → Value) w', S w' → (∀ o ∈ l.take n, ∀ d, o.dst = some d → T d (u d) w') → wpList P l.toArray Q (l.drop n) (fills u (l.take n) a) w') : wpAny P .any l.toArray Q l.toArray.size (Array.replicate l.toArray.size false) a w.drew := by
  simp only [makesB, Bool.and_eq_true, decide_eq_true_eq] at hB
  obtain ⟨⟨⟨⟨hn, hs⟩, hc⟩, hE⟩, hseq⟩ := hB
  have hn' : n < l.length := hn
  have hat : ∀ i, i < n → ∃ o, l.toArray[i]? = some o ∧ l[i]? = some o ∧ o ∈ l.take n ∧ o.guard = none ∧ ∀ e ∈ o.after, e.on < i := by
    intro i hi
    have h1 := List.all_eq_true.1 hE i (List.mem_range.2 hi)
    have h2 : l[i]? = some l[i] := List.getElem?_eq_getElem (by omega)
    have h3 : l.toArray[i]? = some l[i] := by simp
    simp only [h3, Bool.and_eq_true] at h1
    refine ⟨l[i], h3, h2, List.mem_iff_getElem?.2 ⟨i, by rw [List.getElem?_take_of_lt hi]; exact h2⟩, by simpa using h1.1, fun e he => ?_⟩
    have := (Array.all_eq_true_iff_forall_mem.1 h1.2) e he
    simpa using this
  have hdl : (l.drop n).length = l.toArray.size - n := by simp
  have main : ∀ (f : Nat) (listed : Array Bool) (u : Nat → Value) (w' : World), toCome listed n = f → HeadInv .any l.toArray n listed → S w' →
      (∀ i o d, i < n → l[i]? = some o → o.dst = some d → listed.getD i true = true → T d (u d) w') →
      wpAny P .any l.toArray Q (f + (l.toArray.size - n)) listed (fills u (l.take n) a) w' := by
    intro f
    induction f with
    | zero =>
      intro listed u w' hcnt inv hSw hTw
      rw [Nat.zero_add]
      have hall := toCome_zero hcnt
      have hls : listed = (Array.replicate n true) ++ (Array.replicate (l.toArray.size - n) false) := by
        apply Array.ext
        · rw [inv.size]; simp; omega
        · intro j h1 h2
          rw [inv.size] at h1
          by_cases hj : j < n
          · have := hall j hj
            rw [Array.getElem_append_left (by simpa using hj)]
            have hj2 : j < listed.size := by rw [inv.size]; exact h1
            simp [hj2] at this
            simp [this]
          · have := inv.tail j (by omega) h1
            rw [Array.getElem_append_right (by simp; omega)]
            have hj2 : j < listed.size := by rw [inv.size]; exact h1
            simp [hj2] at this
            simp [this]
      have hsq : Region.seqB .any l.toArray (l.drop n).length n listed = true := by rw [hdl, hls]; exact hseq
      have := wpAny_of_seq (md := .any) (Q' := Q) (l.drop n) n listed (fills u (l.take n) a) w' (fun j => by simp [List.getElem?_drop]) hsq
        (rest u w' hSw fun o ho d hod => by
          obtain ⟨i, hi⟩ := List.mem_iff_getElem?.1 ho
          have hin : i < n := by
            have := (List.getElem?_eq_some_iff.1 hi).1
            simp at this; omega
          rw [List.getElem?_take_of_lt hin] at hi
          exact hTw i o d hin hi hod (hall i hin))
      rwa [hdl] at this
    | succ f ih =>
      intro listed u w' hcnt inv hSw hTw
      rw [show f + 1 + (l.toArray.size - n) = (f + (l.toArray.size - n)) + 1 by omega]
      obtain ⟨i0, hi0, hun0⟩ := toCome_pos hcnt
      refine ⟨fun hr => ?_, fun i hi => ?_⟩
      · -- the least one that is still to come is ready
        exfalso
        have least : ∀ k i, i ≤ k → i < n → listed.getD i true = false → ∃ j, j ∈ Region.ready .any l.toArray listed := by
          intro k
          induction k with
          | zero =>
            intro i hik hin hun
            obtain ⟨o, ho, _, _, _, haf⟩ := hat i hin
            exact ⟨i, mem_ready.2 ⟨hun, o, ho, fun e he hb => by have := haf e he; omega⟩⟩
          | succ k ihk =>
            intro i hik hin hun
            obtain ⟨o, ho, _, _, _, haf⟩ := hat i hin
            by_cases hex : ∃ e, e ∈ o.after ∧ Region.binds .any e = true ∧ listed.getD e.on false = false
            · obtain ⟨e, he, hb, hf⟩ := hex
              have hlt := haf e he
              exact ihk e.on (by omega) (by omega) (getD_in (by rw [inv.size]; omega) hf)
            · refine ⟨i, mem_ready.2 ⟨hun, o, ho, fun e he hb => ?_⟩⟩
              cases hl : listed.getD e.on false with
              | true => rfl
              | false => exact absurd ⟨e, he, hb, hl⟩ hex
        obtain ⟨j, hj⟩ := least i0 i0 (Nat.le_refl _) hi0 hun0
        rw [hr] at hj
        cases hj
      · have hin : i < n := by
          rcases Nat.lt_or_ge i n with h | h
          · exact h
          · exact absurd hi (tail_waits hs hc hn inv _ i0 rfl hi0 hun0 i h)
        obtain ⟨o, ho, ho2, hmem, hgd, haf⟩ := hat i hin
        have hrd := mem_ready.1 hi
        obtain ⟨hun, o', ho', hdeps⟩ := hrd
        have : o' = o := Option.some.inj (ho'.symm.trans ho)
        subst this
        unfold wpOp
        simp only [ho]
        rw [if_pos (by unfold Region.wanted; simp [hgd])]
        obtain ⟨d, hd⟩ : ∃ d, o'.dst = some d := by
          have hs : ∀ (m : Nat) (l : List Oper), slotsB m l = true → ∀ o ∈ l, ∃ d, o.dst = some d := by
            intro m l
            induction l with
            | nil => intro _ o ho; cases ho
            | cons p l ihl =>
              intro hl o ho
              simp only [slotsB, Bool.and_eq_true] at hl
              rcases List.mem_cons.1 ho with rfl | ho
              · cases hod : o.dst with
                | none => rw [hod] at hl; simp at hl
                | some d => exact ⟨d, rfl⟩
              · exact ihl hl.2 o ho
          exact hs _ _ hD o' hmem
        have hev : ∀ j, (fills u (l.take n) a).eval (.tmp j) = ((fills u (l.take n) a).tmps[j]?).getD undef := fun j => by simp [Act.eval]
        refine .inl (step o' hmem u (fills u (l.take n) a) w' _ (fun j hj => by rw [hev, fills_tmps _ _ _ hD, if_pos hj]; rfl) (fun j hj => by rw [hev, fills_tmps _ _ _ hD, hj]; simp [Act.eval]) hSw (fun e he hb oe d hoe hd => ?_) (fun v w'' hf hv => ?_))
        · have hlt := haf e he
          have hl := hdeps e he hb
          refine hTw e.on oe d (by omega) hoe hd ?_
          have : e.on < listed.size := by rw [inv.size]; omega
          simp [this] at hl ⊢
          exact hl
        · have hin2 : inDsts (l.take n) d = true := by
            simp only [inDsts, List.any_eq_true, beq_iff_eq]
            exact ⟨o', hmem, hd⟩
          rw [hd] at hv ⊢
          rw [fills_put u (l.take n) a hD d v hin2]
          refine ih _ _ _ ?_ (inv.set hi hin) (hS _ _ hf hSw) ?_
          · have := toCome_set hin hun
            omega
          · intro j oj dj hj hoj hdj hlj
            by_cases hji : j = i
            · subst hji
              have : oj = o' := Option.some.inj (hoj.symm.trans ho2)
              subst this
              have : dj = d := Option.some.inj (hdj.symm.trans hd)
              subst this
              simp only [if_pos]
              exact hv
            · have hne : dj ≠ d := by
                intro e
                subst e
                -- two operations of the head write one slot
                have uniq : ∀ (l : List Oper) (m : Nat), slotsB m l = true → ∀ (i j : Nat) oi oj, l[i]? = some oi → l[j]? = some oj → oi.dst = some dj → oj.dst = some dj → i = j := by
                  intro l
                  induction l with
                  | nil => intro m _ i j oi oj h; simp at h
                  | cons o l ihl =>
                    intro m hl i j oi oj hi hj hdi hdj
                    simp only [slotsB, Bool.and_eq_true] at hl
                    obtain ⟨h1, h2⟩ := hl
                    cases i with
                    | zero =>
                      cases j with
                      | zero => rfl
                      | succ j =>
                        simp at hi hj
                        subst hi
                        rw [hdi] at h1
                        simp only [Bool.and_eq_true, decide_eq_true_eq, List.all_eq_true, bne_iff_ne] at h1
                        exact absurd hdj (h1.2 oj (List.mem_of_getElem? hj))
                    | succ i =>
                      cases j with
                      | zero =>
                        simp at hi hj
                        subst hj
                        rw [hdj] at h1
                        simp only [Bool.and_eq_true, decide_eq_true_eq, List.all_eq_true, bne_iff_ne] at h1
                        exact absurd hdi (h1.2 oi (List.mem_of_getElem? hi))
                      | succ j =>
                        simp at hi hj
                        rw [ihl m h2 i j oi oj hi hj hdi hdj]
                exact hji (uniq (l.take n) _ hD j i oj o' (by rw [List.getElem?_take_of_lt hj]; exact hoj) (by rw [List.getElem?_take_of_lt hin]; exact ho2) hdj hd)
              rw [if_neg hne]
              rw [getD_set_ne true (Ne.symm hji)] at hlj
              exact hT _ _ _ _ hf (hTw j oj dj hj hoj hdj hlj)
  have inv0 : HeadInv .any l.toArray n (Array.replicate l.toArray.size false) :=
    ⟨by simp, fun j oj _ hl => (by rw [getD_replicate_false] at hl; cases hl), fun t _ ht => getD_in (by simpa using ht) (getD_replicate_false _ _)⟩
  have hall0 : ∀ i, i < l.toArray.size → (Array.replicate l.toArray.size false).getD i true = false := fun i hi => getD_in (by simpa using hi) (getD_replicate_false _ _)
  have hcnt : toCome (Array.replicate l.toArray.size false) n = n := by
    unfold toCome
    rw [List.filter_eq_self.2]
    · simp
    · intro i hi
      have := List.mem_range.1 hi
      rw [hall0 i (by simp; omega)]
      rfl
  have := main n _ (fun j => (a.tmps[j]?).getD undef) w.drew hcnt inv0 h0 (fun i o d hi _ _ hl => by rw [hall0 i (by simp; omega)] at hl; cases hl)
  rw [fills_self _ _ hD, show n + (l.toArray.size - n) = l.toArray.size by omega] at this
  exact this
theorem region_makes {id : Nat} {Q : Exit → Act → World → Prop} {a : Act} {w : World} {l : List Oper} (n : Nat) (S : World → Prop) (T : Nat → Value → World → Prop)
    (hS : ∀ w w', Frm [] w w' → S w → S w') (hT : ∀ d v w w', Frm [] w w' → T d v w → T d v w') (h0 : S w.drew) (hm : P.follows .mixedOrders = true) (hB : makesB .any l.toArray n = true) (hD : slotsB a.tmps.size (l.take n) = true)
    (step : ∀ o ∈ l.take n, ∀ (u : Nat → Value) (A : Act) w' (K : Act → World → Prop), (∀ d, inDsts (l.take n) d = true → A.eval (.tmp d) = u d) → (∀ d, inDsts (l.take n) d = false → A.eval (.tmp d) = a.eval (.tmp d)) → S w' →
      (∀ e ∈ o.after, Region.binds .any e = true → ∀ oe d, l[e.on]? = some oe → oe.dst = some d → T d (u d) w') →
      (∀ v w'', Frm [] w' w'' → T (o.dst.getD 0) v w'' → K (A.put o.dst v) w'') → o.wp P A w' K Q)
    (rest : ∀ (u : Nat → Value) w', S w' → (∀ o ∈ l.take n, ∀ d, o.dst = some d → T d (u d) w') → wpList P l.toArray Q (l.drop n) (fills u (l.take n) a) w') : (Code.region id l.toArray true).wp P Q a w :=
  wp_region_any hm (region_makes_any n S T hS hT h0 hB hD step rest)

end

end Go.Proofs.Ytekjpkppfcmjdaa
