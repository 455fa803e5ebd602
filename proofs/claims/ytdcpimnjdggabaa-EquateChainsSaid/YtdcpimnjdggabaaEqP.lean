/-
  EQUATIONS IN PLAIN LEAN: what is open of an equation, what a round tells, what can be told at all. No program is named here.
-/
import Derived.WalkKit
set_option linter.unusedVariables false
set_option linter.unusedSimpArgs false
namespace Go.Proofs.Ytdcpimnjdggabaa

/-- Those of an equation that are not known, each once. -/
def opn {α : Type} [DecidableEq α] (K eq : List α) : List α := eq.foldl (fun out x => if x ∈ K ∨ x ∈ out then out else out ++ [x]) []
theorem opn_nil {α : Type} [DecidableEq α] (K : List α) : opn K [] = [] := rfl
theorem opn_snoc {α : Type} [DecidableEq α] (K eq : List α) (x : α) : opn K (eq ++ [x]) = if x ∈ K ∨ x ∈ opn K eq then opn K eq else opn K eq ++ [x] := by unfold opn; rw [List.foldl_append]; rfl
theorem snoc_ind {α : Type} {p : List α → Prop} (h0 : p []) (h1 : ∀ l x, p l → p (l ++ [x])) (l : List α) : p l := by
  rw [← List.reverse_reverse l]
  induction l.reverse with
  | nil => exact h0
  | cons x r ih => rw [List.reverse_cons]; exact h1 _ _ ih
theorem opn_mem {α : Type} [DecidableEq α] {K eq : List α} {y : α} : y ∈ opn K eq ↔ y ∈ eq ∧ y ∉ K := by
  induction eq using snoc_ind with
  | h0 => simp [opn_nil]
  | h1 eq x ih =>
    rw [opn_snoc]
    split
    · rename_i h
      rw [ih]
      constructor
      · exact fun ⟨a, b⟩ => ⟨by simp [a], b⟩
      · rintro ⟨a, b⟩
        rcases List.mem_append.1 a with a | a
        · exact ⟨a, b⟩
        · simp at a
          subst a
          rcases h with h | h
          · exact absurd h b
          · exact ih.1 h
    · rename_i h
      rw [List.mem_append, ih]
      constructor
      · rintro (⟨a, b⟩ | a)
        · exact ⟨by simp [a], b⟩
        · simp at a
          subst a
          exact ⟨by simp, fun hk => h (.inl hk)⟩
      · rintro ⟨a, b⟩
        rcases List.mem_append.1 a with a | a
        · exact .inl ⟨a, b⟩
        · exact .inr a
theorem opn_len {α : Type} [DecidableEq α] (K eq : List α) : (opn K eq).length ≤ eq.length := by
  induction eq using snoc_ind with
  | h0 => simp [opn_nil]
  | h1 eq x ih => rw [opn_snoc]; split <;> simp <;> omega
theorem opn_nodup {α : Type} [DecidableEq α] (K eq : List α) : (opn K eq).Nodup := by
  induction eq using snoc_ind with
  | h0 => simp [opn_nil]
  | h1 eq x ih =>
    rw [opn_snoc]
    split
    · exact ih
    · rename_i h
      rw [List.nodup_append]
      exact ⟨ih, by simp, fun a ha b hb e => h (.inr (by simp at hb; subst hb; subst e; exact ha))⟩
theorem opn_congr {α : Type} [DecidableEq α] {K K' : List α} (h : ∀ x, x ∈ K ↔ x ∈ K') (eq : List α) : opn K eq = opn K' eq := by
  induction eq using snoc_ind with
  | h0 => rfl
  | h1 eq x ih =>
    rw [opn_snoc, opn_snoc, ih]
    have : (x ∈ K ∨ x ∈ opn K' eq) ↔ (x ∈ K' ∨ x ∈ opn K' eq) := by rw [h x]
    by_cases hc : x ∈ K' ∨ x ∈ opn K' eq
    · rw [if_pos hc, if_pos (this.2 hc)]
    · rw [if_neg hc, if_neg (fun h2 => hc (this.1 h2))]

/-- What one equation tells. -/
def rstep {α : Type} [DecidableEq α] (base : List α) (i : Nat) (eq : List α) (out : List (α × Nat)) : List (α × Nat) :=
  match opn (base ++ out.map (·.1)) eq with
  | [x] => out ++ [(x, i)]
  | _ => out
theorem rstep_one {α : Type} [DecidableEq α] {base : List α} {i : Nat} {eq : List α} {out : List (α × Nat)} {x : α} (h : opn (base ++ out.map (·.1)) eq = [x]) : rstep base i eq out = out ++ [(x, i)] := by
  unfold rstep; rw [h]
theorem rstep_none {α : Type} [DecidableEq α] {base : List α} {i : Nat} {eq : List α} {out : List (α × Nat)} (h : (opn (base ++ out.map (·.1)) eq).length ≠ 1) : rstep base i eq out = out := by
  unfold rstep
  split
  · rename_i x hx; rw [hx] at h; exact absurd rfl h
  · rfl
theorem rstep_cases {α : Type} [DecidableEq α] (base : List α) (i : Nat) (eq : List α) (out : List (α × Nat)) :
    ((opn (base ++ out.map (·.1)) eq).length ≠ 1 ∧ rstep base i eq out = out) ∨ ∃ x, opn (base ++ out.map (·.1)) eq = [x] ∧ rstep base i eq out = out ++ [(x, i)] := by
  by_cases h : (opn (base ++ out.map (·.1)) eq).length = 1
  · obtain ⟨x, hx⟩ := List.length_eq_one_iff.1 h
    exact .inr ⟨x, hx, rstep_one hx⟩
  · exact .inl ⟨h, rstep_none h⟩
/-- .. the first m equations, one behind the other. -/
def rnd {α : Type} [DecidableEq α] (base : List α) (eqs : List (List α)) : Nat → List (α × Nat) → List (α × Nat)
  | 0, out => out
  | m + 1, out => rstep base m (eqs.getD m []) (rnd base eqs m out)
/-- .. n rounds. -/
def its {α : Type} [DecidableEq α] (base : List α) (eqs : List (List α)) : Nat → List (α × Nat)
  | 0 => []
  | n + 1 => rnd base eqs eqs.length (its base eqs n)
/-- Those that can be told, one by one. -/
def peel {α : Type} [DecidableEq α] (base : List α) (eqs : List (List α)) : List (α × Nat) := its base eqs (eqs.flatten.length + 1)
/-- All that can be told, the known ones first. -/
def clo {α : Type} [DecidableEq α] (base : List α) (eqs : List (List α)) : List α := base ++ (peel base eqs).map (·.1)

theorem getD_flat {α : Type} (eqs : List (List α)) (m : Nat) : ∀ x ∈ eqs.getD m [], x ∈ eqs.flatten := fun x hx => by
  rw [List.getD_eq_getElem?_getD] at hx
  cases h : eqs[m]? with
  | none => rw [h] at hx; simp at hx
  | some eq => rw [h] at hx; exact List.mem_flatten.2 ⟨eq, List.mem_of_getElem? h, hx⟩
theorem nodup_le {α : Type} {l m : List α} (h : l.Nodup) (hs : ∀ x ∈ l, x ∈ m) : l.length ≤ m.length := by
  induction l generalizing m with
  | nil => simp
  | cons x l ih =>
    rw [List.nodup_cons] at h
    have hx := hs x (by simp)
    obtain ⟨A, B, rfl⟩ := List.append_of_mem hx
    have := ih h.2 (m := A ++ B) (fun y hy => by
      have h1 := hs y (by simp [hy])
      rcases List.mem_append.1 h1 with h1 | h1
      · simp [h1]
      · rcases List.mem_cons.1 h1 with rfl | h1
        · exact absurd hy h.1
        · simp [h1])
    simp at this ⊢
    omega
theorem nodup_same {α : Type} {l m : List α} (h : l.Nodup) (k : m.Nodup) (hs : ∀ x, x ∈ l ↔ x ∈ m) : l.length = m.length :=
  Nat.le_antisymm (nodup_le h fun x hx => (hs x).1 hx) (nodup_le k fun x hx => (hs x).2 hx)
theorem pre_eq {β : Type} {a b : List β} (h : a <+: b) (hl : b.length ≤ a.length) : a = b := h.eq_of_length (Nat.le_antisymm h.length_le hl)

/-- What is told is new, and stands in an equation. -/
def Told {α : Type} (base : List α) (eqs : List (List α)) (out : List (α × Nat)) : Prop := (out.map (·.1)).Nodup ∧ ∀ x ∈ out.map (·.1), x ∉ base ∧ x ∈ eqs.flatten
theorem told_len {α : Type} {base : List α} {eqs : List (List α)} {out : List (α × Nat)} (h : Told base eqs out) : out.length ≤ eqs.flatten.length := by
  have := nodup_le h.1 (fun x hx => (h.2 x hx).2)
  simpa using this

section
variable {α : Type} [DecidableEq α] {base : List α} {eqs : List (List α)}

theorem rstep_pre (i : Nat) (eq : List α) (out : List (α × Nat)) : out <+: rstep base i eq out := by
  rcases rstep_cases base i eq out with ⟨_, h⟩ | ⟨x, _, h⟩ <;> rw [h]
  · exact List.prefix_refl _
  · exact List.prefix_append _ _
theorem rnd_pre {m n : Nat} (h : m ≤ n) (out : List (α × Nat)) : rnd base eqs m out <+: rnd base eqs n out := by
  induction n with
  | zero => obtain rfl : m = 0 := by omega
            exact List.prefix_refl _
  | succ n ih =>
    by_cases hm : m = n + 1
    · subst hm; exact List.prefix_refl _
    · exact (ih (by omega)).trans (rstep_pre _ _ _)
theorem its_step (n : Nat) : its base eqs n <+: its base eqs (n + 1) := rnd_pre (m := 0) (Nat.zero_le _) _
theorem its_pre {m n : Nat} (h : m ≤ n) : its base eqs m <+: its base eqs n := by
  induction n with
  | zero => obtain rfl : m = 0 := by omega
            exact List.prefix_refl _
  | succ n ih =>
    by_cases hm : m = n + 1
    · subst hm; exact List.prefix_refl _
    · exact (ih (by omega)).trans (its_step n)
theorem told_step {i : Nat} {eq : List α} {out : List (α × Nat)} (h : Told base eqs out) (he : ∀ x ∈ eq, x ∈ eqs.flatten) : Told base eqs (rstep base i eq out) := by
  rcases rstep_cases base i eq out with ⟨_, e⟩ | ⟨x, hx, e⟩ <;> rw [e]
  · exact h
  · have hm : x ∈ eq ∧ x ∉ base ++ out.map (·.1) := opn_mem.1 (by rw [hx]; simp)
    obtain ⟨h1, h2⟩ := hm
    have h3 : x ∉ base ∧ x ∉ out.map (·.1) := ⟨fun hb => h2 (by simp [hb]), fun hb => h2 (List.mem_append.2 (.inr hb))⟩
    refine ⟨?_, fun y hy => ?_⟩
    · rw [List.map_append, List.nodup_append]
      exact ⟨h.1, by simp, fun a ha b hb e2 => h3.2 (by simp at hb; subst hb; subst e2; exact ha)⟩
    · rw [List.map_append] at hy
      rcases List.mem_append.1 hy with hy | hy
      · exact h.2 y hy
      · simp at hy
        subst hy
        exact ⟨h3.1, he _ h1⟩
theorem told_rnd (m : Nat) {out : List (α × Nat)} (h : Told base eqs out) : Told base eqs (rnd base eqs m out) := by
  induction m with
  | zero => exact h
  | succ m ih => exact told_step ih (getD_flat eqs m)
theorem told_its (n : Nat) : Told base eqs (its base eqs n) := by
  induction n with
  | zero => exact ⟨by simp [its], by simp [its]⟩
  | succ n ih => exact told_rnd _ ih
theorem its_stay {n : Nat} (h : its base eqs (n + 1) = its base eqs n) {m : Nat} (hm : n ≤ m) : its base eqs m = its base eqs n := by
  induction m with
  | zero => obtain rfl : n = 0 := by omega
            rfl
  | succ m ih =>
    by_cases hn : n = m + 1
    · subst hn; rfl
    · have e := ih (by omega)
      show rnd base eqs eqs.length (its base eqs m) = _
      rw [e]
      exact h
theorem its_grow {n : Nat} (h : ∀ m, m < n → its base eqs (m + 1) ≠ its base eqs m) : n ≤ (its base eqs n).length := by
  induction n with
  | zero => exact Nat.zero_le _
  | succ n ih =>
    have h1 := ih (fun m hm => h m (by omega))
    have h2 := (its_step (base := base) (eqs := eqs) n).length_le
    have h3 : (its base eqs n).length ≠ (its base eqs (n + 1)).length := fun e => h n (by omega) (pre_eq (its_step n) (by omega)).symm
    omega
theorem its_fix : ∃ n, n ≤ eqs.flatten.length ∧ its base eqs (n + 1) = its base eqs n := by
  by_cases h : ∃ n, n ≤ eqs.flatten.length ∧ its base eqs (n + 1) = its base eqs n
  · exact h
  · have h1 := its_grow (base := base) (eqs := eqs) (n := eqs.flatten.length + 1) (fun m hm e => h ⟨m, by omega, e⟩)
    have h2 := told_len (told_its (base := base) (eqs := eqs) (eqs.flatten.length + 1))
    omega
theorem peel_fix : rnd base eqs eqs.length (peel base eqs) = peel base eqs := by
  obtain ⟨n, hn, h⟩ := its_fix (base := base) (eqs := eqs)
  have e1 : peel base eqs = its base eqs n := its_stay h (by omega)
  rw [e1]
  exact h
theorem peel_of_fix {n : Nat} (h : its base eqs (n + 1) = its base eqs n) : its base eqs n = peel base eqs := by
  obtain ⟨k, hk, h2⟩ := its_fix (base := base) (eqs := eqs)
  have e1 : peel base eqs = its base eqs k := its_stay h2 (by omega)
  rw [e1]
  rcases Nat.le_total n k with h3 | h3
  · exact (its_stay h h3).symm
  · exact its_stay h2 h3
theorem its_peel (n : Nat) : its base eqs n <+: peel base eqs := by
  obtain ⟨k, hk, h2⟩ := its_fix (base := base) (eqs := eqs)
  have e1 : peel base eqs = its base eqs k := its_stay h2 (by omega)
  rcases Nat.le_total n k with h3 | h3
  · rw [e1]; exact its_pre h3
  · rw [its_stay h2 h3, e1]; exact List.prefix_refl _
theorem rnd_peel (n : Nat) {m : Nat} (hm : m ≤ eqs.length) : rnd base eqs m (its base eqs n) <+: peel base eqs := (rnd_pre hm _).trans (its_peel (n + 1))
theorem peel_told : Told base eqs (peel base eqs) := told_its _
theorem peel_len : (peel base eqs).length ≤ eqs.flatten.length := told_len peel_told

theorem rnd_fix {out : List (α × Nat)} (h : rnd base eqs eqs.length out = out) {m : Nat} (hm : m ≤ eqs.length) : rnd base eqs m out = out := by
  have h1 := rnd_pre (base := base) (eqs := eqs) (m := 0) (n := m) (Nat.zero_le _) out
  have h2 := rnd_pre (base := base) (eqs := eqs) hm out
  rw [h] at h2
  exact (pre_eq h1 h2.length_le).symm
/-- Behind all rounds no equation has just one thing open. -/
theorem clo_closed {eq : List α} (he : eq ∈ eqs) : (opn (clo base eqs) eq).length ≠ 1 := by
  obtain ⟨m, hm, hme⟩ := List.mem_iff_getElem.1 he
  have h1 := rnd_fix (peel_fix (base := base) (eqs := eqs)) (m := m) (by omega)
  have h2 := rnd_fix (peel_fix (base := base) (eqs := eqs)) (m := m + 1) (by omega)
  have h3 : rstep base m (eqs.getD m []) (rnd base eqs m (peel base eqs)) = peel base eqs := h2
  rw [h1] at h3
  have h4 : eqs.getD m [] = eq := by rw [List.getD_eq_getElem?_getD, List.getElem?_eq_getElem hm, hme]; rfl
  rw [h4] at h3
  rcases rstep_cases base m eq (peel base eqs) with ⟨h5, _⟩ | ⟨x, _, h5⟩
  · exact h5
  · rw [h5] at h3
    have := congrArg List.length h3
    simp at this
/-- Closed: of no equation just one thing is missing. -/
def Closed (eqs : List (List α)) (S : α → Prop) : Prop := ∀ eq ∈ eqs, ∀ x ∈ eq, (∀ y ∈ eq, y ≠ x → S y) → S x
theorem clo_is_closed : Closed eqs (· ∈ clo base eqs) := fun eq he x hx hy => by
  by_cases h : x ∈ clo base eqs
  · exact h
  · exfalso
    apply clo_closed (base := base) he
    have hn := opn_nodup (clo base eqs) eq
    have hall : ∀ y ∈ opn (clo base eqs) eq, y = x := fun y hy2 => by
      obtain ⟨h1, h2⟩ := opn_mem.1 hy2
      by_cases e : y = x
      · exact e
      · exact absurd (hy y h1 e) h2
    have hxm : x ∈ opn (clo base eqs) eq := opn_mem.2 ⟨hx, h⟩
    have h1 := nodup_le (m := [x]) hn (fun y hy2 => by simp [hall y hy2])
    have h2 := List.length_pos_of_mem hxm
    simp at h1
    omega
theorem rnd_least {S : α → Prop} (hS : Closed eqs S) (hb : ∀ x ∈ base, S x) (m : Nat) {out : List (α × Nat)} (h : ∀ x ∈ out.map (·.1), S x) : ∀ x ∈ (rnd base eqs m out).map (·.1), S x := by
  induction m with
  | zero => exact h
  | succ m ih =>
    show ∀ x ∈ (rstep base m (eqs.getD m []) (rnd base eqs m out)).map (·.1), S x
    rcases rstep_cases base m (eqs.getD m []) (rnd base eqs m out) with ⟨_, e⟩ | ⟨x, hx, e⟩ <;> rw [e]
    · exact ih
    · intro y hy
      rw [List.map_append] at hy
      rcases List.mem_append.1 hy with hy | hy
      · exact ih y hy
      · simp at hy
        subst hy
        have hm := opn_mem.1 (show y ∈ opn (base ++ (rnd base eqs m out).map (·.1)) (eqs.getD m []) by rw [hx]; simp)
        have hme : eqs.getD m [] ∈ eqs := by
          by_cases hml : m < eqs.length
          · rw [List.getD_eq_getElem?_getD, List.getElem?_eq_getElem hml]; exact List.getElem_mem hml
          · rw [List.getD_eq_getElem?_getD, List.getElem?_eq_none (by omega)] at hm
            simp at hm
        refine hS _ hme y hm.1 fun z hz hne => ?_
        by_cases hk : z ∈ base ++ (rnd base eqs m out).map (·.1)
        · rcases List.mem_append.1 hk with hk | hk
          · exact hb z hk
          · exact ih z hk
        · have : z ∈ opn (base ++ (rnd base eqs m out).map (·.1)) (eqs.getD m []) := opn_mem.2 ⟨hz, hk⟩
          rw [hx] at this
          simp at this
          exact absurd this hne
theorem clo_least {S : α → Prop} (hS : Closed eqs S) (hb : ∀ x ∈ base, S x) : ∀ x ∈ clo base eqs, S x := by
  have h : ∀ n, ∀ x ∈ (its base eqs n).map (·.1), S x := fun n => by
    induction n with
    | zero => simp [its]
    | succ n ih => exact rnd_least hS hb _ ih
  intro x hx
  rcases List.mem_append.1 hx with hx | hx
  · exact hb x hx
  · exact h _ x hx
theorem clo_mono {base' : List α} {eqs' : List (List α)} (hb : ∀ x ∈ base, x ∈ base') (he : ∀ eq ∈ eqs, eq ∈ eqs') : ∀ x ∈ clo base eqs, x ∈ clo base' eqs' :=
  clo_least (fun eq h => clo_is_closed eq (he eq h)) (fun x hx => List.mem_append.2 (.inl (hb x hx)))
theorem clo_same {base' : List α} {eqs' : List (List α)} (hb : ∀ x, x ∈ base ↔ x ∈ base') (he : ∀ eq, eq ∈ eqs ↔ eq ∈ eqs') (x : α) : x ∈ clo base eqs ↔ x ∈ clo base' eqs' :=
  ⟨clo_mono (fun y hy => (hb y).1 hy) (fun eq h => (he eq).1 h) x, clo_mono (fun y hy => (hb y).2 hy) (fun eq h => (he eq).2 h) x⟩
end

end Go.Proofs.Ytdcpimnjdggabaa
