/-
  A CHAIN OF EQUATIONS IN PLAIN LEAN: what one that is known tells; and two more words on the call's own memory. No program is named here.
-/
import Derived.Test.YtdcpimnjdggabaaEqP
import Derived.Test.YtdcpimnjdggabaaMany
import Derived.Laws.OwnMore
set_option linter.unusedVariables false
set_option linter.unusedSimpArgs false
namespace Go.Proofs.Ytdcpimnjdggabaa
open Go.RowKit

/-- Each of two that follow one another, those alone for which p holds. -/
def Chn (N : Nat) (p : Nat → Prop) (E : List (List Int)) : Prop := ∀ e, e ∈ E ↔ ∃ i : Nat, i + 1 < N ∧ p i ∧ e = [(i : Int), (i : Int) + 1]
theorem Chn.closed_up {N : Nat} {p : Nat → Prop} {E : List (List Int)} (h : Chn N p E) {B : List Int} {i : Nat} (hi : i + 1 < N) (hp : p i) : (i : Int) ∈ clo B E ↔ ((i + 1 : Nat) : Int) ∈ clo B E := by
  have hm := (h [(i : Int), (i : Int) + 1]).2 ⟨i, hi, hp, rfl⟩
  have hc := clo_is_closed (base := B) _ hm
  rw [show ((i + 1 : Nat) : Int) = (i : Int) + 1 from by omega]
  constructor
  · intro hx
    refine hc _ (by simp) fun y hy hne => ?_
    simp at hy
    rcases hy with rfl | rfl
    · exact hx
    · exact absurd rfl hne
  · intro hx
    refine hc _ (by simp) fun y hy hne => ?_
    simp at hy
    rcases hy with rfl | rfl
    · exact absurd rfl hne
    · exact hx
theorem Chn.up {N : Nat} {p : Nat → Prop} {E : List (List Int)} (h : Chn N p E) {B : List Int} {i : Nat} (d : Nat) (hd : i + d < N) (hp : ∀ j, i ≤ j → j < i + d → p j) : (i : Int) ∈ clo B E ↔ ((i + d : Nat) : Int) ∈ clo B E := by
  induction d with
  | zero => exact Iff.rfl
  | succ d ih =>
    rw [ih (by omega) (fun j h1 h2 => hp j h1 (by omega))]
    exact h.closed_up (by omega) (hp _ (by omega) (by omega))
/-- The whole chain, or one equation less: what is told lies on the same side. -/
theorem Chn.told {N : Nat} {g : Nat} {E : List (List Int)} (h : Chn N (· ≠ g) E) {f : Nat} (hf : f < N) (x : Int) : x ∈ clo [(f : Int)] E ↔ ∃ k : Nat, k < N ∧ x = (k : Int) ∧ (k ≤ g ↔ f ≤ g) := by
  have hf0 : (f : Int) ∈ clo [(f : Int)] E := List.mem_append.2 (.inl (by simp))
  constructor
  · refine clo_least (S := fun x => ∃ k : Nat, k < N ∧ x = (k : Int) ∧ (k ≤ g ↔ f ≤ g)) ?_ ?_ x
    · intro e he y hy hall
      obtain ⟨i, hi, hp, rfl⟩ := (h e).1 he
      simp at hy
      rcases hy with rfl | rfl
      · obtain ⟨k, hk, hke, hks⟩ := hall ((i : Int) + 1) (by simp) (by omega)
        exact ⟨i, by omega, rfl, by omega⟩
      · obtain ⟨k, hk, hke, hks⟩ := hall (i : Int) (by simp) (by omega)
        exact ⟨i + 1, by omega, by omega, by omega⟩
    · intro y hy
      simp at hy
      subst hy
      exact ⟨f, hf, rfl, Iff.rfl⟩
  · rintro ⟨k, hk, rfl, hs⟩
    rcases Nat.le_total f k with h1 | h1
    · have := (h.up (B := [(f : Int)]) (i := f) (k - f) (by omega) (fun j h2 h3 => by omega)).1 hf0
      rwa [show f + (k - f) = k from by omega] at this
    · have := (h.up (B := [(f : Int)]) (i := k) (f - k) (by omega) (fun j h2 h3 => by omega)).2 (by rw [show k + (f - k) = f from by omega]; exact hf0)
      exact this
theorem Chn.all {N : Nat} {E : List (List Int)} (h : Chn N (fun _ => True) E) {f : Nat} (hf : f < N) (x : Int) : x ∈ clo [(f : Int)] E ↔ ∃ k : Nat, k < N ∧ x = (k : Int) := by
  have h2 : Chn N (· ≠ N) E := fun e => (h e).trans ⟨fun ⟨i, a, _, c⟩ => ⟨i, a, by omega, c⟩, fun ⟨i, a, _, c⟩ => ⟨i, a, trivial, c⟩⟩
  rw [h2.told hf]
  exact ⟨fun ⟨k, a, b, _⟩ => ⟨k, a, b⟩, fun ⟨k, a, b⟩ => ⟨k, a, b, by omega⟩⟩
theorem Chn.noth {N : Nat} {p : Nat → Prop} {E : List (List Int)} (h : Chn N p E) : clo [] E = [] := by
  cases hc : clo ([] : List Int) E with
  | nil => rfl
  | cons y t =>
    exfalso
    refine clo_least (base := []) (eqs := E) (S := fun _ => False) ?_ (by simp) y (by rw [hc]; simp)
    intro e he x hx hall
    obtain ⟨i, hi, hp, rfl⟩ := (h e).1 he
    simp at hx
    rcases hx with rfl | rfl
    · exact hall ((i : Int) + 1) (by simp) (by omega)
    · exact hall (i : Int) (by simp) (by omega)

/-- The chain as it is made. -/
def chn (m : Nat) : List (List Int) := (List.range m).map fun i : Nat => [(i : Int), (i : Int) + 1]
theorem chn_succ (m : Nat) : chn (m + 1) = chn m ++ [[(m : Int), (m : Int) + 1]] := by simp [chn, List.range_succ]
theorem chn_is (m : Nat) : Chn (m + 1) (fun _ => True) (chn m) := fun e => by
  unfold chn
  rw [List.mem_map]
  constructor
  · rintro ⟨i, hi, rfl⟩
    exact ⟨i, by simpa using hi, trivial, rfl⟩
  · rintro ⟨i, hi, _, rfl⟩
    exact ⟨i, by simpa using hi, rfl⟩
theorem Chn.same {N : Nat} {p : Nat → Prop} {E E' : List (List Int)} (h : Chn N p E) (hs : ∀ e, e ∈ E' ↔ e ∈ E) : Chn N p E' := fun e => (hs e).trans (h e)
/-- Two places exchanged. -/
def swp2 {α : Type} (l : List α) (i j : Nat) (x y : α) : List α := (l.set i y).set j x
theorem swp2_mem {α : Type} {l : List α} {i j : Nat} {x y : α} (hx : l[i]? = some x) (hy : l[j]? = some y) (q : α) : q ∈ swp2 l i j x y ↔ q ∈ l := by
  unfold swp2
  have hi : i < l.length := (List.getElem?_eq_some_iff.1 hx).1
  have hj : j < l.length := (List.getElem?_eq_some_iff.1 hy).1
  constructor
  · intro h
    rcases List.mem_or_eq_of_mem_set h with h | rfl
    · rcases List.mem_or_eq_of_mem_set h with h | rfl
      · exact h
      · exact List.mem_of_getElem? hy
    · exact List.mem_of_getElem? hx
  · intro h
    obtain ⟨k, hk⟩ := List.mem_iff_getElem?.1 h
    have hkl := (List.getElem?_eq_some_iff.1 hk).1
    by_cases h1 : k = i
    · subst h1
      have : q = x := by rw [hx] at hk; injection hk with hk; exact hk.symm
      subst this
      exact List.mem_iff_getElem?.2 ⟨j, by rw [List.getElem?_set_self (by simpa using hj)]⟩
    · by_cases h2 : k = j
      · subst h2
        have : q = y := by rw [hy] at hk; injection hk with hk; exact hk.symm
        subst this
        by_cases h3 : i = k
        · exact absurd h3.symm h1
        · exact List.mem_iff_getElem?.2 ⟨i, by rw [List.getElem?_set_ne (fun e => h3 e.symm), List.getElem?_set_self hi]⟩
      · exact List.mem_iff_getElem?.2 ⟨k, by rw [List.getElem?_set_ne (fun e => h2 e.symm), List.getElem?_set_ne (fun e => h1 e.symm)]; exact hk⟩
theorem swp2_len {α : Type} (l : List α) (i j : Nat) (x y : α) : (swp2 l i j x y).length = l.length := by simp [swp2]
/-- Rows of two: their lengths together. -/
theorem two_sum {E : List (List Int)} (h : ∀ e ∈ E, e.length = 2) : E.flatten.length = 2 * E.length := by
  induction E with
  | nil => rfl
  | cons e r ih =>
    have h1 := h e (by simp)
    have h2 := ih fun x hx => h x (by simp [hx])
    simp at h2 ⊢
    omega
/-- Lists of the numbers below N. -/
theorem many_below {l : List Int} (hn : l.Nodup) {N : Nat} (h : ∀ x, x ∈ l ↔ ∃ k : Nat, k < N ∧ x = (k : Int)) : l.length = N := by
  have h1 : ((List.range N).map fun k : Nat => (k : Int)).Nodup := by
    rw [List.nodup_iff_pairwise_ne, List.pairwise_map]
    exact List.nodup_range.imp fun h e => h (by omega)
  have h2 := nodup_same hn h1 fun x => by
    rw [h x, List.mem_map]
    exact ⟨fun ⟨k, a, b⟩ => ⟨k, by simpa using a, b.symm⟩, fun ⟨k, a, b⟩ => ⟨k, by simpa using a, b.symm⟩⟩
  simpa using h2

/-- A slice made with its contents. -/
theorem sep_lit {S : List Nat} {w0 w : World} {L : List Res} (h : Sep S w0 w L) (cs : Array Value) (e : TypeId) (n : Nat) (hm : n ≤ maxLen) (hs : cs.size = n) : Sep S w0 (w.alloc (.cells cs e)) (ownR e 1 (.slice (some ⟨w.heap.size, 0, none⟩) n n) n cs.toList :: L) :=
  h.add ((Frm.refl _ _).alloc _) (World.ownsRow_lit w cs n (Nat.zero_le _) hm (by rw [hs]; simp)) (by simp [ownR, Value.ownBlock])
/-- A store into a slice of the call's own. -/
theorem sep_store {S : List Nat} {w0 w : World} {L : List Res} (h : Sep S w0 w L) (i : Nat) {e : TypeId} {size g n cap : Nat} {xs : List Value} (hi : L[i]? = some (ownR e size (.slice (some ⟨g, 0, none⟩) n cap) n xs)) (j : Nat) (u : Value) :
    Sep S w0 (w.setCell ⟨g, j, none⟩ u) (L.set i (ownR e size (.slice (some ⟨g, 0, none⟩) n cap) n (xs.set j u))) :=
  h.write i hi (F := [g]) ((Frm.refl _ _).put (.inl (by simp)) j none u) (by simp [ownR, Value.ownBlock]) (r' := ownR e size (.slice (some ⟨g, 0, none⟩) n cap) n (xs.set j u)) ((h.own i hi).stored j u).1 (fun k hk => .inl hk)

end Go.Proofs.Ytdcpimnjdggabaa
