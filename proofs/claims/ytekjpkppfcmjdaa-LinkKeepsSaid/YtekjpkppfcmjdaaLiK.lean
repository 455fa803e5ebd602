/-
  PLAIN: what waits and what comes out behind n datagrams; THE WALK of link.Apply.
-/
import Derived.Test.YtekjpkppfcmjdaaLiJ
set_option linter.unusedVariables false
set_option linter.unusedSimpArgs false
namespace Go.Proofs.Ytekjpkppfcmjdaa
open Go.RowKit

section
variable {α β : Type}
def qAt (ch : List Int) (xs : List α) : Nat → List (α × Nat)
  | 0 => []
  | n + 1 => match xs[n]? with
    | some x => putQ (wy ch n) x (qAt ch xs n)
    | none => qAt ch xs n
def oAt (ch : List Int) (xs : List α) (n : Nat) : List α := match xs[n]? with
  | some x => putO (wy ch n) x (qAt ch xs n)
  | none => []
def allO (ch : List Int) (xs : List α) : Nat → List α
  | 0 => []
  | n + 1 => allO ch xs n ++ oAt ch xs n
def goneN (ch : List Int) : Nat → Nat
  | 0 => 0
  | n + 1 => goneN ch n + if wy ch n = 3 then 1 else 0
theorem qAt_succ {ch : List Int} {xs : List α} {n : Nat} {x : α} (h : xs[n]? = some x) : qAt ch xs (n + 1) = putQ (wy ch n) x (qAt ch xs n) := by rw [qAt, h]
theorem qAt_none {ch : List Int} {xs : List α} {n : Nat} (h : xs[n]? = none) : qAt ch xs (n + 1) = qAt ch xs n := by rw [qAt, h]
theorem oAt_none {ch : List Int} {xs : List α} {n : Nat} (h : xs[n]? = none) : oAt ch xs n = [] := by rw [oAt, h]
theorem oAt_at {ch : List Int} {xs : List α} {n : Nat} {x : α} (h : xs[n]? = some x) : oAt ch xs n = putO (wy ch n) x (qAt ch xs n) := by rw [oAt, h]
theorem restP_mem {q : List (α × Nat)} {p : α × Nat} (h : p ∈ restP q) : ∃ l, (p.1, l) ∈ q ∧ p.2 = l - 1 ∧ p.2 ≠ 0 := by
  unfold restP at h
  obtain ⟨h1, h2⟩ := List.mem_filter.1 h
  obtain ⟨y, hy, rfl⟩ := List.mem_map.1 h1
  exact ⟨y.2, hy, rfl, by simpa using h2⟩
theorem due_rest_len (q : List (α × Nat)) (hq : ∀ p ∈ q, 1 ≤ p.2) : (dueP q).length + (restP q).length = q.length := by
  induction q with
  | nil => rfl
  | cons p q ih =>
    have h1 := hq p (by simp)
    have ih' := ih (fun p hp => hq p (by simp [hp]))
    unfold dueP restP at ih' ⊢
    by_cases hp : p.2 = 1
    · have e : ¬ (p.2 - 1 ≠ 0) := by omega
      simp [hp] at ih' ⊢
      omega
    · have e : p.2 - 1 ≠ 0 := by omega
      simp [hp, e] at ih' ⊢
      omega
/-- What is so of what waits. -/
structure QOk (xs : List α) (n : Nat) (q : List (α × Nat)) : Prop where
  l : ∀ p ∈ q, 1 ≤ p.2 ∧ p.2 ≤ 3 ∧ p.1 ∈ xs
  n : q.length ≤ n
theorem qAt_ok (ch : List Int) (xs : List α) : ∀ n, QOk xs n (qAt ch xs n)
  | 0 => ⟨fun p hp => absurd hp (by simp [qAt]), Nat.zero_le _⟩
  | n + 1 => by
    have ih := qAt_ok ch xs n
    have hrl : (restP (qAt ch xs n)).length ≤ n := by
      have := due_rest_len (qAt ch xs n) (fun p hp => (ih.l p hp).1)
      have := ih.n
      omega
    have hrm : ∀ p ∈ restP (qAt ch xs n), 1 ≤ p.2 ∧ p.2 ≤ 3 ∧ p.1 ∈ xs := fun p hp => by
      obtain ⟨l, h1, h2, h3⟩ := restP_mem hp
      have := ih.l _ h1
      exact ⟨by omega, by simp only at this; omega, this.2.2⟩
    cases hx : xs[n]? with
    | none => rw [qAt_none hx]; exact ⟨ih.l, by have := ih.n; omega⟩
    | some x =>
      rw [qAt_succ hx]
      unfold putQ
      split
      · refine ⟨fun p hp => ?_, by rw [List.length_append]; simp; omega⟩
        rcases List.mem_append.1 hp with hp | hp
        · exact hrm p hp
        · simp at hp
          subst hp
          have := wy_lt ch n
          exact ⟨by simp only; omega, by simp only; omega, List.mem_of_getElem? hx⟩
      · exact ⟨hrm, by omega⟩
theorem all_len (ch : List Int) (xs : List α) : ∀ n, (allO ch xs n).length + (qAt ch xs n).length ≤ 2 * n
  | 0 => Nat.le_refl _
  | n + 1 => by
    have ih := all_len ch xs n
    have hd := due_rest_len (qAt ch xs n) (fun p hp => ((qAt_ok ch xs n).l p hp).1)
    rw [allO, List.length_append]
    cases hx : xs[n]? with
    | none => rw [qAt_none hx, oAt_none hx]; simp; omega
    | some x =>
      rw [qAt_succ hx, oAt_at hx]
      unfold putQ putO
      split <;> split <;> (try split) <;> simp <;> omega
theorem all_mem (ch : List Int) (xs : List α) : ∀ n, ∀ y ∈ allO ch xs n, y ∈ xs
  | 0 => fun y hy => by cases hy
  | n + 1 => fun y hy => by
    rw [allO] at hy
    rcases List.mem_append.1 hy with hy | hy
    · exact all_mem ch xs n y hy
    · cases hx : xs[n]? with
      | none => rw [oAt_none hx] at hy; cases hy
      | some x =>
        rw [oAt_at hx] at hy
        have hxm := List.mem_of_getElem? hx
        have hd : ∀ y ∈ dueP (qAt ch xs n), y ∈ xs := fun y hy => by
          unfold dueP at hy
          obtain ⟨p, hp, rfl⟩ := List.mem_map.1 hy
          exact ((qAt_ok ch xs n).l p (List.mem_filter.1 hp).1).2.2
        unfold putO at hy
        split at hy
        · exact hd y hy
        split at hy
        · simp at hy; rcases hy with rfl | hy; exact hxm; exact hd y hy
        split at hy
        · exact hd y hy
        · simp at hy; rcases hy with rfl | hy; exact hxm; exact hd y hy
end

end Go.Proofs.Ytekjpkppfcmjdaa
