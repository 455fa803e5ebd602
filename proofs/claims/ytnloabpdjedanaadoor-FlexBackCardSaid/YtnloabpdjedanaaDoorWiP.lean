/-
  READING STEP BY STEP, IN PLAIN LEAN: numbers of bytes, what a row of steps reads of bytes. No program is named here.
-/
import Derived.Test.YtnloabpdjedanaaDoorStP
set_option linter.unusedVariables false
set_option linter.unusedSimpArgs false
namespace Go.Proofs.YtnloabpdjedanaaDoor
open Go.RowKit

/-- The number of bytes, the first one the highest. -/
def bigN (zs : List Int) : Int := zs.foldl (fun a z => a * 256 + z) 0
theorem bigN_snoc (zs : List Int) (z : Int) : bigN (zs ++ [z]) = bigN zs * 256 + z := by simp [bigN]
theorem bigN_nil : bigN [] = 0 := rfl
theorem wsnoc_ind {α : Type} {p : List α → Prop} (h0 : p []) (h1 : ∀ l x, p l → p (l ++ [x])) (l : List α) : p l := by
  rw [← List.reverse_reverse l]
  induction l.reverse with
  | nil => exact h0
  | cons x r ih => rw [List.reverse_cons]; exact h1 _ _ ih
theorem bigN_lt {zs : List Int} (h : Byt zs) : 0 ≤ bigN zs ∧ bigN zs < 256 ^ zs.length := by
  revert h
  refine wsnoc_ind (p := fun zs => Byt zs → 0 ≤ bigN zs ∧ bigN zs < 256 ^ zs.length) (fun _ => by simp [bigN]) ?_ zs
  intro l x ih h
  have h1 := ih fun y hy => h y (by simp [hy])
  have h2 := h x (by simp)
  rw [bigN_snoc, List.length_append, List.length_singleton, Int.pow_succ]
  omega

/-- A step: its kind, its number. -/
structure Stp where
  k : Int
  n : Int
/-- What a step reads: a number, bytes. -/
structure Gt where
  N : Int
  B : List Int
def numK (k : Int) : Bool := decide (k = 1 ∨ k = 2 ∨ k = 4 ∨ k = 8)
/-- The bytes from a place on, so many. -/
def cut (zs : List Int) (at_ m : Nat) : List Int := (zs.drop at_).take m
theorem cut_len {zs : List Int} {at_ m : Nat} (h : at_ + m ≤ zs.length) : (cut zs at_ m).length = m := by simp [cut]; omega
theorem Byt.cut {zs : List Int} (h : Byt zs) (i m : Nat) : Byt (cut zs i m) := (h.drop i).take m
/-- What one step reads, and the place behind it; or the error. -/
def oneL (zs : List Int) (at_ : Nat) (s : Stp) : Except Int (Gt × Nat) :=
  if numK s.k = true then (if zs.length < at_ + s.k.toNat then .error 20 else .ok (⟨bigN (cut zs at_ s.k.toNat), []⟩, at_ + s.k.toNat))
  else if s.k = 0 then (if zs.length < at_ + s.n.toNat then .error 20 else .ok (⟨0, cut zs at_ s.n.toNat⟩, at_ + s.n.toNat))
  else if s.k = -1 then .ok (⟨0, zs.drop at_⟩, zs.length)
  else if s.k = -2 then .error (if s.n = 0 then 21 else s.n)
  else .ok (⟨((zs.length - at_ : Nat) : Int), []⟩, at_)
def stpL (zs : List Int) (r : Except Int (List Gt × Nat)) (s : Stp) : Except Int (List Gt × Nat) :=
  match r with
  | .error e => .error e
  | .ok (out, at_) => match oneL zs at_ s with
    | .error e => .error e
    | .ok (g, n) => .ok (out ++ [g], n)
/-- What steps read, one after the other. -/
def runL (zs : List Int) (ss : List Stp) : Except Int (List Gt × Nat) := ss.foldl (stpL zs) (.ok ([], 0))
theorem runL_snoc (zs : List Int) (ss : List Stp) (s : Stp) : runL zs (ss ++ [s]) = stpL zs (runL zs ss) s := by simp [runL]
theorem runL_take (zs : List Int) (ss : List Stp) (n : Nat) (h : n < ss.length) : runL zs (ss.take (n + 1)) = stpL zs (runL zs (ss.take n)) ss[n] := by
  rw [← runL_snoc, List.take_add_one, List.getElem?_eq_getElem h]; rfl
theorem foldl_error (zs : List Int) (ss : List Stp) (e : Int) : ss.foldl (stpL zs) (.error e) = .error e := by
  induction ss with
  | nil => rfl
  | cons s ss ih => exact ih
theorem runL_error {zs : List Int} {ss : List Stp} {n : Nat} {e : Int} (h : runL zs (ss.take n) = .error e) : runL zs ss = .error e := by
  have h1 : runL zs ss = (ss.drop n).foldl (stpL zs) (runL zs (ss.take n)) := by
    unfold runL
    rw [← List.foldl_append, List.take_append_drop]
  rw [h1, h, foldl_error]
theorem oneL_le {zs : List Int} {at_ : Nat} {s : Stp} {g : Gt} {n : Nat} (h : oneL zs at_ s = .ok (g, n)) (ha : at_ ≤ zs.length) : at_ ≤ n ∧ n ≤ zs.length := by
  unfold oneL at h
  split at h
  · split at h
    · cases h
    · injection h with h; injection h with h1 h2; omega
  · split at h
    · split at h
      · cases h
      · injection h with h; injection h with h1 h2; omega
    · split at h
      · injection h with h; injection h with h1 h2; omega
      · split at h
        · cases h
        · injection h with h; injection h with h1 h2; omega
theorem runL_le {zs : List Int} (ss : List Stp) : ∀ {out : List Gt} {n : Nat}, runL zs ss = .ok (out, n) → n ≤ zs.length ∧ out.length = ss.length := by
  refine wsnoc_ind (p := fun ss => ∀ {out : List Gt} {n : Nat}, runL zs ss = .ok (out, n) → n ≤ zs.length ∧ out.length = ss.length) ?_ ?_ ss
  · intro out n h
    unfold runL at h
    injection h with h; injection h with h1 h2
    subst h1 h2
    simp
  · intro l s ih out n h
    rw [runL_snoc] at h
    unfold stpL at h
    split at h
    · cases h
    · rename_i o a hr
      obtain ⟨h1, h2⟩ := ih hr
      split at h
      · cases h
      · rename_i g m hg
        injection h with h; injection h with h3 h4
        subst h3 h4
        exact ⟨(oneL_le hg h1).2, by simp [h2]⟩
/-- All bytes. -/
def wholeL (zs : List Int) (ss : List Stp) : Except Int (List Gt) :=
  match runL zs ss with
  | .error e => .error e
  | .ok (out, n) => if n < zs.length then .error 22 else .ok out

end Go.Proofs.YtnloabpdjedanaaDoor
