/-
  THE PLAIN LAW of sorting in place: rows of numbers, two of them exchanged; sorted from a place to a place. No program in sight.
-/
import Derived.Test.YtibccecmicndaaaDoorK
set_option linter.unusedVariables false
set_option linter.unusedSimpArgs false
namespace Go.Proofs.YtibccecmicndaaaDoor

/-- Two places exchanged. -/
def swp (l : List Int) (i j : Nat) : List Int := (l.set i (l.getD j 0)).set j (l.getD i 0)
theorem swp_length (l : List Int) (i j : Nat) : (swp l i j).length = l.length := by simp [swp]
theorem swp_get (l : List Int) (i j k : Nat) (hi : i < l.length) (hj : j < l.length) : (swp l i j).getD k 0 = if k = j then l.getD i 0 else if k = i then l.getD j 0 else l.getD k 0 := by
  unfold swp
  simp only [List.getD_eq_getElem?_getD, List.getElem?_set]
  by_cases h1 : j = k
  · subst h1; simp [hj]
  · have h1' : ¬ k = j := fun e => h1 e.symm
    by_cases h2 : i = k
    · subst h2; simp [h1, h1', hi]
    · have h2' : ¬ k = i := fun e => h2 e.symm
      simp [h1, h1', h2, h2']
theorem swp_perm (l : List Int) (i j : Nat) (hi : i < l.length) (hj : j < l.length) : (swp l i j).Perm l := by
  have h := Array.swap_perm (xs := l.toArray) (i := i) (j := j) (by simpa using hi) (by simpa using hj)
  have h2 : (l.toArray.swap i j (by simpa using hi) (by simpa using hj)).toList = swp l i j := by
    simp [Array.swap, swp, hi, hj]
  have h3 := Array.perm_iff_toList_perm.1 h
  rw [h2] at h3
  exact h3

/-- Sorted by the key from a place to a place. -/
def SoOn (key : Int → Int) (l : List Int) (a b : Nat) : Prop := ∀ i j, a ≤ i → i < j → j < b → key (l.getD i 0) ≤ key (l.getD j 0)
/-- The same numbers, turned between a and b alone. -/
structure Turned (l l' : List Int) (a b : Nat) : Prop where
  len : l'.length = l.length
  perm : l'.Perm l
  out : ∀ k, k < a ∨ b ≤ k → l'.getD k 0 = l.getD k 0
  sub : ∀ k, a ≤ k → k < b → ∃ j, a ≤ j ∧ j < b ∧ l'.getD k 0 = l.getD j 0
theorem Turned.refl (l : List Int) (a b : Nat) : Turned l l a b := ⟨rfl, List.Perm.refl _, fun _ _ => rfl, fun k h1 h2 => ⟨k, h1, h2, rfl⟩⟩
theorem Turned.trans {l m n : List Int} {a b : Nat} (h : Turned l m a b) (k : Turned m n a b) : Turned l n a b := ⟨k.len.trans h.len, k.perm.trans h.perm, fun i hi => (k.out i hi).trans (h.out i hi), fun i h1 h2 => by
  obtain ⟨j, j1, j2, e⟩ := k.sub i h1 h2
  obtain ⟨p, p1, p2, e2⟩ := h.sub j j1 j2
  exact ⟨p, p1, p2, e.trans e2⟩⟩
theorem Turned.wide {l m : List Int} {a b c d : Nat} (h : Turned l m c d) (h1 : a ≤ c) (h2 : d ≤ b) : Turned l m a b :=
  ⟨h.len, h.perm, fun k hk => h.out k (by omega), fun k k1 k2 => by
    by_cases hk : c ≤ k ∧ k < d
    · obtain ⟨j, j1, j2, e⟩ := h.sub k hk.1 hk.2
      exact ⟨j, by omega, by omega, e⟩
    · exact ⟨k, k1, k2, h.out k (by omega)⟩⟩
theorem Turned.swp {l m : List Int} {a b i j : Nat} (h : Turned l m a b) (hb : b ≤ l.length) (hi : a ≤ i) (hi2 : i < b) (hj : a ≤ j) (hj2 : j < b) : Turned l (swp m i j) a b :=
  ⟨(swp_length m i j).trans h.len, (swp_perm m i j (by rw [h.len]; omega) (by rw [h.len]; omega)).trans h.perm, fun k hk => by
    rw [swp_get m i j k (by rw [h.len]; omega) (by rw [h.len]; omega), if_neg (by omega), if_neg (by omega)]
    exact h.out k hk, fun k k1 k2 => by
    rw [swp_get m i j k (by rw [h.len]; omega) (by rw [h.len]; omega)]
    split
    · exact h.sub i hi hi2
    · split
      · exact h.sub j hj hj2
      · exact h.sub k k1 k2⟩
theorem SoOn.one (key : Int → Int) (l : List Int) (a : Nat) : SoOn key l a (a + 1) := fun i j h1 h2 h3 => by omega
/-- Within an insertion: the place j bears the one that goes down. -/
structure Mid (key : Int → Int) (l : List Int) (a i j : Nat) : Prop where
  lo : SoOn key l a j
  hi : SoOn key l j (i + 1)
  x : ∀ p q, a ≤ p → p < j → j < q → q < i + 1 → key (l.getD p 0) ≤ key (l.getD q 0)
theorem Mid.start {key : Int → Int} {l : List Int} {a i : Nat} (h : SoOn key l a i) : Mid key l a i i := ⟨h, fun p q h1 h2 h3 => by omega, fun p q h1 h2 h3 h4 => by omega⟩
theorem Mid.done {key : Int → Int} {l : List Int} {a i j : Nat} (h : Mid key l a i j) (hs : j ≤ a ∨ (a < j ∧ key (l.getD (j - 1) 0) ≤ key (l.getD j 0))) : SoOn key l a (i + 1) := by
  intro p q h1 h2 h3
  by_cases hq : q < j
  · exact h.lo p q h1 h2 hq
  · by_cases hp : j ≤ p
    · exact h.hi p q hp h2 h3
    · rcases hs with hs | ⟨hs1, hs2⟩
      · omega
      · by_cases hqj : q = j
        · subst hqj
          by_cases hpj : p = q - 1
          · subst hpj; exact hs2
          · exact Int.le_trans (h.lo p (q - 1) h1 (by omega) (by omega)) hs2
        · exact h.x p q h1 (by omega) (by omega) h3
theorem Mid.step {key : Int → Int} {l : List Int} {a i j : Nat} (h : Mid key l a i j) (hj : a < j) (hi : j ≤ i) (hl : i < l.length) (hk : key (l.getD j 0) < key (l.getD (j - 1) 0)) : Mid key (swp l j (j - 1)) a i (j - 1) := by
  have g : ∀ k, (swp l j (j - 1)).getD k 0 = if k = j - 1 then l.getD j 0 else if k = j then l.getD (j - 1) 0 else l.getD k 0 := fun k => swp_get l j (j - 1) k (by omega) (by omega)
  refine ⟨fun p q h1 h2 h3 => ?_, fun p q h1 h2 h3 => ?_, fun p q h1 h2 h3 h4 => ?_⟩
  · rw [g p, g q, if_neg (by omega), if_neg (by omega), if_neg (by omega), if_neg (by omega)]
    exact h.lo p q h1 h2 (by omega)
  · rw [g p, g q]
    rw [if_neg (show ¬ q = j - 1 by omega)]
    by_cases hp : p = j - 1
    · rw [if_pos hp]
      by_cases hq : q = j
      · rw [if_pos hq]; omega
      · rw [if_neg hq]; exact h.hi j q (Nat.le_refl _) (by omega) h3
    · rw [if_neg hp, if_neg (show ¬ q = j by omega)]
      by_cases hpj : p = j
      · rw [if_pos hpj]; exact h.x (j - 1) q (by omega) (by omega) (by omega) h3
      · rw [if_neg hpj]; exact h.hi p q (by omega) h2 h3
  · rw [g p, g q, if_neg (show ¬ p = j - 1 by omega), if_neg (show ¬ p = j by omega), if_neg (show ¬ q = j - 1 by omega)]
    by_cases hq : q = j
    · rw [if_pos hq]; exact h.lo p (j - 1) h1 (by omega) (by omega)
    · rw [if_neg hq]; exact h.x p q h1 (by omega) (by omega) h4

end Go.Proofs.YtibccecmicndaaaDoor
