/-
  THE PLAIN LAW of merging in place: ranges exchanged, a piece turned round, two sorted pieces merged. No program in sight.
-/
import Derived.Test.YtibccecmicndaaaDoorSrtP
set_option linter.unusedVariables false
set_option linter.unusedSimpArgs false
namespace Go.Proofs.YtibccecmicndaaaDoor

/-- Where the number at k comes from: n places from a on exchanged with those from b on. -/
def swpIx (a b n k : Nat) : Nat := if a ≤ k ∧ k < a + n then k - a + b else if b ≤ k ∧ k < b + n then k - b + a else k
/-- .. the pieces from a to m and from m to b exchanged. -/
def rotIx (a m b k : Nat) : Nat := if a ≤ k ∧ k < a + (b - m) then k + (m - a) else if a + (b - m) ≤ k ∧ k < b then k - (b - m) else k
def By (l l' : List Int) (f : Nat → Nat) : Prop := ∀ k, l'.getD k 0 = l.getD (f k) 0
theorem swpIx_zero (a b k : Nat) : swpIx a b 0 k = k := by unfold swpIx; rw [if_neg (by omega), if_neg (by omega)]
theorem swpIx_step (a b i k : Nat) (h : a + i < b) : swpIx a b (i + 1) k = swpIx a b i (if k = b + i then a + i else if k = a + i then b + i else k) := by
  unfold swpIx
  by_cases h1 : k = b + i
  · rw [if_pos h1]; subst h1
    rw [if_neg (by omega), if_pos (by omega), if_neg (by omega), if_neg (by omega)]; omega
  · rw [if_neg h1]
    by_cases h2 : k = a + i
    · rw [if_pos h2]; subst h2
      rw [if_pos (by omega), if_neg (by omega), if_neg (by omega)]; omega
    · rw [if_neg h2]
      by_cases h3 : a ≤ k ∧ k < a + i
      · rw [if_pos (by omega), if_pos h3]
      · rw [if_neg (by omega), if_neg h3]
        by_cases h4 : b ≤ k ∧ k < b + i
        · rw [if_pos (by omega), if_pos h4]
        · rw [if_neg (by omega), if_neg h4]
theorem By.swp_step {l m : List Int} {a b i : Nat} (h : By l m (swpIx a b i)) (hab : a + i < b) (hb : b + i < m.length) : By l (swp m (a + i) (b + i)) (swpIx a b (i + 1)) := fun k => by
  rw [swp_get m (a + i) (b + i) k (by omega) hb, swpIx_step a b i k hab]
  split
  · exact h (a + i)
  · split
    · exact h (b + i)
    · exact h k
theorem rot_gt (i j m k : Nat) (hi : i ≤ m) (h : j < i) : swpIx (m - i) m j (rotIx (m - (i - j)) m (m + j) k) = rotIx (m - i) m (m + j) k := by
  obtain ⟨r, hr⟩ : ∃ r, rotIx (m - (i - j)) m (m + j) k = r := ⟨_, rfl⟩
  obtain ⟨q, hq⟩ : ∃ q, rotIx (m - i) m (m + j) k = q := ⟨_, rfl⟩
  rw [hr, hq]
  unfold rotIx at hr hq
  unfold swpIx
  split at hr <;> split at hq <;> (try split at hr) <;> (try split at hq) <;> split <;> (try split) <;> omega
theorem rot_lt (i j m k : Nat) (hi : i ≤ m) (h : i < j) : swpIx (m - i) (m + j - i) i (rotIx (m - i) m (m + (j - i)) k) = rotIx (m - i) m (m + j) k := by
  obtain ⟨r, hr⟩ : ∃ r, rotIx (m - i) m (m + (j - i)) k = r := ⟨_, rfl⟩
  obtain ⟨q, hq⟩ : ∃ q, rotIx (m - i) m (m + j) k = q := ⟨_, rfl⟩
  rw [hr, hq]
  unfold rotIx at hr hq
  unfold swpIx
  split at hr <;> split at hq <;> (try split at hr) <;> (try split at hq) <;> split <;> (try split) <;> omega
theorem rot_eq (i m k : Nat) (hi : i ≤ m) : swpIx (m - i) m i k = rotIx (m - i) m (m + i) k := by
  unfold swpIx rotIx
  split <;> split <;> (try split) <;> (try split) <;> omega

/-- Two sorted pieces, about to be merged at s and e. -/
theorem merged {key : Int → Int} {L R : List Int} {a s m e b d : Nat} (h1 : SoOn key L a m) (h2 : SoOn key L m b) (has : a ≤ s) (hsm : s ≤ m) (hme : m ≤ e) (heb : e ≤ b) (hd : d = s + (e - m))
    (hrot : By L R (rotIx s m e))
    (c1 : ∀ i j, a ≤ i → i < s → e ≤ j → j < b → key (L.getD i 0) ≤ key (L.getD j 0))
    (c2 : ∀ i j, m ≤ i → i < e → s ≤ j → j < m → key (L.getD i 0) ≤ key (L.getD j 0)) :
    SoOn key R a s ∧ SoOn key R s d ∧ SoOn key R d e ∧ SoOn key R e b ∧ ∀ i j, a ≤ i → i < d → d ≤ j → j < b → key (R.getD i 0) ≤ key (R.getD j 0) := by
  subst hd
  have lo : ∀ k, k < s → rotIx s m e k = k := fun k hk => by unfold rotIx; rw [if_neg (by omega), if_neg (by omega)]
  have mi : ∀ k, s ≤ k → k < s + (e - m) → rotIx s m e k = k + (m - s) := fun k h3 h4 => by unfold rotIx; rw [if_pos (by omega)]
  have nx : ∀ k, s + (e - m) ≤ k → k < e → rotIx s m e k = k - (e - m) := fun k h3 h4 => by unfold rotIx; rw [if_neg (by omega), if_pos (by omega)]
  have hi : ∀ k, e ≤ k → rotIx s m e k = k := fun k hk => by unfold rotIx; rw [if_neg (by omega), if_neg (by omega)]
  refine ⟨fun i j p q r => ?_, fun i j p q r => ?_, fun i j p q r => ?_, fun i j p q r => ?_, fun i j p q r t => ?_⟩
  · rw [hrot i, hrot j, lo i (by omega), lo j (by omega)]; exact h1 i j p q (by omega)
  · rw [hrot i, hrot j, mi i (by omega) (by omega), mi j (by omega) (by omega)]; exact h2 _ _ (by omega) (by omega) (by omega)
  · rw [hrot i, hrot j, nx i (by omega) (by omega), nx j (by omega) (by omega)]; exact h1 _ _ (by omega) (by omega) (by omega)
  · rw [hrot i, hrot j, hi i (by omega), hi j (by omega)]; exact h2 i j (by omega) q r
  · rw [hrot i, hrot j]
    by_cases hi1 : i < s
    · rw [lo i hi1]
      by_cases hj1 : j < e
      · rw [nx j r hj1]; exact h1 _ _ p (by omega) (by omega)
      · rw [hi j (by omega)]; exact c1 i j p hi1 (by omega) t
    · rw [mi i (by omega) q]
      by_cases hj1 : j < e
      · rw [nx j r hj1]; exact c2 _ _ (by omega) (by omega) (by omega) (by omega)
      · rw [hi j (by omega)]; exact h2 _ _ (by omega) (by omega) t
/-- Both halves sorted, the one below the other. -/
theorem joined {key : Int → Int} {R R1 R2 : List Int} {a d b : Nat} (had : a ≤ d) (hdb : d ≤ b) (t1 : Turned R R1 a d) (t2 : Turned R1 R2 d b) (s1 : SoOn key R1 a d) (s2 : SoOn key R2 d b)
    (c : ∀ i j, a ≤ i → i < d → d ≤ j → j < b → key (R.getD i 0) ≤ key (R.getD j 0)) : SoOn key R2 a b := by
  intro i j p q r
  by_cases hj : j < d
  · rw [t2.out i (by omega), t2.out j (by omega)]; exact s1 i j p q hj
  · by_cases hi : d ≤ i
    · exact s2 i j hi q r
    · rw [t2.out i (by omega)]
      obtain ⟨i', a1, a2, e1⟩ := t1.sub i p (by omega)
      obtain ⟨j', b1, b2, e2⟩ := t2.sub j (by omega) r
      rw [e1, e2, t1.out j' (by omega)]
      exact c i' j' a1 a2 b1 b2
theorem SoOn.same {key : Int → Int} {l m : List Int} {a b : Nat} (h : SoOn key l a b) (he : ∀ k, a ≤ k → k < b → m.getD k 0 = l.getD k 0) : SoOn key m a b := fun i j p q r => by
  rw [he i p (by omega), he j (by omega) r]; exact h i j p q r
theorem SoOn.short {key : Int → Int} {l : List Int} {a b : Nat} (h : b ≤ a + 1) : SoOn key l a b := fun i j p q r => by omega
theorem SoOn.sub {key : Int → Int} {l : List Int} {a b c d : Nat} (h : SoOn key l a b) (h1 : a ≤ c) (h2 : d ≤ b) : SoOn key l c d := fun i j p q r => h i j (by omega) q (by omega)
theorem SoOn.le {key : Int → Int} {l : List Int} {a b : Nat} (h : SoOn key l a b) {i j : Nat} (h1 : a ≤ i) (h2 : i ≤ j) (h3 : j < b) : key (l.getD i 0) ≤ key (l.getD j 0) := by
  by_cases e : i = j
  · subst e; omega
  · exact h i j h1 (by omega) h3

end Go.Proofs.YtibccecmicndaaaDoor
