/-
  A REGION THAT DRAWS ITS ORDER, but whose beginning leaves no choice (guards and calls in a chain): the beginning in the listed order; behind it whatever order. No program is named here.
-/
import Derived.Test.YtlkhjffbhcjdfaaDoorReg
import Derived.OrdersHeld
import Derived.Deep.RegionHeld3
set_option linter.unusedVariables false
set_option linter.unusedSimpArgs false
namespace Go.Proofs.YtlkhjffbhcjdfaaDoor
open Go.RowKit

/-- Of the first n operations each waits for the one ahead and for no later one; the rest wait for the last of them. -/
def seqOk (n : Nat) : Nat → List Oper → Bool
  | _, [] => true
  | j, o :: l => (if j < n then o.after.all (fun e => !Region.binds .any e || decide (e.on < j)) && (j == 0 || o.after.any fun e => Region.binds .any e && e.on == j - 1)
      else (n == 0 || o.after.any fun e => Region.binds .any e && decide (n - 1 ≤ e.on))) && seqOk n (j + 1) l
theorem seqOk_at (n : Nat) : ∀ (l : List Oper) (s : Nat), seqOk n s l = true → ∀ (i : Nat) (o : Oper), l[i]? = some o →
    (s + i < n → (∀ e ∈ o.after, Region.binds .any e = true → e.on < s + i) ∧ (s + i = 0 ∨ ∃ e ∈ o.after, Region.binds .any e = true ∧ e.on = s + i - 1)) ∧
    (n ≤ s + i → n = 0 ∨ ∃ e ∈ o.after, Region.binds .any e = true ∧ n - 1 ≤ e.on)
  | [], _, _, i, o, h => by simp at h
  | p :: l, s, hB, 0, o, h => by
    simp only [seqOk, Bool.and_eq_true] at hB
    obtain rfl : p = o := by simpa using h
    have h1 := hB.1
    rw [Nat.add_zero]
    refine ⟨fun hs => ?_, fun hs => ?_⟩
    · rw [if_pos hs] at h1
      simp only [Bool.and_eq_true, Bool.or_eq_true, beq_iff_eq] at h1
      refine ⟨fun e he hb => ?_, h1.2.imp id fun h2 => ?_⟩
      · have := Array.all_eq_true_iff_forall_mem.1 h1.1 e he
        simp [hb] at this
        exact this
      · obtain ⟨i, hi, h3⟩ := Array.any_eq_true.1 h2
        simp only [Bool.and_eq_true, beq_iff_eq] at h3
        exact ⟨_, Array.getElem_mem hi, h3.1, h3.2⟩
    · rw [if_neg (by omega)] at h1
      simp only [Bool.or_eq_true, beq_iff_eq] at h1
      refine h1.imp id fun h2 => ?_
      obtain ⟨i, hi, h3⟩ := Array.any_eq_true.1 h2
      simp only [Bool.and_eq_true, decide_eq_true_eq] at h3
      exact ⟨_, Array.getElem_mem hi, h3.1, h3.2⟩
  | p :: l, s, hB, i + 1, o, h => by
    simp only [seqOk, Bool.and_eq_true] at hB
    have := seqOk_at n l (s + 1) hB.2 i o (by simpa using h)
    rw [show s + 1 + i = s + (i + 1) by omega] at this
    exact this

section
variable {P : Program} {Q : Exit → Act → World → Prop}
theorem wp_of_then {o : Oper} {a : Act} {w : World} {K L : Act → World → Prop} (h : o.wp P a w L (Exit.then K Q)) : o.wp P a w L Q := by
  unfold Oper.wp at *
  generalize (execOp a.eval o).run P w = r at *
  cases r with
  | ok n w' => cases n <;> exact h
  | halt x w' => cases x <;> exact h

theorem wpAny_seq_then {K : Act → World → Prop} {n g : Nat} {all : List Oper} (hB : seqOk n 0 all = true)
    (hK : ∀ listed a' w', listed.size = all.length → (∀ j, j < n → listed.getD j false = true) → (∀ j, n ≤ j → listed.getD j false = false) → K a' w' → wpAny P .any all.toArray Q g listed a' w') : ∀ (l : List Oper) (k : Nat) (listed : Array Bool) (a : Act) (w : World),
    k + l.length = n → n ≤ all.length → (∀ j, j < l.length → l[j]? = all[k + j]?) → listed.size = all.length → (∀ j, j < k → listed.getD j false = true) → (∀ j, k ≤ j → listed.getD j false = false) →
    wpList P all.toArray (Exit.then K Q) l a w → wpAny P .any all.toArray Q (l.length + g) listed a w
  | [], k, listed, a, w, hk, hn, _, hz, h1, h2, h => by
    have : k = n := by simpa using hk
    subst this
    rw [List.length_nil, Nat.zero_add]
    exact hK _ _ _ hz h1 h2 h
  | o :: l, k, listed, a, w, hk, hn, hl, hz, h1, h2, h => by
    simp only [List.length_cons] at hk
    have h0 : all[k]? = some o := by simpa using (hl 0 (by simp)).symm
    have h0' : all.toArray[k]? = some o := by simpa using h0
    have hkz : k < listed.size := by rw [hz]; omega
    have ht := ((seqOk_at n all 0 hB k o h0).1 (by omega)).1
    rw [Nat.zero_add] at ht
    have gets : ∀ j, listed.getD j true = false ↔ j < listed.size ∧ listed.getD j false = false := fun j => by
      rcases Nat.lt_or_ge j listed.size with hj | hj
      · simp [hj]
      · simp [Array.getElem?_eq_none hj]; omega
    have hready : k ∈ Region.ready .any all.toArray listed := mem_ready.2 ⟨(gets k).2 ⟨hkz, h2 k (Nat.le_refl _)⟩, o, h0', fun e he hb => h1 _ (ht e he hb)⟩
    rw [List.length_cons, show l.length + 1 + g = (l.length + g) + 1 by omega]
    refine ⟨fun h3 => (by rw [h3] at hready; cases hready), fun i hi => ?_⟩
    have hik : i = k := by
      obtain ⟨hun, oi, hoi, hall⟩ := mem_ready.1 hi
      obtain ⟨hiz, hif⟩ := (gets i).1 hun
      have hki : k ≤ i := by
        rcases Nat.lt_or_ge i k with h3 | h3
        · rw [h1 i h3] at hif; cases hif
        · exact h3
      rcases Nat.lt_or_eq_of_le hki with hlt | heq
      · exfalso
        have hoi2 : all[i]? = some oi := by simpa using hoi
        have h3 := seqOk_at n all 0 hB i oi hoi2
        rw [Nat.zero_add] at h3
        rcases Nat.lt_or_ge i n with hin | hin
        · rcases (h3.1 hin).2 with h4 | ⟨e, he, hb, heo⟩
          · omega
          · have := hall e he hb
            rw [h2 e.on (by omega)] at this
            cases this
        · rcases h3.2 hin with h4 | ⟨e, he, hb, heo⟩
          · omega
          · have := hall e he hb
            rw [h2 e.on (by omega)] at this
            cases this
      · exact heq.symm
    subst hik
    have hset : ∀ j, (listed.setIfInBounds i true).getD j false = if j = i then true else listed.getD j false := fun j => by
      by_cases hj : j = i
      · subst hj; simp [hkz]
      · simp [Array.getElem?_setIfInBounds, hj, Ne.symm hj]
    have next : ∀ a' w', wpList P all.toArray (Exit.then K Q) l a' w' → wpAny P .any all.toArray Q (l.length + g) (listed.setIfInBounds i true) a' w' := fun a' w' h' =>
      wpAny_seq_then hB hK l (i + 1) _ a' w' (by omega) hn (fun j hj => by have := hl (j + 1) (by simp; omega); simpa [Nat.add_assoc, Nat.add_comm 1 j] using this) (by simpa using hz)
        (fun j hj => by rw [hset]; split; · rfl
                        · exact h1 j (by omega)) (fun j hj => by rw [hset, if_neg (by omega)]; exact h2 j (by omega)) h'
    unfold wpOp
    simp only [h0']
    unfold wpList at h
    split
    · rename_i hw
      rw [if_pos hw] at h
      rcases h with h | h
      · exact .inl (Oper.wp_mono next (wp_of_then h))
      · exact .inr h
    · rename_i hw
      rw [if_neg hw] at h
      exact next _ _ h

/-- A region: its first n operations in their order; the rest by 'held'. -/
theorem region_seq_held {id : Nat} {a : Act} {w : World} {l : List Oper} (n : Nat) (S : World → Prop) (lit : Array Bool) (hlit : lit = (Array.replicate n true) ++ (Array.replicate (l.length - n) false)) (hm : P.follows .mixedOrders = true)
    (hB : seqOk n 0 l = true) (hn : n ≤ l.length)
    (h : wpList P l.toArray (Exit.then (fun a' w' => wpAnyH P .any l.toArray Q S (l.length - n) lit a' w') Q) (l.take n) a w.drew) : (Code.region id l.toArray true).wp P Q a w := by
  refine wp_region_any hm ?_
  have hl : (l.take n).length = n := by simp; omega
  have := wpAny_seq_then (P := P) (Q := Q) (K := fun a' w' => wpAnyH P .any l.toArray Q S (l.length - n) lit a' w') (n := n) (g := l.length - n) (all := l) hB
    (fun listed a' w' hz h1 h2 h' => by
      have : listed = lit := by
        rw [hlit]
        apply Array.ext
        · rw [hz]; simp; omega
        · intro j hj1 hj2
          by_cases hj : j < n
          · have h3 := h1 j hj
            rw [Array.getElem_append_left (by simpa using hj)]
            simp [hj1] at h3
            simp [h3]
          · have h3 := h2 j (by omega)
            rw [Array.getElem_append_right (by simp; omega)]
            simp [hj1] at h3
            simp [h3]
      subst this
      exact wpAny_of_held _ _ _ _ h') (l.take n) 0 (Array.replicate l.toArray.size false) a w.drew (by rw [hl]; omega) hn (fun j hj => by rw [hl] at hj; simp [List.getElem?_take_of_lt hj]) (by simp) (fun j hj => by omega) (fun j _ => by
      rcases Nat.lt_or_ge j l.toArray.size with hj | hj
      · simp at hj; simp [hj]
      · simp at hj; simp [Array.getElem?_eq_none, hj]) h
  rw [hl, show n + (l.length - n) = l.toArray.size by simp; omega] at this
  exact this
/-- An operation that is taken first, its slot named. -/
theorem held_take {md : Region.Mode} {ops : Array Oper} {S : World → Prop} {i d : Nat} {oi : Oper} {v : Value} {fuel : Nat} {listed : Array Bool} {a : Act} {w : World} (hi : ops[i]? = some oi) (hd : oi.dst = some d)
    (hs : Region.noSelect ops = true) (hf : Region.free md ops listed i = true) (hr : (Region.ready md ops listed).contains i = true)
    (hQ : ∀ c a w, Q (.panic c) (a.put oi.dst v) w → Q (.panic c) a w) (hy : YieldsIf P ops S oi v a) (hS : S w)
    (h : wpAnyH P md ops Q S fuel (listed.setIfInBounds i true) (a.put (some d) v) w) : wpAnyH P md ops Q S (fuel + 1) listed a w :=
  wpAnyH_take hi hs hf hr hQ hy hS (hd ▸ h)
end

end Go.Proofs.YtlkhjffbhcjdfaaDoor
