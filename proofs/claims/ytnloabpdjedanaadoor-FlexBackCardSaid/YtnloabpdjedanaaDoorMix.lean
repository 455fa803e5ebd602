/-
  A GREAT REGION THAT DRAWS ITS ORDER, walked once: in an order that the prover names, each operation is either the only one that may come up, or yields one value in every world that meets S and is taken ahead. One check of the whole order, read off lists. No program is named here.
-/
import Derived.Test.YtnloabpdjedanaaDoorReg
import Derived.OrdersHeld
import Derived.Deep.RegionHeld3
set_option linter.unusedVariables false
set_option linter.unusedSimpArgs false
namespace Go.Proofs.YtnloabpdjedanaaDoor
open Go.RowKit

/-- An operation, its place, and whether it is the only one (true) or one taken ahead (false). -/
abbrev MOp := Oper × Nat × Bool
def mixOf (l : List Oper) (perm : List (Nat × Bool)) : List MOp := perm.filterMap fun p => (l[p.1]?).map fun o => (o, p.1, p.2)
def mixGo (n : Nat) (ops : Array Oper) : List MOp → Bool
  | [] => true
  | (o, i, fl) :: rest =>
    o.after.all (fun e => !Region.binds .any e || (decide (e.on < n) && (e.on != i && rest.all fun r => r.2.1 != e.on))) &&
    rest.all (fun r => r.2.1 != i) &&
    (if fl then rest.all fun r => r.1.after.any fun e => Region.binds .any e && (e.on == i || rest.any fun q => q.2.1 == e.on)
     else rest.all fun r => (r.1.after.any fun e => Region.binds .any e && e.on == i) || o.apart ops r.1) && mixGo n ops rest
def mixAll (n : Nat) (ms : List MOp) : Bool := (List.range n).all fun j => ms.any fun r => r.2.1 == j

section
variable {P : Program} {ops : Array Oper} {Q : Exit → Act → World → Prop} {S : World → Prop}

def wpMix (P : Program) (ops : Array Oper) (Q : Exit → Act → World → Prop) (S : World → Prop) : List MOp → Act → World → Prop
  | [], a, w => Q .normal a w
  | (o, _, true) :: rest, a, w => if Region.wanted o (yielded ops a.tmps) then o.wp P a w (fun a' w' => S w' ∧ wpMix P ops Q S rest a' w') Q else S w ∧ wpMix P ops Q S rest (a.put o.dst undef) w
  | (o, _, false) :: rest, a, w => ∃ v, YieldsIf P ops S o v a ∧ S w ∧ wpMix P ops Q S rest (a.put o.dst v) w

theorem mix_free {o : Oper} {i d : Nat} {rest : List MOp} {a : Act} {w : World} (v : Value) (hd : o.dst = some d) (hy : YieldsIf P ops S o v a) (hS : S w) (h : wpMix P ops Q S rest (a.put (some d) v) w) :
    wpMix P ops Q S ((o, i, false) :: rest) a w := ⟨v, hy, hS, hd ▸ h⟩
theorem mix_only {o : Oper} {i : Nat} {rest : List MOp} {a : Act} {w : World}
    (h : ∀ K' : Act → World → Prop, Shut (∀ a w, S w → (S w → wpMix P ops Q S rest a w) → K' a w) → if Region.wanted o (yielded ops a.tmps) = true then Oper.wp P o a w K' Q else K' (a.put o.dst undef) w) :
    wpMix P ops Q S ((o, i, true) :: rest) a w := h (fun a' w' => S w' ∧ wpMix P ops Q S rest a' w') (fun a w hS hW => ⟨hS, hW hS⟩)

theorem held_of_mix (hm : ∀ c a w d v, Q (.panic c) (Act.put a d v) w → Q (.panic c) a w) (hsel : Region.noSelect ops = true) : ∀ (ms : List MOp) (listed : Array Bool) (a : Act) (w : World),
    (∀ r ∈ ms, ops[r.2.1]? = some r.1) → listed.size = ops.size → (∀ r ∈ ms, listed.getD r.2.1 true = false) → (∀ j, listed.getD j true = false → ∃ r ∈ ms, r.2.1 = j) → mixGo ops.size ops ms = true →
    wpMix P ops Q S ms a w → wpAnyH P .any ops Q S ms.length listed a w
  | [], listed, a, w, _, hz, _, h2, _, h => by
    refine ⟨?_, h⟩
    cases hr : Region.ready .any ops listed with
    | nil => rfl
    | cons x xs =>
      have hx : x ∈ Region.ready .any ops listed := by rw [hr]; simp
      obtain ⟨r, hm, _⟩ := h2 x (mem_ready.1 hx).1
      cases hm
  | (o, i, fl) :: rest, listed, a, w, h0, hz, h1, h2, hB, h => by
    simp only [mixGo, Bool.and_eq_true] at hB
    obtain ⟨⟨⟨hrd, hne⟩, hfl⟩, hB'⟩ := hB
    have ho : ops[i]? = some o := h0 (o, i, fl) (by simp)
    have hiz : i < listed.size := by rw [hz]; exact (Array.getElem?_eq_some_iff.1 ho).1
    have hun : listed.getD i true = false := h1 (o, i, fl) (by simp)
    have hne' : ∀ r ∈ rest, r.2.1 ≠ i := fun r hr => by have := List.all_eq_true.1 hne r hr; simpa using this
    have gets : ∀ j, j < listed.size → (listed.getD j false = true ↔ ¬ listed.getD j true = false) := fun j hj => by simp [hj]
    have hedge : ∀ e ∈ o.after, Region.binds .any e = true → e.on < ops.size ∧ e.on ≠ i ∧ ∀ r ∈ rest, r.2.1 ≠ e.on := fun e he hb => by
      have h3 := Array.all_eq_true_iff_forall_mem.1 hrd e he
      simp only [hb, Bool.not_true, Bool.false_or, Bool.and_eq_true, decide_eq_true_eq, bne_iff_ne, List.all_eq_true] at h3
      exact ⟨h3.1, h3.2.1, fun r hr => h3.2.2 r hr⟩
    have hready : i ∈ Region.ready .any ops listed := mem_ready.2 ⟨hun, o, ho, fun e he hb => by
      obtain ⟨e1, e2, e3⟩ := hedge e he hb
      rw [gets e.on (by rw [hz]; exact e1)]
      intro hf
      obtain ⟨r, hr, hre⟩ := h2 e.on hf
      rcases List.mem_cons.1 hr with rfl | hr
      · exact e2 hre.symm
      · exact e3 r hr hre⟩
    have hset1 : ∀ r ∈ rest, (listed.setIfInBounds i true).getD r.2.1 true = false := fun r hr => by
      have h3 := h1 r (by simp [hr])
      have hri := hne' r hr
      have hrz : r.2.1 < listed.size := by
        rcases Nat.lt_or_ge r.2.1 listed.size with h4 | h4
        · exact h4
        · simp [Array.getElem?_eq_none h4] at h3
      simp [Array.getElem?_setIfInBounds, Ne.symm hri, hrz] at h3 ⊢
      exact h3
    have hset2 : ∀ j, (listed.setIfInBounds i true).getD j true = false → ∃ r ∈ rest, r.2.1 = j := fun j hj => by
      by_cases hji : j = i
      · subst hji; simp [hiz] at hj
      · have h3 : listed.getD j true = false := by
          simp [Array.getElem?_setIfInBounds, Ne.symm hji] at hj ⊢
          exact hj
        obtain ⟨r, hr, hre⟩ := h2 j h3
        rcases List.mem_cons.1 hr with rfl | hr
        · exact absurd hre.symm hji
        · exact ⟨r, hr, hre⟩
    have next : ∀ a' w', wpMix P ops Q S rest a' w' → wpAnyH P .any ops Q S rest.length (listed.setIfInBounds i true) a' w' := fun a' w' h' =>
      held_of_mix hm hsel rest _ a' w' (fun r hr => h0 r (by simp [hr])) (by simpa using hz) hset1 hset2 hB' h'
    rw [List.length_cons]
    cases fl with
    | true =>
      refine ⟨fun h3 => (by rw [h3] at hready; cases hready), fun j hj => ?_⟩
      have hji : j = i := by
        obtain ⟨hjun, oj, hoj, hall⟩ := mem_ready.1 hj
        obtain ⟨r, hr, hre⟩ := h2 j hjun
        rcases List.mem_cons.1 hr with rfl | hr
        · exact hre.symm
        · exfalso
          simp only [if_true] at hfl
          have h3 := List.all_eq_true.1 hfl r hr
          obtain ⟨q, hq, h4⟩ := Array.any_eq_true.1 h3
          simp only [Bool.and_eq_true, Bool.or_eq_true, beq_iff_eq, List.any_eq_true] at h4
          have hro : r.1 = oj := by have := h0 r (by simp [hr]); rw [hre, hoj] at this; exact (Option.some.inj this).symm
          have h5 := hall _ (hro ▸ Array.getElem_mem hq) h4.1
          rcases h4.2 with h6 | ⟨q2, hq2, h6⟩
          · rw [h6, gets i hiz] at h5
            exact h5 hun
          · rw [← h6] at h5
            have h7 := h1 q2 (by simp [hq2])
            have hz2 : q2.2.1 < listed.size := by
              rcases Nat.lt_or_ge q2.2.1 listed.size with h8 | h8
              · exact h8
              · simp [Array.getElem?_eq_none h8] at h7
            rw [gets _ hz2] at h5
            exact h5 h7
      subst hji
      unfold wpOp
      simp only [ho]
      unfold wpMix at h
      split
      · rename_i hw
        rw [if_pos hw] at h
        exact .inl (Oper.wp_mono (fun a' w' h' => ⟨h'.1, next a' w' h'.2⟩) h)
      · rename_i hw
        rw [if_neg hw] at h
        exact ⟨h.1, next _ _ h.2⟩
    | false =>
      obtain ⟨v, hy, hS, h⟩ := h
      refine wpAnyH_first ho (Region.noSelect_spec hsel) (fun c a w => hm c a w _ _) rest.length listed a w (fun j oj hoj hji hjun hnot => ?_) hready hy hS (next _ _ h)
      obtain ⟨r, hr, hre⟩ := h2 j hjun
      rcases List.mem_cons.1 hr with rfl | hr
      · exact absurd hre.symm hji
      · have hfl' : (rest.all fun r => (r.1.after.any fun e => Region.binds .any e && e.on == i) || o.apart ops r.1) = true := hfl
        have h3 := List.all_eq_true.1 hfl' r hr
        have hro : r.1 = oj := by have := h0 r (by simp [hr]); rw [hre, hoj] at this; exact (Option.some.inj this).symm
        rw [Bool.or_eq_true] at h3
        rcases h3 with h3 | h3
        · exfalso
          obtain ⟨q, hq, h4⟩ := Array.any_eq_true.1 h3
          simp only [Bool.and_eq_true, beq_iff_eq] at h4
          exact hnot _ (hro ▸ Array.getElem_mem hq) h4.1 h4.2
        · rw [← hro]; exact h3

/-- A region in the order 'perm'. -/
theorem region_mix {id : Nat} {a : Act} {w : World} {l : List Oper} (perm : List (Nat × Bool)) (S : World → Prop) (hm : P.follows .mixedOrders = true) (hsel : Region.noSelect l.toArray = true)
    (hlen : (mixOf l perm).length = l.length) (hall : mixAll l.length (mixOf l perm) = true) (hB : mixGo l.length l.toArray (mixOf l perm) = true)
    (h : wpMix P l.toArray (NoPanic Q) S (mixOf l perm) a w.drew) : (Code.region id l.toArray true).wp P Q a w := by
  refine wp_region_noPanic (wp_region_any hm ?_)
  have hz : l.toArray.size = l.length := by simp
  have := held_of_mix (P := P) (ops := l.toArray) (Q := NoPanic Q) (S := S) (fun c a w d v h => h.elim) hsel (mixOf l perm) (Array.replicate l.toArray.size false) a w.drew (fun r hr => by
    unfold mixOf at hr
    obtain ⟨p, _, hp⟩ := List.mem_filterMap.1 hr
    obtain ⟨o, ho, rfl⟩ := Option.map_eq_some_iff.1 hp
    simpa using ho) (by simp) (fun r hr => by
    unfold mixOf at hr
    obtain ⟨p, _, hp⟩ := List.mem_filterMap.1 hr
    obtain ⟨o, ho, rfl⟩ := Option.map_eq_some_iff.1 hp
    have : p.1 < l.length := (List.getElem?_eq_some_iff.1 ho).1
    simp [this]) (fun j hj => by
    have hjl : j < l.length := by
      rcases Nat.lt_or_ge j l.length with h3 | h3
      · exact h3
      · have h4 : (Array.replicate l.toArray.size false).getD j true = true := by simp [h3]
        rw [h4] at hj; cases hj
    have h3 := List.all_eq_true.1 hall j (List.mem_range.2 hjl)
    obtain ⟨r, hr, hre⟩ := List.any_eq_true.1 h3
    exact ⟨r, hr, by simpa using hre⟩) (by rw [hz]; exact hB) h
  rw [hlen, ← hz] at this
  exact wpAny_of_held _ _ _ _ this
end

end Go.Proofs.YtnloabpdjedanaaDoor
