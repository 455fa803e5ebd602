/-
  THINGS THAT LIE APART, PICKED BY THEIR PLACES. No program is named here.
-/
import Derived.Test.YtekjpkppfcmjdaaPrm
set_option linter.unusedVariables false
set_option linter.unusedSimpArgs false
namespace Go.Proofs.Ytekjpkppfcmjdaa
open Go.RowKit

theorem filterMap_at {α : Type} (L : List α) : ∀ (is : List Nat) (a : Nat) (x : α), is.Nodup → (is.filterMap fun i => L[i]?)[a]? = some x → ∃ i, i ∈ is ∧ L[i]? = some x := by
  intro is a x _ h
  have := List.mem_of_getElem? h
  rw [List.mem_filterMap] at this
  obtain ⟨i, hi, hx⟩ := this
  exact ⟨i, hi, hx⟩
theorem pairwise_filterMap_at {L : List Res} (hp : L.Pairwise (fun r s => ∀ k ∈ r.bl, k ∉ s.bl)) : ∀ is : List Nat, is.Nodup → (is.filterMap fun i => L[i]?).Pairwise (fun r s => ∀ k ∈ r.bl, k ∉ s.bl)
  | [], _ => by simp
  | i :: is, hd => by
    rw [List.nodup_cons] at hd
    have ih := pairwise_filterMap_at hp is hd.2
    rw [List.filterMap_cons]
    cases hi : L[i]? with
    | none => exact ih
    | some r =>
      refine List.Pairwise.cons (fun s hs k hk hk' => ?_) ih
      rw [List.mem_filterMap] at hs
      obtain ⟨j, hj, hjs⟩ := hs
      have hij : i ≠ j := fun e => hd.1 (e ▸ hj)
      obtain ⟨h1, e1⟩ := List.getElem?_eq_some_iff.1 hi
      obtain ⟨h2, e2⟩ := List.getElem?_eq_some_iff.1 hjs
      rcases Nat.lt_or_ge i j with hlt | hge
      · have := List.pairwise_iff_getElem.1 hp i j h1 h2 hlt
        rw [e1, e2] at this
        exact this k hk hk'
      · have := List.pairwise_iff_getElem.1 hp j i h2 h1 (by omega)
        rw [e1, e2] at this
        exact this k hk' hk
/-- The things at these places. -/
theorem Sep.at_ {S : List Nat} {w0 w : World} {L L' : List Res} (h : Sep S w0 w L) (is : List Nat) (hd : is.Nodup) (hL : (is.filterMap fun i => L[i]?) = L') : Sep S w0 w L' := by
  subst hL
  have hm : ∀ r ∈ is.filterMap (fun i => L[i]?), r ∈ L := fun r hr => by
    rw [List.mem_filterMap] at hr
    obtain ⟨i, _, hi⟩ := hr
    exact List.mem_of_getElem? hi
  exact ⟨h.frm, fun r hr => h.holds r (hm r hr), pairwise_filterMap_at h.apart is hd, fun r hr => h.mine r (hm r hr)⟩
/-- A new block, its number as the walk spells it. -/
theorem blk_made_at {w : World} {g : Nat} {t : TypeId} {cs : Array Value} (hg : g = w.heap.size) : Blk (w.alloc (.cells cs t)) g t cs := by subst hg; exact Blk.made w t cs

/-- The things at these places, ahead of the rest. -/
theorem Sep.mix {S : List Nat} {w0 w : World} {A B L : List Res} (h : Sep S w0 w (A ++ L)) (is : List Nat) (hd : is.Nodup) (hB : (is.filterMap fun i => A[i]?) = B) : Sep S w0 w (B ++ L) := by
  have hA : Sep S w0 w A := h.sub (List.sublist_append_left _ _)
  have hb := hA.at_ is hd hB
  have hp := List.pairwise_append.1 h.apart
  have hm : ∀ r ∈ B, r ∈ A := fun r hr => by
    rw [← hB] at hr
    obtain ⟨i, _, hi⟩ := List.mem_filterMap.1 hr
    exact List.mem_of_getElem? hi
  refine ⟨h.frm, fun r hr => ?_, List.pairwise_append.2 ⟨hb.apart, hp.2.1, fun r hr s hs => hp.2.2 r (hm r hr) s hs⟩, fun r hr => ?_⟩
  · rcases List.mem_append.1 hr with hr | hr
    · exact hb.holds r hr
    · exact h.holds r (List.mem_append_right _ hr)
  · rcases List.mem_append.1 hr with hr | hr
    · exact hb.mine r hr
    · exact h.mine r (List.mem_append_right _ hr)

end Go.Proofs.Ytekjpkppfcmjdaa
