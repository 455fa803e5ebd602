/-
  What the laws of link share: rows that were handed in; a reference's list turned into a row of views.
-/
import Derived.Test.YtekjpkppfcmjdaaLiQ
set_option linter.unusedVariables false
set_option linter.unusedSimpArgs false
namespace Go.Proofs.Ytekjpkppfcmjdaa
open Go.RowKit

def noY : Yt := ⟨.slice none 0 0, []⟩
def viewY (bs : List Yt) (L : List Nat) : List Yt := L.map fun i => bs.getD i noY
theorem view_zs (bs : List Yt) (L : List Nat) : (viewY bs L).map Yt.zs = L.map fun i => (bs.map Yt.zs).getD i [] := by
  unfold viewY
  rw [List.map_map]
  refine List.map_congr_left fun i _ => ?_
  simp only [Function.comp, List.getD_eq_getElem?_getD, List.getElem?_map]
  cases bs[i]? <;> rfl
theorem view_mem {bs : List Yt} {L : List Nat} (h : ∀ i ∈ L, i < bs.length) : ∀ y ∈ viewY bs L, y ∈ bs := fun y hy => by
  obtain ⟨i, hi, rfl⟩ := List.mem_map.1 hy
  have := h i hi
  rw [List.getD_eq_getElem?_getD, List.getElem?_eq_getElem this]
  exact List.getElem_mem this
/-- A row of views of what was handed in. -/
theorem view_rd {S : List Nat} {w0 w : World} {A : List Res} {bs : List Yt} {L : List Nat} {v : Value} (h : Sep S w0 w A) (i : Nat) (hi : A[i]? = some (ysR v (viewY bs L))) {a : Option Addr} (hr : RdYs w a bs) (hL : ∀ i ∈ L, i < bs.length) :
    ∃ a' c', v = .slice a' (viewY bs L).length c' ∧ RdYs w a' (viewY bs L) := by
  obtain ⟨a', c', h1, _, _, _, h5⟩ := own_vals (show w.ownsRow 0 _ 1 v (viewY bs L).length ((viewY bs L).map Yt.v) from h.get i hi)
  rw [List.length_map] at h1
  exact ⟨a', c', h1, h5, fun b hb => hr.bod b (view_mem hL b hb)⟩
theorem view_snoc (bs : List Yt) (L : List Nat) (i : Nat) {b : Yt} (hb : bs[i]? = some b) : viewY bs (L ++ [i]) = viewY bs L ++ [b] := by
  unfold viewY
  rw [List.map_append]
  congr 1
  show [bs.getD i noY] = [b]
  rw [List.getD_eq_getElem?_getD, hb]
  rfl
theorem toI_at {L : List Nat} {j i : Nat} (h : L[j]? = some i) : (toI L)[j]? = some (i : Int) := by unfold toI; rw [List.getElem?_map, h]; rfl
theorem toI_len (L : List Nat) : (toI L).length = L.length := by unfold toI; rw [List.length_map]
theorem Sep.snocV {S : List Nat} {w0 w : World} {v : Value} {bs : List Yt} {b : Yt} {L : List Res} (h : Sep S w0 w (ownR 28 1 v (bs.length + 1) (bs.map Yt.v ++ [b.v]) :: L)) : Sep S w0 w (ysR v (bs ++ [b]) :: L) := by
  unfold ysR
  rw [List.length_append, List.map_append]
  exact h
/-- Rows that were handed in, as byte strings. -/
def ytOf (x : IRow) : Yt := ⟨x.val, x.zs⟩
theorem ys_of {w : World} {a : Option Addr} {rs : List IRow} (rd : RdV w a (rs.map IRow.val)) (wf : ∀ r ∈ rs, r.zs.length ≤ r.c ∧ r.c ≤ maxLen ∧ (r.a = none → r.c = 0) ∧ RdI .u8 w r.a r.zs ∧ ∀ x ∈ r.zs, (Lit.int .u8 x).wf = true) : RdYs w a (rs.map ytOf) := by
  refine ⟨by rw [List.map_map]; exact rd, fun b hb => ?_⟩
  obtain ⟨r, hr, rfl⟩ := List.mem_map.1 hb
  obtain ⟨h1, h2, h3, h4, _⟩ := wf r hr
  exact ⟨r.a, r.c, rfl, h4, h3, h1, by unfold maxLen at h2; omega⟩
/-- One of the bodies written. -/
theorem bods_out {S : List Nat} {w0 w : World} {bs : List Yt} {j : Nat} {b : Yt} {L : List Res} (h : Sep S w0 w (bodsR bs :: L)) (hb : bs[j]? = some b) :
    Sep S w0 w (sumR b.v b.zs :: eachR ((bs.take j).map Yt.res ++ (bs.drop (j + 1)).map Yt.res) :: L) := by
  obtain ⟨hl, hbe⟩ := List.getElem?_eq_some_iff.1 hb
  have e : bs = bs.take j ++ b :: bs.drop (j + 1) := by rw [← hbe, ← List.drop_eq_getElem_cons hl, List.take_append_drop]
  have e2 : bs.map Yt.res = (bs.take j).map Yt.res ++ Yt.res b :: (bs.drop (j + 1)).map Yt.res := by
    conv => lhs; rw [e]
    rw [List.map_append, List.map_cons]
  unfold bodsR at h
  rw [e2] at h
  exact h.eout
theorem bods_back {S : List Nat} {w0 w : World} {bs : List Yt} {j : Nat} {b : Yt} {zs : List Int} {L : List Res} (h : Sep S w0 w (sumR b.v zs :: eachR ((bs.take j).map Yt.res ++ (bs.drop (j + 1)).map Yt.res) :: L)) :
    Sep S w0 w (bodsR (bs.take j ++ ⟨b.v, zs⟩ :: bs.drop (j + 1)) :: L) := by
  have h2 := h.eback
  unfold bodsR
  rw [List.map_append, List.map_cons]
  exact h2
theorem ysR_same {v : Value} {bs : List Yt} {j : Nat} {b : Yt} {zs : List Int} (hb : bs[j]? = some b) : ysR v (bs.take j ++ ⟨b.v, zs⟩ :: bs.drop (j + 1)) = ysR v bs := by
  obtain ⟨hl, hbe⟩ := List.getElem?_eq_some_iff.1 hb
  have e : bs = bs.take j ++ b :: bs.drop (j + 1) := by rw [← hbe, ← List.drop_eq_getElem_cons hl, List.take_append_drop]
  have e1 : (bs.take j ++ (⟨b.v, zs⟩ : Yt) :: bs.drop (j + 1)).map Yt.v = bs.map Yt.v := by
    conv => rhs; rw [e]
    simp only [List.map_append, List.map_cons]
  have e2 : (bs.take j ++ (⟨b.v, zs⟩ : Yt) :: bs.drop (j + 1)).length = bs.length := by
    conv => rhs; rw [e]
    simp only [List.length_append, List.length_cons]
  unfold ysR
  rw [e1, e2]

end Go.Proofs.Ytekjpkppfcmjdaa
