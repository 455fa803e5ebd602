/-
  ARGUMENTS OPENED: a slice of slices of integers.
-/
import Derived.Test.YtekjpkppfcmjdaaO
import Derived.Deep.Matrix
set_option linter.unusedVariables false
set_option linter.unusedSimpArgs false
namespace Go.Proofs.Ytekjpkppfcmjdaa
open Go.ChangeShapes Go.WideShapes Go.ChangeAt Go.RowKit Go.Deep

/-- A slice of integers, its address, its capacity, its numbers. -/
structure IRow where
  a : Option Addr
  c : Nat
  zs : List Int
def IRow.val (x : IRow) : Value := .slice x.a x.zs.length x.c
/-- The cells of a slice of slices: the headers alone. -/
def RdV (w : World) (ad : Option Addr) (vs : List Value) : Prop :=
  ∀ i v, vs[i]? = some v → ∃ b off, ad = some ⟨b, off, none⟩ ∧ b < w.heap.size ∧ w.cell? ⟨b, off + i, none⟩ = some v
theorem RdV.nil (w : World) (ad : Option Addr) : RdV w ad [] := fun i x h => by simp at h
theorem RdV.below {w w' : World} {ad : Option Addr} {vs : List Value} (h : RdV w ad vs) (hb : Below w.heap.size w w') : RdV w' ad vs := fun i x hx => by
  obtain ⟨b, off, h1, h2, h3⟩ := h i x hx
  exact ⟨b, off, h1, Nat.lt_of_lt_of_le h2 hb.size, (hb.cell (p := ⟨b, off + i, none⟩) h2).trans h3⟩
theorem RdV.at_ {w : World} {ad : Option Addr} {vs : List Value} (h : RdV w ad vs) (i : Nat) (hi : i < vs.length) : ∃ b off v, vs[i]? = some v ∧ ad = some ⟨b, off, none⟩ ∧ b < w.heap.size ∧ w.cell? ⟨b, off + i, none⟩ = some v := by
  obtain ⟨b, off, ha, hl, hc⟩ := h i vs[i] (List.getElem?_eq_getElem hi)
  exact ⟨b, off, _, List.getElem?_eq_getElem hi, ha, hl, hc⟩

section
variable {H : Type} {enc : TypeId × Value → H} {P : Program} {W : World} {base : Nat}

theorem rows_open {t e q : TypeId} {k : IntKind} {v : Value} {d : DataW H} {p : List MemPlace} (ht : P.underlying t = some (.slice e)) (he : P.underlying e = some (.slice q)) (hq : P.underlying q = some (.int k))
    (ce : P.cellsOf e = 1) (cq : P.cellsOf q = 1) (hv : Value.okWide P W .any base t v) (h : DataW.Trod enc P W 0 (fun _ => true) true t v d p) :
    ∃ (a : Option Addr) (cap : Nat) (rs : List IRow), v = .slice a rs.length cap ∧ rs.length ≤ cap ∧ cap ≤ maxLen ∧ (a = none → cap = 0) ∧ RdV W a (rs.map IRow.val) ∧
      ∀ r ∈ rs, r.zs.length ≤ r.c ∧ r.c ≤ maxLen ∧ (r.a = none → r.c = 0) ∧ RdI k W r.a r.zs ∧ ∀ x ∈ r.zs, (Lit.int k x).wf = true := by
  obtain ⟨a, len, cap, rfl⟩ := okWide_slice ht hv
  obtain ⟨fuel, hf⟩ := h
  rcases open_int_rows ht he hq ce cq hf with ⟨hcs, _⟩ | ⟨x, l, c, A, L, C, Z, hcs, _, hl, hm, _, hcell⟩
  · simp [Value.cells] at hcs
    obtain ⟨rfl, rfl, rfl⟩ := hcs
    exact ⟨none, 0, [], rfl, Nat.le_refl _, Nat.zero_le _, fun _ => rfl, RdV.nil _ _, by simp⟩
  · simp [Value.cells] at hcs
    obtain ⟨rfl, rfl, rfl⟩ := hcs
    have hrl : ((List.range len).map fun r => (⟨A r, C r, (Z r).take (L r)⟩ : IRow)).length = len := by simp
    have hlen : ∀ r, r < cap → ((Z r).take (L r)).length = L r := fun r hr => by
      obtain ⟨_, h1, _, h2, _⟩ := hcell r hr
      rw [List.length_take]
      omega
    refine ⟨some x, cap, (List.range len).map fun r => ⟨A r, C r, (Z r).take (L r)⟩, by rw [hrl], by rw [hrl]; exact hl, hm, (fun h => by cases h), fun i u hu => ?_, fun r hr => ?_⟩
    · have hil : i < len := by
        have := (List.getElem?_eq_some_iff.1 hu).1
        simpa using this
      rw [List.getElem?_map, List.getElem?_map, List.getElem?_range hil] at hu
      simp only [Option.map_some, Option.some.injEq, IRow.val] at hu
      rw [hlen i (by omega)] at hu
      subst hu
      have hcl := (hcell i (by omega)).1
      obtain ⟨b, off, spot⟩ := x
      have hs : spot = none := by simpa [Addr.add] using World.cell?_spot (hcell 0 (by omega)).1
      subst hs
      have hadd : (⟨b, off, none⟩ : Addr).add i = ⟨b, off + i, none⟩ := by unfold Addr.add; split <;> simp_all
      rw [hadd] at hcl
      exact ⟨b, off, rfl, World.block_lt_of_cell? W _ hcl, hcl⟩
    · obtain ⟨i, hir, rfl⟩ := List.mem_map.1 hr
      have hil : i < len := List.mem_range.1 hir
      obtain ⟨_, h1, h2, h3, h4, h5, h6⟩ := hcell i (by omega)
      refine ⟨by rw [hlen i (by omega)]; exact h1, h2, h5, fun j y hy => ?_, fun y hy => h4 y (List.mem_of_mem_take hy)⟩
      have hj : j < L i := by
        have := (List.getElem?_eq_some_iff.1 hy).1
        rw [hlen i (by omega)] at this
        exact this
      rw [List.getElem?_take_of_lt hj] at hy
      cases ha : A i with
      | none => have := h5 ha; omega
      | some a' =>
        have hc := (h6 a' ha).2
        have hcl := hc j (by omega)
        have hyv : (Z i).getD j 0 = y := by rw [List.getD_eq_getElem?_getD, hy]; rfl
        rw [hyv] at hcl
        obtain ⟨b, off, spot⟩ := a'
        have hs : spot = none := by simpa [Addr.add] using World.cell?_spot (hc 0 (by omega))
        subst hs
        have hadd : (⟨b, off, none⟩ : Addr).add j = ⟨b, off + j, none⟩ := by unfold Addr.add; split <;> simp_all
        rw [hadd] at hcl
        exact ⟨b, off, rfl, World.block_lt_of_cell? W _ hcl, hcl⟩
end

end Go.Proofs.Ytekjpkppfcmjdaa
