/-
  ARGUMENTS OPENED: slices of bool.
-/
import Derived.Test.YtbodmoefogkciaaO
import Derived.Deep.Grids
set_option linter.unusedVariables false
set_option linter.unusedSimpArgs false
namespace Go.Proofs.Ytbodmoefogkciaa
open Go.ChangeShapes Go.WideShapes Go.ChangeAt Go.RowKit Go.Deep

/-- The slice at a reads as the bools bs. -/
def RdB (w : World) (a : Option Addr) (bs : List Bool) : Prop :=
  ∀ i x, bs[i]? = some x → ∃ b off, a = some ⟨b, off, none⟩ ∧ b < w.heap.size ∧ w.cell? ⟨b, off + i, none⟩ = some (.bool x)
theorem RdB.below {w w' : World} {a : Option Addr} {bs : List Bool} (h : RdB w a bs) (hb : Below w.heap.size w w') : RdB w' a bs := fun i x hx => by
  obtain ⟨b, off, ha, hl, hc⟩ := h i x hx
  exact ⟨b, off, ha, Nat.lt_of_lt_of_le hl hb.size, (hb.cell (p := ⟨b, off + i, none⟩) hl).trans hc⟩
theorem RdB.at_ {w : World} {a : Option Addr} {bs : List Bool} (h : RdB w a bs) (i : Nat) (hi : i < bs.length) : ∃ b off x, bs[i]? = some x ∧ a = some ⟨b, off, none⟩ ∧ b < w.heap.size ∧ w.cell? ⟨b, off + i, none⟩ = some (.bool x) := by
  obtain ⟨b, off, ha, hl, hc⟩ := h i bs[i] (List.getElem?_eq_getElem hi)
  exact ⟨b, off, _, List.getElem?_eq_getElem hi, ha, hl, hc⟩

section
variable {H : Type} {enc : TypeId × Value → H} {P : Program} {W : World} {base : Nat}
theorem sb_open {t e : TypeId} {v : Value} {d : DataW H} {p : List MemPlace} (ht : P.underlying t = some (.slice e)) (he : P.underlying e = some .bool) (hc : P.cellsOf e = 1)
    (hv : Value.okWide P W .any base t v) (h : DataW.Trod enc P W 0 (fun _ => true) true t v d p) :
    ∃ (a : Option Addr) (cap : Nat) (bs : List Bool), v = .slice a bs.length cap ∧ bs.length ≤ cap ∧ cap ≤ maxLen ∧ RdB W a bs := by
  obtain ⟨a, len, cap, rfl⟩ := okWide_slice ht hv
  obtain ⟨fuel, hf⟩ := h
  rcases open_bools ht he hc hf with ⟨hcs, _⟩ | ⟨x, l, c, B, hcs, _, hl, hm, _, hcell⟩
  · simp [Value.cells] at hcs
    obtain ⟨rfl, rfl, rfl⟩ := hcs
    exact ⟨none, 0, [], rfl, Nat.le_refl _, Nat.zero_le _, fun i x hx => by simp at hx⟩
  · simp [Value.cells] at hcs
    obtain ⟨rfl, rfl, rfl⟩ := hcs
    have hlen : ((List.range len).map B).length = len := by simp
    refine ⟨some x, cap, (List.range len).map B, by rw [hlen], by rw [hlen]; exact hl, hm, fun i y hy => ?_⟩
    have hi : i < len := by
      have := (List.getElem?_eq_some_iff.1 hy).1
      simpa using this
    have hyv : B i = y := by
      rw [List.getElem?_map, List.getElem?_range hi] at hy
      simpa using hy
    have hcl := hcell i (by omega)
    rw [hyv] at hcl
    obtain ⟨b, off, spot⟩ := x
    have hs : spot = none := by simpa [Addr.add] using World.cell?_spot (hcell 0 (by omega))
    subst hs
    have hcl' : W.cell? ⟨b, off + i, none⟩ = some (.bool y) := by
      by_cases h0 : i = 0
      · subst h0; simpa [Addr.add] using hcl
      · simpa [Addr.add, h0] using hcl
    exact ⟨b, off, rfl, World.block_lt_of_cell? W _ hcl', hcl'⟩
end

end Go.Proofs.Ytbodmoefogkciaa
