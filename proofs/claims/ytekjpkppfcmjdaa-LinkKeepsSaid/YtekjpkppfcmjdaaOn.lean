/-
  ARGUMENTS OPENED: a slice of integers, and that a nil slice has no capacity.
-/
import Derived.Test.YtekjpkppfcmjdaaO
set_option linter.unusedVariables false
set_option linter.unusedSimpArgs false
namespace Go.Proofs.Ytekjpkppfcmjdaa
open Go.ChangeShapes Go.WideShapes Go.ChangeAt Go.RowKit

section
variable {H : Type} {enc : TypeId × Value → H} {P : Program} {W : World} {base : Nat}

/-- A slice of integers. -/
theorem sl_open0 {t e : TypeId} {k : IntKind} {v : Value} {d : DataW H} {p : List MemPlace} (ht : P.underlying t = some (.slice e)) (he : P.underlying e = some (.int k)) (hc : P.cellsOf e = 1)
    (hv : Value.okWide P W .any base t v) (h : DataW.Trod enc P W 0 (fun _ => true) true t v d p) :
    ∃ (a : Option Addr) (cap : Nat) (zs : List Int), v = .slice a zs.length cap ∧ zs.length ≤ cap ∧ cap ≤ maxLen ∧ (a = none → cap = 0) ∧ RdI k W a zs ∧ ∀ x ∈ zs, (Lit.int k x).wf = true := by
  obtain ⟨a, len, cap, rfl⟩ := okWide_slice ht hv
  obtain ⟨fuel, hf⟩ := h
  rcases open_ints ht he hc hf with ⟨hcs, _⟩ | ⟨x, l, c, zs, hcs, _, hl, hm, hz, _, hcell, hwz⟩
  · simp [Value.cells] at hcs
    obtain ⟨rfl, rfl, rfl⟩ := hcs
    exact ⟨none, 0, [], rfl, Nat.le_refl _, Nat.zero_le _, fun _ => rfl, RdI.nil _ _ _, by simp⟩
  · simp [Value.cells] at hcs
    obtain ⟨rfl, rfl, rfl⟩ := hcs
    have hz' : zs.length = cap := by simpa using hz
    have hlen : (zs.take len).length = len := by rw [List.length_take]; omega
    refine ⟨some x, cap, zs.take len, by rw [hlen], by rw [hlen]; exact hl, hm, (fun h => by cases h), fun i y hy => ?_, fun y hy => hwz y (List.mem_of_mem_take hy)⟩
    have hi : i < len := by
      have := (List.getElem?_eq_some_iff.1 hy).1
      omega
    have hi' : i < zs.length := by omega
    rw [List.getElem?_take_of_lt hi] at hy
    have hcl := hcell i hi'
    have hyv : zs.getD i 0 = y := by rw [List.getD_eq_getElem?_getD, hy]; rfl
    rw [hyv] at hcl
    obtain ⟨b, off, spot⟩ := x
    have hs : spot = none := by simpa [Addr.add] using World.cell?_spot (hcell 0 (by omega))
    subst hs
    have hcl' : W.cell? ⟨b, off + i, none⟩ = some (.int k y) := by
      by_cases h0 : i = 0
      · subst h0; simpa [Addr.add] using hcl
      · simpa [Addr.add, h0] using hcl
    exact ⟨b, off, rfl, World.block_lt_of_cell? W _ hcl', hcl'⟩
end

end Go.Proofs.Ytekjpkppfcmjdaa
