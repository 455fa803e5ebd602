/-
  ARGUMENTS OPENED: a struct whose fields are one cell each. No program is named here.
-/
import Derived.Test.YtiknjkkphdncfaaO
import Derived.Deep.Slices
import Derived.Deep.Fields
import Derived.ChangeSame
set_option linter.unusedVariables false
set_option linter.unusedSimpArgs false
namespace Go.Proofs.Ytiknjkkphdncfaa
open Go.ChangeShapes Go.WideShapes Go.ChangeAt Go.RowKit Go.Deep

section
variable {H : Type} {enc : TypeId × Value → H} {P : Program} {W : World} {base : Nat}

theorem st_open {t : TypeId} {fs : Array Field} {v : Value} {d : DataW H} {p : List MemPlace} (ht : P.underlying t = some (.struct fs))
    (hone : oneCellFields P fs = true) (hC : P.cellsOf t = fs.size) (hv : Value.okWide P W .any base t v) (h : DataW.Trod enc P W 0 (fun _ => true) true t v d p) :
    ∃ cs : List Value, v = .agg cs.toArray ∧ cs.length = fs.size ∧
      ∀ (j : Nat) (f : Field), fs[j]? = some f → ∃ (u : Value) (y : DataW H × List MemPlace) (n : Nat), cs[j]? = some u ∧ DataW.trod enc P W 0 (fun _ => true) true n f.type [u] = some y := by
  obtain ⟨cs, rfl, hsz⟩ := okWide_struct ht hv
  obtain ⟨fuel, hf⟩ := h
  obtain ⟨ys, n', _, _, hlen, hyl, hf'⟩ := DataW.trod_struct ht hf
  have hcs : (Value.agg cs).cells.toList = cs.toList := by simp [Value.cells]
  rw [hcs] at hlen hf'
  refine ⟨cs.toList, by simp, by omega, fun j f hj => ?_⟩
  obtain ⟨ho, hk⟩ := hone_of hone j f hj
  have hjl : j < fs.size := (Array.getElem?_eq_some_iff.1 hj).1
  have h1 := hf' j f hj
  rw [ho, hk] at h1
  have hys : ys[j]? = some (ys[j]'(by omega)) := List.getElem?_eq_getElem (by omega)
  rw [hys] at h1
  have hjc : j < cs.toList.length := by omega
  have hone' : (cs.toList.drop j).take 1 = [cs.toList[j]] := by
    rw [List.drop_eq_getElem_cons hjc]
    rfl
  rw [hone'] at h1
  exact ⟨_, _, n', List.getElem?_eq_getElem hjc, h1⟩
end

end Go.Proofs.Ytiknjkkphdncfaa
