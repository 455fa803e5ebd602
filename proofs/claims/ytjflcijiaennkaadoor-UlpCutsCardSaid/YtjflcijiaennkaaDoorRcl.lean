/-
  A FIELD OR PARAMETER THAT IS A SLICE OF ELEMENTS OF SEVERAL CELLS, opened. No program is named here.
-/
import Derived.Test.YtjflcijiaennkaaDoorBa
set_option linter.unusedVariables false
set_option linter.unusedSimpArgs false
namespace Go.Proofs.YtjflcijiaennkaaDoor
open Go.ChangeShapes Go.WideShapes Go.ChangeAt Go.RowKit Go.Deep

section
variable {H : Type} {enc : TypeId × Value → H} {P : Program} {W : World}

theorem rows_cell {t e : TypeId} {k : Nat} {u : Value} {y : DataW H × List MemPlace} {n : Nat} (ht : P.underlying t = some (.slice e)) (hC : P.cellsOf e = k) (hpos : 0 < k)
    (h : DataW.trod enc P W 0 (fun _ => true) true n t [u] = some y) :
    ∃ (a : Option Addr) (cap : Nat) (rows : List (List Value)), u = .slice a rows.length cap ∧ rows.length ≤ cap ∧ cap ≤ maxLen ∧ (a = none → cap = 0) ∧ RdS k W a rows ∧
      ∀ row ∈ rows, row.length = k ∧ ∃ (z : DataW H × List MemPlace) (m : Nat), DataW.trod enc P W 0 (fun _ => true) true m e row = some z := by
  obtain ⟨d, p⟩ := y
  rcases open_slice ht h with ⟨hcs, _⟩ | ⟨x, len, c, m, n', D, Pl, hcs, _, hl, hm, hmm, _, hi⟩
  · simp at hcs
    subst hcs
    exact ⟨none, 0, [], rfl, Nat.le_refl _, Nat.zero_le _, fun _ => rfl, fun i row hr => by simp at hr, by simp⟩
  · simp at hcs
    subst hcs
    have hmm' : m = c := by simpa using hmm
    subst hmm'
    rw [hC] at hi
    have hrl : ((List.range len).map fun i => (W.cells? 0 (x.add (i * k)) k).getD []).length = len := by simp
    refine ⟨some x, m, (List.range len).map fun i => (W.cells? 0 (x.add (i * k)) k).getD [], by rw [hrl], by rw [hrl]; exact hl, hm, (fun h => by cases h), fun i row hr => ?_, fun row hr => ?_⟩
    · have hil : i < len := by
        have := (List.getElem?_eq_some_iff.1 hr).1
        simpa using this
      obtain ⟨cs', hc, _⟩ := hi i (by omega)
      obtain ⟨_, hcl, hat⟩ := World.cells?_some hc
      have hrow : row = cs' := by
        rw [List.getElem?_map, List.getElem?_range hil] at hr
        simp [hc] at hr
        exact hr.symm
      subst hrow
      obtain ⟨cs0, hc0, _⟩ := hi 0 (by omega)
      obtain ⟨_, hcl0, hat0⟩ := World.cells?_some hc0
      have h0 := hat0 0 hpos
      rw [List.getElem?_eq_getElem (by omega), Nat.zero_mul, Go.Deep.add_add] at h0
      obtain ⟨b, off, spot⟩ := x
      have hsp : spot = none := by simpa [Addr.add] using World.cell?_spot h0
      subst hsp
      have hbl : b < W.heap.size := by
        have := World.block_lt_of_cell? W _ h0
        simpa [Addr.add] using this
      refine ⟨b, off, rfl, hbl, fun j v hv => ?_⟩
      have hjl : j < k := by
        have := (List.getElem?_eq_some_iff.1 hv).1
        omega
      have h1 := hat j hjl
      rw [hv, Go.Deep.add_add] at h1
      have hadd : (⟨b, off, none⟩ : Addr).add (i * k + j) = ⟨b, off + i * k + j, none⟩ := by
        unfold Addr.add
        split
        · rename_i h0; rw [Nat.add_assoc, h0]; rfl
        · rw [Nat.add_assoc]
      rw [hadd] at h1
      exact h1
    · obtain ⟨i, hir, rfl⟩ := List.mem_map.1 hr
      have hil : i < len := List.mem_range.1 hir
      obtain ⟨cs', hc, ht'⟩ := hi i (by omega)
      obtain ⟨_, hcl, hat⟩ := World.cells?_some hc
      rw [hc]
      exact ⟨hcl, _, _, ht'⟩
end

end Go.Proofs.YtjflcijiaennkaaDoor
