/-
  ARGUMENTS OPENED: slices of structs whose fields are one cell each.
-/
import Derived.Test.YtekjpkppfcmjdaaO
import Derived.Deep.Slices
import Derived.Deep.Fields
import Derived.ChangeSame
set_option linter.unusedVariables false
set_option linter.unusedSimpArgs false
namespace Go.Proofs.Ytekjpkppfcmjdaa
open Go.ChangeShapes Go.WideShapes Go.ChangeAt Go.RowKit Go.Deep

/-- The slice at a reads as rows of n cells each. -/
def RdS (n : Nat) (w : World) (a : Option Addr) (rows : List (List Value)) : Prop :=
  ∀ i row, rows[i]? = some row → ∃ b off, a = some ⟨b, off, none⟩ ∧ b < w.heap.size ∧ ∀ j v, row[j]? = some v → w.cell? ⟨b, off + i * n + j, none⟩ = some v
theorem RdS.below {n : Nat} {w w' : World} {a : Option Addr} {rows : List (List Value)} (h : RdS n w a rows) (hb : Below w.heap.size w w') : RdS n w' a rows := fun i row hr => by
  obtain ⟨b, off, ha, hl, hc⟩ := h i row hr
  exact ⟨b, off, ha, Nat.lt_of_lt_of_le hl hb.size, fun j v hv => (hb.cell (p := ⟨b, off + i * n + j, none⟩) hl).trans (hc j v hv)⟩

theorem exists_map {α β : Type} {f : α → β} {Q : α → Prop} : ∀ (rows : List β), (∀ r ∈ rows, ∃ o, r = f o ∧ Q o) → ∃ ops : List α, rows = ops.map f ∧ ∀ o ∈ ops, Q o
  | [], _ => ⟨[], rfl, by simp⟩
  | r :: rows, h => by
    obtain ⟨o, ho, hq⟩ := h r (by simp)
    obtain ⟨ops, hops, hQ⟩ := exists_map rows (fun r' hr' => h r' (by simp [hr']))
    refine ⟨o :: ops, by rw [List.map_cons, ← ho, ← hops], fun x hx => ?_⟩
    rcases List.mem_cons.1 hx with rfl | hx
    · exact hq
    · exact hQ x hx

section
variable {H : Type} {enc : TypeId × Value → H} {P : Program} {W : World} {base : Nat}

theorem sls_open {t e : TypeId} {fs : Array Field} {v : Value} {d : DataW H} {p : List MemPlace} (ht : P.underlying t = some (.slice e)) (he : P.underlying e = some (.struct fs))
    (hone : oneCellFields P fs = true) (hC : P.cellsOf e = fs.size) (hpos : 0 < fs.size) (hv : Value.okWide P W .any base t v) (h : DataW.Trod enc P W 0 (fun _ => true) true t v d p) :
    ∃ (a : Option Addr) (cap : Nat) (rows : List (List Value)), v = .slice a rows.length cap ∧ rows.length ≤ cap ∧ cap ≤ maxLen ∧ RdS fs.size W a rows ∧
      ∀ row ∈ rows, row.length = fs.size ∧ ∀ (j : Nat) (f : Field), fs[j]? = some f → ∃ (u : Value) (y : DataW H × List MemPlace) (n : Nat), row[j]? = some u ∧ DataW.trod enc P W 0 (fun _ => true) true n f.type [u] = some y := by
  obtain ⟨a, len, cap, rfl⟩ := okWide_slice ht hv
  obtain ⟨fuel, hf⟩ := h
  rcases open_slice ht hf with ⟨hcs, _⟩ | ⟨x, l, c, m, n, D, Pl, hcs, hb, hl, hm, hmm, hx, hi⟩
  · simp [Value.cells] at hcs
    obtain ⟨rfl, rfl, rfl⟩ := hcs
    exact ⟨none, 0, [], rfl, Nat.le_refl _, Nat.zero_le _, fun i row hr => by simp at hr, by simp⟩
  · simp [Value.cells] at hcs
    obtain ⟨rfl, rfl, rfl⟩ := hcs
    have hmm' : m = cap := by simpa using hmm
    subst hmm'
    have key : ∀ i, i < len → ∀ (j : Nat) (f : Field), fs[j]? = some f → ∃ (u : Value) (y : DataW H × List MemPlace) (k : Nat), W.cell? (x.add (i * fs.size + j)) = some u ∧ DataW.trod enc P W 0 (fun _ => true) true k f.type [u] = some y := by
      intro i him j f hj
      obtain ⟨cs', hc, ht'⟩ := hi i (by omega)
      rw [hC] at hc
      obtain ⟨ys, n', _, _, hlen, hyl, hf'⟩ := DataW.trod_struct he ht'
      obtain ⟨_, hcl, hat⟩ := World.cells?_some hc
      obtain ⟨ho, hk⟩ := hone_of hone j f hj
      have hjl : j < fs.size := (Array.getElem?_eq_some_iff.1 hj).1
      have hcell := hat j hjl
      have hv' : cs'[j]? = some (cs'[j]'(by omega)) := List.getElem?_eq_getElem (by omega)
      have h1 := hf' j f hj
      rw [ho, hk] at h1
      have hone' : (cs'.drop j).take 1 = [cs'[j]'(by omega)] := by
        rw [List.drop_eq_getElem_cons (by omega)]
        rfl
      rw [hone'] at h1
      have hys : ys[j]? = some (ys[j]'(by omega)) := List.getElem?_eq_getElem (by omega)
      exact ⟨_, _, n', by rw [← Go.Deep.add_add, hcell, hv'], h1.trans hys⟩
    have hrl : ((List.range len).map fun i => (List.range fs.size).map fun j => (W.cell? (x.add (i * fs.size + j))).getD undef).length = len := by simp
    refine ⟨some x, m, (List.range len).map fun i => (List.range fs.size).map fun j => (W.cell? (x.add (i * fs.size + j))).getD undef, by rw [hrl], by rw [hrl]; exact hl, hm, fun i row hr => ?_, fun row hr => ?_⟩
    · have hil : i < len := by
        have := (List.getElem?_eq_some_iff.1 hr).1
        simpa using this
      have hrow : row = (List.range fs.size).map fun j => (W.cell? (x.add (i * fs.size + j))).getD undef := by
        rw [List.getElem?_map, List.getElem?_range hil] at hr
        simpa using hr.symm
      have h0 : fs[0]? = some fs[0] := Array.getElem?_eq_getElem (by omega)
      obtain ⟨u0, _, _, hu0, _⟩ := key 0 (by omega) 0 _ h0
      obtain ⟨b, off, spot⟩ := x
      have hsp : spot = none := by simpa [Addr.add] using World.cell?_spot hu0
      subst hsp
      have hbl : b < W.heap.size := by
        have := World.block_lt_of_cell? W _ hu0
        simpa [Addr.add] using this
      refine ⟨b, off, rfl, hbl, fun j v hv => ?_⟩
      have hjl : j < fs.size := by
        have := (List.getElem?_eq_some_iff.1 hv).1
        rw [hrow] at this
        simpa using this
      obtain ⟨u, _, _, hu, _⟩ := key i hil j fs[j] (Array.getElem?_eq_getElem hjl)
      have hadd : (⟨b, off, none⟩ : Addr).add (i * fs.size + j) = ⟨b, off + i * fs.size + j, none⟩ := by
        unfold Addr.add
        split
        · rename_i h0; rw [Nat.add_assoc, h0]; rfl
        · rw [Nat.add_assoc]
      rw [hrow, List.getElem?_map, List.getElem?_range hjl] at hv
      simp only [Option.map_some] at hv
      rw [hadd] at hu hv
      rw [hu] at hv
      rw [hu]
      simpa using hv
    · obtain ⟨i, hir, rfl⟩ := List.mem_map.1 hr
      have hil : i < len := List.mem_range.1 hir
      refine ⟨by simp, fun j f hj => ?_⟩
      have hjl : j < fs.size := (Array.getElem?_eq_some_iff.1 hj).1
      obtain ⟨u, y, k, hu, hy⟩ := key i hil j f hj
      exact ⟨u, y, k, by rw [List.getElem?_map, List.getElem?_range hjl]; simp [hu], hy⟩
end

end Go.Proofs.Ytekjpkppfcmjdaa
