/-
  The steps of budget's laws, opened.
-/
import Derived.Test.YtjmnbhcbgjigdaaOs
set_option linter.unusedVariables false
set_option linter.unusedSimpArgs false
namespace Go.Proofs.Ytjmnbhcbgjigdaa
open Go.RowKit Go.ChangeShapes Go.WideShapes

/-- A step of the laws, as cells. -/
def opRow (o : Int × Int) : List Value := [.int .i64 o.1, .int .i64 o.2]
theorem opRow_at {w : World} {a : Option Addr} {ops : List (Int × Int)} (h : RdS 2 w a (ops.map opRow)) (k : Nat) (hk : k < ops.length) :
    ∃ b off x y, a = some ⟨b, off, none⟩ ∧ b < w.heap.size ∧ w.cell? ⟨b, off + k * 2, none⟩ = some (.int .i64 x) ∧ w.cell? ⟨b, off + k * 2 + 1, none⟩ = some (.int .i64 y) ∧ ops[k]? = some (x, y) := by
  have he : ops[k]? = some ops[k] := List.getElem?_eq_getElem hk
  obtain ⟨b, off, ha, hb, hc⟩ := h k (opRow ops[k]) (by rw [List.getElem?_map, he]; rfl)
  exact ⟨b, off, ops[k].1, ops[k].2, ha, hb, by simpa using hc 0 _ rfl, hc 1 _ rfl, he⟩

/-- A row of two integers is a step. -/
theorem opRow_of {H : Type} {enc : TypeId × Value → H} {P : Program} {W : World} {f0 f1 : Field} {row : List Value} (h0 : P.underlying f0.type = some (.int .i64)) (h1 : P.underlying f1.type = some (.int .i64))
    (h : row.length = (#[f0, f1] : Array Field).size ∧ ∀ (j : Nat) (f : Field), (#[f0, f1] : Array Field)[j]? = some f → ∃ (u : Value) (y : DataW H × List MemPlace) (n : Nat), row[j]? = some u ∧ DataW.trod enc P W 0 (fun _ => true) true n f.type [u] = some y) :
    ∃ o : Int × Int, row = opRow o ∧ True := by
  obtain ⟨hl, hf⟩ := h
  obtain ⟨u0, y0, n0, r0, e0⟩ := hf 0 f0 rfl
  obtain ⟨u1, y1, n1, r1, e1⟩ := hf 1 f1 rfl
  obtain ⟨x0, g0, _, _⟩ := DataW.trod_int h0 e0
  obtain ⟨x1, g1, _, _⟩ := DataW.trod_int h1 e1
  simp at g0 g1
  subst g0 g1
  match row, hl with
  | [c0, c1], _ =>
    simp at r0 r1
    subst r0 r1
    exact ⟨(x0, x1), rfl, trivial⟩

end Go.Proofs.Ytjmnbhcbgjigdaa
