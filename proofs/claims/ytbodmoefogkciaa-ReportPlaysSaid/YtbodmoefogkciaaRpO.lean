/-
  The packets of report's laws, opened.
-/
import Derived.Test.YtbodmoefogkciaaOs
set_option linter.unusedVariables false
set_option linter.unusedSimpArgs false
namespace Go.Proofs.Ytbodmoefogkciaa
open Go.RowKit Go.ChangeShapes Go.WideShapes

/-- A packet that came. -/
structure One where
  seq : Int
  ts : Int
  now : Int
structure One.ok (o : One) : Prop where
  q0 : 0 ≤ o.seq
  q1 : o.seq ≤ 65535
  t0 : 0 ≤ o.ts
  t1 : o.ts ≤ 4294967295
  n0 : -9223372036854775808 ≤ o.now
  n1 : o.now ≤ 9223372036854775807
def oneRow (o : One) : List Value := [.int .u16 o.seq, .int .u32 o.ts, .int .i64 o.now]
theorem oneRow_at {w : World} {a : Option Addr} {ones : List One} (h : RdS 3 w a (ones.map oneRow)) (k : Nat) (hk : k < ones.length) :
    ∃ b off o, a = some ⟨b, off, none⟩ ∧ b < w.heap.size ∧ w.cell? ⟨b, off + k * 3, none⟩ = some (.int .u16 o.seq) ∧ w.cell? ⟨b, off + k * 3 + 1, none⟩ = some (.int .u32 o.ts) ∧ w.cell? ⟨b, off + k * 3 + 2, none⟩ = some (.int .i64 o.now) ∧ ones[k]? = some o := by
  have he : ones[k]? = some ones[k] := List.getElem?_eq_getElem hk
  obtain ⟨b, off, ha, hb, hc⟩ := h k (oneRow ones[k]) (by rw [List.getElem?_map, he]; rfl)
  exact ⟨b, off, ones[k], ha, hb, by simpa using hc 0 _ rfl, hc 1 _ rfl, hc 2 _ rfl, he⟩

theorem oneRow_of {H : Type} {enc : TypeId × Value → H} {P : Program} {W : World} {f0 f1 f2 : Field} {row : List Value} (h0 : P.underlying f0.type = some (.int .u16)) (h1 : P.underlying f1.type = some (.int .u32)) (h2 : P.underlying f2.type = some (.int .i64))
    (h : row.length = (#[f0, f1, f2] : Array Field).size ∧ ∀ (j : Nat) (f : Field), (#[f0, f1, f2] : Array Field)[j]? = some f → ∃ (u : Value) (y : DataW H × List MemPlace) (n : Nat), row[j]? = some u ∧ DataW.trod enc P W 0 (fun _ => true) true n f.type [u] = some y) :
    ∃ o : One, row = oneRow o ∧ o.ok := by
  obtain ⟨hl, hf⟩ := h
  obtain ⟨u0, y0, n0, r0, e0⟩ := hf 0 f0 rfl
  obtain ⟨u1, y1, n1, r1, e1⟩ := hf 1 f1 rfl
  obtain ⟨u2, y2, n2, r2, e2⟩ := hf 2 f2 rfl
  obtain ⟨x0, g0, _, w0⟩ := DataW.trod_int h0 e0
  obtain ⟨x1, g1, _, w1⟩ := DataW.trod_int h1 e1
  obtain ⟨x2, g2, _, w2⟩ := DataW.trod_int h2 e2
  simp at g0 g1 g2
  subst g0 g1 g2
  simp [Lit.wf, IntKind.min, IntKind.max, IntKind.bits, IntKind.signed] at w0 w1 w2
  match row, hl with
  | [c0, c1, c2], _ =>
    simp at r0 r1 r2
    subst r0 r1 r2
    exact ⟨⟨x0, x1, x2⟩, rfl, ⟨w0.1, w0.2, w1.1, w1.2, w2.1, w2.2⟩⟩

end Go.Proofs.Ytbodmoefogkciaa
