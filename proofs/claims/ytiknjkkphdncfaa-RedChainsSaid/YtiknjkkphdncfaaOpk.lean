/-
  A PACKET THAT WAS HANDED IN, opened.
-/
import Derived.Test.YtiknjkkphdncfaaOst
import Derived.Test.YtiknjkkphdncfaaOt
import Derived.Test.YtiknjkkphdncfaaPkt
import Derived.Test.YtiknjkkphdncfaaStP
set_option linter.unusedVariables false
set_option linter.unusedSimpArgs false
namespace Go.Proofs.Ytiknjkkphdncfaa
open Go.RowKit Go.ChangeShapes Go.WideShapes Go.Deep

theorem byt_wf {zs : List Int} (h : ∀ x ∈ zs, (Lit.int .u8 x).wf = true) : Byt zs := fun x hx => by simpa [Lit.wf, IntKind.min, IntKind.max, IntKind.bits, IntKind.signed] using h x hx
/-- The numbers of a packet are numbers of their kinds. -/
structure PpOk (x : Pp) : Prop where
  q : 0 ≤ x.seq ∧ x.seq ≤ 65535
  t : 0 ≤ x.ts ∧ x.ts ≤ 4294967295
  s : 0 ≤ x.ss ∧ x.ss ≤ 4294967295
  f : 0 ≤ x.pf ∧ x.pf ≤ 65535
  e : Byt x.E
  p : Byt x.P
  d : Byt x.D
theorem pkt_open {H : Type} {enc : TypeId × Value → H} {P : Program} {W : World} {base : Nat} {t : TypeId} {f0 f1 f2 f3 f4 f5 f6 f7 f8 f9 f10 : Field} {e5 e8 : TypeId} {v : Value} {d : DataW H} {p : List MemPlace}
    (ht : P.underlying t = some (.struct #[f0, f1, f2, f3, f4, f5, f6, f7, f8, f9, f10])) (hone : oneCellFields P #[f0, f1, f2, f3, f4, f5, f6, f7, f8, f9, f10] = true) (hC : P.cellsOf t = 11)
    (h0 : P.underlying f0.type = some .bool) (h1 : P.underlying f1.type = some (.int .i64)) (h2 : P.underlying f2.type = some (.int .u16)) (h3 : P.underlying f3.type = some (.int .u32)) (h4 : P.underlying f4.type = some (.int .u32))
    (h5 : P.underlying f5.type = some (.slice e5)) (h6 : P.underlying f6.type = some .bool) (h7 : P.underlying f7.type = some (.int .u16)) (h8 : P.underlying f8.type = some (.slice e8)) (h9 : P.underlying f9.type = some (.slice e8)) (h10 : P.underlying f10.type = some (.slice e8))
    (k5 : P.underlying e5 = some (.int .u32)) (k8 : P.underlying e8 = some (.int .u8)) (c5 : P.cellsOf e5 = 1) (c8 : P.cellsOf e8 = 1)
    (hv : Value.okWide P W .any base t v) (h : DataW.Trod enc P W 0 (fun _ => true) true t v d p) :
    ∃ q : Pk, v = .agg q.cells ∧ RdPk W q ∧ PpOk q.pl := by
  obtain ⟨cs, rfl, hl, hf⟩ := st_open ht hone (by rw [hC]; rfl) hv h
  obtain ⟨u0, y0, n0, r0, g0⟩ := hf 0 f0 rfl
  obtain ⟨u1, y1, n1, r1, g1⟩ := hf 1 f1 rfl
  obtain ⟨u2, y2, n2, r2, g2⟩ := hf 2 f2 rfl
  obtain ⟨u3, y3, n3, r3, g3⟩ := hf 3 f3 rfl
  obtain ⟨u4, y4, n4, r4, g4⟩ := hf 4 f4 rfl
  obtain ⟨u5, y5, n5, r5, g5⟩ := hf 5 f5 rfl
  obtain ⟨u6, y6, n6, r6, g6⟩ := hf 6 f6 rfl
  obtain ⟨u7, y7, n7, r7, g7⟩ := hf 7 f7 rfl
  obtain ⟨u8, y8, n8, r8, g8⟩ := hf 8 f8 rfl
  obtain ⟨u9, y9, n9, r9, g9⟩ := hf 9 f9 rfl
  obtain ⟨u10, y10, n10, r10, g10⟩ := hf 10 f10 rfl
  obtain ⟨x0, z0, _⟩ := DataW.trod_bool h0 g0
  obtain ⟨x1, z1, _, w1⟩ := DataW.trod_int h1 g1
  obtain ⟨x2, z2, _, w2⟩ := DataW.trod_int h2 g2
  obtain ⟨x3, z3, _, w3⟩ := DataW.trod_int h3 g3
  obtain ⟨x4, z4, _, w4⟩ := DataW.trod_int h4 g4
  obtain ⟨a5, c5', s5, rfl, l5, m5, b5, d5, w5⟩ := sl_cell h5 k5 c5 g5
  obtain ⟨x6, z6, _⟩ := DataW.trod_bool h6 g6
  obtain ⟨x7, z7, _, w7⟩ := DataW.trod_int h7 g7
  obtain ⟨a8, c8', s8, rfl, l8, m8, b8, d8, w8⟩ := sl_cell h8 k8 c8 g8
  obtain ⟨a9, c9, s9, rfl, l9, m9, b9, d9, w9⟩ := sl_cell h9 k8 c8 g9
  obtain ⟨a10, c10, s10, rfl, l10, m10, b10, d10, w10⟩ := sl_cell h10 k8 c8 g10
  simp at z0 z1 z2 z3 z4 z6 z7
  subst z0 z1 z2 z3 z4 z6 z7
  simp [Lit.wf, IntKind.min, IntKind.max, IntKind.bits, IntKind.signed] at w2 w3 w4 w7
  unfold maxLen at m5 m8 m9 m10
  match cs, hl with
  | [i0, i1, i2, i3, i4, i5, i6, i7, i8, i9, i10], _ =>
    simp at r0 r1 r2 r3 r4 r5 r6 r7 r8 r9 r10
    subst r0 r1 r2 r3 r4 r5 r6 r7 r8 r9 r10
    exact ⟨⟨⟨x0, x1, x2, x3, x4, s5, x6, x7, s8, s9, s10⟩, .slice a5 s5.length c5', .slice a8 s8.length c8', .slice a9 s9.length c9, .slice a10 s10.length c10⟩, rfl,
      ⟨⟨a5, c5', rfl, d5, b5, l5, by omega⟩, ⟨a8, c8', rfl, d8, b8, l8, by omega⟩, ⟨a9, c9, rfl, d9, b9, l9, by omega⟩, ⟨a10, c10, rfl, d10, b10, l10, by omega⟩⟩,
      ⟨⟨w2.1, by simp only; omega⟩, ⟨w3.1, by simp only; omega⟩, ⟨w4.1, by simp only; omega⟩, ⟨w7.1, by simp only; omega⟩, byt_wf w8, byt_wf w9, byt_wf w10⟩⟩

end Go.Proofs.Ytiknjkkphdncfaa
