/-
  ARGUMENTS OPENED: a pack, a repair. Printed by gen_fxop.py.
-/
import Derived.Test.YtjflcijiaennkaaDoorBa
import Derived.Test.YtjflcijiaennkaaDoorOt
import Derived.Test.YtjflcijiaennkaaDoorRpr
import Derived.Deep.Slices
import Derived.Deep.Fields
import Derived.ChangeSame
import Derived.OpenShut
set_option linter.unusedVariables false
set_option linter.unusedSimpArgs false
namespace Go.Proofs.YtjflcijiaennkaaDoor
open Go.RowKit Go.ChangeShapes Go.WideShapes Go.ChangeAt Go.Deep

section
variable {H : Type} {enc : TypeId × Value → H} {P : Program} {W : World} {base : Nat} {spare : MemPlace → Bool} {held : Bool}

theorem u8_wf {z : Int} (h : (Lit.int .u8 z).wf = true) : 0 ≤ z ∧ z ≤ 255 := by simpa [Lit.wf, IntKind.min, IntKind.max, IntKind.bits, IntKind.signed] using h
theorem u16_wf {z : Int} (h : (Lit.int .u16 z).wf = true) : 0 ≤ z ∧ z ≤ 65535 := by simpa [Lit.wf, IntKind.min, IntKind.max, IntKind.bits, IntKind.signed] using h
theorem i64_wf {z : Int} (h : (Lit.int .i64 z).wf = true) : -9223372036854775808 ≤ z ∧ z ≤ 9223372036854775807 := by simpa [Lit.wf, IntKind.min, IntKind.max, IntKind.bits, IntKind.signed] using h
theorem u64_wf {z : Int} (h : (Lit.int .u64 z).wf = true) : ∃ k : Nat, z = (k : Int) ∧ k < 18446744073709551616 := by
  have h2 : 0 ≤ z ∧ z ≤ 18446744073709551615 := by simpa [Lit.wf, IntKind.min, IntKind.max, IntKind.bits, IntKind.signed] using h
  exact ⟨z.toNat, by omega, by omega⟩
theorem u8s_wf {zs : List Int} (h : ∀ x ∈ zs, (Lit.int .u8 x).wf = true) : Byt zs := fun x hx => u8_wf (h x hx)
theorem trod_u8s {n m : Nat} {t e : TypeId} {cs : List Value} {y : DataW H × List MemPlace} (ht : P.underlying t = some (.array n e)) (he : P.underlying e = some (.int .u8)) (hc : P.cellsOf e = 1)
    (h : DataW.trod enc P W 0 (fun _ => true) true m t cs = some y) : ∀ i, i < n → ∃ z, (cs.drop i).take 1 = [.int .u8 z] ∧ 0 ≤ z ∧ z ≤ 255 := by
  obtain ⟨xs, m', _, _, _, hx, hi⟩ := DataW.trod_array ht h
  intro i hin
  have h1 := hi i hin
  rw [hc, Nat.mul_one, List.getElem?_eq_getElem (by omega)] at h1
  obtain ⟨z, h2, _, h3⟩ := DataW.trod_int he h1
  exact ⟨z, h2, u8_wf h3⟩
end
set_option maxRecDepth 100000 in
set_option maxHeartbeats 4000000 in
theorem rp_open {H : Type} {enc : TypeId × Value → H} {W : World} {base : Nat} {v : Value} {d : DataW H} {p : List MemPlace} (hv : Value.okWide Tryd.prog W .any base 53 v) (h : DataW.Trod enc Tryd.prog W 0 (fun _ => true) true 53 v d p) :
    ∃ (x : Rp) (a : Option Addr) (c : Nat), v = x.val (.slice a x.B.length c) ∧ x.Ok ∧ RdI .u8 W a x.B ∧ (a = none → c = 0) ∧ x.B.length ≤ c ∧ c ≤ maxLen := by
  obtain ⟨cs, rfl, hsz⟩ := okWide_struct Tryd.underlying53 hv
  obtain ⟨fuel, hf⟩ := h
  obtain ⟨ys, n', _, _, hlen, hyl, hf'⟩ := DataW.trod_struct Tryd.underlying53 hf
  obtain ⟨l, rfl⟩ : ∃ l : List Value, cs = l.toArray := ⟨cs.toList, by simp⟩
  have hcs : (Value.agg l.toArray).cells.toList = l := by simp [Value.cells]
  rw [hcs] at hlen hf'
  have hl : l.length = 12 := hlen.trans (by kernel_rfl)
  have hy : ys.length = 5 := hyl
  match l, hl with
  | [c0, c1, c2, c3, c4, c5, c6, c7, c8, c9, c10, c11], _ =>
    have g0 := (hf' 0 _ rfl).trans (List.getElem?_eq_getElem (show 0 < ys.length by omega))
    rw [show Tryd.prog.cellsOf _ = 8 from by kernel_rfl] at g0
    change DataW.trod enc Tryd.prog W 0 (fun _ => true) true n' _ [c0, c1, c2, c3, c4, c5, c6, c7] = _ at g0
    have b0 := trod_u8s Tryd.underlying25 Tryd.underlying5 (by kernel_rfl) g0
    obtain ⟨z0, e0, r0⟩ := b0 0 (by decide)
    obtain rfl : c0 = .int .u8 z0 := by simpa using e0
    obtain ⟨z1, e1, r1⟩ := b0 1 (by decide)
    obtain rfl : c1 = .int .u8 z1 := by simpa using e1
    obtain ⟨z2, e2, r2⟩ := b0 2 (by decide)
    obtain rfl : c2 = .int .u8 z2 := by simpa using e2
    obtain ⟨z3, e3, r3⟩ := b0 3 (by decide)
    obtain rfl : c3 = .int .u8 z3 := by simpa using e3
    obtain ⟨z4, e4, r4⟩ := b0 4 (by decide)
    obtain rfl : c4 = .int .u8 z4 := by simpa using e4
    obtain ⟨z5, e5, r5⟩ := b0 5 (by decide)
    obtain rfl : c5 = .int .u8 z5 := by simpa using e5
    obtain ⟨z6, e6, r6⟩ := b0 6 (by decide)
    obtain rfl : c6 = .int .u8 z6 := by simpa using e6
    obtain ⟨z7, e7, r7⟩ := b0 7 (by decide)
    obtain rfl : c7 = .int .u8 z7 := by simpa using e7
    have g1 := (hf' 1 _ rfl).trans (List.getElem?_eq_getElem (show 1 < ys.length by omega))
    rw [show Tryd.prog.cellsOf _ = 1 from by kernel_rfl] at g1
    change DataW.trod enc Tryd.prog W 0 (fun _ => true) true n' _ [c8] = _ at g1
    obtain ⟨z8, e8, _, w8⟩ := DataW.trod_int Tryd.underlying26 g1
    obtain rfl : c8 = .int .u16 z8 := by simpa using e8
    have r8 := u16_wf w8
    have g2 := (hf' 2 _ rfl).trans (List.getElem?_eq_getElem (show 2 < ys.length by omega))
    rw [show Tryd.prog.cellsOf _ = 1 from by kernel_rfl] at g2
    change DataW.trod enc Tryd.prog W 0 (fun _ => true) true n' _ [c9] = _ at g2
    obtain ⟨y9, e9, _, w9⟩ := DataW.trod_int Tryd.underlying40 g2
    obtain ⟨z9, rfl, r9⟩ := u64_wf w9
    obtain rfl : c9 = .int .u64 (z9 : Int) := by simpa using e9
    have g3 := (hf' 3 _ rfl).trans (List.getElem?_eq_getElem (show 3 < ys.length by omega))
    rw [show Tryd.prog.cellsOf _ = 1 from by kernel_rfl] at g3
    change DataW.trod enc Tryd.prog W 0 (fun _ => true) true n' _ [c10] = _ at g3
    obtain ⟨y10, e10, _, w10⟩ := DataW.trod_int Tryd.underlying40 g3
    obtain ⟨z10, rfl, r10⟩ := u64_wf w10
    obtain rfl : c10 = .int .u64 (z10 : Int) := by simpa using e10
    have g4 := (hf' 4 _ rfl).trans (List.getElem?_eq_getElem (show 4 < ys.length by omega))
    rw [show Tryd.prog.cellsOf _ = 1 from by kernel_rfl] at g4
    change DataW.trod enc Tryd.prog W 0 (fun _ => true) true n' _ [c11] = _ at g4
    obtain ⟨a, c', zs, rfl, l1, l2, hn, hr, hw⟩ := sl_cell Tryd.underlying22 Tryd.underlying5 (by kernel_rfl) g4
    exact ⟨⟨z0, z1, z2, z3, z4, z5, z6, z7, z8, z9, z10, zs⟩, a, c', rfl, ⟨r0, r1, r2, r3, r4, r5, r6, r7, r8, r9, r10, u8s_wf hw⟩, hr, hn, l1, l2⟩

end Go.Proofs.YtjflcijiaennkaaDoor
