/-
  AN ARGUMENT OPENED: a pack in levels. Printed by gen_uop.py.
-/
import Derived.Test.YtjflcijiaennkaaDoorRop
import Derived.Test.YtjflcijiaennkaaDoorRcl
import Derived.Test.YtjflcijiaennkaaDoorUlF
set_option linter.unusedVariables false
set_option linter.unusedSimpArgs false
namespace Go.Proofs.YtjflcijiaennkaaDoor
open Go.RowKit Go.ChangeShapes Go.WideShapes Go.ChangeAt Go.Deep

def LvOk (W : World) (q : LvV) : Prop := q.h < 18446744073709551616 ∧ q.l < 18446744073709551616 ∧ Byt q.B ∧ Sla .u8 W q.bv q.B
set_option maxRecDepth 100000 in
set_option maxHeartbeats 4000000 in
theorem lvRow_of {H : Type} {enc : TypeId × Value → H} {W : World} {row : List Value}
    (h : row.length = 3 ∧ ∃ (z : DataW H × List MemPlace) (m : Nat), DataW.trod enc Tryd.prog W 0 (fun _ => true) true m 44 row = some z) :
    ∃ q : LvV, row = q.row ∧ LvOk W q := by
  obtain ⟨hl, z, m, hf⟩ := h
  obtain ⟨ys, n', _, _, hlen, hyl, hf'⟩ := DataW.trod_struct Tryd.underlying44 hf
  have hy : ys.length = 2 := hyl
  match row, hl with
  | [c0, c1, c2], _ =>
    have g0 := (hf' 0 _ rfl).trans (List.getElem?_eq_getElem (show 0 < ys.length by omega))
    rw [show Tryd.prog.cellsOf _ = 2 from by kernel_rfl] at g0
    change DataW.trod enc Tryd.prog W 0 (fun _ => true) true n' _ [c0, c1] = _ at g0
    obtain ⟨ms, mn, _, _, mlen, myl, mf⟩ := DataW.trod_struct Tryd.underlying42 g0
    have my : ms.length = 2 := myl
    have m0 := (mf 0 _ rfl).trans (List.getElem?_eq_getElem (show 0 < ms.length by omega))
    rw [show Tryd.prog.cellsOf _ = 1 from by kernel_rfl] at m0
    change DataW.trod enc Tryd.prog W 0 (fun _ => true) true mn _ [c0] = _ at m0
    obtain ⟨y9, e9, _, w9⟩ := DataW.trod_int Tryd.underlying40 m0
    obtain ⟨z9, rfl, r9⟩ := u64_wf w9
    obtain rfl : c0 = .int .u64 (z9 : Int) := by simpa using e9
    have m1 := (mf 1 _ rfl).trans (List.getElem?_eq_getElem (show 1 < ms.length by omega))
    rw [show Tryd.prog.cellsOf _ = 1 from by kernel_rfl] at m1
    change DataW.trod enc Tryd.prog W 0 (fun _ => true) true mn _ [c1] = _ at m1
    obtain ⟨y10, e10, _, w10⟩ := DataW.trod_int Tryd.underlying40 m1
    obtain ⟨z10, rfl, r10⟩ := u64_wf w10
    obtain rfl : c1 = .int .u64 (z10 : Int) := by simpa using e10
    have g1 := (hf' 1 _ rfl).trans (List.getElem?_eq_getElem (show 1 < ys.length by omega))
    rw [show Tryd.prog.cellsOf _ = 1 from by kernel_rfl] at g1
    change DataW.trod enc Tryd.prog W 0 (fun _ => true) true n' _ [c2] = _ at g1
    obtain ⟨a, c', zs, rfl, l1, l2, hn, hr, hw⟩ := sl_cell Tryd.underlying22 Tryd.underlying5 (by kernel_rfl) g1
    exact ⟨⟨z9, z10, .slice a zs.length c', zs⟩, rfl, r9, r10, u8s_wf hw, a, c', rfl, hr, hn, l1, by unfold maxLen at l2; omega⟩
set_option maxRecDepth 100000 in
set_option maxHeartbeats 4000000 in
theorem ul_open {H : Type} {enc : TypeId × Value → H} {W : World} {base : Nat} {v : Value} {d : DataW H} {p : List MemPlace} (hv : Value.okWide Tryd.prog W .any base 29 v) (h : DataW.Trod enc Tryd.prog W 0 (fun _ => true) true 29 v d p) :
    ∃ (x : Ul) (a : Option Addr) (c : Nat) (qs : List LvV), v = x.val (.slice a qs.length c) ∧ qs.map LvV.lv = x.Ls ∧ x.Ok ∧ RdLs W a qs ∧ (a = none → c = 0) ∧ qs.length ≤ c ∧ c ≤ maxLen := by
  obtain ⟨cs, rfl, hsz⟩ := okWide_struct Tryd.underlying29 hv
  obtain ⟨fuel, hf⟩ := h
  obtain ⟨ys, n', _, _, hlen, hyl, hf'⟩ := DataW.trod_struct Tryd.underlying29 hf
  obtain ⟨l, rfl⟩ : ∃ l : List Value, cs = l.toArray := ⟨cs.toList, by simp⟩
  have hcs : (Value.agg l.toArray).cells.toList = l := by simp [Value.cells]
  rw [hcs] at hlen hf'
  have hl : l.length = 11 := hlen.trans (by kernel_rfl)
  have hy : ys.length = 4 := hyl
  match l, hl with
  | [c0, c1, c2, c3, c4, c5, c6, c7, c8, c9, c10], _ =>
    have g0 := (hf' 0 _ rfl).trans (List.getElem?_eq_getElem (show 0 < ys.length by omega))
    rw [show Tryd.prog.cellsOf _ = 8 from by kernel_rfl] at g0
    change DataW.trod enc Tryd.prog W 0 (fun _ => true) true n' _ [c0, c1, c2, c3, c4, c5, c6, c7] = _ at g0
    have b0 := trod_u8s Tryd.underlying25 Tryd.underlying5 (by kernel_rfl) g0
    obtain ⟨z0, e0, r0⟩ := b0 0 (by decide)
    obtain rfl : c0 = .int .u8 z0 := by simpa using e0
    obtain ⟨z1, e1, r1⟩ := b0 1 (by decide)
    obtain rfl : c1 = .int .u8 z1 := by simpa using e1
    obtain ⟨z2, e2, r2⟩ := b0 2 (by decide)
    obtain rfl : c2 = .int .u8 z2 := by simpa using e2
    obtain ⟨z3, e3, r3⟩ := b0 3 (by decide)
    obtain rfl : c3 = .int .u8 z3 := by simpa using e3
    obtain ⟨z4, e4, r4⟩ := b0 4 (by decide)
    obtain rfl : c4 = .int .u8 z4 := by simpa using e4
    obtain ⟨z5, e5, r5⟩ := b0 5 (by decide)
    obtain rfl : c5 = .int .u8 z5 := by simpa using e5
    obtain ⟨z6, e6, r6⟩ := b0 6 (by decide)
    obtain rfl : c6 = .int .u8 z6 := by simpa using e6
    obtain ⟨z7, e7, r7⟩ := b0 7 (by decide)
    obtain rfl : c7 = .int .u8 z7 := by simpa using e7
    have g1 := (hf' 1 _ rfl).trans (List.getElem?_eq_getElem (show 1 < ys.length by omega))
    rw [show Tryd.prog.cellsOf _ = 1 from by kernel_rfl] at g1
    change DataW.trod enc Tryd.prog W 0 (fun _ => true) true n' _ [c8] = _ at g1
    obtain ⟨z8, e8, _, w8⟩ := DataW.trod_int Tryd.underlying26 g1
    obtain rfl : c8 = .int .u16 z8 := by simpa using e8
    have r8 := u16_wf w8
    have g2 := (hf' 2 _ rfl).trans (List.getElem?_eq_getElem (show 2 < ys.length by omega))
    rw [show Tryd.prog.cellsOf _ = 1 from by kernel_rfl] at g2
    change DataW.trod enc Tryd.prog W 0 (fun _ => true) true n' _ [c9] = _ at g2
    obtain ⟨z9, e9, _⟩ := DataW.trod_bool Tryd.underlying4 g2
    obtain rfl : c9 = .bool z9 := by simpa using e9
    have g3 := (hf' 3 _ rfl).trans (List.getElem?_eq_getElem (show 3 < ys.length by omega))
    rw [show Tryd.prog.cellsOf _ = 1 from by kernel_rfl] at g3
    change DataW.trod enc Tryd.prog W 0 (fun _ => true) true n' _ [c10] = _ at g3
    obtain ⟨a, c', rows, rfl, l1, l2, hn, hr, hw⟩ := rows_cell Tryd.underlying27 (show Tryd.prog.cellsOf 44 = 3 from by kernel_rfl) (by decide) g3
    obtain ⟨qs, rfl, hq⟩ := exists_map (f := LvV.row) rows (fun r hr => lvRow_of (hw r hr))
    rw [List.length_map] at l1
    refine ⟨⟨z0, z1, z2, z3, z4, z5, z6, z7, z8, z9, qs.map LvV.lv⟩, a, c', qs, by rw [List.length_map]; rfl, rfl, ⟨r0, r1, r2, r3, r4, r5, r6, r7, r8, fun Lx hLx => ?_⟩, ⟨hr, fun q h => (hq q h).2.2.2⟩, hn, l1, l2⟩
    obtain ⟨q, hqm, rfl⟩ := List.mem_map.1 hLx
    exact ⟨(hq q hqm).1, (hq q hqm).2.1, (hq q hqm).2.2.1⟩

end Go.Proofs.YtjflcijiaennkaaDoor
