/-
  THE WALK of link's example. Printed by gen_liq.py.
-/
import Derived.Test.YtekjpkppfcmjdaaLiO
import Derived.Lib.SlBytesConst
set_option linter.unusedVariables false
set_option linter.unusedSimpArgs false
namespace Go.Proofs.Ytekjpkppfcmjdaa
open Go.RowKit

def exC : List Int := [5, 3, 0, 4, 7]
def exX : List (List Int) := [[97], [98], [99], [100], [101]]
theorem exX_le : ∀ z ∈ exX, z.length ≤ 1000000 := by unfold exX; simp
theorem rd_mark (w : World) (x : Int) (t : TypeId) (m : Nat × Nat) : RdI .u8 (w.alloc (.cells #[.int .u8 x] t m)) (some ⟨w.heap.size, 0, none⟩) [x] := fun i y hy => ⟨w.heap.size, 0, rfl, by simp, by
  rw [Nat.zero_add, World.cell?_alloc_mark]
  match i, hy with
  | 0, hy => simp at hy; subst hy; rfl
  | i + 1, hy => simp at hy⟩
theorem map_one {os : List Yt} {z : List Int} (h : os.map Yt.zs = [z]) : ∃ y, os = [y] ∧ y.zs = z := by
  match os, h with
  | [y], h => exact ⟨y, rfl, by simpa using h⟩
theorem map_two {os : List Yt} {z z' : List Int} (h : os.map Yt.zs = [z, z']) : ∃ y y', os = [y, y'] ∧ y.zs = z ∧ y'.zs = z' := by
  match os, h with
  | [y, y'], h => exact ⟨y, y', rfl, by simpa using h⟩
theorem map_nil {os : List Yt} (h : os.map Yt.zs = []) : os = [] := by simpa using h
/-- The first of a row of byte strings. -/
theorem first_ys {w : World} {v : Value} {bs : List Yt} (h : (ysR v bs).P w) (hb : (bodsR bs).P w) {b : Yt} (h0 : bs[0]? = some b) :
    ∃ g off p c cc, v = .slice (some ⟨g, off, none⟩) bs.length cc ∧ w.cell? ⟨g, off, none⟩ = some (.slice p b.zs.length c) ∧ RdI .u8 w p b.zs := by
  obtain ⟨a, cc, hv, _, _, hr⟩ := ys_rd h hb
  obtain ⟨g, off, p, c, rfl, hc, _, r, _⟩ := hr.at_ h0
  exact ⟨g, off, p, c, cc, hv, by rw [Nat.add_zero] at hc; exact hc, r⟩
theorem str_one {w : World} {p : Option Addr} {c : Nat} {x : Int} (h : RdI .u8 w p [x]) : (convert 28 9 (.slice p 1 c)).run Try.prog w = .ok (.string (strOfNums [x])) w := str_rd (c := c) h
theorem ex97 : strOfNums [97] = ⟨#[97]⟩ := by kernel_rfl
theorem ex99 : strOfNums [99] = ⟨#[99]⟩ := by kernel_rfl
theorem ex101 : strOfNums [101] = ⟨#[101]⟩ := by kernel_rfl

set_option maxRecDepth 100000 in
set_option maxHeartbeats 16000000 in
theorem alive_c (w : World) : Calls Try.prog 6 #[] w fun e w' => e = .returned (.bool true) ∧ Frm [] w w' := by
  have kc := fun (w : World) (C : Array Value) (n c : Nat) => Lib.run_convert_bytes_const (P := Try.prog) w 28 5 C n c Try.underlying28 Try.underlying5
  have HS0 := Lib.hid ((Sep.init w).alloc #[.int .i64 5, .int .i64 3, .int .i64 0, .int .i64 4, .int .i64 7] 3)
  go_enter Try.func6, Try.ntmps6
  have HN := Lib.hid (show Calls Try.prog 8 #[.slice (some ⟨w.heap.size, 0, none⟩) 5 5] _ _ from new_c (some ⟨w.heap.size, 0, none⟩) 5 exC _ (RdI.of_blk (HS0.out.blk 0 rfl) rfl) (fun h => by cases h) (by decide))
  go_wp2_with fail
  refine HN.out.mono ?_
  rintro e w1 ⟨p, vc, rfl, hS1⟩
  have HS1 := Lib.hid (show Sep [] w w1 (lkN p vc (.slice none 0 0) exC exX 0 [] []) from by
    have h0 : Sep [] w w1 [_, _, _] := HS0.out.more hS1
    have h1 := (Sep.gather1 (rs := []) h0).nil 51 2
    exact Sep.mix (A := [_, _, _, _, _]) (L := []) h1 [2, 3, 0, 1] (by decide) rfl)
  clear hS1 HN HS0
  have HP := Lib.hid (step_c (S := []) (w0 := w) p vc (.slice none 0 0) exC exX 0 [] (L := []) (HS1.out.skip (.cells #[.int .u8 97] 5 (1, 2))) (rfl) exX_le (by decide) (some ⟨w1.heap.size, 0, none⟩) 1 [97] rfl (rd_mark w1 97 5 (1, 2)) (fun h => by cases h))
  go_wp2_with fail
  refine HP.out.mono ?_
  rintro e w2 ⟨v0, vw0, ws0, os0, rfl, ho0, hw0, hS⟩
  obtain rfl := map_nil (ho0.trans (show oAt exC exX 0 = [] from rfl))
  obtain ⟨a0, c0, hv0, -, -⟩ := own_shape (hS.own 0 rfl)
  replace hv0 : v0 = .slice a0 0 c0 := hv0
  subst hv0
  have HS2 := Lib.hid (show Sep [] w w2 (lkN p vc vw0 exC exX 1 ws0 [ysR (.slice a0 0 c0) ([] : List Yt), bodsR ([] : List Yt)]) from Sep.mix (A := [_, _, _, _, _, _]) (L := []) hS [2, 3, 4, 5, 0, 1] (by decide) rfl)
  have HW0 := Lib.hid hw0
  clear hS HP HS1 ho0 hw0
  have HP := Lib.hid (step_c (S := []) (w0 := w) p vc (vw0) exC exX 1 ws0 (L := [ysR (.slice a0 0 c0) ([] : List Yt), bodsR ([] : List Yt)]) (HS2.out.skip (.cells #[.int .u8 98] 5 (1, 2))) (HW0.out) exX_le (by decide) (some ⟨w2.heap.size, 0, none⟩) 1 [98] rfl (rd_mark w2 98 5 (1, 2)) (fun h => by cases h))
  go_wp2_with fail
  refine HP.out.mono ?_
  rintro e w3 ⟨v1, vw1, ws1, os1, rfl, ho1, hw1, hS⟩
  obtain ⟨y1, rfl, hy1⟩ := map_one (ho1.trans (show oAt exC exX 1 = [[97]] from rfl))
  obtain ⟨a1, c1, hv1, -, -⟩ := own_shape (hS.own 0 rfl)
  replace hv1 : v1 = .slice a1 1 c1 := hv1
  subst hv1
  have HS3 := Lib.hid (show Sep [] w w3 (lkN p vc vw1 exC exX 2 ws1 [ysR (.slice a1 1 c1) [y1], bodsR [y1], ysR (.slice a0 0 c0) ([] : List Yt), bodsR ([] : List Yt)]) from Sep.mix (A := [_, _, _, _, _, _, _, _]) (L := []) hS [2, 3, 4, 5, 0, 1, 6, 7] (by decide) rfl)
  have HW1 := Lib.hid hw1
  clear hS HP HS2 ho1 hw1
  have HP := Lib.hid (step_c (S := []) (w0 := w) p vc (vw1) exC exX 2 ws1 (L := [ysR (.slice a1 1 c1) [y1], bodsR [y1], ysR (.slice a0 0 c0) ([] : List Yt), bodsR ([] : List Yt)]) (HS3.out.skip (.cells #[.int .u8 99] 5 (1, 2))) (HW1.out) exX_le (by decide) (some ⟨w3.heap.size, 0, none⟩) 1 [99] rfl (rd_mark w3 99 5 (1, 2)) (fun h => by cases h))
  go_wp2_with fail
  refine HP.out.mono ?_
  rintro e w4 ⟨v2, vw2, ws2, os2, rfl, ho2, hw2, hS⟩
  obtain ⟨y2, rfl, hy2⟩ := map_one (ho2.trans (show oAt exC exX 2 = [[99]] from rfl))
  obtain ⟨a2, c2, hv2, -, -⟩ := own_shape (hS.own 0 rfl)
  replace hv2 : v2 = .slice a2 1 c2 := hv2
  subst hv2
  have HS4 := Lib.hid (show Sep [] w w4 (lkN p vc vw2 exC exX 3 ws2 [ysR (.slice a2 1 c2) [y2], bodsR [y2], ysR (.slice a1 1 c1) [y1], bodsR [y1], ysR (.slice a0 0 c0) ([] : List Yt), bodsR ([] : List Yt)]) from Sep.mix (A := [_, _, _, _, _, _, _, _, _, _]) (L := []) hS [2, 3, 4, 5, 0, 1, 6, 7, 8, 9] (by decide) rfl)
  have HW2 := Lib.hid hw2
  clear hS HP HS3 ho2 hw2
  have HP := Lib.hid (step_c (S := []) (w0 := w) p vc (vw2) exC exX 3 ws2 (L := [ysR (.slice a2 1 c2) [y2], bodsR [y2], ysR (.slice a1 1 c1) [y1], bodsR [y1], ysR (.slice a0 0 c0) ([] : List Yt), bodsR ([] : List Yt)]) (HS4.out.skip (.cells #[.int .u8 100] 5 (1, 2))) (HW2.out) exX_le (by decide) (some ⟨w4.heap.size, 0, none⟩) 1 [100] rfl (rd_mark w4 100 5 (1, 2)) (fun h => by cases h))
  go_wp2_with fail
  refine HP.out.mono ?_
  rintro e w5 ⟨v3, vw3, ws3, os3, rfl, ho3, hw3, hS⟩
  obtain ⟨y3, z3, rfl, hy3, hz3⟩ := map_two (ho3.trans (show oAt exC exX 3 = [[100], [100]] from rfl))
  obtain ⟨a3, c3, hv3, -, -⟩ := own_shape (hS.own 0 rfl)
  replace hv3 : v3 = .slice a3 2 c3 := hv3
  subst hv3
  have HS5 := Lib.hid (show Sep [] w w5 (lkN p vc vw3 exC exX 4 ws3 [ysR (.slice a3 2 c3) [y3, z3], bodsR [y3, z3], ysR (.slice a2 1 c2) [y2], bodsR [y2], ysR (.slice a1 1 c1) [y1], bodsR [y1], ysR (.slice a0 0 c0) ([] : List Yt), bodsR ([] : List Yt)]) from Sep.mix (A := [_, _, _, _, _, _, _, _, _, _, _, _]) (L := []) hS [2, 3, 4, 5, 0, 1, 6, 7, 8, 9, 10, 11] (by decide) rfl)
  have HW3 := Lib.hid hw3
  clear hS HP HS4 ho3 hw3
  have HP := Lib.hid (step_c (S := []) (w0 := w) p vc (vw3) exC exX 4 ws3 (L := [ysR (.slice a3 2 c3) [y3, z3], bodsR [y3, z3], ysR (.slice a2 1 c2) [y2], bodsR [y2], ysR (.slice a1 1 c1) [y1], bodsR [y1], ysR (.slice a0 0 c0) ([] : List Yt), bodsR ([] : List Yt)]) (HS5.out.skip (.cells #[.int .u8 101] 5 (1, 2))) (HW3.out) exX_le (by decide) (some ⟨w5.heap.size, 0, none⟩) 1 [101] rfl (rd_mark w5 101 5 (1, 2)) (fun h => by cases h))
  go_wp2_with fail
  refine HP.out.mono ?_
  rintro e w6 ⟨v4, vw4, ws4, os4, rfl, ho4, hw4, hS⟩
  obtain rfl := map_nil (ho4.trans (show oAt exC exX 4 = [] from rfl))
  obtain ⟨a4, c4, hv4, -, -⟩ := own_shape (hS.own 0 rfl)
  replace hv4 : v4 = .slice a4 0 c4 := hv4
  subst hv4
  have HS6 := Lib.hid (show Sep [] w w6 (lkN p vc vw4 exC exX 5 ws4 [ysR (.slice a4 0 c4) ([] : List Yt), bodsR ([] : List Yt), ysR (.slice a3 2 c3) [y3, z3], bodsR [y3, z3], ysR (.slice a2 1 c2) [y2], bodsR [y2], ysR (.slice a1 1 c1) [y1], bodsR [y1], ysR (.slice a0 0 c0) ([] : List Yt), bodsR ([] : List Yt)]) from Sep.mix (A := [_, _, _, _, _, _, _, _, _, _, _, _, _, _]) (L := []) hS [2, 3, 4, 5, 0, 1, 6, 7, 8, 9, 10, 11, 12, 13] (by decide) rfl)
  have HW4 := Lib.hid hw4
  clear hS HP HS5 ho4 hw4
  have hwl : ws4.length = 1 := by
    have h := congrArg List.length HW4.out
    unfold wsD at h
    rw [List.length_map] at h
    exact h.trans (by rfl)
  obtain ⟨aw, cw, hvw, -, -⟩ := own_shape (HS6.out.own 2 rfl)
  rw [hwl] at hvw
  have HWl := Lib.hid hwl
  clear hwl
  have HV := Lib.hid hvw
  have HWt := Lib.hid (show Calls Try.prog 15 #[.pointer (some ⟨p, 0, none⟩)] w6 _ from waiting_c p vc _ _ _ aw 1 cw (by rw [← hvw]; exact HS6.out))
  clear hvw
  go_wp2_with fail
  refine HWt.out.mono ?_
  rintro e x6 ⟨rfl, rfl⟩
  clear HWt
  have HE := Lib.hid (emp_c (S := []) (w0 := w) p vc vw4 exC exX 5 ws4 (L := [ysR (.slice a4 0 c4) ([] : List Yt), bodsR ([] : List Yt), ysR (.slice a3 2 c3) [y3, z3], bodsR [y3, z3], ysR (.slice a2 1 c2) [y2], bodsR [y2], ysR (.slice a1 1 c1) [y1], bodsR [y1], ysR (.slice a0 0 c0) ([] : List Yt), bodsR ([] : List Yt)]) HS6.out HW4.out exX_le (by decide))
  go_wp2_with fail
  refine HE.out.mono ?_
  rintro e w7 ⟨v5, os5, rfl, ho5, hS⟩
  obtain ⟨y5, rfl, hy5⟩ := map_one (ho5.trans (show (qAt exC exX 5).map Prod.fst = [[101]] from rfl))
  obtain ⟨a5, c5, hv5, -, -⟩ := own_shape (hS.own 0 rfl)
  replace hv5 : v5 = .slice a5 1 c5 := hv5
  subst hv5
  have HS7 := Lib.hid hS
  clear hS HE HS6 ho5 HWl HV
  have HCo := Lib.hid (counts_c p vc (.slice none 0 0) 5 1 5 (Sep.mix (A := [_, _, _]) HS7.out [2] (by decide) rfl))
  go_wp2_with fail
  refine HCo.out.mono ?_
  rintro e w8 ⟨rfl, hf⟩
  have HS8 := Lib.hid (HS7.out.keep hf)
  clear hf HCo HS7
  have HS9 := Lib.hid (HS8.out.alloc #[.int .i64 5, .int .i64 3] 3)
  have HLo := Lib.hid (show Calls Try.prog 20 #[.int .i64 3, .slice (some ⟨w8.heap.size, 0, none⟩) 2 2] _ _ from lost_c 3 (some ⟨w8.heap.size, 0, none⟩) 2 [5, 3] _ (RdI.of_blk (HS9.out.blk 0 rfl) rfl))
  go_wp2_with fail
  refine HLo.out.mono ?_
  rintro e w9 ⟨vl, rfl, hS⟩
  obtain ⟨gl, cl, hvl⟩ := ownk_some_addr (hS.own 0 rfl) (by decide)
  replace hvl : vl = .slice (some ⟨gl, 0, none⟩) 3 cl := hvl
  subst hvl
  have HS10 := Lib.hid (HS8.out.skip (.cells #[.int .i64 5, .int .i64 3] 3) |>.more hS)
  clear hS HLo HS9 HS8
  have HS11 := Lib.hid ((((HS10.out.alloc #[.int .u8 1] 5).alloc #[.int .u8 2] 5).alloc #[.slice (some ⟨w9.heap.size, 0, none⟩) 1 1, .slice (some ⟨w9.heap.size + 1, 0, none⟩) 1 1] 28).alloc #[.int .i64 5] 3)
  simp only [World.size_alloc] at HS11
  have HAp := Lib.hid (show Calls Try.prog 18 #[.slice (some ⟨w9.heap.size + 1 + 1, 0, none⟩) 2 2, .slice (some ⟨w9.heap.size + 1 + 1 + 1, 0, none⟩) 1 1] _ _ from apply_c (some ⟨w9.heap.size + 1 + 1, 0, none⟩) 2 [⟨.slice (some ⟨w9.heap.size, 0, none⟩) 1 1, [1]⟩, ⟨.slice (some ⟨w9.heap.size + 1, 0, none⟩) 1 1, [2]⟩] _ ⟨RdV.of_blk' (HS11.out.blk 1 rfl), fun b hb => by
      simp at hb
      rcases hb with rfl | rfl
      · exact ⟨some ⟨w9.heap.size, 0, none⟩, 1, rfl, RdI.of_blk (HS11.out.blk 3 rfl) rfl, (fun h => by cases h), by simp, by decide⟩
      · exact ⟨some ⟨w9.heap.size + 1, 0, none⟩, 1, rfl, RdI.of_blk (HS11.out.blk 2 rfl) rfl, (fun h => by cases h), by simp, by decide⟩⟩ (fun b hb => by simp at hb; rcases hb with rfl | rfl <;> simp) (by simp) (some ⟨w9.heap.size + 1 + 1 + 1, 0, none⟩) 1 [5] (RdI.of_blk (HS11.out.blk 0 rfl) rfl) (fun h => by cases h) (by decide))
  go_wp2_with fail
  refine HAp.out.mono ?_
  rintro e wA ⟨vA, osA, rfl, hoA, hS⟩
  obtain ⟨yA, zA, rfl, hyA, hzA⟩ := map_two (hoA.trans (show allO [5] [[1], [2]] 2 ++ (qAt [5] [[1], [2]] 2).map Prod.fst = [[2], [1]] from rfl))
  have HSA := Lib.hid (HS11.out.more hS)
  clear hS HAp HS11 HS10 hoA
  obtain ⟨gA, oA, pA, cA, dA, hvA, kA, rA⟩ := first_ys (b := yA) (HSA.out.get 0 rfl) (HSA.out.get 1 rfl) rfl
  replace hvA : vA = .slice (some ⟨gA, oA, none⟩) 2 dA := hvA
  subst hvA
  rw [hyA] at kA rA
  obtain ⟨hA, fA, rfl, -, mA⟩ := rA 0 2 rfl
  rw [Nat.add_zero] at mA
  obtain ⟨g1, o1, p1, d1, e1, hv1, k1, r1⟩ := first_ys (b := y1) (HSA.out.get 19 rfl) (HSA.out.get 20 rfl) rfl
  injection hv1 with hv1 hx1 hx2
  clear hx1 hx2
  subst hv1
  obtain ⟨g2, o2, p2, d2, e2, hv2, k2, r2⟩ := first_ys (b := y2) (HSA.out.get 17 rfl) (HSA.out.get 18 rfl) rfl
  injection hv2 with hv2 hx1 hx2
  clear hx1 hx2
  subst hv2
  obtain ⟨g5, o5, p5, d5, e5, hv5, k5, r5⟩ := first_ys (b := y5) (HSA.out.get 7 rfl) (HSA.out.get 8 rfl) rfl
  injection hv5 with hv5 hx1 hx2
  clear hx1 hx2
  subst hv5
  rw [hy1] at k1 r1
  rw [hy2] at k2 r2
  rw [hy5] at k5 r5
  have s1 := str_one (c := d1) r1
  have s2 := str_one (c := d2) r2
  have s5 := str_one (c := d5) r5
  rw [ex97] at s1
  rw [ex99] at s2
  rw [ex101] at s5
  have l0 := ownk_cell (HSA.out.own 6 rfl) (j := 0) rfl
  have l1 := ownk_cell (HSA.out.own 6 rfl) (j := 1) rfl
  replace l0 : wA.cell? ⟨gl, 0, none⟩ = some (.bool false) := l0
  replace l1 : wA.cell? ⟨gl, 1, none⟩ = some (.bool true) := l1
  replace k1 : wA.cell? ⟨g1, o1, none⟩ = some (.slice p1 1 d1) := k1
  replace k2 : wA.cell? ⟨g2, o2, none⟩ = some (.slice p2 1 d2) := k2
  replace k5 : wA.cell? ⟨g5, o5, none⟩ = some (.slice p5 1 d5) := k5
  replace kA : wA.cell? ⟨gA, oA, none⟩ = some (.slice (some ⟨hA, fA, none⟩) 1 cA) := kA
  have HWt := Lib.hid (waiting_c p vc _ _ _ none 0 0 (Sep.mix (A := [_, _, _, _, _, _, _, _, _, _]) HSA.out [9] (by decide) rfl))
  clear hyA hzA hy1 hy2 hy5 hy3 hz3 r1 r2 r5 rA
  go_wp2_with fail
  refine HWt.out.mono ?_
  rintro e xA ⟨rfl, rfl⟩
  go_wp2_with fail
  go_ret
  exact ⟨rfl, HSA.out.frm⟩

end Go.Proofs.Ytekjpkppfcmjdaa
