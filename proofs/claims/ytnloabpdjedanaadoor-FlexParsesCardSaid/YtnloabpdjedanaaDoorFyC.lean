/-
  THE WALK of the law FlexParses. Printed by gen_fyc.py.
-/
import Derived.Test.YtnloabpdjedanaaDoorFyR
import Derived.Test.YtnloabpdjedanaaDoorFxM
import Derived.Test.YtnloabpdjedanaaDoorFxX
import Derived.Test.YtnloabpdjedanaaDoorFop
set_option linter.unusedVariables false
set_option linter.unusedSimpArgs false
namespace Go.Proofs.YtnloabpdjedanaaDoor
open Go.RowKit

theorem pa_ok {zs : List Int} (hb : Byt zs) : (paX zs).Ok ∧ (paX zs).B.length ≤ 1500 := by
  by_cases hl : 1500 < zs.length
  · rw [show paX zs = Fx.none from if_pos hl]; exact ⟨exN_ok, by decide⟩
  · rw [paX_in hl]
    cases h : rdX zs with
    | error e => exact ⟨exN_ok, Nat.zero_le _⟩
    | ok x =>
      obtain ⟨h1, h2, h3, h4⟩ := rd_back hb (by omega) h
      refine ⟨h1, ?_⟩
      show x.B.length ≤ 1500
      have : x.B.length ≤ (byX x).length := by unfold byX; simp only [List.length_append]; omega
      omega

set_option maxRecDepth 100000 in
set_option maxHeartbeats 16000000 in
theorem flexParses_w (w : World) (hT : Tabs w) (a : Option Addr) (c : Nat) (zs : List Int) (rd : RdI .u8 w a zs) (hb : Byt zs) (lc : zs.length ≤ c) (mc : c ≤ 9223372036854775807) (hn : a = none → c = 0) :
    Calls Tryd.prog 3 #[.slice a zs.length c] w fun e w' => e = .returned (.bool true) ∧ Below w.heap.size w w' := by
  have HAl := Lib.hid (fun X (hX : Frm [] w X) => alive_c X (hT.frm hX (by simp)))
  have HCp := Lib.hid (fun X (hX : Frm [] w X) (hl : zs.length ≤ 1000000) => bcopy_c a c zs X (rd.below hX.below) hl)
  have HPa := Lib.hid (fun X ga ca (r : RdI .u8 X (some ⟨ga, 0, none⟩) zs) (h1 : zs.length ≤ ca) (h2 : ca ≤ 9223372036854775807) => Parse_c (W := X) r hb h1 h2 (fun h => by cases h))
  have HRp := Lib.hid (fun X (hX : Frm [] w X) => rParse_c (rd.below hX.below) hb lc mc hn)
  have HSb := Lib.hid (fun X ga ca (hX : Frm [] w X) (r : RdI .u8 X (some ⟨ga, 0, none⟩) zs) (hl : zs.length ≤ 1000000) => (by
    have h := bsame_c (some ⟨ga, 0, none⟩) a ca c zs zs X r (rd.below hX.below) hl hl
    rw [decide_eq_true rfl] at h
    exact h.mono (fun e w' ⟨h1, m, h2⟩ => ⟨h1, h2 ▸ (Frm.refl _ _).drewN m⟩) : Calls Tryd.prog 14 #[.slice (some ⟨ga, 0, none⟩) zs.length ca, .slice a zs.length c] X fun e w' => e = .returned (.bool true) ∧ Frm [] X w'))
  obtain ⟨hok, hlB⟩ := pa_ok hb
  obtain ⟨x, hx⟩ : ∃ x, x = paX zs := ⟨_, rfl⟩
  obtain ⟨E, hE⟩ : ∃ E, E = paE zs := ⟨_, rfl⟩
  rw [← hx, ← hE] at HPa HRp
  rw [← hx] at hok hlB
  have HAs := Lib.hid (fun X va n vc => as_c x va n vc X)
  have HSm := Lib.hid (fun X va vb vc vd (r1 : RdI .u8 X va x.B) (r2 : RdI .u8 X vb x.B) => (by
    have h := rsame_c x x va vb vc vd X hok hok r1 r2 (by omega) (by omega)
    rw [same_self] at h
    exact h : Calls Tryd.prog 12 #[x.val (.slice va x.B.length vc), x.val (.slice vb x.B.length vd)] X fun e w' => e = .returned (.bool true) ∧ Frm [] X w'))
  clear hx hE hok rd hT hb hn
  obtain ⟨xh0, xh1, xh2, xh3, xh4, xh5, xh6, xh7, xb, xh, xl, xfx, xL, xD, xB⟩ := x
  simp only [Fx.val, Fx.cells, ParseP] at *
  obtain ⟨nB, hnB⟩ : ∃ n, n = xB.length := ⟨_, rfl⟩
  rw [← hnB] at HSm hlB
  have HnB := Lib.hid hnB
  clear hnB
  have HS0 := Lib.hid (Sep.init w)
  go_enter Tryd.func3, Tryd.ntmps3
  go_wp2_with fail
  refine (HAl.out w (Frm.refl _ _)).mono ?_
  rintro e w1 ⟨rfl, hf⟩
  have HS1 := Lib.hid (HS0.out.keep hf)
  clear hf HS0 HAl
  by_cases h1 : 2000 < zs.length
  · have t1 : decide (2000 < (zs.length : Int)) = true := decide_eq_true (by omega)
    clear h1
    go_wp2_with fail
    go_ret
    exact ⟨rfl, HS1.out.frm.below⟩
  have t1 : decide (2000 < (zs.length : Int)) = false := decide_eq_false (by omega)
  have Hl := Lib.hid (show zs.length ≤ 1000000 by omega)
  clear h1
  go_wp2_with fail
  refine (HCp.out w1 HS1.out.frm Hl.out).mono ?_
  rintro e w2 ⟨gm, cm, rfl, hS⟩
  have HS2 := Lib.hid (HS1.out.more hS)
  obtain ⟨am, cm', hv, rm, _, lm, mm⟩ := sl_of (k := .u8) (hS.own 0 rfl)
  injection hv with hv1 _ hv3
  subst hv1 hv3
  have HRm := Lib.hid rm
  clear hS HS1 HCp t1 rm
  go_wp2_with fail
  refine (HPa.out w2 gm cm HRm.out lm mm).mono ?_
  rintro e w3 ⟨va, vn, vc, rfl, hS⟩
  simp only [Fx.val, Fx.cells]
  replace hS : Sep [] w2 w3 [sumR (.slice va vn vc) xB] := hS
  obtain ⟨va', vc', hv, hnc, hvn⟩ := own_shape (hS.own 0 rfl)
  injection hv with hv1 hv2 hv3
  subst hv1 hv2 hv3
  rw [← HnB.out] at hS hnc ⊢
  have HS3 := Lib.hid ((HS2.out.more hS).alloc #[.int .u8 xh0, .int .u8 xh1, .int .u8 xh2, .int .u8 xh3, .int .u8 xh4, .int .u8 xh5, .int .u8 xh6, .int .u8 xh7, .int .u16 xb, .int .u64 (xh : Int), .int .u64 (xl : Int), .bool xfx, .int .i64 xL, .int .i64 xD, .slice va nB vc] 31)
  clear hS HS2 HPa lm mm hnc hvn HRm
  go_upto_region 7 with fail
  obtain ⟨w4, hw4⟩ : ∃ x, x = w3.alloc (.cells #[.int .u8 xh0, .int .u8 xh1, .int .u8 xh2, .int .u8 xh3, .int .u8 xh4, .int .u8 xh5, .int .u8 xh6, .int .u8 xh7, .int .u16 xb, .int .u64 (xh : Int), .int .u64 (xl : Int), .bool xfx, .int .i64 xL, .int .i64 xD, .slice va nB vc] 31) := ⟨_, rfl⟩
  obtain ⟨p, hp⟩ : ∃ x, x = w3.heap.size := ⟨_, rfl⟩
  rw [← hw4, ← hp] at HS3
  rw [← hw4, ← hp]
  clear hw4 hp
  go_wp2_with fail
  refine (HRp.out w4 HS3.out.frm).mono ?_
  rintro e w5 ⟨vb, vn, vd, rfl, hS⟩
  simp only [Fx.val, Fx.cells]
  replace hS : Sep [] w4 w5 [sumR (.slice vb vn vd) xB] := hS
  obtain ⟨vb', vd', hv, hnc, hvn⟩ := own_shape (hS.own 0 rfl)
  injection hv with hv1 hv2 hv3
  subst hv1 hv2 hv3
  rw [← HnB.out] at hS ⊢
  have HS4 := Lib.hid ((HS3.out.more hS).alloc #[.int .u8 xh0, .int .u8 xh1, .int .u8 xh2, .int .u8 xh3, .int .u8 xh4, .int .u8 xh5, .int .u8 xh6, .int .u8 xh7, .int .u16 xb, .int .u64 (xh : Int), .int .u64 (xl : Int), .bool xfx, .int .i64 xL, .int .i64 xD, .slice vb nB vd] 36)
  clear hS HS3 HRp hnc hvn
  go_upto_region 8 with fail
  obtain ⟨w6, hw6⟩ : ∃ x, x = w5.alloc (.cells #[.int .u8 xh0, .int .u8 xh1, .int .u8 xh2, .int .u8 xh3, .int .u8 xh4, .int .u8 xh5, .int .u8 xh6, .int .u8 xh7, .int .u16 xb, .int .u64 (xh : Int), .int .u64 (xl : Int), .bool xfx, .int .i64 xL, .int .i64 xD, .slice vb nB vd] 36) := ⟨_, rfl⟩
  obtain ⟨q, hq⟩ : ∃ x, x = w5.heap.size := ⟨_, rfl⟩
  rw [← hw6, ← hq] at HS4
  rw [← hw6, ← hq]
  clear hw6 hq
  have HS4 := Lib.hid (show Sep [] w w6 [blkR q 36 #[.int .u8 xh0, .int .u8 xh1, .int .u8 xh2, .int .u8 xh3, .int .u8 xh4, .int .u8 xh5, .int .u8 xh6, .int .u8 xh7, .int .u16 xb, .int .u64 (xh : Int), .int .u64 (xl : Int), .bool xfx, .int .i64 xL, .int .i64 xD, .slice vb nB vd], sumR (.slice vb nB vd) xB, blkR p 31 #[.int .u8 xh0, .int .u8 xh1, .int .u8 xh2, .int .u8 xh3, .int .u8 xh4, .int .u8 xh5, .int .u8 xh6, .int .u8 xh7, .int .u16 xb, .int .u64 (xh : Int), .int .u64 (xl : Int), .bool xfx, .int .i64 xL, .int .i64 xD, .slice va nB vc], sumR (.slice va nB vc) xB, sumR (.slice (some ⟨gm, 0, none⟩) zs.length cm) zs] from HS4.out)
  have hee : (E != E) = false := by simp
  go_cut [35] (fun v wx => v = .bool false ∧ Frm [] w6 wx)
  case first =>
    refine region_segsP (G := []) [0, 1, 2, 3, 4, 6, 5, 7, 8, 9] [6, 0] (by decide) (by kernel_rfl) (by kernel_rfl) (by kernel_rfl) (by kernel_rfl) (by kernel_rfl) (by kernel_rfl) (by kernel_rfl) ?_
    simp only [remOf, List.filterMap_cons, List.filterMap_nil, List.getElem?_cons_zero, List.getElem?_cons_succ]
    have HSA := Lib.hid HS4.out.drew
    obtain ⟨x6, hx6⟩ : ∃ x, x = w6.drew := ⟨_, rfl⟩
    have HF6 := Lib.hid (show Frm [] w6 x6 from hx6 ▸ (Frm.refl _ _).drew)
    rw [← hx6] at HSA
    rw [← hx6]
    clear hx6
    have HR6 := Lib.hid (show RdI .u8 x6 va xB ∧ RdI .u8 x6 vb xB from by
      obtain ⟨a1, c1, e1, r1, _⟩ := sl_of (k := .u8) (HSA.out.own 3 rfl)
      obtain ⟨a2, c2, e2, r2, _⟩ := sl_of (k := .u8) (HSA.out.own 1 rfl)
      injection e1 with e1 _ _
      injection e2 with e2 _ _
      rw [e1, e2]
      exact ⟨r1, r2⟩)
    have n1 : Nonempty (Cls (fun v => Frm [] x6 v)) := ⟨⟨_, Frm.refl _ _⟩⟩
    have q0 := fun x : Cls (fun v => Frm [] x6 v) => (x.ok.blk (HSA.out.blk 2 rfl) (by simp)).cell 0 rfl
    have q1 := fun x : Cls (fun v => Frm [] x6 v) => (x.ok.blk (HSA.out.blk 2 rfl) (by simp)).cell 1 rfl
    have q2 := fun x : Cls (fun v => Frm [] x6 v) => (x.ok.blk (HSA.out.blk 2 rfl) (by simp)).cell 2 rfl
    have q3 := fun x : Cls (fun v => Frm [] x6 v) => (x.ok.blk (HSA.out.blk 2 rfl) (by simp)).cell 3 rfl
    have q4 := fun x : Cls (fun v => Frm [] x6 v) => (x.ok.blk (HSA.out.blk 2 rfl) (by simp)).cell 4 rfl
    have q5 := fun x : Cls (fun v => Frm [] x6 v) => (x.ok.blk (HSA.out.blk 2 rfl) (by simp)).cell 5 rfl
    have q6 := fun x : Cls (fun v => Frm [] x6 v) => (x.ok.blk (HSA.out.blk 2 rfl) (by simp)).cell 6 rfl
    have q7 := fun x : Cls (fun v => Frm [] x6 v) => (x.ok.blk (HSA.out.blk 2 rfl) (by simp)).cell 7 rfl
    have q8 := fun x : Cls (fun v => Frm [] x6 v) => (x.ok.blk (HSA.out.blk 2 rfl) (by simp)).cell 8 rfl
    have q9 := fun x : Cls (fun v => Frm [] x6 v) => (x.ok.blk (HSA.out.blk 2 rfl) (by simp)).cell 9 rfl
    have q10 := fun x : Cls (fun v => Frm [] x6 v) => (x.ok.blk (HSA.out.blk 2 rfl) (by simp)).cell 10 rfl
    have q11 := fun x : Cls (fun v => Frm [] x6 v) => (x.ok.blk (HSA.out.blk 2 rfl) (by simp)).cell 11 rfl
    have q12 := fun x : Cls (fun v => Frm [] x6 v) => (x.ok.blk (HSA.out.blk 2 rfl) (by simp)).cell 12 rfl
    have q13 := fun x : Cls (fun v => Frm [] x6 v) => (x.ok.blk (HSA.out.blk 2 rfl) (by simp)).cell 13 rfl
    have q14 := fun x : Cls (fun v => Frm [] x6 v) => (x.ok.blk (HSA.out.blk 2 rfl) (by simp)).cell 14 rfl
    have j0 := fun x : Cls (fun v => Frm [] x6 v) => (x.ok.blk (HSA.out.blk 0 rfl) (by simp)).cell 0 rfl
    have j1 := fun x : Cls (fun v => Frm [] x6 v) => (x.ok.blk (HSA.out.blk 0 rfl) (by simp)).cell 1 rfl
    have j2 := fun x : Cls (fun v => Frm [] x6 v) => (x.ok.blk (HSA.out.blk 0 rfl) (by simp)).cell 2 rfl
    have j3 := fun x : Cls (fun v => Frm [] x6 v) => (x.ok.blk (HSA.out.blk 0 rfl) (by simp)).cell 3 rfl
    have j4 := fun x : Cls (fun v => Frm [] x6 v) => (x.ok.blk (HSA.out.blk 0 rfl) (by simp)).cell 4 rfl
    have j5 := fun x : Cls (fun v => Frm [] x6 v) => (x.ok.blk (HSA.out.blk 0 rfl) (by simp)).cell 5 rfl
    have j6 := fun x : Cls (fun v => Frm [] x6 v) => (x.ok.blk (HSA.out.blk 0 rfl) (by simp)).cell 6 rfl
    have j7 := fun x : Cls (fun v => Frm [] x6 v) => (x.ok.blk (HSA.out.blk 0 rfl) (by simp)).cell 7 rfl
    have j8 := fun x : Cls (fun v => Frm [] x6 v) => (x.ok.blk (HSA.out.blk 0 rfl) (by simp)).cell 8 rfl
    have j9 := fun x : Cls (fun v => Frm [] x6 v) => (x.ok.blk (HSA.out.blk 0 rfl) (by simp)).cell 9 rfl
    have j10 := fun x : Cls (fun v => Frm [] x6 v) => (x.ok.blk (HSA.out.blk 0 rfl) (by simp)).cell 10 rfl
    have j11 := fun x : Cls (fun v => Frm [] x6 v) => (x.ok.blk (HSA.out.blk 0 rfl) (by simp)).cell 11 rfl
    have j12 := fun x : Cls (fun v => Frm [] x6 v) => (x.ok.blk (HSA.out.blk 0 rfl) (by simp)).cell 12 rfl
    have j13 := fun x : Cls (fun v => Frm [] x6 v) => (x.ok.blk (HSA.out.blk 0 rfl) (by simp)).cell 13 rfl
    have j14 := fun x : Cls (fun v => Frm [] x6 v) => (x.ok.blk (HSA.out.blk 0 rfl) (by simp)).cell 14 rfl
    unfold wpSegs
    simp only [List.take_succ_cons, List.take_zero, List.drop_succ_cons, List.drop_zero]
    repeat (go_big_quiet_step (rfl))
    refine wpQuiet_nil ?_
    refine only_step (fun K' hK => ?_)
    clear n1 q0 q1 q2 q3 q4 q5 q6 q7 q8 q9 q10 q11 q12 q13 q14 j0 j1 j2 j3 j4 j5 j6 j7 j8 j9 j10 j11 j12 j13 j14
    go_wp2_with fail
    refine (HAs.out _ va nB vc).mono ?_
    rintro e w7 ⟨rfl, hf⟩
    simp only [Fx.val, Fx.cells]
    have HF7 := Lib.hid hf
    clear hf
    go_wp2_with fail
    refine hK.out _ _ ⟨HF7.out, ?_⟩
    clear hK
    unfold wpSegs
    simp only [List.take_succ_cons, List.take_zero, List.drop_succ_cons, List.drop_zero]
    have n1 : Nonempty (Cls (fun v => Frm [] w7 v)) := ⟨⟨_, Frm.refl _ _⟩⟩
    repeat (go_big_quiet_step (rfl))
    refine wpQuiet_nil ?_
    refine only_step (fun K' hK => ?_)
    clear n1 
    go_wp2_with fail
    refine (HSm.out _ va vb vc vd (HR6.out.1.frm HF7.out (by simp)) (HR6.out.2.frm HF7.out (by simp))).mono ?_
    rintro e w8 ⟨rfl, hf⟩
    have HF8 := Lib.hid (HF7.out.trans hf)
    have HF78 := Lib.hid hf
    clear hf
    go_wp2_with fail
    refine hK.out _ _ ⟨HF78.out, ?_⟩
    clear hK
    have n1 : Nonempty (Cls (fun v => Frm [] w8 v)) := ⟨⟨_, Frm.refl _ _⟩⟩
    unfold wpSegs
    show wpQuiet _ _ _ _ [_, _] _
    repeat (go_big_quiet_step (rfl))
    refine wpQuiet_nil ?_
    clear n1
    refine NoPanic.normal ?_
    go_wp2_with fail
    go_meet
    exact ⟨rfl, HF6.out.trans HF8.out⟩
  obtain ⟨rfl, hf⟩ := hcut
  obtain ⟨w7, hw7⟩ : ∃ w7, w7 = wc := ⟨_, rfl⟩
  rw [← hw7] at hf ⊢
  have HS5 := Lib.hid ((HS4.out.keep hf).at_ [2, 3, 4] (by decide) rfl)
  clear hf hw7 HS4 hee HAs HSm
  have k14 := (HS5.out.blk 0 rfl).cell 14 rfl
  go_wp2_with fail
  clear k14
  go_loopw [39] (fun i wi => ∃ (j : Nat) (ys : List Int), j ≤ nB ∧ ys.length = nB ∧ i = .int .i64 (j : Int) ∧ Sep [] w wi [blkR p 31 #[.int .u8 xh0, .int .u8 xh1, .int .u8 xh2, .int .u8 xh3, .int .u8 xh4, .int .u8 xh5, .int .u8 xh6, .int .u8 xh7, .int .u16 xb, .int .u64 (xh : Int), .int .u64 (xl : Int), .bool xfx, .int .i64 xL, .int .i64 xD, .slice va nB vc], sumR (.slice va nB vc) ys, sumR (.slice (some ⟨gm, 0, none⟩) zs.length cm) zs]) (fun i _ => nB - (intOf i).toNat)
  case atStart => exact ⟨0, xB, Nat.zero_le _, HnB.out.symm, rfl, HS5.out⟩
  case round =>
    obtain ⟨j, ys, hj, hys, rfl, hS⟩ := hrel
    have HT := Lib.hid hS
    have HY := Lib.hid hys
    clear hS hys HS5
    by_cases hlt : j < nB
    · obtain ⟨gv, cv, hv⟩ := row_slice (HT.out.own 1 rfl) (by rw [HY.out]; omega)
      injection hv with hv1 hv2 hv3
      clear hv2 hv3
      subst hv1
      have k14 := (HT.out.blk 0 rfl).cell 14 rfl
      have i1 : (0 : Int) ≤ (j : Int) := by omega
      have i2 : (j : Int) < (nB : Int) := by omega
      have h1 := (show Sep [] w wr [blkR p 31 #[.int .u8 xh0, .int .u8 xh1, .int .u8 xh2, .int .u8 xh3, .int .u8 xh4, .int .u8 xh5, .int .u8 xh6, .int .u8 xh7, .int .u16 xb, .int .u64 (xh : Int), .int .u64 (xl : Int), .bool xfx, .int .i64 xL, .int .i64 xD, .slice (some ⟨gv, 0, none⟩) nB vc], ownR 5 1 (.slice (some ⟨gv, 0, none⟩) nB vc) nB (ys.map (Value.int .u8)), sumR (.slice (some ⟨gm, 0, none⟩) zs.length cm) zs] from by
        have h := HT.out
        rw [show sumR (.slice (some ⟨gv, 0, none⟩) nB vc) ys = ownR 5 1 (.slice (some ⟨gv, 0, none⟩) nB vc) nB (ys.map (Value.int .u8)) from by unfold sumR; rw [HY.out]] at h
        exact h)
      have c0 := row_cell (k := .u8) (h1.own 1 rfl) j (by rw [HY.out]; exact hlt)
      have f0 := row_free (h1.own 1 rfl) j
      obtain ⟨y, hy⟩ : ∃ y, y = ys.getD j 0 := ⟨_, rfl⟩
      rw [← hy] at c0
      obtain ⟨u, hu⟩ : ∃ u, u = (y + 1) % 256 := ⟨_, rfl⟩
      have h2 := h1.putRow 1 rfl j u
      have HT2 := Lib.hid (show Sep [] w _ [blkR p 31 #[.int .u8 xh0, .int .u8 xh1, .int .u8 xh2, .int .u8 xh3, .int .u8 xh4, .int .u8 xh5, .int .u8 xh6, .int .u8 xh7, .int .u16 xb, .int .u64 (xh : Int), .int .u64 (xl : Int), .bool xfx, .int .i64 xL, .int .i64 xD, .slice (some ⟨gv, 0, none⟩) nB vc], sumR (.slice (some ⟨gv, 0, none⟩) nB vc) (ys.set j u), sumR (.slice (some ⟨gm, 0, none⟩) zs.length cm) zs] from by
        rw [show sumR (.slice (some ⟨gv, 0, none⟩) nB vc) (ys.set j u) = ownR 5 1 (.slice (some ⟨gv, 0, none⟩) nB vc) nB ((ys.set j u).map (Value.int .u8)) from by unfold sumR; rw [List.length_set, HY.out]]
        exact h2)
      clear h2 h1
      have HU := Lib.hid hu.symm
      clear hy hu HT
      go_wp2_with fail
      rw [HU.out]
      go_roundw
      case rel => exact ⟨j + 1, ys.set j u, by omega, by rw [List.length_set]; exact HY.out, by go_num, HT2.out⟩
      case measure => simp [intOf]; omega
    · obtain rfl : j = nB := by omega
      obtain ⟨am, cm', hv, rm, -, -, -⟩ := sl_of (k := .u8) (HT.out.own 2 rfl)
      injection hv with hv1 hv2 hv3
      clear hv2 hv3
      subst hv1
      have HRm := Lib.hid rm
      clear rm
      go_wp2_with fail
      refine (HSb.out wr gm cm HT.out.frm HRm.out Hl.out).mono ?_
      rintro e w9 ⟨rfl, hf⟩
      have HS9 := Lib.hid (HT.out.keep hf)
      clear hf
      go_wp2_with fail
      go_ret
      exact ⟨rfl, HS9.out.frm.below⟩
theorem flexParses_f {w : World} (hT : Tabs w) (a : Option Addr) (c : Nat) (zs : List Int) (lc : zs.length ≤ c) (mc : c ≤ maxLen) (hn : a = none → c = 0) (rd : RdI .u8 w a zs) (wf : ∀ x ∈ zs, (Lit.int .u8 x).wf = true) :
    Calls Tryd.prog 3 #[.slice a zs.length c] w fun e w' => e = .returned (.bool true) ∧ Below w.heap.size w w' :=
  flexParses_w w hT a c zs rd (u8s_wf wf) lc (by unfold maxLen at mc; omega) hn

end Go.Proofs.YtnloabpdjedanaaDoor
