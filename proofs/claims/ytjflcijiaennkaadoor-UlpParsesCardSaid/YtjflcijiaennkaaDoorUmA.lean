/-
  THE WALK of the law UlpParses. Printed by gen_uma.py.
-/
import Derived.Test.YtjflcijiaennkaaDoorUlX
import Derived.Test.YtjflcijiaennkaaDoorUlY
import Derived.Test.YtjflcijiaennkaaDoorUlT
import Derived.Test.YtjflcijiaennkaaDoorUmP
import Derived.Test.YtjflcijiaennkaaDoorUop
set_option linter.unusedVariables false
set_option linter.unusedSimpArgs false
namespace Go.Proofs.YtjflcijiaennkaaDoor
open Go.RowKit

theorem upa_ok {zs : List Int} (hb : Byt zs) : (upaX zs).Ok ∧ (upaX zs).Ls.length ≤ 2 ∧ ∀ L ∈ (upaX zs).Ls, L.B.length ≤ 1500 := by
  by_cases h : upaE zs = 0
  · obtain ⟨h1, h2, _⟩ := urd_back hb h
    have hg := ugood_of (uwe_zero h2).1
    exact ⟨h1, hg.n2, hg.body⟩
  · have e : upaX zs = Ul.none := by
      unfold upaE at h
      unfold upaX
      split
      · rfl
      · rename_i h2
        rw [if_neg h2] at h
        cases hR : urdX zs with
        | error e => rfl
        | ok x => rw [hR] at h; exact absurd rfl h
    rw [e]
    exact ⟨uexN_ok, by decide, fun L hL => by cases hL⟩
theorem urParse_c {W : World} {a : Option Addr} {c : Nat} {zs : List Int} (hr : RdI .u8 W a zs) (hb : Byt zs) (hc : zs.length ≤ c) (hcm : c ≤ 9223372036854775807) (hn : a = none → c = 0) :
    Calls Tryd.prog 11 #[.slice a zs.length c] W (URfP W (upaX zs) (upaE zs)) := by
  by_cases h : 1500 < zs.length ∨ zs.length < 10 ∨ 128 ≤ uat zs 0
  · exact urparse_e hr hb hc hcm hn h
  · exact urparse_m hr hb hc hcm hn (by omega) (by omega) (by omega)
theorem usplit_at {α : Type} {L : List α} {j : Nat} {x : α} (h : L[j]? = some x) : L = L.take j ++ x :: L.drop (j + 1) := by
  obtain ⟨hl, rfl⟩ := List.getElem?_eq_some_iff.1 h
  rw [← List.drop_eq_getElem_cons hl, List.take_append_drop]
theorem lvs_some {w : World} {e : TypeId} {a : Option Addr} {n c : Nat} {rs : List LvV} (h : (lvsR e (.slice a n c) rs).P w) {j : Nat} {q : LvV} (hq : rs[j]? = some q) :
    ∃ b off, a = some ⟨b, off, none⟩ := by
  obtain ⟨a', c', e1, _, _, _, h5, _⟩ := RdS.of_own (rows := rs.map LvV.row) (show w.ownsRow 0 e 3 _ rs.length _ from h) (fun r hr => by obtain ⟨b, _, rfl⟩ := List.mem_map.1 hr; rfl) (by decide) (by rw [List.length_map])
  injection e1 with e1 _ _
  subst e1
  obtain ⟨b, off, ha, _⟩ := h5 j q.row (by rw [List.getElem?_map, hq]; rfl)
  exact ⟨b, off, ha⟩
theorem lvs_cell {w : World} {e : TypeId} {b off : Nat} {n c : Nat} {rs : List LvV} (h : (lvsR e (.slice (some ⟨b, off, none⟩) n c) rs).P w) {j : Nat} {q : LvV} (hq : rs[j]? = some q) :
    w.cell? ⟨b, off + j * 3 + 2, none⟩ = some q.bv := by
  obtain ⟨a', c', e1, _, _, _, h5, _⟩ := RdS.of_own (rows := rs.map LvV.row) (show w.ownsRow 0 e 3 _ rs.length _ from h) (fun r hr => by obtain ⟨b, _, rfl⟩ := List.mem_map.1 hr; rfl) (by decide) (by rw [List.length_map])
  injection e1 with e1 _ _
  subst e1
  obtain ⟨b', off', ha, _, hc⟩ := h5 j q.row (by rw [List.getElem?_map, hq]; rfl)
  injection ha with ha
  injection ha with h1 h2
  subst h1 h2
  exact hc 2 _ rfl

set_option maxRecDepth 100000 in
set_option maxHeartbeats 16000000 in
theorem ulpParses_w (w : World) (hT : Tabs w) (a : Option Addr) (c : Nat) (zs : List Int) (rd : RdI .u8 w a zs) (hb : Byt zs) (lc : zs.length ≤ c) (mc : c ≤ 9223372036854775807) (hn : a = none → c = 0) :
    Calls Tryd.prog 3 #[.slice a zs.length c] w fun e w' => e = .returned (.bool true) ∧ Below w.heap.size w w' := by
  have HAl := Lib.hid (fun X (hX : Frm [] w X) => ualive_c X (hT.frm hX (by simp)))
  have HCp := Lib.hid (fun X (hX : Frm [] w X) (hl : zs.length ≤ 1000000) => bcopy_c a c zs X (rd.below hX.below) hl)
  have HPa := Lib.hid (fun X ga ca (r : RdI .u8 X (some ⟨ga, 0, none⟩) zs) (h1 : zs.length ≤ ca) (h2 : ca ≤ 9223372036854775807) => uParse_c (W := X) r hb h1 h2 (fun h => by cases h))
  have HRp := Lib.hid (fun X (hX : Frm [] w X) => urParse_c (W := X) (rd.below hX.below) hb lc mc hn)
  have HSb := Lib.hid (fun X ga ca (hX : Frm [] w X) (r : RdI .u8 X (some ⟨ga, 0, none⟩) zs) (hl : zs.length ≤ 1000000) => (by
    have h := bsame_c (some ⟨ga, 0, none⟩) a ca c zs zs X r (rd.below hX.below) hl hl
    rw [decide_eq_true rfl] at h
    exact h.mono (fun e w' ⟨h1, m, h2⟩ => ⟨h1, h2 ▸ (Frm.refl _ _).drewN m⟩) : Calls Tryd.prog 14 #[.slice (some ⟨ga, 0, none⟩) zs.length ca, .slice a zs.length c] X fun e w' => e = .returned (.bool true) ∧ Frm [] X w'))
  have hok := upa_ok hb
  obtain ⟨x, hx⟩ : ∃ x, x = upaX zs := ⟨_, rfl⟩
  obtain ⟨E, hE⟩ : ∃ E, E = upaE zs := ⟨_, rfl⟩
  rw [← hx, ← hE] at HPa HRp
  rw [← hx] at hok
  have HOk := Lib.hid hok
  have HAs := Lib.hid (fun X a c qs (rd : RdLs X a qs) (hn : qs.length ≤ 1000000) => uas_c x a c qs X rd hn)
  have hts : ∀ (ts : List LvV), ts.map LvV.lv = x.Ls → ts.length ≤ 2 ∧ ∀ q ∈ ts, q.B.length ≤ 1500 := fun ts ht => ⟨by
      have := congrArg List.length ht
      have := HOk.out.2.1
      simp at *; omega, fun q hq => HOk.out.2.2 q.lv (ht ▸ List.mem_map_of_mem hq)⟩
  have HTs := Lib.hid hts
  have HSm := Lib.hid (fun X a1 c1 a2 c2 (qs rs : List LvV) (h1 : qs.map LvV.lv = x.Ls) (h2 : rs.map LvV.lv = x.Ls) (r1 : RdLs X a1 qs) (r2 : RdLs X a2 rs) => (by
    have h := ursame_c x x a1 a2 c1 c2 qs rs X h1 h2 HOk.out.1 HOk.out.1 r1 r2 (Nat.le_trans (HTs.out qs h1).1 (by decide)) (Nat.le_trans (HTs.out rs h2).1 (by decide)) (fun q hq => Nat.le_trans ((HTs.out qs h1).2 q hq) (by decide)) (fun q hq => Nat.le_trans ((HTs.out rs h2).2 q hq) (by decide))
    rw [usame_self] at h
    exact h : Calls Tryd.prog 12 #[x.val (.slice a1 qs.length c1), x.val (.slice a2 rs.length c2)] X fun e w' => e = .returned (.bool true) ∧ Frm [] X w'))
  clear hx hE hok rd hT hb hn hts HOk
  obtain ⟨xh0, xh1, xh2, xh3, xh4, xh5, xh6, xh7, xb, xlg, xLs⟩ := x
  simp only [Ul.val, Ul.cells] at *
  have HS0 := Lib.hid (Sep.init w)
  go_enter Tryd.func3, Tryd.ntmps3
  go_wp2_with fail
  refine (HAl.out w (Frm.refl _ _)).mono ?_
  rintro e w1 ⟨rfl, hf⟩
  have HS1 := Lib.hid (HS0.out.keep hf)
  clear hf HS0 HAl
  by_cases h1 : 2000 < zs.length
  · have t1 : decide (2000 < (zs.length : Int)) = true := decide_eq_true (by omega)
    clear h1
    go_wp2_with fail
    go_ret
    exact ⟨rfl, HS1.out.frm.below⟩
  have t1 : decide (2000 < (zs.length : Int)) = false := decide_eq_false (by omega)
  have Hl := Lib.hid (show zs.length ≤ 1000000 by omega)
  clear h1
  go_wp2_with fail
  refine (HCp.out w1 HS1.out.frm Hl.out).mono ?_
  rintro e w2 ⟨gm, cm, rfl, hS⟩
  have HS2 := Lib.hid (HS1.out.more hS)
  obtain ⟨am, cm', hv, rm, _, lm, mm⟩ := usl_of (k := .u8) (hS.own 0 rfl)
  injection hv with hv1 _ hv3
  subst hv1 hv3
  have HRm := Lib.hid rm
  clear hS HS1 HCp t1 rm
  go_wp2_with fail
  refine (HPa.out w2 gm cm HRm.out lm mm).mono ?_
  rintro e w3 ⟨va, vn, vc, qs, hq, rfl, hS⟩
  simp only [Ul.val, Ul.cells]
  have HQ := Lib.hid hq
  obtain ⟨va', vc', hv, -, -⟩ := lb_shape (hS.get 0 rfl)
  simp only [Value.slice.injEq] at hv
  obtain ⟨rfl, hv2, rfl⟩ := hv
  obtain ⟨nQ, hnQ⟩ : ∃ n, n = qs.length := ⟨_, rfl⟩
  rw [← hnQ] at hv2
  obtain rfl : nQ = vn := hv2.symm
  have HnQ := Lib.hid hnQ
  have HS3 := Lib.hid ((HS2.out.more hS).alloc #[.int .u8 xh0, .int .u8 xh1, .int .u8 xh2, .int .u8 xh3, .int .u8 xh4, .int .u8 xh5, .int .u8 xh6, .int .u8 xh7, .int .u16 xb, .bool xlg, .slice va nQ vc] 29)
  clear hS HS2 HPa lm mm HRm hq hnQ
  go_upto_region 7 with fail
  obtain ⟨w4, hw4⟩ : ∃ x, x = w3.alloc (.cells #[.int .u8 xh0, .int .u8 xh1, .int .u8 xh2, .int .u8 xh3, .int .u8 xh4, .int .u8 xh5, .int .u8 xh6, .int .u8 xh7, .int .u16 xb, .bool xlg, .slice va nQ vc] 29) := ⟨_, rfl⟩
  obtain ⟨p, hp⟩ : ∃ x, x = w3.heap.size := ⟨_, rfl⟩
  rw [← hw4, ← hp] at HS3
  rw [← hw4, ← hp]
  clear hw4 hp
  go_wp2_with fail
  refine (HRp.out w4 HS3.out.frm).mono ?_
  rintro e w5 ⟨vb, vd, rs, rfl, hq5, rd5, hf5⟩
  simp only [Ul.val, Ul.cells]
  have HQ5 := Lib.hid hq5
  obtain ⟨nR, hnR⟩ : ∃ n, n = rs.length := ⟨_, rfl⟩
  rw [← hnR]
  have HnR := Lib.hid hnR
  have HS4 := Lib.hid ((HS3.out.keep hf5).alloc #[.int .u8 xh0, .int .u8 xh1, .int .u8 xh2, .int .u8 xh3, .int .u8 xh4, .int .u8 xh5, .int .u8 xh6, .int .u8 xh7, .int .u16 xb, .bool xlg, .slice vb nR vd] 35)
  have HR4 := Lib.hid (rd5.frm ((Frm.refl _ _).alloc (.cells #[.int .u8 xh0, .int .u8 xh1, .int .u8 xh2, .int .u8 xh3, .int .u8 xh4, .int .u8 xh5, .int .u8 xh6, .int .u8 xh7, .int .u16 xb, .bool xlg, .slice vb nR vd] 35)))
  clear rd5 hq5 hf5 hnR HS3 HRp
  go_upto_region 8 with fail
  obtain ⟨w6, hw6⟩ : ∃ x, x = w5.alloc (.cells #[.int .u8 xh0, .int .u8 xh1, .int .u8 xh2, .int .u8 xh3, .int .u8 xh4, .int .u8 xh5, .int .u8 xh6, .int .u8 xh7, .int .u16 xb, .bool xlg, .slice vb nR vd] 35) := ⟨_, rfl⟩
  obtain ⟨q, hq⟩ : ∃ x, x = w5.heap.size := ⟨_, rfl⟩
  rw [← hw6, ← hq] at HS4
  rw [← hw6] at HR4
  rw [← hw6, ← hq]
  clear hw6 hq
  have HS4 := Lib.hid (show Sep [] w w6 [blkR q 35 #[.int .u8 xh0, .int .u8 xh1, .int .u8 xh2, .int .u8 xh3, .int .u8 xh4, .int .u8 xh5, .int .u8 xh6, .int .u8 xh7, .int .u16 xb, .bool xlg, .slice vb nR vd], blkR p 29 #[.int .u8 xh0, .int .u8 xh1, .int .u8 xh2, .int .u8 xh3, .int .u8 xh4, .int .u8 xh5, .int .u8 xh6, .int .u8 xh7, .int .u16 xb, .bool xlg, .slice va nQ vc], lbR 44 (.slice va nQ vc) qs, sumR (.slice (some ⟨gm, 0, none⟩) zs.length cm) zs] from HS4.out)
  have hee : (E != E) = false := by simp
  go_cut [36] (fun v wx => v = .bool false ∧ Frm [] w6 wx)
  case first =>
    refine region_segsP (G := []) [0, 1, 2, 3, 4, 6, 5, 7, 8, 9] [6, 0] (by decide) (by kernel_rfl) (by kernel_rfl) (by kernel_rfl) (by kernel_rfl) (by kernel_rfl) (by kernel_rfl) (by kernel_rfl) ?_
    simp only [remOf, List.filterMap_cons, List.filterMap_nil, List.getElem?_cons_zero, List.getElem?_cons_succ]
    have HSA := Lib.hid HS4.out.drew
    obtain ⟨x6, hx6⟩ : ∃ x, x = w6.drew := ⟨_, rfl⟩
    have HF6 := Lib.hid (show Frm [] w6 x6 from hx6 ▸ (Frm.refl _ _).drew)
    rw [← hx6] at HSA
    rw [← hx6]
    clear hx6
    have HR6 := Lib.hid (show RdLs x6 va qs ∧ RdLs x6 vb rs from by
      obtain ⟨a1, c1, e1, -, -, -, r1⟩ := lb_rd (HSA.out.get 2 rfl)
      injection e1 with e1 _ _
      rw [e1]
      exact ⟨r1, HR4.out.frm HF6.out⟩)
    have n1 : Nonempty (Cls (fun v => Frm [] x6 v)) := ⟨⟨_, Frm.refl _ _⟩⟩
    have q0 := fun x : Cls (fun v => Frm [] x6 v) => (x.ok.blk (HSA.out.blk 1 rfl) (by simp)).cell 0 rfl
    have q1 := fun x : Cls (fun v => Frm [] x6 v) => (x.ok.blk (HSA.out.blk 1 rfl) (by simp)).cell 1 rfl
    have q2 := fun x : Cls (fun v => Frm [] x6 v) => (x.ok.blk (HSA.out.blk 1 rfl) (by simp)).cell 2 rfl
    have q3 := fun x : Cls (fun v => Frm [] x6 v) => (x.ok.blk (HSA.out.blk 1 rfl) (by simp)).cell 3 rfl
    have q4 := fun x : Cls (fun v => Frm [] x6 v) => (x.ok.blk (HSA.out.blk 1 rfl) (by simp)).cell 4 rfl
    have q5 := fun x : Cls (fun v => Frm [] x6 v) => (x.ok.blk (HSA.out.blk 1 rfl) (by simp)).cell 5 rfl
    have q6 := fun x : Cls (fun v => Frm [] x6 v) => (x.ok.blk (HSA.out.blk 1 rfl) (by simp)).cell 6 rfl
    have q7 := fun x : Cls (fun v => Frm [] x6 v) => (x.ok.blk (HSA.out.blk 1 rfl) (by simp)).cell 7 rfl
    have q8 := fun x : Cls (fun v => Frm [] x6 v) => (x.ok.blk (HSA.out.blk 1 rfl) (by simp)).cell 8 rfl
    have q9 := fun x : Cls (fun v => Frm [] x6 v) => (x.ok.blk (HSA.out.blk 1 rfl) (by simp)).cell 9 rfl
    have q10 := fun x : Cls (fun v => Frm [] x6 v) => (x.ok.blk (HSA.out.blk 1 rfl) (by simp)).cell 10 rfl
    have j0 := fun x : Cls (fun v => Frm [] x6 v) => (x.ok.blk (HSA.out.blk 0 rfl) (by simp)).cell 0 rfl
    have j1 := fun x : Cls (fun v => Frm [] x6 v) => (x.ok.blk (HSA.out.blk 0 rfl) (by simp)).cell 1 rfl
    have j2 := fun x : Cls (fun v => Frm [] x6 v) => (x.ok.blk (HSA.out.blk 0 rfl) (by simp)).cell 2 rfl
    have j3 := fun x : Cls (fun v => Frm [] x6 v) => (x.ok.blk (HSA.out.blk 0 rfl) (by simp)).cell 3 rfl
    have j4 := fun x : Cls (fun v => Frm [] x6 v) => (x.ok.blk (HSA.out.blk 0 rfl) (by simp)).cell 4 rfl
    have j5 := fun x : Cls (fun v => Frm [] x6 v) => (x.ok.blk (HSA.out.blk 0 rfl) (by simp)).cell 5 rfl
    have j6 := fun x : Cls (fun v => Frm [] x6 v) => (x.ok.blk (HSA.out.blk 0 rfl) (by simp)).cell 6 rfl
    have j7 := fun x : Cls (fun v => Frm [] x6 v) => (x.ok.blk (HSA.out.blk 0 rfl) (by simp)).cell 7 rfl
    have j8 := fun x : Cls (fun v => Frm [] x6 v) => (x.ok.blk (HSA.out.blk 0 rfl) (by simp)).cell 8 rfl
    have j9 := fun x : Cls (fun v => Frm [] x6 v) => (x.ok.blk (HSA.out.blk 0 rfl) (by simp)).cell 9 rfl
    have j10 := fun x : Cls (fun v => Frm [] x6 v) => (x.ok.blk (HSA.out.blk 0 rfl) (by simp)).cell 10 rfl
    unfold wpSegs
    simp only [List.take_succ_cons, List.take_zero, List.drop_succ_cons, List.drop_zero]
    repeat (go_big_quiet_step (rfl))
    refine wpQuiet_nil ?_
    refine only_step (fun K' hK => ?_)
    clear n1 q0 q1 q2 q3 q4 q5 q6 q7 q8 q9 q10 j0 j1 j2 j3 j4 j5 j6 j7 j8 j9 j10
    go_wp2_with fail
    refine ((HnQ.out ▸ HAs.out _ va vc qs HR6.out.1 (Nat.le_trans (HTs.out qs HQ.out).1 (by decide)))).mono ?_
    rintro e w7 ⟨ad, cd, rfl, hrd, hf⟩
    simp only [Ul.val, Ul.cells]
    have HR7 := Lib.hid (And.intro hrd (HR6.out.2.frm hf))
    have HF7 := Lib.hid hf
    clear hf hrd
    go_wp2_with fail
    refine hK.out _ _ ⟨HF7.out, ?_⟩
    clear hK
    unfold wpSegs
    simp only [List.take_succ_cons, List.take_zero, List.drop_succ_cons, List.drop_zero]
    have n1 : Nonempty (Cls (fun v => Frm [] w7 v)) := ⟨⟨_, Frm.refl _ _⟩⟩
    repeat (go_big_quiet_step (rfl))
    refine wpQuiet_nil ?_
    refine only_step (fun K' hK => ?_)
    clear n1 
    go_wp2_with fail
    refine ((HnR.out ▸ HnQ.out ▸ HSm.out _ ad cd vb vd qs rs HQ.out HQ5.out HR7.out.1 HR7.out.2)).mono ?_
    rintro e w8 ⟨rfl, hf⟩
    have HF8 := Lib.hid (HF7.out.trans hf)
    have HF78 := Lib.hid hf
    clear hf
    go_wp2_with fail
    refine hK.out _ _ ⟨HF78.out, ?_⟩
    clear hK
    have n1 : Nonempty (Cls (fun v => Frm [] w8 v)) := ⟨⟨_, Frm.refl _ _⟩⟩
    unfold wpSegs
    show wpQuiet _ _ _ _ [_, _] _
    repeat (go_big_quiet_step (rfl))
    refine wpQuiet_nil ?_
    clear n1
    refine NoPanic.normal ?_
    go_wp2_with fail
    go_meet
    exact ⟨rfl, HF6.out.trans HF8.out⟩
  obtain ⟨rfl, hf⟩ := hcut
  obtain ⟨w7, hw7⟩ : ∃ w7, w7 = wc := ⟨_, rfl⟩
  rw [← hw7] at hf ⊢
  have HS5 := Lib.hid (((HS4.out.keep hf).at_ [2, 1, 3] (by decide) rfl).epart.at_ [1, 0, 2, 3] (by decide) rfl)
  have HLq := Lib.hid (HTs.out qs HQ.out)
  clear hf hw7 HS4 hee HAs HSm HR4 HTs
  have HS5 := Lib.hid (show Sep [] w w7 [bodR qs, lvsR 44 (.slice va nQ vc) qs, blkR p 29 #[.int .u8 xh0, .int .u8 xh1, .int .u8 xh2, .int .u8 xh3, .int .u8 xh4, .int .u8 xh5, .int .u8 xh6, .int .u8 xh7, .int .u16 xb, .bool xlg, .slice va nQ vc], sumR (.slice (some ⟨gm, 0, none⟩) zs.length cm) zs] from HS5.out)
  have k10 := (HS5.out.blk 2 rfl).cell 10 rfl
  have hQ2 : nQ ≤ 2 := by rw [HnQ.out]; exact HLq.out.1
  go_wp2_with fail
  clear k10
  go_loopw [40] (fun i wi => ∃ (j : Nat) (ts : List LvV), j ≤ nQ ∧ ts.length = nQ ∧ (∀ q ∈ ts, q.B.length ≤ 1500) ∧ i = .int .i64 (j : Int) ∧ Sep [] w wi [bodR ts, lvsR 44 (.slice va nQ vc) ts, blkR p 29 #[.int .u8 xh0, .int .u8 xh1, .int .u8 xh2, .int .u8 xh3, .int .u8 xh4, .int .u8 xh5, .int .u8 xh6, .int .u8 xh7, .int .u16 xb, .bool xlg, .slice va nQ vc], sumR (.slice (some ⟨gm, 0, none⟩) zs.length cm) zs]) (fun i _ => nQ - (intOf i).toNat)
  case atStart => exact ⟨0, qs, Nat.zero_le _, HnQ.out.symm, HLq.out.2, rfl, HS5.out⟩
  case round =>
    obtain ⟨j, ts, hj, hts, hlb, rfl, hS⟩ := hrel
    have HT := Lib.hid hS
    have HY := Lib.hid hts
    have HL := Lib.hid hlb
    clear hS hts HS5 hlb
    by_cases hlt : j < nQ
    · obtain ⟨t, ht⟩ : ∃ t, ts[j]? = some t := ⟨_, List.getElem?_eq_getElem (by rw [HY.out]; exact hlt)⟩
      obtain ⟨gb, off, hva⟩ := lvs_some (HT.out.get 1 rfl) ht
      subst hva
      have HTt := Lib.hid ht
      have HS6 := Lib.hid (show Sep [] w _ (eachR ((ts.take j).map (fun (q : LvV) => sumR q.bv q.B) ++ (fun (q : LvV) => sumR q.bv q.B) t :: (ts.drop (j + 1)).map (fun (q : LvV) => sumR q.bv q.B)) :: [lvsR 44 (.slice (some ⟨gb, off, none⟩) nQ vc) ts, blkR p 29 #[.int .u8 xh0, .int .u8 xh1, .int .u8 xh2, .int .u8 xh3, .int .u8 xh4, .int .u8 xh5, .int .u8 xh6, .int .u8 xh7, .int .u16 xb, .bool xlg, .slice (some ⟨gb, off, none⟩) nQ vc], sumR (.slice (some ⟨gm, 0, none⟩) zs.length cm) zs]) from by
        have h := HT.out
        unfold bodR at h
        have e := usplit_at HTt.out
        have e2 : ts.map (fun (q : LvV) => sumR q.bv q.B) = (ts.take j).map (fun (q : LvV) => sumR q.bv q.B) ++ (fun (q : LvV) => sumR q.bv q.B) t :: (ts.drop (j + 1)).map (fun (q : LvV) => sumR q.bv q.B) := by
          conv => lhs; rw [e]
          rw [List.map_append, List.map_cons]
        rw [e2] at h
        exact h).eout
      obtain ⟨R, hR⟩ : ∃ R, R = eachR ((ts.take j).map (fun (q : LvV) => sumR q.bv q.B) ++ (ts.drop (j + 1)).map (fun (q : LvV) => sumR q.bv q.B)) := ⟨_, rfl⟩
      rw [← hR] at HS6
      have HR := Lib.hid hR
      obtain ⟨m, hm⟩ : ∃ m, m = t.B.length := ⟨_, rfl⟩
      have HM := Lib.hid hm
      have HS6 := Lib.hid (show Sep [] w _ [sumR t.bv t.B, R, lvsR 44 (.slice (some ⟨gb, off, none⟩) nQ vc) ts, blkR p 29 #[.int .u8 xh0, .int .u8 xh1, .int .u8 xh2, .int .u8 xh3, .int .u8 xh4, .int .u8 xh5, .int .u8 xh6, .int .u8 xh7, .int .u16 xb, .bool xlg, .slice (some ⟨gb, off, none⟩) nQ vc], sumR (.slice (some ⟨gm, 0, none⟩) zs.length cm) zs] from HS6.out)
      obtain ⟨tb, tc, htv, -, -⟩ := own_shape (HS6.out.own 0 rfl)
      rw [← hm] at htv
      have hm5 : m ≤ 1500 := by rw [HM.out]; exact HL.out t (List.mem_of_getElem? HTt.out)
      have HS6 := Lib.hid (show Sep [] w _ [sumR (.slice tb m tc) t.B, R, lvsR 44 (.slice (some ⟨gb, off, none⟩) nQ vc) ts, blkR p 29 #[.int .u8 xh0, .int .u8 xh1, .int .u8 xh2, .int .u8 xh3, .int .u8 xh4, .int .u8 xh5, .int .u8 xh6, .int .u8 xh7, .int .u16 xb, .bool xlg, .slice (some ⟨gb, off, none⟩) nQ vc], sumR (.slice (some ⟨gm, 0, none⟩) zs.length cm) zs] from htv ▸ HS6.out)
      have HTv := Lib.hid htv
      have i1 : (0 : Int) ≤ (j : Int) := by omega
      have i2 : (j : Int) < (nQ : Int) := by omega
      clear hR hm htv ht HT
      have k10 := (HS6.out.blk 3 rfl).cell 10 rfl
      have k2 := lvs_cell (HS6.out.get 2 rfl) HTt.out
      rw [HTv.out] at k2
      go_wp2_with fail
      clear k10 k2
      go_loopw [50] (fun i wi => ∃ (k : Nat) (ys : List Int), k ≤ m ∧ ys.length = m ∧ i = .int .i64 (k : Int) ∧ Sep [] w wi [sumR (.slice tb m tc) ys, R, lvsR 44 (.slice (some ⟨gb, off, none⟩) nQ vc) ts, blkR p 29 #[.int .u8 xh0, .int .u8 xh1, .int .u8 xh2, .int .u8 xh3, .int .u8 xh4, .int .u8 xh5, .int .u8 xh6, .int .u8 xh7, .int .u16 xb, .bool xlg, .slice (some ⟨gb, off, none⟩) nQ vc], sumR (.slice (some ⟨gm, 0, none⟩) zs.length cm) zs]) (fun i _ => m - (intOf i).toNat)
      case atStart => exact ⟨0, t.B, Nat.zero_le _, HM.out.symm, rfl, HS6.out⟩
      case round =>
        obtain ⟨k, ys, hk, hys, rfl, hS⟩ := hrel
        have HT := Lib.hid hS
        have HZ := Lib.hid hys
        clear hS hys HS6
        by_cases hkt : k < m
        · obtain ⟨gv, cv, hv⟩ := row_slice (HT.out.own 0 rfl) (by rw [HZ.out]; omega)
          injection hv with hv1 hv2 hv3
          clear hv2 hv3
          subst hv1
          have k10 := (HT.out.blk 3 rfl).cell 10 rfl
          have k2 := lvs_cell (HT.out.get 2 rfl) HTt.out
          rw [HTv.out] at k2
          have i3 : (0 : Int) ≤ (k : Int) := by omega
          have i4 : (k : Int) < (m : Int) := by omega
          have h1 := (show Sep [] w _ [ownR 5 1 (.slice (some ⟨gv, 0, none⟩) m tc) m (ys.map (Value.int .u8)), R, lvsR 44 (.slice (some ⟨gb, off, none⟩) nQ vc) ts, blkR p 29 #[.int .u8 xh0, .int .u8 xh1, .int .u8 xh2, .int .u8 xh3, .int .u8 xh4, .int .u8 xh5, .int .u8 xh6, .int .u8 xh7, .int .u16 xb, .bool xlg, .slice (some ⟨gb, off, none⟩) nQ vc], sumR (.slice (some ⟨gm, 0, none⟩) zs.length cm) zs] from by
            have h := HT.out
            rw [show sumR (.slice (some ⟨gv, 0, none⟩) m tc) ys = ownR 5 1 (.slice (some ⟨gv, 0, none⟩) m tc) m (ys.map (Value.int .u8)) from by unfold sumR; rw [HZ.out]] at h
            exact h)
          have c0 := row_cell (k := .u8) (h1.own 0 rfl) k (by rw [HZ.out]; exact hkt)
          have f0 := row_free (h1.own 0 rfl) k
          obtain ⟨y, hy⟩ : ∃ y, y = ys.getD k 0 := ⟨_, rfl⟩
          rw [← hy] at c0
          obtain ⟨u, hu⟩ : ∃ u, u = (y + 1) % 256 := ⟨_, rfl⟩
          have h2 := h1.putRow 0 rfl k u
          have HT2 := Lib.hid (show Sep [] w _ [sumR (.slice (some ⟨gv, 0, none⟩) m tc) (ys.set k u), R, lvsR 44 (.slice (some ⟨gb, off, none⟩) nQ vc) ts, blkR p 29 #[.int .u8 xh0, .int .u8 xh1, .int .u8 xh2, .int .u8 xh3, .int .u8 xh4, .int .u8 xh5, .int .u8 xh6, .int .u8 xh7, .int .u16 xb, .bool xlg, .slice (some ⟨gb, off, none⟩) nQ vc], sumR (.slice (some ⟨gm, 0, none⟩) zs.length cm) zs] from by
            rw [show sumR (.slice (some ⟨gv, 0, none⟩) m tc) (ys.set k u) = ownR 5 1 (.slice (some ⟨gv, 0, none⟩) m tc) m ((ys.set k u).map (Value.int .u8)) from by unfold sumR; rw [List.length_set, HZ.out]]
            exact h2)
          clear h2 h1
          have HU := Lib.hid hu.symm
          clear hy hu HT
          go_wp2_with fail
          rw [HU.out]
          go_roundw
          case rel => exact ⟨k + 1, ys.set k u, by omega, by rw [List.length_set]; exact HZ.out, by go_num, HT2.out⟩
          case measure => simp [intOf]; omega
        · obtain rfl : k = m := by omega
          have HT3 := Lib.hid (show Sep [] w _ [bodR (ts.take j ++ ⟨t.h, t.l, t.bv, ys⟩ :: ts.drop (j + 1)), lvsR 44 (.slice (some ⟨gb, off, none⟩) nQ vc) (ts.take j ++ ⟨t.h, t.l, t.bv, ys⟩ :: ts.drop (j + 1)), blkR p 29 #[.int .u8 xh0, .int .u8 xh1, .int .u8 xh2, .int .u8 xh3, .int .u8 xh4, .int .u8 xh5, .int .u8 xh6, .int .u8 xh7, .int .u16 xb, .bool xlg, .slice (some ⟨gb, off, none⟩) nQ vc], sumR (.slice (some ⟨gm, 0, none⟩) zs.length cm) zs] from by
            have h := HT.out
            rw [← HTv.out, HR.out] at h
            have h2 := h.eback
            have e := usplit_at HTt.out
            have er : ts.map LvV.row = (ts.take j ++ ⟨t.h, t.l, t.bv, ys⟩ :: ts.drop (j + 1)).map LvV.row := by
              conv => lhs; rw [e]
              simp only [List.map_append, List.map_cons]
              rfl
            have el : ts.length = (ts.take j ++ ⟨t.h, t.l, t.bv, ys⟩ :: ts.drop (j + 1)).length := by
              conv => lhs; rw [e]
              simp only [List.length_append, List.length_cons]
            have e3 : lvsR 44 (.slice (some ⟨gb, off, none⟩) nQ vc) ts = lvsR 44 (.slice (some ⟨gb, off, none⟩) nQ vc) (ts.take j ++ ⟨t.h, t.l, t.bv, ys⟩ :: ts.drop (j + 1)) := by unfold lvsR; rw [← er, ← el]
            rw [e3] at h2
            have e4 : (ts.take j).map (fun (q : LvV) => sumR q.bv q.B) ++ sumR t.bv ys :: (ts.drop (j + 1)).map (fun (q : LvV) => sumR q.bv q.B) = (ts.take j ++ (⟨t.h, t.l, t.bv, ys⟩ : LvV) :: ts.drop (j + 1)).map (fun (q : LvV) => sumR q.bv q.B) := by simp only [List.map_append, List.map_cons]
            rw [e4] at h2
            exact h2)
          have HY2 := Lib.hid (show (ts.take j ++ (⟨t.h, t.l, t.bv, ys⟩ : LvV) :: ts.drop (j + 1)).length = nQ by
            have e := congrArg List.length (usplit_at HTt.out)
            simp only [List.length_append, List.length_cons] at e ⊢
            have := HY.out
            omega)
          have HL2 := Lib.hid (show ∀ q ∈ (ts.take j ++ (⟨t.h, t.l, t.bv, ys⟩ : LvV) :: ts.drop (j + 1)), q.B.length ≤ 1500 from fun q hq => by
            rcases List.mem_append.1 hq with hq | hq
            · exact HL.out q (List.mem_of_mem_take hq)
            · rcases List.mem_cons.1 hq with rfl | hq
              · show ys.length ≤ 1500; rw [HZ.out]; exact hm5
              · exact HL.out q (List.mem_of_mem_drop hq))
          clear HT
          go_wp2_with fail
          go_roundw
          case rel => exact ⟨j + 1, _, by omega, HY2.out, HL2.out, by go_num, HT3.out⟩
          case measure => simp [intOf]; omega
    · obtain rfl : j = nQ := by omega
      obtain ⟨am, cm', hv, rm, -, -, -⟩ := usl_of (k := .u8) (HT.out.own 3 rfl)
      injection hv with hv1 hv2 hv3
      clear hv2 hv3
      subst hv1
      have HRm := Lib.hid rm
      clear rm
      go_wp2_with fail
      refine (HSb.out _ gm cm HT.out.frm HRm.out Hl.out).mono ?_
      rintro e w9 ⟨rfl, hf⟩
      have HS9 := Lib.hid (HT.out.keep hf)
      clear hf
      go_wp2_with fail
      go_ret
      exact ⟨rfl, HS9.out.frm.below⟩
theorem ulpParses_f {w : World} (hT : Tabs w) (a : Option Addr) (c : Nat) (zs : List Int) (lc : zs.length ≤ c) (mc : c ≤ maxLen) (hn : a = none → c = 0) (rd : RdI .u8 w a zs) (wf : ∀ x ∈ zs, (Lit.int .u8 x).wf = true) :
    Calls Tryd.prog 3 #[.slice a zs.length c] w fun e w' => e = .returned (.bool true) ∧ Below w.heap.size w w' :=
  ulpParses_w w hT a c zs rd (u8s_wf wf) lc (by unfold maxLen at mc; omega) hn

end Go.Proofs.YtjflcijiaennkaaDoor
