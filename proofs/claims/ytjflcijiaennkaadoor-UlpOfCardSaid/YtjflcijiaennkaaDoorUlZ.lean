/-
  THE WALK of the law UlpOf. Printed by gen_ulz.py.
-/
import Derived.Test.YtjflcijiaennkaaDoorUlX
import Derived.Test.YtjflcijiaennkaaDoorUlY
import Derived.Test.YtjflcijiaennkaaDoorUlT
import Derived.Test.YtjflcijiaennkaaDoorRop
set_option linter.unusedVariables false
set_option linter.unusedSimpArgs false
namespace Go.Proofs.YtjflcijiaennkaaDoor
open Go.RowKit

theorem uofX_ok {r : Rp} (h : r.Ok) (cut : Int) : (uofX r cut).Ok ∧ (uofX r cut).Ls.length ≤ 2 ∧ ∀ q ∈ (uofX r cut).Ls, q.B.length ≤ r.B.length := by
  unfold uofX
  split
  · refine ⟨upkOf_ok h cut, ?_, fun q hq => ?_⟩
    · show ((cutsOf r.B cut).map _).length ≤ 2
      unfold cutsOf
      split <;> simp
    · obtain ⟨x, hx, rfl⟩ := List.mem_map.1 hq
      unfold cutsOf at hx
      split at hx
      · simp at hx
        rcases hx with rfl | rfl
        · show (r.B.take _).length ≤ _; rw [List.length_take]; omega
        · show (r.B.drop _).length ≤ _; rw [List.length_drop]; omega
      · simp at hx; subst hx; exact Nat.le_refl _
  · exact ⟨uexN_ok, by decide, fun q hq => by cases hq⟩

set_option maxRecDepth 100000 in
set_option maxHeartbeats 16000000 in
theorem ulpOf_w (w : World) (hT : Tabs w) (r : Rp) (ar : Option Addr) (cr : Nat) (hor : r.Ok) (rr : RdI .u8 w ar r.B) (nr : ar = none → cr = 0) (lr : r.B.length ≤ cr) (mr : cr ≤ 9223372036854775807) (cut : Int) :
    Calls Tryd.prog 5 #[r.val (.slice ar r.B.length cr), .int .i64 cut] w fun e w' => e = .returned (.bool true) ∧ Below w.heap.size w w' := by
  have HT := Lib.hid (fun X (hX : Frm [] w X) => hT.frm hX (by simp))
  have HAl := Lib.hid (fun X (hX : Frm [] w X) => ualive_c X (HT.out X hX))
  have HOr := Lib.hid (fun X (hX : Frm [] w X) (hl : r.B.length ≤ 1000000) => uof_c r cut ar cr X hor (rr.below hX.below) nr lr mr (HT.out X hX) hl)
  have HRo := Lib.hid (fun X (hX : Frm [] w X) (hl : r.B.length ≤ 1000000) => urof_c r cut ar cr X hor (rr.below hX.below) nr lr mr hl)
  have hou := uofX_ok hor cut
  obtain ⟨E, hE⟩ : ∃ E, E = uofE r cut := ⟨_, rfl⟩
  obtain ⟨u, hu⟩ : ∃ u, u = uofX r cut := ⟨_, rfl⟩
  rw [← hE, ← hu] at HOr HRo
  rw [← hu] at hou
  have HOu := Lib.hid hou
  have HAs := Lib.hid (fun X a c qs (rd : RdLs X a qs) (hn : qs.length ≤ 1000000) => uas_c u a c qs X rd hn)
  have HSm := Lib.hid (fun X a1 c1 a2 c2 (qs rs : List LvV) (h1 : qs.map LvV.lv = u.Ls) (h2 : rs.map LvV.lv = u.Ls) (r1 : RdLs X a1 qs) (r2 : RdLs X a2 rs) (hl : r.B.length ≤ 1000000) => (by
    have hb : ∀ (ts : List LvV), ts.map LvV.lv = u.Ls → ts.length ≤ 1000000 ∧ ∀ q ∈ ts, q.B.length ≤ 1000000 := fun ts ht => ⟨by
      have := congrArg List.length ht
      have := HOu.out.2.1
      simp at *; omega, fun q hq => by
      have h3 := HOu.out.2.2 q.lv (ht ▸ List.mem_map_of_mem hq)
      have h4 : q.lv.B = q.B := rfl
      rw [h4] at h3
      omega⟩
    have h := ursame_c u u a1 a2 c1 c2 qs rs X h1 h2 HOu.out.1 HOu.out.1 r1 r2 (hb qs h1).1 (hb rs h2).1 (hb qs h1).2 (hb rs h2).2
    rw [usame_self] at h
    exact h : Calls Tryd.prog 12 #[u.val (.slice a1 qs.length c1), u.val (.slice a2 rs.length c2)] X fun e w' => e = .returned (.bool true) ∧ Frm [] X w'))
  have HLen := Lib.hid (fun (ts : List LvV) (ht : ts.map LvV.lv = u.Ls) => (by
    have := congrArg List.length ht
    have := HOu.out.2.1
    simp at *; omega : ts.length ≤ 1000000))
  clear hE hu rr nr hT hor hou
  obtain ⟨rh0, rh1, rh2, rh3, rh4, rh5, rh6, rh7, rb, rh, rl, rB⟩ := r
  obtain ⟨uh0, uh1, uh2, uh3, uh4, uh5, uh6, uh7, ub, ulg, uLs⟩ := u
  simp only [Ul.val, Ul.cells, Rp.val, Rp.cells] at *
  obtain ⟨nR, hnR⟩ : ∃ n, n = rB.length := ⟨_, rfl⟩
  rw [← hnR] at HOr HRo HSm lr ⊢
  clear hnR
  have HS0 := Lib.hid ((Sep.init w).alloc #[.int .u8 rh0, .int .u8 rh1, .int .u8 rh2, .int .u8 rh3, .int .u8 rh4, .int .u8 rh5, .int .u8 rh6, .int .u8 rh7, .int .u16 rb, .int .u64 (rh : Int), .int .u64 (rl : Int), .slice ar nR cr] 53)
  go_enter Tryd.func5, Tryd.ntmps5
  go_upto_region 1 with fail
  obtain ⟨w1, hw1⟩ : ∃ w1, w1 = w.alloc (.cells #[.int .u8 rh0, .int .u8 rh1, .int .u8 rh2, .int .u8 rh3, .int .u8 rh4, .int .u8 rh5, .int .u8 rh6, .int .u8 rh7, .int .u16 rb, .int .u64 (rh : Int), .int .u64 (rl : Int), .slice ar nR cr] 53) := ⟨_, rfl⟩
  obtain ⟨o, ho⟩ : ∃ o, o = w.heap.size := ⟨_, rfl⟩
  rw [← hw1, ← ho] at HS0
  rw [← hw1, ← ho]
  clear hw1 ho
  go_wp2_with fail
  refine (HAl.out w1 HS0.out.frm).mono ?_
  rintro e w2 ⟨rfl, hf⟩
  have HS1 := Lib.hid (HS0.out.keep hf)
  clear hf HS0 HAl
  have k11 := (HS1.out.blk 0 rfl).cell 11 rfl
  by_cases h1 : 2000 < nR
  · have t1 : decide (2000 < (nR : Int)) = true := decide_eq_true (by omega)
    clear h1
    go_wp2_with fail
    go_ret
    exact ⟨rfl, HS1.out.frm.below⟩
  have t1 : decide (2000 < (nR : Int)) = false := decide_eq_false (by omega)
  have HlR := Lib.hid (show nR ≤ 1000000 by omega)
  go_upto_region 5 with fail
  clear t1 k11 h1
  have k0 := (HS1.out.blk 0 rfl).cell 0 rfl
  have k1 := (HS1.out.blk 0 rfl).cell 1 rfl
  have k2 := (HS1.out.blk 0 rfl).cell 2 rfl
  have k3 := (HS1.out.blk 0 rfl).cell 3 rfl
  have k4 := (HS1.out.blk 0 rfl).cell 4 rfl
  have k5 := (HS1.out.blk 0 rfl).cell 5 rfl
  have k6 := (HS1.out.blk 0 rfl).cell 6 rfl
  have k7 := (HS1.out.blk 0 rfl).cell 7 rfl
  have k8 := (HS1.out.blk 0 rfl).cell 8 rfl
  have k9 := (HS1.out.blk 0 rfl).cell 9 rfl
  have k10 := (HS1.out.blk 0 rfl).cell 10 rfl
  have k11 := (HS1.out.blk 0 rfl).cell 11 rfl
  go_wp2_with fail
  clear k0 k1 k2 k3 k4 k5 k6 k7 k8 k9 k10 k11
  refine (HOr.out w2 HS1.out.frm HlR.out).mono ?_
  rintro e w3 ⟨va, vn, vc, qs, hq, rfl, hS⟩
  have HQ := Lib.hid hq
  obtain ⟨_, _, hv, _, _, _, hrl⟩ := lb_rd (hS.get 0 rfl)
  simp only [Value.slice.injEq] at hv
  rw [← hv.1] at hrl
  obtain rfl := hv.2.1
  have HR3 := Lib.hid hrl
  have HS2 := Lib.hid (show Sep [] w w3 [blkR o 53 #[.int .u8 rh0, .int .u8 rh1, .int .u8 rh2, .int .u8 rh3, .int .u8 rh4, .int .u8 rh5, .int .u8 rh6, .int .u8 rh7, .int .u16 rb, .int .u64 (rh : Int), .int .u64 (rl : Int), .slice ar nR cr]] from HS1.out.keep hS.frm)
  clear hS hrl hv hq HS1 HOr
  simp only [Ul.val, Ul.cells]
  go_upto_region 6 with fail
  obtain ⟨w4, hw4⟩ : ∃ x, x = w3.alloc (.cells #[.int .u8 uh0, .int .u8 uh1, .int .u8 uh2, .int .u8 uh3, .int .u8 uh4, .int .u8 uh5, .int .u8 uh6, .int .u8 uh7, .int .u16 ub, .bool ulg, .slice va qs.length vc] 29) := ⟨_, rfl⟩
  obtain ⟨g, hg⟩ : ∃ x, x = w3.heap.size := ⟨_, rfl⟩
  have HS3 := Lib.hid (show Sep [] w w4 [blkR g 29 #[.int .u8 uh0, .int .u8 uh1, .int .u8 uh2, .int .u8 uh3, .int .u8 uh4, .int .u8 uh5, .int .u8 uh6, .int .u8 uh7, .int .u16 ub, .bool ulg, .slice va qs.length vc], blkR o 53 #[.int .u8 rh0, .int .u8 rh1, .int .u8 rh2, .int .u8 rh3, .int .u8 rh4, .int .u8 rh5, .int .u8 rh6, .int .u8 rh7, .int .u16 rb, .int .u64 (rh : Int), .int .u64 (rl : Int), .slice ar nR cr]] from by rw [hw4, hg]; exact HS2.out.alloc #[.int .u8 uh0, .int .u8 uh1, .int .u8 uh2, .int .u8 uh3, .int .u8 uh4, .int .u8 uh5, .int .u8 uh6, .int .u8 uh7, .int .u16 ub, .bool ulg, .slice va qs.length vc] 29)
  have HR4 := Lib.hid (show RdLs w4 va qs from by rw [hw4]; exact HR3.out.frm ((Frm.refl _ _).alloc _))
  rw [← hw4, ← hg]
  clear hw4 hg HS2 HR3
  have k0 := (HS3.out.blk 1 rfl).cell 0 rfl
  have k1 := (HS3.out.blk 1 rfl).cell 1 rfl
  have k2 := (HS3.out.blk 1 rfl).cell 2 rfl
  have k3 := (HS3.out.blk 1 rfl).cell 3 rfl
  have k4 := (HS3.out.blk 1 rfl).cell 4 rfl
  have k5 := (HS3.out.blk 1 rfl).cell 5 rfl
  have k6 := (HS3.out.blk 1 rfl).cell 6 rfl
  have k7 := (HS3.out.blk 1 rfl).cell 7 rfl
  have k8 := (HS3.out.blk 1 rfl).cell 8 rfl
  have k9 := (HS3.out.blk 1 rfl).cell 9 rfl
  have k10 := (HS3.out.blk 1 rfl).cell 10 rfl
  have k11 := (HS3.out.blk 1 rfl).cell 11 rfl
  go_wp2_with fail
  clear k0 k1 k2 k3 k4 k5 k6 k7 k8 k9 k10 k11
  refine (HRo.out w4 HS3.out.frm HlR.out).mono ?_
  rintro e w5 ⟨vb, vd, rs, rfl, hq5, rd5, hf5⟩
  have HQ5 := Lib.hid hq5
  have HR5 := Lib.hid (And.intro (HR4.out.frm hf5) rd5)
  have HS4 := Lib.hid (HS3.out.keep hf5)
  clear rd5 hq5 hf5 HS3 HR4 HRo
  simp only [Ul.val, Ul.cells]
  go_upto_region 7 with fail
  obtain ⟨w6, hw6⟩ : ∃ x, x = w5.alloc (.cells #[.int .u8 uh0, .int .u8 uh1, .int .u8 uh2, .int .u8 uh3, .int .u8 uh4, .int .u8 uh5, .int .u8 uh6, .int .u8 uh7, .int .u16 ub, .bool ulg, .slice vb rs.length vd] 35) := ⟨_, rfl⟩
  obtain ⟨q, hq⟩ : ∃ x, x = w5.heap.size := ⟨_, rfl⟩
  have HS5 := Lib.hid (show Sep [] w w6 [blkR q 35 #[.int .u8 uh0, .int .u8 uh1, .int .u8 uh2, .int .u8 uh3, .int .u8 uh4, .int .u8 uh5, .int .u8 uh6, .int .u8 uh7, .int .u16 ub, .bool ulg, .slice vb rs.length vd], blkR g 29 #[.int .u8 uh0, .int .u8 uh1, .int .u8 uh2, .int .u8 uh3, .int .u8 uh4, .int .u8 uh5, .int .u8 uh6, .int .u8 uh7, .int .u16 ub, .bool ulg, .slice va qs.length vc], blkR o 53 #[.int .u8 rh0, .int .u8 rh1, .int .u8 rh2, .int .u8 rh3, .int .u8 rh4, .int .u8 rh5, .int .u8 rh6, .int .u8 rh7, .int .u16 rb, .int .u64 (rh : Int), .int .u64 (rl : Int), .slice ar nR cr]] from by rw [hw6, hq]; exact HS4.out.alloc #[.int .u8 uh0, .int .u8 uh1, .int .u8 uh2, .int .u8 uh3, .int .u8 uh4, .int .u8 uh5, .int .u8 uh6, .int .u8 uh7, .int .u16 ub, .bool ulg, .slice vb rs.length vd] 35)
  have HR6 := Lib.hid (show RdLs w6 va qs ∧ RdLs w6 vb rs from by rw [hw6]; exact ⟨HR5.out.1.frm ((Frm.refl _ _).alloc _), HR5.out.2.frm ((Frm.refl _ _).alloc _)⟩)
  rw [← hw6, ← hq]
  clear hw6 hq HS4 HR5
  have hee : (E == E) = true := by simp
  have hde : decide (E = E) = true := by simp
  refine region_segsP (G := []) [0, 1, 2, 3, 4, 6, 5, 7, 8, 9] [6, 0] (by decide) (by kernel_rfl) (by kernel_rfl) (by kernel_rfl) (by kernel_rfl) (by kernel_rfl) (by kernel_rfl) (by kernel_rfl) ?_
  simp only [remOf, List.filterMap_cons, List.filterMap_nil, List.getElem?_cons_zero, List.getElem?_cons_succ]
  have HS6 := Lib.hid HS5.out.drew
  have HR7 := Lib.hid (show RdLs w6.drew va qs ∧ RdLs w6.drew vb rs from ⟨HR6.out.1.frm (Frm.refl _ _).drew, HR6.out.2.frm (Frm.refl _ _).drew⟩)
  obtain ⟨x6, hx6⟩ : ∃ x, x = w6.drew := ⟨_, rfl⟩
  rw [← hx6] at HS6 HR7
  rw [← hx6]
  clear hx6 HS5 HR6
  have n1 : Nonempty (Cls (fun v => Frm [] x6 v)) := ⟨⟨_, Frm.refl _ _⟩⟩
  have q0 := fun x : Cls (fun v => Frm [] x6 v) => (x.ok.blk (HS6.out.blk 1 rfl) (by simp)).cell 0 rfl
  have j0 := fun x : Cls (fun v => Frm [] x6 v) => (x.ok.blk (HS6.out.blk 0 rfl) (by simp)).cell 0 rfl
  have q1 := fun x : Cls (fun v => Frm [] x6 v) => (x.ok.blk (HS6.out.blk 1 rfl) (by simp)).cell 1 rfl
  have j1 := fun x : Cls (fun v => Frm [] x6 v) => (x.ok.blk (HS6.out.blk 0 rfl) (by simp)).cell 1 rfl
  have q2 := fun x : Cls (fun v => Frm [] x6 v) => (x.ok.blk (HS6.out.blk 1 rfl) (by simp)).cell 2 rfl
  have j2 := fun x : Cls (fun v => Frm [] x6 v) => (x.ok.blk (HS6.out.blk 0 rfl) (by simp)).cell 2 rfl
  have q3 := fun x : Cls (fun v => Frm [] x6 v) => (x.ok.blk (HS6.out.blk 1 rfl) (by simp)).cell 3 rfl
  have j3 := fun x : Cls (fun v => Frm [] x6 v) => (x.ok.blk (HS6.out.blk 0 rfl) (by simp)).cell 3 rfl
  have q4 := fun x : Cls (fun v => Frm [] x6 v) => (x.ok.blk (HS6.out.blk 1 rfl) (by simp)).cell 4 rfl
  have j4 := fun x : Cls (fun v => Frm [] x6 v) => (x.ok.blk (HS6.out.blk 0 rfl) (by simp)).cell 4 rfl
  have q5 := fun x : Cls (fun v => Frm [] x6 v) => (x.ok.blk (HS6.out.blk 1 rfl) (by simp)).cell 5 rfl
  have j5 := fun x : Cls (fun v => Frm [] x6 v) => (x.ok.blk (HS6.out.blk 0 rfl) (by simp)).cell 5 rfl
  have q6 := fun x : Cls (fun v => Frm [] x6 v) => (x.ok.blk (HS6.out.blk 1 rfl) (by simp)).cell 6 rfl
  have j6 := fun x : Cls (fun v => Frm [] x6 v) => (x.ok.blk (HS6.out.blk 0 rfl) (by simp)).cell 6 rfl
  have q7 := fun x : Cls (fun v => Frm [] x6 v) => (x.ok.blk (HS6.out.blk 1 rfl) (by simp)).cell 7 rfl
  have j7 := fun x : Cls (fun v => Frm [] x6 v) => (x.ok.blk (HS6.out.blk 0 rfl) (by simp)).cell 7 rfl
  have q8 := fun x : Cls (fun v => Frm [] x6 v) => (x.ok.blk (HS6.out.blk 1 rfl) (by simp)).cell 8 rfl
  have j8 := fun x : Cls (fun v => Frm [] x6 v) => (x.ok.blk (HS6.out.blk 0 rfl) (by simp)).cell 8 rfl
  have q9 := fun x : Cls (fun v => Frm [] x6 v) => (x.ok.blk (HS6.out.blk 1 rfl) (by simp)).cell 9 rfl
  have j9 := fun x : Cls (fun v => Frm [] x6 v) => (x.ok.blk (HS6.out.blk 0 rfl) (by simp)).cell 9 rfl
  have q10 := fun x : Cls (fun v => Frm [] x6 v) => (x.ok.blk (HS6.out.blk 1 rfl) (by simp)).cell 10 rfl
  have j10 := fun x : Cls (fun v => Frm [] x6 v) => (x.ok.blk (HS6.out.blk 0 rfl) (by simp)).cell 10 rfl
  unfold wpSegs
  simp only [List.take_succ_cons, List.take_zero, List.drop_succ_cons, List.drop_zero]
  repeat (go_big_quiet_step (rfl))
  refine wpQuiet_nil ?_
  refine only_step (fun K' hK => ?_)
  clear n1 q0 q1 q2 q3 q4 q5 q6 q7 q8 q9 q10 j0 j1 j2 j3 j4 j5 j6 j7 j8 j9 j10
  go_wp2_with fail
  refine (HAs.out _ va vc qs HR7.out.1 (HLen.out qs HQ.out)).mono ?_
  rintro e w7 ⟨ad, cd, rfl, rd7, hf⟩
  have HR8 := Lib.hid (And.intro rd7 (HR7.out.2.frm hf))
  have HF7 := Lib.hid hf
  simp only [Ul.val, Ul.cells]
  clear hf rd7
  go_wp2_with fail
  refine hK.out _ _ ⟨HF7.out, ?_⟩
  clear hK
  unfold wpSegs
  simp only [List.take_succ_cons, List.take_zero, List.drop_succ_cons, List.drop_zero]
  refine wpQuiet_nil ?_
  refine only_step (fun K' hK => ?_)
  go_wp2_with fail
  refine (HSm.out _ ad cd vb vd qs rs HQ.out HQ5.out HR8.out.1 HR8.out.2 HlR.out).mono ?_
  rintro e w8 ⟨rfl, hf⟩
  have HF8 := Lib.hid (HF7.out.trans hf)
  go_wp2_with fail
  refine hK.out _ _ ⟨hf, ?_⟩
  clear hK hf
  have n1 : Nonempty (Cls (fun v => Frm [] w8 v)) := ⟨⟨_, Frm.refl _ _⟩⟩
  unfold wpSegs
  show wpQuiet _ _ _ _ [_, _] _
  repeat (go_big_quiet_step (rfl))
  refine wpQuiet_nil ?_
  clear n1
  refine NoPanic.normal ?_
  go_wp2_with fail
  go_ret
  exact ⟨rfl, (HS6.out.frm.trans HF8.out).below⟩
theorem ulpOf_f {w : World} (hT : Tabs w) (r : Rp) (ar : Option Addr) (cr : Nat) (hor : r.Ok) (rr : RdI .u8 w ar r.B) (nr : ar = none → cr = 0) (lr : r.B.length ≤ cr) (mr : cr ≤ maxLen)
    (cut : Int) (w0 : (Lit.int .i64 cut).wf = true) :
    Calls Tryd.prog 5 #[r.val (.slice ar r.B.length cr), .int .i64 cut] w fun e w' => e = .returned (.bool true) ∧ Below w.heap.size w w' :=
  ulpOf_w w hT r ar cr hor rr nr lr (by unfold maxLen at *; omega) cut

end Go.Proofs.YtjflcijiaennkaaDoor
