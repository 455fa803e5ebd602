/-
  THE WALK of the law FlexOf. Printed by gen_fxm.py.
-/
import Derived.Test.YtnloabpdjedanaaDoorFxM
import Derived.Test.YtnloabpdjedanaaDoorFxX
import Derived.Test.YtnloabpdjedanaaDoorFop
set_option linter.unusedVariables false
set_option linter.unusedSimpArgs false
namespace Go.Proofs.YtnloabpdjedanaaDoor
open Go.RowKit

theorem ofX_ok {r : Rp} (h : r.Ok) : (ofX r).Ok ∧ (ofX r).B.length ≤ r.B.length := by
  unfold ofX
  split
  · exact ⟨pkOf_ok h, Nat.le_refl _⟩
  · exact ⟨exN_ok, Nat.zero_le _⟩
theorem gridL_len (b l d : Int) : (gridL b l d).length ≤ 1000 := by
  unfold gridL
  split
  · rename_i h
    obtain ⟨h1, h2, h3, h4⟩ := grid_in (by simpa using h)
    rw [gL_len]
    unfold gN
    split <;> omega
  · simp

set_option maxRecDepth 100000 in
set_option maxHeartbeats 16000000 in
theorem flexOf_w (w : World) (hT : Tabs w) (r : Rp) (ar : Option Addr) (cr : Nat) (hor : r.Ok) (rr : RdI .u8 w ar r.B) (nr : ar = none → cr = 0) (lr : r.B.length ≤ 9223372036854775807)
    (b l d : Int) (b0 : 0 ≤ b) (b1 : b ≤ 65535) :
    Calls Tryd.prog 5 #[r.val (.slice ar r.B.length cr), .int .u16 b, .int .i64 l, .int .i64 d] w fun e w' => e = .returned (.bool true) ∧ Below w.heap.size w w' := by
  have HT := Lib.hid (fun X (hX : Frm [] w X) => hT.frm hX (by simp))
  have HAl := Lib.hid (fun X (hX : Frm [] w X) => alive_c X (HT.out X hX))
  have HOr := Lib.hid (fun X (hX : Frm [] w X) (hl : r.B.length ≤ 1000000) => fof_c r ar cr X hor (rr.below hX.below) nr (HT.out X hX) hl)
  have HRo := Lib.hid (fun X (hX : Frm [] w X) (hl : r.B.length ≤ 1000000) => rofp_c r ar cr X hor (rr.below hX.below) nr hl)
  have HGd := Lib.hid (fun X => fgrid_c b l d X b0 b1)
  have HGr := Lib.hid (fun X => rgrid_c b l d X b0 b1)
  have hou := ofX_ok hor
  obtain ⟨E, hE⟩ : ∃ E, E = ofE r := ⟨_, rfl⟩
  obtain ⟨u, hu⟩ : ∃ u, u = ofX r := ⟨_, rfl⟩
  obtain ⟨G, hG⟩ : ∃ G, G = gridL b l d := ⟨_, rfl⟩
  have hgl := gridL_len b l d
  rw [← hG] at HGd HGr hgl
  rw [← hE] at HOr HRo
  rw [← hu] at HOr HRo hou
  have HAs := Lib.hid (fun a' n' c' X => as_c u a' n' c' X)
  have HSm := Lib.hid (fun X a1 c1 a2 c2 (r1 : RdI .u8 X a1 u.B) (r2 : RdI .u8 X a2 u.B) (hl : u.B.length ≤ 1000000) => (by
    have h := rsame_c u u a1 a2 c1 c2 X hou.1 hou.1 r1 r2 hl hl
    rw [same_self] at h
    exact h : Calls Tryd.prog 12 #[u.val (.slice a1 u.B.length c1), u.val (.slice a2 u.B.length c2)] X fun e w' => e = .returned (.bool true) ∧ Frm [] X w'))
  have hlu := hou.2
  clear hE hu hG rr nr hT hor hou
  obtain ⟨rh0, rh1, rh2, rh3, rh4, rh5, rh6, rh7, rb, rh, rl, rB⟩ := r
  obtain ⟨uh0, uh1, uh2, uh3, uh4, uh5, uh6, uh7, ub, uh, ul, ufx, uL, uD, uB⟩ := u
  simp only [Fx.val, Fx.cells, Rp.val, Rp.cells] at *
  obtain ⟨nR, hnR⟩ : ∃ n, n = rB.length := ⟨_, rfl⟩
  obtain ⟨nU, hnU⟩ : ∃ n, n = uB.length := ⟨_, rfl⟩
  rw [← hnR] at HOr HRo lr hlu ⊢
  rw [← hnU] at HSm hlu
  have HnU := Lib.hid hnU
  clear hnR hnU
  have HS0 := Lib.hid ((Sep.init w).alloc #[.int .u8 rh0, .int .u8 rh1, .int .u8 rh2, .int .u8 rh3, .int .u8 rh4, .int .u8 rh5, .int .u8 rh6, .int .u8 rh7, .int .u16 rb, .int .u64 (rh : Int), .int .u64 (rl : Int), .slice ar nR cr] 48)
  go_enter Tryd.func5, Tryd.ntmps5
  go_upto_region 1 with fail
  obtain ⟨w1, hw1⟩ : ∃ w1, w1 = w.alloc (.cells #[.int .u8 rh0, .int .u8 rh1, .int .u8 rh2, .int .u8 rh3, .int .u8 rh4, .int .u8 rh5, .int .u8 rh6, .int .u8 rh7, .int .u16 rb, .int .u64 (rh : Int), .int .u64 (rl : Int), .slice ar nR cr] 48) := ⟨_, rfl⟩
  obtain ⟨o, ho⟩ : ∃ o, o = w.heap.size := ⟨_, rfl⟩
  rw [← hw1, ← ho] at HS0
  rw [← hw1, ← ho]
  clear hw1 ho
  go_wp2_with fail
  refine (HAl.out w1 HS0.out.frm).mono ?_
  rintro e w2 ⟨rfl, hf⟩
  have HS1 := Lib.hid (HS0.out.keep hf)
  clear hf HS0 HAl
  have k11 := (HS1.out.blk 0 rfl).cell 11 rfl
  by_cases h1 : 2000 < nR
  · have t1 : decide (2000 < (nR : Int)) = true := decide_eq_true (by omega)
    clear h1
    go_wp2_with fail
    go_ret
    exact ⟨rfl, HS1.out.frm.below⟩
  have t1 : decide (2000 < (nR : Int)) = false := decide_eq_false (by omega)
  have HlR := Lib.hid (show nR ≤ 1000000 by omega)
  have HlU := Lib.hid (show nU ≤ 1000000 by omega)
  go_upto_region 5 with fail
  clear t1 k11 h1
  have k0 := (HS1.out.blk 0 rfl).cell 0 rfl
  have k1 := (HS1.out.blk 0 rfl).cell 1 rfl
  have k2 := (HS1.out.blk 0 rfl).cell 2 rfl
  have k3 := (HS1.out.blk 0 rfl).cell 3 rfl
  have k4 := (HS1.out.blk 0 rfl).cell 4 rfl
  have k5 := (HS1.out.blk 0 rfl).cell 5 rfl
  have k6 := (HS1.out.blk 0 rfl).cell 6 rfl
  have k7 := (HS1.out.blk 0 rfl).cell 7 rfl
  have k8 := (HS1.out.blk 0 rfl).cell 8 rfl
  have k9 := (HS1.out.blk 0 rfl).cell 9 rfl
  have k10 := (HS1.out.blk 0 rfl).cell 10 rfl
  have k11 := (HS1.out.blk 0 rfl).cell 11 rfl
  go_wp2_with fail
  clear k0 k1 k2 k3 k4 k5 k6 k7 k8 k9 k10 k11
  refine (HOr.out w2 HS1.out.frm HlR.out).mono ?_
  rintro e w3 ⟨va, vn, vc, rfl, hS⟩
  obtain rfl : vn = nU := by
    obtain ⟨_, _, hv, _⟩ := own_shape (hS.own 0 rfl)
    injection hv with _ h2 _
    exact h2.trans HnU.out.symm
  have rd3 : RdI .u8 w3 va uB := by
    obtain ⟨_, _, hv, rd, _⟩ := sl_of (k := .u8) (hS.own 0 rfl)
    injection hv with h1 _ _
    subst h1
    exact rd
  have HR3 := Lib.hid rd3
  have HS2 := Lib.hid (show Sep [] w w3 [blkR o 48 #[.int .u8 rh0, .int .u8 rh1, .int .u8 rh2, .int .u8 rh3, .int .u8 rh4, .int .u8 rh5, .int .u8 rh6, .int .u8 rh7, .int .u16 rb, .int .u64 (rh : Int), .int .u64 (rl : Int), .slice ar nR cr]] from HS1.out.keep hS.frm)
  clear hS rd3 HS1 HOr
  simp only [Fx.val, Fx.cells]
  go_upto_region 6 with fail
  obtain ⟨w4, hw4⟩ : ∃ x, x = w3.alloc (.cells #[.int .u8 uh0, .int .u8 uh1, .int .u8 uh2, .int .u8 uh3, .int .u8 uh4, .int .u8 uh5, .int .u8 uh6, .int .u8 uh7, .int .u16 ub, .int .u64 (uh : Int), .int .u64 (ul : Int), .bool ufx, .int .i64 uL, .int .i64 uD, .slice va vn vc] 31) := ⟨_, rfl⟩
  obtain ⟨g, hg⟩ : ∃ x, x = w3.heap.size := ⟨_, rfl⟩
  have HS3 := Lib.hid (show Sep [] w w4 [blkR g 31 #[.int .u8 uh0, .int .u8 uh1, .int .u8 uh2, .int .u8 uh3, .int .u8 uh4, .int .u8 uh5, .int .u8 uh6, .int .u8 uh7, .int .u16 ub, .int .u64 (uh : Int), .int .u64 (ul : Int), .bool ufx, .int .i64 uL, .int .i64 uD, .slice va vn vc], blkR o 48 #[.int .u8 rh0, .int .u8 rh1, .int .u8 rh2, .int .u8 rh3, .int .u8 rh4, .int .u8 rh5, .int .u8 rh6, .int .u8 rh7, .int .u16 rb, .int .u64 (rh : Int), .int .u64 (rl : Int), .slice ar nR cr]] from by rw [hw4, hg]; exact HS2.out.alloc #[.int .u8 uh0, .int .u8 uh1, .int .u8 uh2, .int .u8 uh3, .int .u8 uh4, .int .u8 uh5, .int .u8 uh6, .int .u8 uh7, .int .u16 ub, .int .u64 (uh : Int), .int .u64 (ul : Int), .bool ufx, .int .i64 uL, .int .i64 uD, .slice va vn vc] 31)
  have HR4 := Lib.hid (show RdI .u8 w4 va uB from by rw [hw4]; exact HR3.out.alloc _)
  rw [← hw4, ← hg]
  clear hw4 hg HS2 HR3
  have k0 := (HS3.out.blk 1 rfl).cell 0 rfl
  have k1 := (HS3.out.blk 1 rfl).cell 1 rfl
  have k2 := (HS3.out.blk 1 rfl).cell 2 rfl
  have k3 := (HS3.out.blk 1 rfl).cell 3 rfl
  have k4 := (HS3.out.blk 1 rfl).cell 4 rfl
  have k5 := (HS3.out.blk 1 rfl).cell 5 rfl
  have k6 := (HS3.out.blk 1 rfl).cell 6 rfl
  have k7 := (HS3.out.blk 1 rfl).cell 7 rfl
  have k8 := (HS3.out.blk 1 rfl).cell 8 rfl
  have k9 := (HS3.out.blk 1 rfl).cell 9 rfl
  have k10 := (HS3.out.blk 1 rfl).cell 10 rfl
  have k11 := (HS3.out.blk 1 rfl).cell 11 rfl
  go_wp2_with fail
  clear k0 k1 k2 k3 k4 k5 k6 k7 k8 k9 k10 k11
  refine (HRo.out w4 HS3.out.frm HlR.out).mono ?_
  rintro e w5 ⟨vb, vd, rfl, rd5, n5, hf5⟩
  have HR5 := Lib.hid (And.intro (HR4.out.frm hf5 (by simp)) rd5)
  have HS4 := Lib.hid (HS3.out.keep hf5)
  clear rd5 n5 hf5 HS3 HR4 HRo
  simp only [Fx.val, Fx.cells]
  rw [← HnU.out]
  go_upto_region 7 with fail
  obtain ⟨w6, hw6⟩ : ∃ x, x = w5.alloc (.cells #[.int .u8 uh0, .int .u8 uh1, .int .u8 uh2, .int .u8 uh3, .int .u8 uh4, .int .u8 uh5, .int .u8 uh6, .int .u8 uh7, .int .u16 ub, .int .u64 (uh : Int), .int .u64 (ul : Int), .bool ufx, .int .i64 uL, .int .i64 uD, .slice vb vn vd] 36) := ⟨_, rfl⟩
  obtain ⟨q, hq⟩ : ∃ x, x = w5.heap.size := ⟨_, rfl⟩
  have HS5 := Lib.hid (show Sep [] w w6 [blkR q 36 #[.int .u8 uh0, .int .u8 uh1, .int .u8 uh2, .int .u8 uh3, .int .u8 uh4, .int .u8 uh5, .int .u8 uh6, .int .u8 uh7, .int .u16 ub, .int .u64 (uh : Int), .int .u64 (ul : Int), .bool ufx, .int .i64 uL, .int .i64 uD, .slice vb vn vd], blkR g 31 #[.int .u8 uh0, .int .u8 uh1, .int .u8 uh2, .int .u8 uh3, .int .u8 uh4, .int .u8 uh5, .int .u8 uh6, .int .u8 uh7, .int .u16 ub, .int .u64 (uh : Int), .int .u64 (ul : Int), .bool ufx, .int .i64 uL, .int .i64 uD, .slice va vn vc], blkR o 48 #[.int .u8 rh0, .int .u8 rh1, .int .u8 rh2, .int .u8 rh3, .int .u8 rh4, .int .u8 rh5, .int .u8 rh6, .int .u8 rh7, .int .u16 rb, .int .u64 (rh : Int), .int .u64 (rl : Int), .slice ar nR cr]] from by rw [hw6, hq]; exact HS4.out.alloc #[.int .u8 uh0, .int .u8 uh1, .int .u8 uh2, .int .u8 uh3, .int .u8 uh4, .int .u8 uh5, .int .u8 uh6, .int .u8 uh7, .int .u16 ub, .int .u64 (uh : Int), .int .u64 (ul : Int), .bool ufx, .int .i64 uL, .int .i64 uD, .slice vb vn vd] 36)
  have HR6 := Lib.hid (show RdI .u8 w6 va uB ∧ RdI .u8 w6 vb uB from by rw [hw6]; exact ⟨HR5.out.1.alloc _, HR5.out.2.alloc _⟩)
  rw [← hw6, ← hq]
  clear hw6 hq HS4 HR5
  have hee : (E == E) = true := by simp
  have hde : decide (E = E) = true := by simp
  refine region_segsP (G := []) [0, 1, 2, 3, 4, 6, 5, 7, 8, 9, 10, 11, 12, 14, 15, 16, 13, 17, 18, 19, 20] [6, 0, 8, 0, 0] (by decide) (by kernel_rfl) (by kernel_rfl) (by kernel_rfl) (by kernel_rfl) (by kernel_rfl) (by kernel_rfl) (by kernel_rfl) ?_
  simp only [remOf, List.filterMap_cons, List.filterMap_nil, List.getElem?_cons_zero, List.getElem?_cons_succ]
  have HS6 := Lib.hid HS5.out.drew
  have HR7 := Lib.hid (show RdI .u8 w6.drew va uB ∧ RdI .u8 w6.drew vb uB from HR6.out)
  obtain ⟨x6, hx6⟩ : ∃ x, x = w6.drew := ⟨_, rfl⟩
  rw [← hx6] at HS6 HR7
  rw [← hx6]
  clear hx6 HS5 HR6
  have n1 : Nonempty (Cls (fun v => Frm [] x6 v)) := ⟨⟨_, Frm.refl _ _⟩⟩
  have q0 := fun x : Cls (fun v => Frm [] x6 v) => (x.ok.blk (HS6.out.blk 1 rfl) (by simp)).cell 0 rfl
  have j0 := fun x : Cls (fun v => Frm [] x6 v) => (x.ok.blk (HS6.out.blk 0 rfl) (by simp)).cell 0 rfl
  have q1 := fun x : Cls (fun v => Frm [] x6 v) => (x.ok.blk (HS6.out.blk 1 rfl) (by simp)).cell 1 rfl
  have j1 := fun x : Cls (fun v => Frm [] x6 v) => (x.ok.blk (HS6.out.blk 0 rfl) (by simp)).cell 1 rfl
  have q2 := fun x : Cls (fun v => Frm [] x6 v) => (x.ok.blk (HS6.out.blk 1 rfl) (by simp)).cell 2 rfl
  have j2 := fun x : Cls (fun v => Frm [] x6 v) => (x.ok.blk (HS6.out.blk 0 rfl) (by simp)).cell 2 rfl
  have q3 := fun x : Cls (fun v => Frm [] x6 v) => (x.ok.blk (HS6.out.blk 1 rfl) (by simp)).cell 3 rfl
  have j3 := fun x : Cls (fun v => Frm [] x6 v) => (x.ok.blk (HS6.out.blk 0 rfl) (by simp)).cell 3 rfl
  have q4 := fun x : Cls (fun v => Frm [] x6 v) => (x.ok.blk (HS6.out.blk 1 rfl) (by simp)).cell 4 rfl
  have j4 := fun x : Cls (fun v => Frm [] x6 v) => (x.ok.blk (HS6.out.blk 0 rfl) (by simp)).cell 4 rfl
  have q5 := fun x : Cls (fun v => Frm [] x6 v) => (x.ok.blk (HS6.out.blk 1 rfl) (by simp)).cell 5 rfl
  have j5 := fun x : Cls (fun v => Frm [] x6 v) => (x.ok.blk (HS6.out.blk 0 rfl) (by simp)).cell 5 rfl
  have q6 := fun x : Cls (fun v => Frm [] x6 v) => (x.ok.blk (HS6.out.blk 1 rfl) (by simp)).cell 6 rfl
  have j6 := fun x : Cls (fun v => Frm [] x6 v) => (x.ok.blk (HS6.out.blk 0 rfl) (by simp)).cell 6 rfl
  have q7 := fun x : Cls (fun v => Frm [] x6 v) => (x.ok.blk (HS6.out.blk 1 rfl) (by simp)).cell 7 rfl
  have j7 := fun x : Cls (fun v => Frm [] x6 v) => (x.ok.blk (HS6.out.blk 0 rfl) (by simp)).cell 7 rfl
  have q8 := fun x : Cls (fun v => Frm [] x6 v) => (x.ok.blk (HS6.out.blk 1 rfl) (by simp)).cell 8 rfl
  have j8 := fun x : Cls (fun v => Frm [] x6 v) => (x.ok.blk (HS6.out.blk 0 rfl) (by simp)).cell 8 rfl
  have q9 := fun x : Cls (fun v => Frm [] x6 v) => (x.ok.blk (HS6.out.blk 1 rfl) (by simp)).cell 9 rfl
  have j9 := fun x : Cls (fun v => Frm [] x6 v) => (x.ok.blk (HS6.out.blk 0 rfl) (by simp)).cell 9 rfl
  have q10 := fun x : Cls (fun v => Frm [] x6 v) => (x.ok.blk (HS6.out.blk 1 rfl) (by simp)).cell 10 rfl
  have j10 := fun x : Cls (fun v => Frm [] x6 v) => (x.ok.blk (HS6.out.blk 0 rfl) (by simp)).cell 10 rfl
  have q11 := fun x : Cls (fun v => Frm [] x6 v) => (x.ok.blk (HS6.out.blk 1 rfl) (by simp)).cell 11 rfl
  have j11 := fun x : Cls (fun v => Frm [] x6 v) => (x.ok.blk (HS6.out.blk 0 rfl) (by simp)).cell 11 rfl
  have q12 := fun x : Cls (fun v => Frm [] x6 v) => (x.ok.blk (HS6.out.blk 1 rfl) (by simp)).cell 12 rfl
  have j12 := fun x : Cls (fun v => Frm [] x6 v) => (x.ok.blk (HS6.out.blk 0 rfl) (by simp)).cell 12 rfl
  have q13 := fun x : Cls (fun v => Frm [] x6 v) => (x.ok.blk (HS6.out.blk 1 rfl) (by simp)).cell 13 rfl
  have j13 := fun x : Cls (fun v => Frm [] x6 v) => (x.ok.blk (HS6.out.blk 0 rfl) (by simp)).cell 13 rfl
  have q14 := fun x : Cls (fun v => Frm [] x6 v) => (x.ok.blk (HS6.out.blk 1 rfl) (by simp)).cell 14 rfl
  have j14 := fun x : Cls (fun v => Frm [] x6 v) => (x.ok.blk (HS6.out.blk 0 rfl) (by simp)).cell 14 rfl
  unfold wpSegs
  simp only [List.take_succ_cons, List.take_zero, List.drop_succ_cons, List.drop_zero]
  repeat (go_big_quiet_step (rfl))
  refine wpQuiet_nil ?_
  refine only_step (fun K' hK => ?_)
  clear n1 q0 q1 q2 q3 q4 q5 q6 q7 q8 q9 q10 q11 q12 q13 q14 j0 j1 j2 j3 j4 j5 j6 j7 j8 j9 j10 j11 j12 j13 j14
  go_wp2_with fail
  refine (HAs.out va vn vc _).mono ?_
  rintro e w7 ⟨rfl, hf⟩
  simp only [Fx.val, Fx.cells]
  have HF7 := Lib.hid hf
  clear hf
  go_wp2_with fail
  refine hK.out _ _ ⟨HF7.out, ?_⟩
  clear hK
  unfold wpSegs
  simp only [List.take_succ_cons, List.take_zero, List.drop_succ_cons, List.drop_zero]
  have n1 : Nonempty (Cls (fun v => Frm [] w7 v)) := ⟨⟨_, Frm.refl _ _⟩⟩
  repeat (go_big_quiet_step (rfl))
  refine wpQuiet_nil ?_
  refine only_step (fun K' hK => ?_)
  clear n1
  go_wp2_with fail
  refine (HSm.out _ _ _ _ _ (HR7.out.1.frm HF7.out (by simp)) (HR7.out.2.frm HF7.out (by simp)) HlU.out).mono ?_
  rintro e w8 ⟨rfl, hf⟩
  have HF8 := Lib.hid (HF7.out.trans hf)
  have HF78 := Lib.hid hf
  clear hf
  go_wp2_with fail
  refine hK.out _ _ ⟨HF78.out, ?_⟩
  clear hK
  unfold wpSegs
  simp only [List.take_succ_cons, List.take_zero, List.drop_succ_cons, List.drop_zero]
  have n1 : Nonempty (Cls (fun v => Frm [] w8 v)) := ⟨⟨_, Frm.refl _ _⟩⟩
  repeat (go_big_quiet_step (rfl))
  refine wpQuiet_nil ?_
  refine only_step (fun K' hK => ?_)
  clear n1
  go_wp2_with fail
  refine (HGd.out _).mono ?_
  rintro e w9 ⟨v9, rfl, hS9⟩
  obtain ⟨a9, c9, rfl, rd9, -, -, -⟩ := sl_of (k := .u16) (hS9.own 0 rfl)
  have HF9 := Lib.hid (HF8.out.trans hS9.frm)
  have HF89 := Lib.hid hS9.frm
  have HR9 := Lib.hid rd9
  clear hS9 rd9
  go_wp2_with fail
  refine hK.out _ _ ⟨HF89.out, ?_⟩
  clear hK
  unfold wpSegs
  simp only [List.take_succ_cons, List.take_zero, List.drop_succ_cons, List.drop_zero]
  have n1 : Nonempty (Cls (fun v => Frm [] w9 v)) := ⟨⟨_, Frm.refl _ _⟩⟩
  repeat (go_big_quiet_step (rfl))
  refine wpQuiet_nil ?_
  refine only_step (fun K' hK => ?_)
  clear n1
  go_wp2_with fail
  refine (HGr.out _).mono ?_
  rintro e w10 ⟨v10, rfl, hS9⟩
  obtain ⟨a10, c10, rfl, rd10, -, -, -⟩ := sl_of (k := .u16) (hS9.own 0 rfl)
  have HF10 := Lib.hid (HF9.out.trans hS9.frm)
  have HF90 := Lib.hid hS9.frm
  have HR10 := Lib.hid (And.intro (HR9.out.frm hS9.frm (by simp)) rd10)
  clear hS9 rd10 HR9
  go_wp2_with fail
  refine hK.out _ _ ⟨HF90.out, ?_⟩
  clear hK
  unfold wpSegs
  simp only [List.take_succ_cons, List.take_zero, List.drop_succ_cons, List.drop_zero]
  have n1 : Nonempty (Cls (fun v => Frm [] w10 v)) := ⟨⟨_, Frm.refl _ _⟩⟩
  repeat (go_big_quiet_step (rfl))
  refine wpQuiet_nil ?_
  refine only_step (fun K' hK => ?_)
  clear n1
  go_wp2_with fail
  refine (sseq_c _ _ _ _ G _ _ HR10.out.1 HR10.out.2 rfl hgl).mono ?_
  rintro e w11 ⟨rfl, hf⟩
  have HF11 := Lib.hid (HF10.out.trans hf)
  have HF01 := Lib.hid hf
  clear hf HR10
  go_wp2_with fail
  refine hK.out _ _ ⟨HF01.out, ?_⟩
  clear hK
  have n1 : Nonempty (Cls (fun v => Frm [] w11 v)) := ⟨⟨_, Frm.refl _ _⟩⟩
  unfold wpSegs
  show wpQuiet _ _ _ _ [_, _] _
  repeat (go_big_quiet_step (rfl))
  refine wpQuiet_nil ?_
  clear n1
  refine NoPanic.normal ?_
  go_wp2_with fail
  go_ret
  exact ⟨rfl, (HS6.out.frm.trans HF11.out).below⟩
theorem flexOf_f {w : World} (hT : Tabs w) (r : Rp) (ar : Option Addr) (cr : Nat) (hor : r.Ok) (rr : RdI .u8 w ar r.B) (nr : ar = none → cr = 0) (lr : r.B.length ≤ cr) (mr : cr ≤ maxLen)
    (b : Int) (w0 : (Lit.int .u16 b).wf = true) (l : Int) (w1 : (Lit.int .i64 l).wf = true) (d : Int) (w2 : (Lit.int .i64 d).wf = true) :
    Calls Tryd.prog 5 #[r.val (.slice ar r.B.length cr), .int .u16 b, .int .i64 l, .int .i64 d] w fun e w' => e = .returned (.bool true) ∧ Below w.heap.size w w' := by
  have hb : 0 ≤ b ∧ b ≤ 65535 := by simpa [Lit.wf, IntKind.min, IntKind.max, IntKind.bits, IntKind.signed] using w0
  exact flexOf_w w hT r ar cr hor rr nr (by unfold maxLen at *; omega) b l d hb.1 hb.2

end Go.Proofs.YtnloabpdjedanaaDoor
