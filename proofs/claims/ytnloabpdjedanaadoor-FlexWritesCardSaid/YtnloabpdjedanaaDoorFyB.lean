/-
  THE WALK of the law FlexWrites. Printed by gen_fyb.py.
-/
import Derived.Test.YtnloabpdjedanaaDoorFxM
import Derived.Test.YtnloabpdjedanaaDoorFxX
import Derived.Test.YtnloabpdjedanaaDoorFop
set_option linter.unusedVariables false
set_option linter.unusedSimpArgs false
namespace Go.Proofs.YtnloabpdjedanaaDoor
open Go.RowKit

theorem sameRp_self (x : Rp) : sameRp x x = true := by simp [sameRp]
theorem flX_len (x : Fx) : (flX x).B.length ≤ x.B.length := by
  unfold flX
  split
  · exact Nat.le_refl _
  · exact Nat.zero_le _
theorem woX_le (x : Fx) : (woX x).length ≤ 1500 := by
  by_cases h0 : wrX x = 0
  · by_cases h1 : 1500 < (byX x).length
    · rw [(we_long h0 h1).2]; simp
    · rw [(we_good h0 h1).2]; omega
  · rw [(we_bad h0).2]; simp

set_option maxRecDepth 100000 in
set_option maxHeartbeats 16000000 in
theorem flexWrites_w (w : World) (hT : Tabs w) (x : Fx) (a : Option Addr) (c : Nat) (hox : x.Ok) (rx : RdI .u8 w a x.B) (nx : a = none → c = 0) (lx : x.B.length ≤ 9223372036854775807)
    (y : Fx) (a' : Option Addr) (c' : Nat) (hoy : y.Ok) (ry : RdI .u8 w a' y.B) (ny : a' = none → c' = 0) (ly : y.B.length ≤ 9223372036854775807) :
    Calls Tryd.prog 4 #[x.val (.slice a x.B.length c), y.val (.slice a' y.B.length c')] w fun e w' => e = .returned (.bool true) ∧ Below w.heap.size w w' := by
  have HT := Lib.hid (fun X (hX : Frm [] w X) => hT.frm hX (by simp))
  have HAl := Lib.hid (fun X (hX : Frm [] w X) => alive_c X (HT.out X hX))
  have HW := Lib.hid (fun X (hX : Frm [] w X) => write_c x a c X hox (rx.below hX.below) nx (HT.out X hX) lx)
  have HWr := Lib.hid (fun X (hX : Frm [] w X) => rwrite_c x a c X hox (rx.below hX.below) nx lx)
  have HFl := Lib.hid (fun X (hX : Frm [] w X) (hl : x.B.length ≤ 1000000) => fflat_c x a c X hox (rx.below hX.below) nx (HT.out X hX) hl)
  have HFr := Lib.hid (fun X (hX : Frm [] w X) (hl : x.B.length ≤ 1000000) => rflat_c x a c X hox (rx.below hX.below) nx hl)
  have HAx := Lib.hid (fun X => as_c x a x.B.length c X)
  have HAy := Lib.hid (fun X => as_c y a' y.B.length c' X)
  have HSxy := Lib.hid (fun X (hX : Frm [] w X) (h1 : x.B.length ≤ 1000000) (h2 : y.B.length ≤ 1000000) => same_c x y a a' c c' X hox hoy (rx.below hX.below) (ry.below hX.below) h1 h2)
  have HRxy := Lib.hid (fun X (hX : Frm [] w X) (h1 : x.B.length ≤ 1000000) (h2 : y.B.length ≤ 1000000) => rsame_c x y a a' c c' X hox hoy (rx.below hX.below) (ry.below hX.below) h1 h2)
  have HSxx := Lib.hid (fun X (hX : Frm [] w X) (h1 : x.B.length ≤ 1000000) => (by
    have h := same_c x x a a c c X hox hox (rx.below hX.below) (rx.below hX.below) h1 h1
    rw [same_self] at h
    exact h : Calls Tryd.prog 20 #[x.val (.slice a x.B.length c), x.val (.slice a x.B.length c)] X fun e w' => e = .returned (.bool true) ∧ Frm [] X w'))
  obtain ⟨S, hS⟩ : ∃ S, S = sameX x y := ⟨_, rfl⟩
  rw [← hS] at HSxy HRxy
  obtain ⟨E, hE⟩ : ∃ E, E = weX x := ⟨_, rfl⟩
  have hol := woX_le x
  obtain ⟨O, hO⟩ : ∃ O, O = woX x := ⟨_, rfl⟩
  rw [← hE] at HW HWr
  rw [← hO] at HW HWr hol
  obtain ⟨G, hG⟩ : ∃ G, G = flE x := ⟨_, rfl⟩
  have hul := flX_len x
  obtain ⟨u, hu⟩ : ∃ u, u = flX x := ⟨_, rfl⟩
  rw [← hG] at HFl HFr
  rw [← hu] at HFl HFr hul
  have HSm := Lib.hid (fun X a1 c1 a2 c2 (r1 : RdI .u8 X a1 u.B) (r2 : RdI .u8 X a2 u.B) (hl : u.B.length ≤ 1000000) => (by
    have h := sameRp_c u u a1 a2 c1 c2 X r1 r2 hl hl
    rw [sameRp_self] at h
    exact h : Calls Tryd.prog 19 #[u.val (.slice a1 u.B.length c1), u.val (.slice a2 u.B.length c2)] X fun e w' => e = .returned (.bool true) ∧ Frm [] X w'))
  clear hS hE hO hG hu rx nx ry ny hT hox hoy
  obtain ⟨xh0, xh1, xh2, xh3, xh4, xh5, xh6, xh7, xb, xh, xl, xfx, xL, xD, xB⟩ := x
  obtain ⟨yh0, yh1, yh2, yh3, yh4, yh5, yh6, yh7, yb, yh, yl, yfx, yL, yD, yB⟩ := y
  obtain ⟨uh0, uh1, uh2, uh3, uh4, uh5, uh6, uh7, ub, uh, ul, uB⟩ := u
  simp only [Fx.val, Fx.cells, Rp.val, Rp.cells] at *
  obtain ⟨nX, hnX⟩ : ∃ n, n = xB.length := ⟨_, rfl⟩
  obtain ⟨nY, hnY⟩ : ∃ n, n = yB.length := ⟨_, rfl⟩
  obtain ⟨nU, hnU⟩ : ∃ n, n = uB.length := ⟨_, rfl⟩
  obtain ⟨nO, hnO⟩ : ∃ n, n = O.length := ⟨_, rfl⟩
  rw [← hnX] at HW HWr HFl HFr HAx HSxy HRxy HSxx lx hul ⊢
  rw [← hnY] at HAy HSxy HRxy ly ⊢
  rw [← hnU] at HSm hul
  rw [← hnO] at hol
  have HnU := Lib.hid hnU
  have HnO := Lib.hid hnO
  clear hnX hnY hnU hnO
  have HS0 := Lib.hid (((Sep.init w).alloc #[.int .u8 xh0, .int .u8 xh1, .int .u8 xh2, .int .u8 xh3, .int .u8 xh4, .int .u8 xh5, .int .u8 xh6, .int .u8 xh7, .int .u16 xb, .int .u64 (xh : Int), .int .u64 (xl : Int), .bool xfx, .int .i64 xL, .int .i64 xD, .slice a nX c] 31).alloc #[.int .u8 yh0, .int .u8 yh1, .int .u8 yh2, .int .u8 yh3, .int .u8 yh4, .int .u8 yh5, .int .u8 yh6, .int .u8 yh7, .int .u16 yb, .int .u64 (yh : Int), .int .u64 (yl : Int), .bool yfx, .int .i64 yL, .int .i64 yD, .slice a' nY c'] 31)
  simp only [World.size_alloc] at HS0
  go_enter Tryd.func4, Tryd.ntmps4
  go_upto_region 1 with fail
  obtain ⟨w1, hw1⟩ : ∃ w1, w1 = (w.alloc (.cells #[.int .u8 xh0, .int .u8 xh1, .int .u8 xh2, .int .u8 xh3, .int .u8 xh4, .int .u8 xh5, .int .u8 xh6, .int .u8 xh7, .int .u16 xb, .int .u64 (xh : Int), .int .u64 (xl : Int), .bool xfx, .int .i64 xL, .int .i64 xD, .slice a nX c] 31)).alloc (.cells #[.int .u8 yh0, .int .u8 yh1, .int .u8 yh2, .int .u8 yh3, .int .u8 yh4, .int .u8 yh5, .int .u8 yh6, .int .u8 yh7, .int .u16 yb, .int .u64 (yh : Int), .int .u64 (yl : Int), .bool yfx, .int .i64 yL, .int .i64 yD, .slice a' nY c'] 31) := ⟨_, rfl⟩
  obtain ⟨o, ho⟩ : ∃ o, o = w.heap.size := ⟨_, rfl⟩
  rw [← hw1, ← ho] at HS0
  rw [← hw1, ← ho]
  clear hw1 ho
  go_wp2_with fail
  refine (HAl.out w1 HS0.out.frm).mono ?_
  rintro e w2 ⟨rfl, hf⟩
  have HS1 := Lib.hid (HS0.out.keep hf)
  clear hf HS0 HAl
  have k14 := (HS1.out.blk 1 rfl).cell 14 rfl
  have j14 := (HS1.out.blk 0 rfl).cell 14 rfl
  by_cases h1 : 2000 < nX
  · have t1 : decide (2000 < (nX : Int)) = true := decide_eq_true (by omega)
    clear h1
    go_wp2_with fail
    go_ret
    exact ⟨rfl, HS1.out.frm.below⟩
  have t1 : decide (2000 < (nX : Int)) = false := decide_eq_false (by omega)
  by_cases h2 : 2000 < nY
  · have t2 : decide (2000 < (nY : Int)) = true := decide_eq_true (by omega)
    clear h2
    go_wp2_with fail
    go_ret
    exact ⟨rfl, HS1.out.frm.below⟩
  have t2 : decide (2000 < (nY : Int)) = false := decide_eq_false (by omega)
  have HlX := Lib.hid (show nX ≤ 1000000 by omega)
  have HlY := Lib.hid (show nY ≤ 1000000 by omega)
  have HlU := Lib.hid (show nU ≤ 1000000 by omega)
  go_upto_region 5 with fail
  clear t1 t2 k14 j14 h1 h2
  have k0 := (HS1.out.blk 1 rfl).cell 0 rfl
  have k1 := (HS1.out.blk 1 rfl).cell 1 rfl
  have k2 := (HS1.out.blk 1 rfl).cell 2 rfl
  have k3 := (HS1.out.blk 1 rfl).cell 3 rfl
  have k4 := (HS1.out.blk 1 rfl).cell 4 rfl
  have k5 := (HS1.out.blk 1 rfl).cell 5 rfl
  have k6 := (HS1.out.blk 1 rfl).cell 6 rfl
  have k7 := (HS1.out.blk 1 rfl).cell 7 rfl
  have k8 := (HS1.out.blk 1 rfl).cell 8 rfl
  have k9 := (HS1.out.blk 1 rfl).cell 9 rfl
  have k10 := (HS1.out.blk 1 rfl).cell 10 rfl
  have k11 := (HS1.out.blk 1 rfl).cell 11 rfl
  have k12 := (HS1.out.blk 1 rfl).cell 12 rfl
  have k13 := (HS1.out.blk 1 rfl).cell 13 rfl
  have k14 := (HS1.out.blk 1 rfl).cell 14 rfl
  go_wp2_with fail
  clear k0 k1 k2 k3 k4 k5 k6 k7 k8 k9 k10 k11 k12 k13 k14
  refine (HW.out w2 HS1.out.frm).mono ?_
  rintro e w3 ⟨v3, rfl, hS⟩
  obtain ⟨a3, c3, rfl, rd3, -, -, -⟩ := sl_of (k := .u8) (hS.own 0 rfl)
  have HS2 := Lib.hid (HS1.out.keep hS.frm)
  have HR2 := Lib.hid rd3
  clear hS rd3 HS1 HW
  go_upto_region 6 with fail
  have k0 := (HS2.out.blk 1 rfl).cell 0 rfl
  have k1 := (HS2.out.blk 1 rfl).cell 1 rfl
  have k2 := (HS2.out.blk 1 rfl).cell 2 rfl
  have k3 := (HS2.out.blk 1 rfl).cell 3 rfl
  have k4 := (HS2.out.blk 1 rfl).cell 4 rfl
  have k5 := (HS2.out.blk 1 rfl).cell 5 rfl
  have k6 := (HS2.out.blk 1 rfl).cell 6 rfl
  have k7 := (HS2.out.blk 1 rfl).cell 7 rfl
  have k8 := (HS2.out.blk 1 rfl).cell 8 rfl
  have k9 := (HS2.out.blk 1 rfl).cell 9 rfl
  have k10 := (HS2.out.blk 1 rfl).cell 10 rfl
  have k11 := (HS2.out.blk 1 rfl).cell 11 rfl
  have k12 := (HS2.out.blk 1 rfl).cell 12 rfl
  have k13 := (HS2.out.blk 1 rfl).cell 13 rfl
  have k14 := (HS2.out.blk 1 rfl).cell 14 rfl
  go_wp2_with fail
  clear k0 k1 k2 k3 k4 k5 k6 k7 k8 k9 k10 k11 k12 k13 k14
  refine (HAx.out _).mono ?_
  rintro e w4 ⟨rfl, hf⟩
  have HS3 := Lib.hid (HS2.out.keep hf)
  have HR3 := Lib.hid (HR2.out.frm hf (by simp))
  clear hf HS2 HR2
  go_wp2_with fail
  refine (HWr.out w4 HS3.out.frm).mono ?_
  rintro e w5 ⟨v5, rfl, hS⟩
  obtain ⟨a5, c5, rfl, rd5, -, -, -⟩ := sl_of (k := .u8) (hS.own 0 rfl)
  have HS4 := Lib.hid (HS3.out.keep hS.frm)
  have HR4 := Lib.hid (And.intro (HR3.out.frm hS.frm (by simp)) rd5)
  clear hS rd5 HS3 HR3 HWr
  rw [← HnO.out]
  go_upto_region 7 with fail
  have k0 := (HS4.out.blk 1 rfl).cell 0 rfl
  have k1 := (HS4.out.blk 1 rfl).cell 1 rfl
  have k2 := (HS4.out.blk 1 rfl).cell 2 rfl
  have k3 := (HS4.out.blk 1 rfl).cell 3 rfl
  have k4 := (HS4.out.blk 1 rfl).cell 4 rfl
  have k5 := (HS4.out.blk 1 rfl).cell 5 rfl
  have k6 := (HS4.out.blk 1 rfl).cell 6 rfl
  have k7 := (HS4.out.blk 1 rfl).cell 7 rfl
  have k8 := (HS4.out.blk 1 rfl).cell 8 rfl
  have k9 := (HS4.out.blk 1 rfl).cell 9 rfl
  have k10 := (HS4.out.blk 1 rfl).cell 10 rfl
  have k11 := (HS4.out.blk 1 rfl).cell 11 rfl
  have k12 := (HS4.out.blk 1 rfl).cell 12 rfl
  have k13 := (HS4.out.blk 1 rfl).cell 13 rfl
  have k14 := (HS4.out.blk 1 rfl).cell 14 rfl
  go_wp2_with fail
  clear k0 k1 k2 k3 k4 k5 k6 k7 k8 k9 k10 k11 k12 k13 k14
  refine (HFl.out w5 HS4.out.frm HlX.out).mono ?_
  rintro e w6 ⟨va, vn, vc, rfl, hS⟩
  obtain rfl : vn = nU := by
    obtain ⟨_, _, hv, _⟩ := own_shape (hS.own 0 rfl)
    injection hv with _ h2 _
    exact h2.trans HnU.out.symm
  have rd3 : RdI .u8 w6 va uB := by
    obtain ⟨_, _, hv, rd, _⟩ := sl_of (k := .u8) (hS.own 0 rfl)
    injection hv with h1 _ _
    subst h1
    exact rd
  have HS5 := Lib.hid (HS4.out.keep hS.frm)
  have HR5 := Lib.hid (And.intro (HR4.out.1.frm hS.frm (by simp)) (And.intro (HR4.out.2.frm hS.frm (by simp)) rd3))
  clear hS rd3 HS4 HR4 HFl
  simp only [Rp.val, Rp.cells]
  go_upto_region 8 with fail
  obtain ⟨w7, hw7⟩ : ∃ x, x = w6.alloc (.cells #[.int .u8 uh0, .int .u8 uh1, .int .u8 uh2, .int .u8 uh3, .int .u8 uh4, .int .u8 uh5, .int .u8 uh6, .int .u8 uh7, .int .u16 ub, .int .u64 (uh : Int), .int .u64 (ul : Int), .slice va vn vc] 48) := ⟨_, rfl⟩
  obtain ⟨g, hg⟩ : ∃ x, x = w6.heap.size := ⟨_, rfl⟩
  have HS6 := Lib.hid (show Sep [] w w7 [blkR g 48 #[.int .u8 uh0, .int .u8 uh1, .int .u8 uh2, .int .u8 uh3, .int .u8 uh4, .int .u8 uh5, .int .u8 uh6, .int .u8 uh7, .int .u16 ub, .int .u64 (uh : Int), .int .u64 (ul : Int), .slice va vn vc], blkR (o + 1) 31 #[.int .u8 yh0, .int .u8 yh1, .int .u8 yh2, .int .u8 yh3, .int .u8 yh4, .int .u8 yh5, .int .u8 yh6, .int .u8 yh7, .int .u16 yb, .int .u64 (yh : Int), .int .u64 (yl : Int), .bool yfx, .int .i64 yL, .int .i64 yD, .slice a' nY c'], blkR o 31 #[.int .u8 xh0, .int .u8 xh1, .int .u8 xh2, .int .u8 xh3, .int .u8 xh4, .int .u8 xh5, .int .u8 xh6, .int .u8 xh7, .int .u16 xb, .int .u64 (xh : Int), .int .u64 (xl : Int), .bool xfx, .int .i64 xL, .int .i64 xD, .slice a nX c]] from by rw [hw7, hg]; exact HS5.out.alloc #[.int .u8 uh0, .int .u8 uh1, .int .u8 uh2, .int .u8 uh3, .int .u8 uh4, .int .u8 uh5, .int .u8 uh6, .int .u8 uh7, .int .u16 ub, .int .u64 (uh : Int), .int .u64 (ul : Int), .slice va vn vc] 48)
  have HR6 := Lib.hid (show RdI .u8 w7 a3 O ∧ RdI .u8 w7 a5 O ∧ RdI .u8 w7 va uB from by rw [hw7]; exact ⟨HR5.out.1.alloc _, HR5.out.2.1.alloc _, HR5.out.2.2.alloc _⟩)
  rw [← hw7, ← hg]
  clear hw7 hg HS5 HR5
  have k0 := (HS6.out.blk 2 rfl).cell 0 rfl
  have k1 := (HS6.out.blk 2 rfl).cell 1 rfl
  have k2 := (HS6.out.blk 2 rfl).cell 2 rfl
  have k3 := (HS6.out.blk 2 rfl).cell 3 rfl
  have k4 := (HS6.out.blk 2 rfl).cell 4 rfl
  have k5 := (HS6.out.blk 2 rfl).cell 5 rfl
  have k6 := (HS6.out.blk 2 rfl).cell 6 rfl
  have k7 := (HS6.out.blk 2 rfl).cell 7 rfl
  have k8 := (HS6.out.blk 2 rfl).cell 8 rfl
  have k9 := (HS6.out.blk 2 rfl).cell 9 rfl
  have k10 := (HS6.out.blk 2 rfl).cell 10 rfl
  have k11 := (HS6.out.blk 2 rfl).cell 11 rfl
  have k12 := (HS6.out.blk 2 rfl).cell 12 rfl
  have k13 := (HS6.out.blk 2 rfl).cell 13 rfl
  have k14 := (HS6.out.blk 2 rfl).cell 14 rfl
  go_wp2_with fail
  clear k0 k1 k2 k3 k4 k5 k6 k7 k8 k9 k10 k11 k12 k13 k14
  refine (HAx.out _).mono ?_
  rintro e w8 ⟨rfl, hf⟩
  have HS7 := Lib.hid (HS6.out.keep hf)
  have HR7 := Lib.hid (show RdI .u8 w8 a3 O ∧ RdI .u8 w8 a5 O ∧ RdI .u8 w8 va uB from ⟨HR6.out.1.frm hf (by simp), HR6.out.2.1.frm hf (by simp), HR6.out.2.2.frm hf (by simp)⟩)
  clear hf HS6 HR6
  go_wp2_with fail
  refine (HFr.out w8 HS7.out.frm HlX.out).mono ?_
  rintro e w9 ⟨vb, vd, rfl, rd9, -, hf⟩
  have HS8 := Lib.hid (HS7.out.keep hf)
  have HR8 := Lib.hid (show RdI .u8 w9 a3 O ∧ RdI .u8 w9 a5 O ∧ RdI .u8 w9 va uB ∧ RdI .u8 w9 vb uB from ⟨HR7.out.1.frm hf (by simp), HR7.out.2.1.frm hf (by simp), HR7.out.2.2.frm hf (by simp), rd9⟩)
  clear hf rd9 HS7 HR7 HFr
  simp only [Rp.val, Rp.cells]
  rw [← HnU.out]
  go_upto_region 9 with fail
  obtain ⟨w10, hw10⟩ : ∃ x, x = w9.alloc (.cells #[.int .u8 uh0, .int .u8 uh1, .int .u8 uh2, .int .u8 uh3, .int .u8 uh4, .int .u8 uh5, .int .u8 uh6, .int .u8 uh7, .int .u16 ub, .int .u64 (uh : Int), .int .u64 (ul : Int), .slice vb vn vd] 48) := ⟨_, rfl⟩
  obtain ⟨q, hq⟩ : ∃ x, x = w9.heap.size := ⟨_, rfl⟩
  have HS9 := Lib.hid (show Sep [] w w10 [blkR q 48 #[.int .u8 uh0, .int .u8 uh1, .int .u8 uh2, .int .u8 uh3, .int .u8 uh4, .int .u8 uh5, .int .u8 uh6, .int .u8 uh7, .int .u16 ub, .int .u64 (uh : Int), .int .u64 (ul : Int), .slice vb vn vd], blkR g 48 #[.int .u8 uh0, .int .u8 uh1, .int .u8 uh2, .int .u8 uh3, .int .u8 uh4, .int .u8 uh5, .int .u8 uh6, .int .u8 uh7, .int .u16 ub, .int .u64 (uh : Int), .int .u64 (ul : Int), .slice va vn vc], blkR (o + 1) 31 #[.int .u8 yh0, .int .u8 yh1, .int .u8 yh2, .int .u8 yh3, .int .u8 yh4, .int .u8 yh5, .int .u8 yh6, .int .u8 yh7, .int .u16 yb, .int .u64 (yh : Int), .int .u64 (yl : Int), .bool yfx, .int .i64 yL, .int .i64 yD, .slice a' nY c'], blkR o 31 #[.int .u8 xh0, .int .u8 xh1, .int .u8 xh2, .int .u8 xh3, .int .u8 xh4, .int .u8 xh5, .int .u8 xh6, .int .u8 xh7, .int .u16 xb, .int .u64 (xh : Int), .int .u64 (xl : Int), .bool xfx, .int .i64 xL, .int .i64 xD, .slice a nX c]] from by rw [hw10, hq]; exact HS8.out.alloc #[.int .u8 uh0, .int .u8 uh1, .int .u8 uh2, .int .u8 uh3, .int .u8 uh4, .int .u8 uh5, .int .u8 uh6, .int .u8 uh7, .int .u16 ub, .int .u64 (uh : Int), .int .u64 (ul : Int), .slice vb vn vd] 48)
  have HR9 := Lib.hid (show RdI .u8 w10 a3 O ∧ RdI .u8 w10 a5 O ∧ RdI .u8 w10 va uB ∧ RdI .u8 w10 vb uB from by rw [hw10]; exact ⟨HR8.out.1.alloc _, HR8.out.2.1.alloc _, HR8.out.2.2.1.alloc _, HR8.out.2.2.2.alloc _⟩)
  rw [← hw10, ← hq]
  clear hw10 hq HS8 HR8
  have HBs := Lib.hid (fun X (hX : Frm [] w10 X) => (by
    have h := bsame_c a3 a5 c3 c5 O O X (HR9.out.1.frm hX (by simp)) (HR9.out.2.1.frm hX (by simp)) (by have := HnO.out; omega) (by have := HnO.out; omega)
    rw [← HnO.out, decide_eq_true rfl] at h
    exact h.mono (fun e w' ⟨h1, m, h2⟩ => ⟨h1, h2 ▸ (Frm.refl _ _).drewN m⟩) : Calls Tryd.prog 14 #[.slice a3 nO c3, .slice a5 nO c5] X fun e w' => e = .returned (.bool true) ∧ Frm [] X w'))
  have HSr := Lib.hid (fun X (hX : Frm [] w10 X) => HSm.out X va vc vb vd (HR9.out.2.2.1.frm hX (by simp)) (HR9.out.2.2.2.frm hX (by simp)) HlU.out)
  as_aux_lemma =>
    have hee : (E == E) = true := by simp
    have hgg : (G == G) = true := by simp
    have hss : (S == S) = true := by simp
    refine region_segsP (G := []) [0, 1, 2, 3, 4, 5, 6, 7, 8, 9, 10, 11, 12, 13, 14, 15, 16, 17, 18, 19, 20, 22, 24, 21, 23, 25, 26, 27, 28, 29, 30, 31, 32, 33, 34] [6, 9, 6, 0, 0, 0, 5] (by decide) (by kernel_rfl) (by kernel_rfl) (by kernel_rfl) (by kernel_rfl) (by kernel_rfl) (by kernel_rfl) (by kernel_rfl) ?_
    simp only [remOf, List.filterMap_cons, List.filterMap_nil, List.getElem?_cons_zero, List.getElem?_cons_succ]
    have HSA := Lib.hid HS9.out.drew
    obtain ⟨x6, hx6⟩ : ∃ x, x = w10.drew := ⟨_, rfl⟩
    have HF6 := Lib.hid (show Frm [] w10 x6 from hx6 ▸ (Frm.refl _ _).drew)
    rw [← hx6] at HSA
    rw [← hx6]
    clear hx6 HS9 HR9 HSm
    have n1 : Nonempty (Cls (fun v => Frm [] x6 v)) := ⟨⟨_, Frm.refl _ _⟩⟩
    unfold wpSegs
    simp only [List.take_succ_cons, List.take_zero, List.drop_succ_cons, List.drop_zero]
    repeat (go_big_quiet_step (rfl))
    refine wpQuiet_nil ?_
    refine only_step (fun K' hK => ?_)
    clear n1 
    go_wp2_with fail
    refine (HBs.out _ HF6.out).mono ?_
    rintro e w11 ⟨rfl, hf⟩
    have HFb := Lib.hid (show Frm [] x6 w11 from hf)
    clear hf
    go_wp2_with fail
    refine hK.out _ _ ⟨HFb.out, ?_⟩
    clear hK
    as_aux_lemma =>
      unfold wpSegs
      simp only [List.take_succ_cons, List.take_zero, List.drop_succ_cons, List.drop_zero]
      have n1 : Nonempty (Cls (fun v => Frm [] w11 v)) := ⟨⟨_, Frm.refl _ _⟩⟩
      have q0 := fun x : Cls (fun v => Frm [] w11 v) => ((HFb.out.trans x.ok).blk (HSA.out.blk 1 rfl) (by simp)).cell 0 rfl
      have q1 := fun x : Cls (fun v => Frm [] w11 v) => ((HFb.out.trans x.ok).blk (HSA.out.blk 1 rfl) (by simp)).cell 1 rfl
      have q2 := fun x : Cls (fun v => Frm [] w11 v) => ((HFb.out.trans x.ok).blk (HSA.out.blk 1 rfl) (by simp)).cell 2 rfl
      have q3 := fun x : Cls (fun v => Frm [] w11 v) => ((HFb.out.trans x.ok).blk (HSA.out.blk 1 rfl) (by simp)).cell 3 rfl
      have q4 := fun x : Cls (fun v => Frm [] w11 v) => ((HFb.out.trans x.ok).blk (HSA.out.blk 1 rfl) (by simp)).cell 4 rfl
      have q5 := fun x : Cls (fun v => Frm [] w11 v) => ((HFb.out.trans x.ok).blk (HSA.out.blk 1 rfl) (by simp)).cell 5 rfl
      have q6 := fun x : Cls (fun v => Frm [] w11 v) => ((HFb.out.trans x.ok).blk (HSA.out.blk 1 rfl) (by simp)).cell 6 rfl
      have q7 := fun x : Cls (fun v => Frm [] w11 v) => ((HFb.out.trans x.ok).blk (HSA.out.blk 1 rfl) (by simp)).cell 7 rfl
      have q8 := fun x : Cls (fun v => Frm [] w11 v) => ((HFb.out.trans x.ok).blk (HSA.out.blk 1 rfl) (by simp)).cell 8 rfl
      have q9 := fun x : Cls (fun v => Frm [] w11 v) => ((HFb.out.trans x.ok).blk (HSA.out.blk 1 rfl) (by simp)).cell 9 rfl
      have q10 := fun x : Cls (fun v => Frm [] w11 v) => ((HFb.out.trans x.ok).blk (HSA.out.blk 1 rfl) (by simp)).cell 10 rfl
      have q11 := fun x : Cls (fun v => Frm [] w11 v) => ((HFb.out.trans x.ok).blk (HSA.out.blk 1 rfl) (by simp)).cell 11 rfl
      have j0 := fun x : Cls (fun v => Frm [] w11 v) => ((HFb.out.trans x.ok).blk (HSA.out.blk 0 rfl) (by simp)).cell 0 rfl
      have j1 := fun x : Cls (fun v => Frm [] w11 v) => ((HFb.out.trans x.ok).blk (HSA.out.blk 0 rfl) (by simp)).cell 1 rfl
      have j2 := fun x : Cls (fun v => Frm [] w11 v) => ((HFb.out.trans x.ok).blk (HSA.out.blk 0 rfl) (by simp)).cell 2 rfl
      have j3 := fun x : Cls (fun v => Frm [] w11 v) => ((HFb.out.trans x.ok).blk (HSA.out.blk 0 rfl) (by simp)).cell 3 rfl
      have j4 := fun x : Cls (fun v => Frm [] w11 v) => ((HFb.out.trans x.ok).blk (HSA.out.blk 0 rfl) (by simp)).cell 4 rfl
      have j5 := fun x : Cls (fun v => Frm [] w11 v) => ((HFb.out.trans x.ok).blk (HSA.out.blk 0 rfl) (by simp)).cell 5 rfl
      have j6 := fun x : Cls (fun v => Frm [] w11 v) => ((HFb.out.trans x.ok).blk (HSA.out.blk 0 rfl) (by simp)).cell 6 rfl
      have j7 := fun x : Cls (fun v => Frm [] w11 v) => ((HFb.out.trans x.ok).blk (HSA.out.blk 0 rfl) (by simp)).cell 7 rfl
      have j8 := fun x : Cls (fun v => Frm [] w11 v) => ((HFb.out.trans x.ok).blk (HSA.out.blk 0 rfl) (by simp)).cell 8 rfl
      have j9 := fun x : Cls (fun v => Frm [] w11 v) => ((HFb.out.trans x.ok).blk (HSA.out.blk 0 rfl) (by simp)).cell 9 rfl
      have j10 := fun x : Cls (fun v => Frm [] w11 v) => ((HFb.out.trans x.ok).blk (HSA.out.blk 0 rfl) (by simp)).cell 10 rfl
      have j11 := fun x : Cls (fun v => Frm [] w11 v) => ((HFb.out.trans x.ok).blk (HSA.out.blk 0 rfl) (by simp)).cell 11 rfl
      repeat (go_big_quiet_step (rfl))
      refine wpQuiet_nil ?_
      refine only_step (fun K' hK => ?_)
      clear n1 q0 q1 q2 q3 q4 q5 q6 q7 q8 q9 q10 q11 j0 j1 j2 j3 j4 j5 j6 j7 j8 j9 j10 j11
      go_wp2_with fail
      refine (HSr.out _ (HF6.out.trans HFb.out)).mono ?_
      rintro e w12 ⟨rfl, hf⟩
      have HFc := Lib.hid (HFb.out.trans hf)
      have HFl := Lib.hid hf
      clear hf
      go_wp2_with fail
      refine hK.out _ _ ⟨HFl.out, ?_⟩
      clear hK
      as_aux_lemma =>
        unfold wpSegs
        simp only [List.take_succ_cons, List.take_zero, List.drop_succ_cons, List.drop_zero]
        have n1 : Nonempty (Cls (fun v => Frm [] w12 v)) := ⟨⟨_, Frm.refl _ _⟩⟩
        have q0 := fun x : Cls (fun v => Frm [] w12 v) => ((HFc.out.trans x.ok).blk (HSA.out.blk 3 rfl) (by simp)).cell 0 rfl
        have q1 := fun x : Cls (fun v => Frm [] w12 v) => ((HFc.out.trans x.ok).blk (HSA.out.blk 3 rfl) (by simp)).cell 1 rfl
        have q2 := fun x : Cls (fun v => Frm [] w12 v) => ((HFc.out.trans x.ok).blk (HSA.out.blk 3 rfl) (by simp)).cell 2 rfl
        have q3 := fun x : Cls (fun v => Frm [] w12 v) => ((HFc.out.trans x.ok).blk (HSA.out.blk 3 rfl) (by simp)).cell 3 rfl
        have q4 := fun x : Cls (fun v => Frm [] w12 v) => ((HFc.out.trans x.ok).blk (HSA.out.blk 3 rfl) (by simp)).cell 4 rfl
        have q5 := fun x : Cls (fun v => Frm [] w12 v) => ((HFc.out.trans x.ok).blk (HSA.out.blk 3 rfl) (by simp)).cell 5 rfl
        have q6 := fun x : Cls (fun v => Frm [] w12 v) => ((HFc.out.trans x.ok).blk (HSA.out.blk 3 rfl) (by simp)).cell 6 rfl
        have q7 := fun x : Cls (fun v => Frm [] w12 v) => ((HFc.out.trans x.ok).blk (HSA.out.blk 3 rfl) (by simp)).cell 7 rfl
        have q8 := fun x : Cls (fun v => Frm [] w12 v) => ((HFc.out.trans x.ok).blk (HSA.out.blk 3 rfl) (by simp)).cell 8 rfl
        have q9 := fun x : Cls (fun v => Frm [] w12 v) => ((HFc.out.trans x.ok).blk (HSA.out.blk 3 rfl) (by simp)).cell 9 rfl
        have q10 := fun x : Cls (fun v => Frm [] w12 v) => ((HFc.out.trans x.ok).blk (HSA.out.blk 3 rfl) (by simp)).cell 10 rfl
        have q11 := fun x : Cls (fun v => Frm [] w12 v) => ((HFc.out.trans x.ok).blk (HSA.out.blk 3 rfl) (by simp)).cell 11 rfl
        have q12 := fun x : Cls (fun v => Frm [] w12 v) => ((HFc.out.trans x.ok).blk (HSA.out.blk 3 rfl) (by simp)).cell 12 rfl
        have q13 := fun x : Cls (fun v => Frm [] w12 v) => ((HFc.out.trans x.ok).blk (HSA.out.blk 3 rfl) (by simp)).cell 13 rfl
        have q14 := fun x : Cls (fun v => Frm [] w12 v) => ((HFc.out.trans x.ok).blk (HSA.out.blk 3 rfl) (by simp)).cell 14 rfl
        have j0 := fun x : Cls (fun v => Frm [] w12 v) => ((HFc.out.trans x.ok).blk (HSA.out.blk 2 rfl) (by simp)).cell 0 rfl
        have j1 := fun x : Cls (fun v => Frm [] w12 v) => ((HFc.out.trans x.ok).blk (HSA.out.blk 2 rfl) (by simp)).cell 1 rfl
        have j2 := fun x : Cls (fun v => Frm [] w12 v) => ((HFc.out.trans x.ok).blk (HSA.out.blk 2 rfl) (by simp)).cell 2 rfl
        have j3 := fun x : Cls (fun v => Frm [] w12 v) => ((HFc.out.trans x.ok).blk (HSA.out.blk 2 rfl) (by simp)).cell 3 rfl
        have j4 := fun x : Cls (fun v => Frm [] w12 v) => ((HFc.out.trans x.ok).blk (HSA.out.blk 2 rfl) (by simp)).cell 4 rfl
        have j5 := fun x : Cls (fun v => Frm [] w12 v) => ((HFc.out.trans x.ok).blk (HSA.out.blk 2 rfl) (by simp)).cell 5 rfl
        have j6 := fun x : Cls (fun v => Frm [] w12 v) => ((HFc.out.trans x.ok).blk (HSA.out.blk 2 rfl) (by simp)).cell 6 rfl
        have j7 := fun x : Cls (fun v => Frm [] w12 v) => ((HFc.out.trans x.ok).blk (HSA.out.blk 2 rfl) (by simp)).cell 7 rfl
        have j8 := fun x : Cls (fun v => Frm [] w12 v) => ((HFc.out.trans x.ok).blk (HSA.out.blk 2 rfl) (by simp)).cell 8 rfl
        have j9 := fun x : Cls (fun v => Frm [] w12 v) => ((HFc.out.trans x.ok).blk (HSA.out.blk 2 rfl) (by simp)).cell 9 rfl
        have j10 := fun x : Cls (fun v => Frm [] w12 v) => ((HFc.out.trans x.ok).blk (HSA.out.blk 2 rfl) (by simp)).cell 10 rfl
        have j11 := fun x : Cls (fun v => Frm [] w12 v) => ((HFc.out.trans x.ok).blk (HSA.out.blk 2 rfl) (by simp)).cell 11 rfl
        have j12 := fun x : Cls (fun v => Frm [] w12 v) => ((HFc.out.trans x.ok).blk (HSA.out.blk 2 rfl) (by simp)).cell 12 rfl
        have j13 := fun x : Cls (fun v => Frm [] w12 v) => ((HFc.out.trans x.ok).blk (HSA.out.blk 2 rfl) (by simp)).cell 13 rfl
        have j14 := fun x : Cls (fun v => Frm [] w12 v) => ((HFc.out.trans x.ok).blk (HSA.out.blk 2 rfl) (by simp)).cell 14 rfl
        repeat (go_big_quiet_step (rfl))
        refine wpQuiet_nil ?_
        refine only_step (fun K' hK => ?_)
        clear n1 q0 q1 q2 q3 q4 q5 q6 q7 q8 q9 q10 q11 q12 q13 q14 j0 j1 j2 j3 j4 j5 j6 j7 j8 j9 j10 j11 j12 j13 j14
        go_wp2_with fail
        refine (HSxy.out _ (HSA.out.frm.trans HFc.out) HlX.out HlY.out).mono ?_
        rintro e w13 ⟨rfl, hf⟩
        have HFd := Lib.hid (HFc.out.trans hf)
        clear HFl
        have HFl := Lib.hid hf
        clear hf
        go_wp2_with fail
        refine hK.out _ _ ⟨HFl.out, ?_⟩
        clear hK
        as_aux_lemma =>
          unfold wpSegs
          simp only [List.take_succ_cons, List.take_zero, List.drop_succ_cons, List.drop_zero]
          have n1 : Nonempty (Cls (fun v => Frm [] w13 v)) := ⟨⟨_, Frm.refl _ _⟩⟩
          repeat (go_big_quiet_step (rfl))
          refine wpQuiet_nil ?_
          refine only_step (fun K' hK => ?_)
          clear n1 
          go_wp2_with fail
          refine (HAx.out _).mono ?_
          rintro e w14 ⟨rfl, hf⟩
          have HFe := Lib.hid (HFd.out.trans hf)
          clear HFl
          have HFl := Lib.hid hf
          clear hf
          go_wp2_with fail
          refine hK.out _ _ ⟨HFl.out, ?_⟩
          clear hK
          as_aux_lemma =>
            unfold wpSegs
            simp only [List.take_succ_cons, List.take_zero, List.drop_succ_cons, List.drop_zero]
            have n1 : Nonempty (Cls (fun v => Frm [] w14 v)) := ⟨⟨_, Frm.refl _ _⟩⟩
            repeat (go_big_quiet_step (rfl))
            refine wpQuiet_nil ?_
            refine only_step (fun K' hK => ?_)
            clear n1 
            go_wp2_with fail
            refine (HAy.out _).mono ?_
            rintro e w15 ⟨rfl, hf⟩
            have HFf := Lib.hid (HFe.out.trans hf)
            clear HFl
            have HFl := Lib.hid hf
            clear hf
            go_wp2_with fail
            refine hK.out _ _ ⟨HFl.out, ?_⟩
            clear hK
            as_aux_lemma =>
              unfold wpSegs
              simp only [List.take_succ_cons, List.take_zero, List.drop_succ_cons, List.drop_zero]
              have n1 : Nonempty (Cls (fun v => Frm [] w15 v)) := ⟨⟨_, Frm.refl _ _⟩⟩
              repeat (go_big_quiet_step (rfl))
              refine wpQuiet_nil ?_
              refine only_step (fun K' hK => ?_)
              clear n1 
              go_wp2_with fail
              refine (HRxy.out _ (HSA.out.frm.trans HFf.out) HlX.out HlY.out).mono ?_
              rintro e w16 ⟨rfl, hf⟩
              have HFg := Lib.hid (HFf.out.trans hf)
              clear HFl
              have HFl := Lib.hid hf
              clear hf
              go_wp2_with fail
              refine hK.out _ _ ⟨HFl.out, ?_⟩
              clear hK
              as_aux_lemma =>
                unfold wpSegs
                simp only [List.take_succ_cons, List.take_zero, List.drop_succ_cons, List.drop_zero]
                have n1 : Nonempty (Cls (fun v => Frm [] w16 v)) := ⟨⟨_, Frm.refl _ _⟩⟩
                have q0 := fun x : Cls (fun v => Frm [] w16 v) => ((HFg.out.trans x.ok).blk (HSA.out.blk 3 rfl) (by simp)).cell 0 rfl
                have q1 := fun x : Cls (fun v => Frm [] w16 v) => ((HFg.out.trans x.ok).blk (HSA.out.blk 3 rfl) (by simp)).cell 1 rfl
                have q2 := fun x : Cls (fun v => Frm [] w16 v) => ((HFg.out.trans x.ok).blk (HSA.out.blk 3 rfl) (by simp)).cell 2 rfl
                have q3 := fun x : Cls (fun v => Frm [] w16 v) => ((HFg.out.trans x.ok).blk (HSA.out.blk 3 rfl) (by simp)).cell 3 rfl
                have q4 := fun x : Cls (fun v => Frm [] w16 v) => ((HFg.out.trans x.ok).blk (HSA.out.blk 3 rfl) (by simp)).cell 4 rfl
                have q5 := fun x : Cls (fun v => Frm [] w16 v) => ((HFg.out.trans x.ok).blk (HSA.out.blk 3 rfl) (by simp)).cell 5 rfl
                have q6 := fun x : Cls (fun v => Frm [] w16 v) => ((HFg.out.trans x.ok).blk (HSA.out.blk 3 rfl) (by simp)).cell 6 rfl
                have q7 := fun x : Cls (fun v => Frm [] w16 v) => ((HFg.out.trans x.ok).blk (HSA.out.blk 3 rfl) (by simp)).cell 7 rfl
                have q8 := fun x : Cls (fun v => Frm [] w16 v) => ((HFg.out.trans x.ok).blk (HSA.out.blk 3 rfl) (by simp)).cell 8 rfl
                have q9 := fun x : Cls (fun v => Frm [] w16 v) => ((HFg.out.trans x.ok).blk (HSA.out.blk 3 rfl) (by simp)).cell 9 rfl
                have q10 := fun x : Cls (fun v => Frm [] w16 v) => ((HFg.out.trans x.ok).blk (HSA.out.blk 3 rfl) (by simp)).cell 10 rfl
                have q11 := fun x : Cls (fun v => Frm [] w16 v) => ((HFg.out.trans x.ok).blk (HSA.out.blk 3 rfl) (by simp)).cell 11 rfl
                have q12 := fun x : Cls (fun v => Frm [] w16 v) => ((HFg.out.trans x.ok).blk (HSA.out.blk 3 rfl) (by simp)).cell 12 rfl
                have q13 := fun x : Cls (fun v => Frm [] w16 v) => ((HFg.out.trans x.ok).blk (HSA.out.blk 3 rfl) (by simp)).cell 13 rfl
                have q14 := fun x : Cls (fun v => Frm [] w16 v) => ((HFg.out.trans x.ok).blk (HSA.out.blk 3 rfl) (by simp)).cell 14 rfl
                repeat (go_big_quiet_step (rfl))
                refine wpQuiet_nil ?_
                refine only_step (fun K' hK => ?_)
                clear n1 q0 q1 q2 q3 q4 q5 q6 q7 q8 q9 q10 q11 q12 q13 q14
                go_wp2_with fail
                refine (HSxx.out _ (HSA.out.frm.trans HFg.out) HlX.out).mono ?_
                rintro e w17 ⟨rfl, hf⟩
                have HFh := Lib.hid (HFg.out.trans hf)
                clear HFl
                have HFl := Lib.hid hf
                clear hf
                go_wp2_with fail
                refine hK.out _ _ ⟨HFl.out, ?_⟩
                clear hK
                as_aux_lemma =>
                  have n1 : Nonempty (Cls (fun v => Frm [] w17 v)) := ⟨⟨_, Frm.refl _ _⟩⟩
                  unfold wpSegs
                  show wpQuiet _ _ _ _ [_, _] _
                  repeat (go_big_quiet_step (rfl))
                  refine wpQuiet_nil ?_
                  clear n1
                  refine NoPanic.normal ?_
                  go_wp2_with fail
                  go_ret
                  exact ⟨rfl, (HSA.out.frm.trans HFh.out).below⟩
theorem flexWrites_f {w : World} (hT : Tabs w) (x : Fx) (a : Option Addr) (c : Nat) (hox : x.Ok) (rx : RdI .u8 w a x.B) (nx : a = none → c = 0) (lx : x.B.length ≤ c) (mx : c ≤ maxLen)
    (y : Fx) (a' : Option Addr) (c' : Nat) (hoy : y.Ok) (ry : RdI .u8 w a' y.B) (ny : a' = none → c' = 0) (ly : y.B.length ≤ c') (my : c' ≤ maxLen) :
    Calls Tryd.prog 4 #[x.val (.slice a x.B.length c), y.val (.slice a' y.B.length c')] w fun e w' => e = .returned (.bool true) ∧ Below w.heap.size w w' :=
  flexWrites_w w hT x a c hox rx nx (by unfold maxLen at *; omega) y a' c' hoy ry ny (by unfold maxLen at *; omega)

end Go.Proofs.YtnloabpdjedanaaDoor
