/-
  THE WALK of the law FlexBack. Printed by gen_fxz.py.
-/
import Derived.Test.YtnloabpdjedanaaDoorFxX
import Derived.Test.YtnloabpdjedanaaDoorFop
set_option linter.unusedVariables false
set_option linter.unusedSimpArgs false
namespace Go.Proofs.YtnloabpdjedanaaDoor
open Go.RowKit

/-- What Parse takes is written as no more bytes, which are parsed as it. -/
theorem back2 {zs : List Int} (hb : Byt zs) (h : paE zs = 0) : (paX zs).Ok ∧ weX (paX zs) = 0 ∧ (woX (paX zs)).length ≤ zs.length ∧ paX (woX (paX zs)) = paX zs ∧ paE (woX (paX zs)) = 0 := by
  by_cases hl : 1500 < zs.length
  · unfold paE at h; rw [if_pos hl] at h; cases h
  · rw [paE_in hl] at h
    rw [paX_in hl]
    cases hR : rdX zs with
    | error e =>
      rw [hR] at h
      have h2 : e = 0 := h
      rcases rd_err hR with h3 | h3 | h3 <;> omega
    | ok x =>
      obtain ⟨h1, h2, h3, h4⟩ := rd_back hb (by omega) hR
      obtain ⟨h5, h6⟩ := wr_back h1 h2
      obtain ⟨h7, h8⟩ := we_zero h2
      have e := (we_good h7 (by omega)).2
      refine ⟨h1, h2, ?_, ?_, h6⟩
      · show (woX x).length ≤ _
        rw [e]
        exact h3
      · show paX (woX x) = x
        rw [h5, h4]
theorem back3 {r : Rp} (h : ofE r = 0) : ofX r = pkOf r ∧ flE (pkOf r) = 0 ∧ flX (pkOf r) = rpOf (pkOf r) := by
  have h1 : weX (pkOf r) = 0 := h
  have h2 : flE (pkOf r) = 0 := by unfold flE; rw [if_neg (by omega)]; rfl
  exact ⟨by unfold ofX; rw [if_pos h1], h2, by unfold flX; rw [if_pos h2]⟩
theorem back4 {r : Rp} (h : ofE r ≠ 0) : ofX r = Fx.none := by unfold ofX; rw [if_neg (show ¬ weX (pkOf r) = 0 from h)]

set_option maxRecDepth 100000 in
set_option maxHeartbeats 16000000 in
theorem flexBack_w (w : World) (hT : Tabs w) (x : Fx) (a : Option Addr) (c : Nat) (hox : x.Ok) (rx : RdI .u8 w a x.B) (nx : a = none → c = 0) (lx : x.B.length ≤ 9223372036854775807)
    (ab : Option Addr) (cb : Nat) (zs : List Int) (rz : RdI .u8 w ab zs) (bz : Byt zs) (hcb : zs.length ≤ cb) (hcm : cb ≤ 9223372036854775807) (nz : ab = none → cb = 0)
    (r : Rp) (ar : Option Addr) (cr : Nat) (hor : r.Ok) (rr : RdI .u8 w ar r.B) (nr : ar = none → cr = 0) (lr : r.B.length ≤ 9223372036854775807) :
    Calls Tryd.prog 6 #[x.val (.slice a x.B.length c), .slice ab zs.length cb, r.val (.slice ar r.B.length cr)] w fun e w' => e = .returned (.bool true) ∧ Below w.heap.size w w' := by
  have HT := Lib.hid (fun X (hX : Frm [] w X) => hT.frm hX (by simp))
  have HAl := Lib.hid (fun X (hX : Frm [] w X) => alive_c X (HT.out X hX))
  have HWx := Lib.hid (fun X (hX : Frm [] w X) => write_c x a c X hox (rx.below hX.below) nx (HT.out X hX) lx)
  have HPz := Lib.hid (fun X (hX : Frm [] w X) => Parse_c (c := cb) (rz.below hX.below) bz hcb hcm nz)
  have HOr := Lib.hid (fun X (hX : Frm [] w X) (hl : r.B.length ≤ 1000000) => fof_c r ar cr X hor (rr.below hX.below) nr (HT.out X hX) hl)
  -- the first part's plain facts
  have HPx := Lib.hid (fun (h0 : weX x = 0) X a' c' (hr : RdI .u8 X a' (woX x)) (hc : (woX x).length ≤ c') (hcm : c' ≤ 9223372036854775807) (hn : a' = none → c' = 0) => (by
    have h := Parse_c (c := c') hr (woX_byt hox).1 hc hcm hn
    rw [(wr_back hox h0).1, (wr_back hox h0).2] at h
    exact h : Calls Tryd.prog 10 #[.slice a' (woX x).length c'] X (ParseP X (low x) 0)))
  have HSx := Lib.hid (fun X (hX : Frm [] w X) a' c' (h2 : x.B.length ≤ 1000000) (hr : RdI .u8 X a' x.B) (hlo : (low x).Ok) => (by
    have h := same_c x (low x) a a' c c' X hox hlo (rx.below hX.below) hr h2 h2
    rw [same_low] at h
    exact h : Calls Tryd.prog 20 #[x.val (.slice a x.B.length c), (low x).val (.slice a' x.B.length c')] X fun e w' => e = .returned (.bool true) ∧ Frm [] X w'))
  have hlo : (low x).Ok := ⟨by have := hox.r0; simp only [low]; omega, hox.r1, hox.r2, hox.r3, hox.r4, hox.r5, hox.r6, hox.r7, hox.rb, hox.rh, hox.rl, hox.rL, hox.rD, hox.rB⟩
  have HLo := Lib.hid hlo
  clear hlo
  obtain ⟨E, hE⟩ : ∃ E, E = weX x := ⟨_, rfl⟩
  obtain ⟨O, hO⟩ : ∃ O, O = woX x := ⟨_, rfl⟩
  rw [← hE] at HWx HPx
  rw [← hO] at HWx HPx
  -- the second part's
  have HB2 := Lib.hid (fun h => back2 (zs := zs) bz h)
  obtain ⟨y, hy⟩ : ∃ y, y = paX zs := ⟨_, rfl⟩
  obtain ⟨G, hG⟩ : ∃ G, G = paE zs := ⟨_, rfl⟩
  rw [← hy, ← hG] at HPz HB2
  obtain ⟨O2, hO2⟩ : ∃ O2, O2 = woX y := ⟨_, rfl⟩
  rw [← hO2] at HB2
  have HO2 := Lib.hid hO2
  -- the third part's
  have HOk := Lib.hid hor
  have HRr := Lib.hid (fun X (hX : Frm [] w X) => rr.below (w' := X) hX.below)
  have HNr := Lib.hid nr
  obtain ⟨H, hH⟩ : ∃ H, H = ofE r := ⟨_, rfl⟩
  have HB3 := Lib.hid (@back3 r)
  have HB4 := Lib.hid (@back4 r)
  obtain ⟨u, hu⟩ : ∃ u, u = ofX r := ⟨_, rfl⟩
  rw [← hH] at HOr HB3 HB4
  rw [← hu] at HOr HB3 HB4
  clear hE hO hy hG hO2 hH hu rx nx rz hcb hcm nz rr nr hT
  have hx0 := hox.r0
  have hr0 := hor.r0
  clear hox hor
  obtain ⟨xh0, xh1, xh2, xh3, xh4, xh5, xh6, xh7, xb, xh, xl, xfx, xL, xD, xB⟩ := x
  obtain ⟨rh0, rh1, rh2, rh3, rh4, rh5, rh6, rh7, rb, rh, rl, rB⟩ := r
  simp only [Fx.val, Fx.cells, Rp.val, Rp.cells, low] at *
  obtain ⟨nX, hnX⟩ : ∃ n, n = xB.length := ⟨_, rfl⟩
  obtain ⟨nR, hnR⟩ : ∃ n, n = rB.length := ⟨_, rfl⟩
  obtain ⟨nZ, hnZ⟩ : ∃ n, n = zs.length := ⟨_, rfl⟩
  have HnX := Lib.hid hnX
  have HnR := Lib.hid hnR
  have HnZ := Lib.hid hnZ
  rw [← hnX] at HWx HSx lx ⊢
  rw [← hnR] at HOr lr ⊢
  rw [← hnZ] at HPz HB2 ⊢
  clear hnX hnR hnZ
  obtain ⟨px, hpx⟩ : ∃ px, px = xh0 % 64 := ⟨_, rfl⟩
  rw [← hpx] at HPx HSx HLo
  clear hpx hx0
  have HS0 := Lib.hid ((((Sep.init w).alloc #[.int .u8 xh0, .int .u8 xh1, .int .u8 xh2, .int .u8 xh3, .int .u8 xh4, .int .u8 xh5, .int .u8 xh6, .int .u8 xh7, .int .u16 xb, .int .u64 (xh : Int), .int .u64 (xl : Int), .bool xfx, .int .i64 xL, .int .i64 xD, .slice a nX c] 31).alloc #[.int .u8 rh0, .int .u8 rh1, .int .u8 rh2, .int .u8 rh3, .int .u8 rh4, .int .u8 rh5, .int .u8 rh6, .int .u8 rh7, .int .u16 rb, .int .u64 (rh : Int), .int .u64 (rl : Int), .slice ar nR cr] 48))
  simp only [World.size_alloc] at HS0
  go_enter Tryd.func6, Tryd.ntmps6
  go_upto_region 1 with fail
  obtain ⟨w1, hw1⟩ : ∃ w1, w1 = (w.alloc (.cells #[.int .u8 xh0, .int .u8 xh1, .int .u8 xh2, .int .u8 xh3, .int .u8 xh4, .int .u8 xh5, .int .u8 xh6, .int .u8 xh7, .int .u16 xb, .int .u64 (xh : Int), .int .u64 (xl : Int), .bool xfx, .int .i64 xL, .int .i64 xD, .slice a nX c] 31)).alloc (.cells #[.int .u8 rh0, .int .u8 rh1, .int .u8 rh2, .int .u8 rh3, .int .u8 rh4, .int .u8 rh5, .int .u8 rh6, .int .u8 rh7, .int .u16 rb, .int .u64 (rh : Int), .int .u64 (rl : Int), .slice ar nR cr] 48) := ⟨_, rfl⟩
  obtain ⟨o, ho⟩ : ∃ o, o = w.heap.size := ⟨_, rfl⟩
  rw [← hw1, ← ho] at HS0
  rw [← hw1, ← ho]
  clear hw1 ho
  go_wp2_with fail
  refine (HAl.out w1 HS0.out.frm).mono ?_
  rintro e w2 ⟨rfl, hf⟩
  have HS1 := Lib.hid (HS0.out.keep hf)
  clear hf HS0 HAl
  have k14 := (HS1.out.blk 1 rfl).cell 14 rfl
  have j11 := (HS1.out.blk 0 rfl).cell 11 rfl
  by_cases h1 : 2000 < nX
  · have t1 : decide (2000 < (nX : Int)) = true := decide_eq_true (by omega)
    clear h1
    go_wp2_with fail
    go_ret
    exact ⟨rfl, HS1.out.frm.below⟩
  have t1 : decide (2000 < (nX : Int)) = false := decide_eq_false (by omega)
  by_cases h2 : 2000 < nZ
  · have t2 : decide (2000 < (nZ : Int)) = true := decide_eq_true (by omega)
    clear h2
    go_wp2_with fail
    go_ret
    exact ⟨rfl, HS1.out.frm.below⟩
  have t2 : decide (2000 < (nZ : Int)) = false := decide_eq_false (by omega)
  by_cases h3 : 2000 < nR
  · have t3 : decide (2000 < (nR : Int)) = true := decide_eq_true (by omega)
    clear h3
    go_wp2_with fail
    go_ret
    exact ⟨rfl, HS1.out.frm.below⟩
  have t3 : decide (2000 < (nR : Int)) = false := decide_eq_false (by omega)
  go_upto_region 5 with fail
  clear t1 t2 t3 k14 j11
  have hL := Lib.hid (And.intro h1 (And.intro h2 h3))
  clear h1 h2 h3
  have k0 := (HS1.out.blk 1 rfl).cell 0 rfl
  have k1 := (HS1.out.blk 1 rfl).cell 1 rfl
  have k2 := (HS1.out.blk 1 rfl).cell 2 rfl
  have k3 := (HS1.out.blk 1 rfl).cell 3 rfl
  have k4 := (HS1.out.blk 1 rfl).cell 4 rfl
  have k5 := (HS1.out.blk 1 rfl).cell 5 rfl
  have k6 := (HS1.out.blk 1 rfl).cell 6 rfl
  have k7 := (HS1.out.blk 1 rfl).cell 7 rfl
  have k8 := (HS1.out.blk 1 rfl).cell 8 rfl
  have k9 := (HS1.out.blk 1 rfl).cell 9 rfl
  have k10 := (HS1.out.blk 1 rfl).cell 10 rfl
  have k11 := (HS1.out.blk 1 rfl).cell 11 rfl
  have k12 := (HS1.out.blk 1 rfl).cell 12 rfl
  have k13 := (HS1.out.blk 1 rfl).cell 13 rfl
  have k14 := (HS1.out.blk 1 rfl).cell 14 rfl
  go_wp2_with fail
  clear k0 k1 k2 k3 k4 k5 k6 k7 k8 k9 k10 k11 k12 k13 k14
  refine (HWx.out w2 HS1.out.frm).mono ?_
  rintro e w3 ⟨v3, rfl, hS⟩
  obtain ⟨a3, c3, rfl, rd3, n3, l3, m3⟩ := sl_of (k := .u8) (hS.own 0 rfl)
  have HS2 := Lib.hid (HS1.out.keep hS.frm)
  have HPx2 := Lib.hid (fun h0 => HPx.out h0 w3 a3 c3 rd3 l3 m3 n3)
  obtain ⟨nO, hnO⟩ : ∃ n, n = O.length := ⟨_, rfl⟩
  rw [← hnO] at HPx2 ⊢
  clear hS rd3 l3 m3 n3 HS1 HPx HWx hnO
  obtain ⟨T, hT⟩ : ∃ T : Bool, T = (E == 0) := ⟨_, rfl⟩
  have ht : (E == 0) = T := hT.symm
  have HTt := Lib.hid hT
  clear hT
  go_upto_if 44 with fail
  go_cut [10] (fun u wx => Sep [] w wx [blkR (o + 1) 48 #[.int .u8 rh0, .int .u8 rh1, .int .u8 rh2, .int .u8 rh3, .int .u8 rh4, .int .u8 rh5, .int .u8 rh6, .int .u8 rh7, .int .u16 rb, .int .u64 (rh : Int), .int .u64 (rl : Int), .slice ar nR cr], blkR o 31 #[.int .u8 xh0, .int .u8 xh1, .int .u8 xh2, .int .u8 xh3, .int .u8 xh4, .int .u8 xh5, .int .u8 xh6, .int .u8 xh7, .int .u16 xb, .int .u64 (xh : Int), .int .u64 (xl : Int), .bool xfx, .int .i64 xL, .int .i64 xD, .slice a nX c]])
  case first => as_aux_lemma =>
    by_cases hE0 : E = 0
    · obtain rfl : T = true := by rw [HTt.out]; simp [hE0]
      have HPx3 := Lib.hid (HPx2.out hE0)
      clear HPx2 ht HTt
      subst hE0
      go_wp2_with fail
      refine HPx3.out.mono ?_
      rintro e w4 ⟨va, vn, vc, rfl, hS⟩
      obtain rfl : vn = nX := by
        obtain ⟨_, _, hv, _⟩ := own_shape (hS.own 0 rfl)
        injection hv with _ h2 _
        exact h2.trans HnX.out.symm
      have rd4 : RdI .u8 w4 va xB := by
        obtain ⟨_, _, hv, rd, _⟩ := sl_of (k := .u8) (hS.own 0 rfl)
        injection hv with h1 _ _
        subst h1
        exact rd
      have HR4 := Lib.hid rd4
      have HS3 := Lib.hid (HS2.out.keep hS.frm)
      clear hS rd4 HPx3
      simp only [Fx.val, Fx.cells]
      go_upto_region 8 with fail
      have HS4 := Lib.hid (HS3.out.alloc #[.int .u8 px, .int .u8 xh1, .int .u8 xh2, .int .u8 xh3, .int .u8 xh4, .int .u8 xh5, .int .u8 xh6, .int .u8 xh7, .int .u16 xb, .int .u64 (xh : Int), .int .u64 (xl : Int), .bool xfx, .int .i64 xL, .int .i64 xD, .slice va vn vc] 31)
      obtain ⟨w5, hw5⟩ : ∃ x, x = w4.alloc (.cells #[.int .u8 px, .int .u8 xh1, .int .u8 xh2, .int .u8 xh3, .int .u8 xh4, .int .u8 xh5, .int .u8 xh6, .int .u8 xh7, .int .u16 xb, .int .u64 (xh : Int), .int .u64 (xl : Int), .bool xfx, .int .i64 xL, .int .i64 xD, .slice va vn vc] 31) := ⟨_, rfl⟩
      obtain ⟨q, hq⟩ : ∃ x, x = w4.heap.size := ⟨_, rfl⟩
      have HR5 : Hid (RdI .u8 w5 va xB) := Lib.hid (by rw [hw5]; exact HR4.out.alloc _)
      rw [← hw5, ← hq] at HS4
      rw [← hw5, ← hq]
      clear hw5 hq
      have j0 := (HS4.out.blk 0 rfl).cell 0 rfl
      have j1 := (HS4.out.blk 0 rfl).cell 1 rfl
      have j2 := (HS4.out.blk 0 rfl).cell 2 rfl
      have j3 := (HS4.out.blk 0 rfl).cell 3 rfl
      have j4 := (HS4.out.blk 0 rfl).cell 4 rfl
      have j5 := (HS4.out.blk 0 rfl).cell 5 rfl
      have j6 := (HS4.out.blk 0 rfl).cell 6 rfl
      have j7 := (HS4.out.blk 0 rfl).cell 7 rfl
      have j8 := (HS4.out.blk 0 rfl).cell 8 rfl
      have j9 := (HS4.out.blk 0 rfl).cell 9 rfl
      have j10 := (HS4.out.blk 0 rfl).cell 10 rfl
      have j11 := (HS4.out.blk 0 rfl).cell 11 rfl
      have j12 := (HS4.out.blk 0 rfl).cell 12 rfl
      have j13 := (HS4.out.blk 0 rfl).cell 13 rfl
      have j14 := (HS4.out.blk 0 rfl).cell 14 rfl
      have k0 := (HS4.out.blk 2 rfl).cell 0 rfl
      have k1 := (HS4.out.blk 2 rfl).cell 1 rfl
      have k2 := (HS4.out.blk 2 rfl).cell 2 rfl
      have k3 := (HS4.out.blk 2 rfl).cell 3 rfl
      have k4 := (HS4.out.blk 2 rfl).cell 4 rfl
      have k5 := (HS4.out.blk 2 rfl).cell 5 rfl
      have k6 := (HS4.out.blk 2 rfl).cell 6 rfl
      have k7 := (HS4.out.blk 2 rfl).cell 7 rfl
      have k8 := (HS4.out.blk 2 rfl).cell 8 rfl
      have k9 := (HS4.out.blk 2 rfl).cell 9 rfl
      have k10 := (HS4.out.blk 2 rfl).cell 10 rfl
      have k11 := (HS4.out.blk 2 rfl).cell 11 rfl
      have k12 := (HS4.out.blk 2 rfl).cell 12 rfl
      have k13 := (HS4.out.blk 2 rfl).cell 13 rfl
      have k14 := (HS4.out.blk 2 rfl).cell 14 rfl
      have HSm := Lib.hid (HSx.out w5 HS4.out.frm va vc (by have := hL.out.1; have := HnX.out; omega) HR5.out HLo.out)
      go_wp2_with fail
      clear j0 j1 j2 j3 j4 j5 j6 j7 j8 j9 j10 j11 j12 j13 j14 k0 k1 k2 k3 k4 k5 k6 k7 k8 k9 k10 k11 k12 k13 k14
      refine HSm.out.mono ?_
      rintro e w6 ⟨rfl, hf⟩
      have HS5 := Lib.hid ((HS4.out.keep hf).at_ [1, 2] (by decide) rfl)
      clear hf HSm HS4
      go_wp2_with fail
      go_meet
      exact HS5.out
    · obtain rfl : T = false := by rw [HTt.out]; simp [hE0]
      clear HPx2 ht HTt
      go_wp2_with fail
      go_meet
      exact HS2.out
  obtain ⟨w5, hw5⟩ : ∃ x, x = wc := ⟨_, rfl⟩
  rw [← hw5] at hcut ⊢
  have HS3 := Lib.hid hcut
  clear hcut hw5 HS2 HPx2 ht HTt HSx HLo
  -- the second part
  have HPz2 := Lib.hid (HPz.out w5 HS3.out.frm)
  have HYn := Lib.hid (show y.B.length = y.B.length from rfl)
  clear HPz
  go_wp2_with fail
  refine HPz2.out.mono ?_
  rintro e w6 ⟨va, vn, vc, rfl, hS⟩
  obtain rfl : vn = y.B.length := by
    obtain ⟨_, _, hv, _⟩ := own_shape (hS.own 0 rfl)
    injection hv with _ h2 _
  have ny := own_zero (hS.own 0 rfl)
  have HS4 := Lib.hid (show Sep [] w w6 ([sumR (.slice va y.B.length vc) y.B] ++ [blkR (o + 1) 48 #[.int .u8 rh0, .int .u8 rh1, .int .u8 rh2, .int .u8 rh3, .int .u8 rh4, .int .u8 rh5, .int .u8 rh6, .int .u8 rh7, .int .u16 rb, .int .u64 (rh : Int), .int .u64 (rl : Int), .slice ar nR cr], blkR o 31 #[.int .u8 xh0, .int .u8 xh1, .int .u8 xh2, .int .u8 xh3, .int .u8 xh4, .int .u8 xh5, .int .u8 xh6, .int .u8 xh7, .int .u16 xb, .int .u64 (xh : Int), .int .u64 (xl : Int), .bool xfx, .int .i64 xL, .int .i64 xD, .slice a nX c]]) from HS3.out.more hS)
  have HNy := Lib.hid ny
  clear hS ny HPz2 HS3 HYn
  have HWy := Lib.hid (fun (h0 : G = 0) X (hX : Frm [] w X) (rd : RdI .u8 X va y.B) (hl : y.B.length ≤ 9223372036854775807) => (by
    have h := write_c y va vc X (HB2.out h0).1 rd HNy.out (HT.out X hX) hl
    rw [(HB2.out h0).2.1, ← HO2.out] at h
    exact h : Calls Tryd.prog 15 #[y.val (.slice va y.B.length vc)] X (WrP X O2 0)))
  have HPy := Lib.hid (fun (h0 : G = 0) X a' c' (hr : RdI .u8 X a' O2) (hc : O2.length ≤ c') (hcm : c' ≤ 9223372036854775807) (hn : a' = none → c' = 0) => (by
    have hb := (woX_byt (HB2.out h0).1).1
    rw [← HO2.out] at hb
    have h := Parse_c (c := c') hr hb hc hcm hn
    rw [(HB2.out h0).2.2.2.1, (HB2.out h0).2.2.2.2] at h
    exact h : Calls Tryd.prog 10 #[.slice a' O2.length c'] X (ParseP X y 0)))
  have HSy := Lib.hid (fun (h0 : G = 0) X a1 c1 a2 c2 (r1 : RdI .u8 X a1 y.B) (r2 : RdI .u8 X a2 y.B) (hl : y.B.length ≤ 1000000) => (by
    have h := same_c y y a1 a2 c1 c2 X (HB2.out h0).1 (HB2.out h0).1 r1 r2 hl hl
    rw [same_self] at h
    exact h : Calls Tryd.prog 20 #[y.val (.slice a1 y.B.length c1), y.val (.slice a2 y.B.length c2)] X fun e w' => e = .returned (.bool true) ∧ Frm [] X w'))
  have HYl := Lib.hid (fun (h0 : G = 0) => (show y.B.length ≤ 1500 from (good_of (HB2.out h0).1.rh (HB2.out h0).1.rl (we_zero (HB2.out h0).2.1).1).body))
  have HYo := Lib.hid (fun (h0 : G = 0) => (HB2.out h0).2.2.1)
  clear HB2 HO2
  obtain ⟨yh0, yh1, yh2, yh3, yh4, yh5, yh6, yh7, yb, yh, yl, yfx, yL, yD, yB⟩ := y
  simp only [Fx.val, Fx.cells] at HWy HPy HSy HYl HS4 ⊢
  obtain ⟨nY, hnY⟩ : ∃ n, n = yB.length := ⟨_, rfl⟩
  have HnY := Lib.hid hnY
  rw [← hnY] at HWy HSy HYl HS4 ⊢
  clear hnY
  obtain ⟨nO2, hnO2⟩ : ∃ n, n = O2.length := ⟨_, rfl⟩
  have HnO2 := Lib.hid hnO2
  rw [← hnO2] at HYo HPy
  clear hnO2
  go_upto_region 11 with fail
  have HS5 := Lib.hid (HS4.out.alloc #[.int .u8 yh0, .int .u8 yh1, .int .u8 yh2, .int .u8 yh3, .int .u8 yh4, .int .u8 yh5, .int .u8 yh6, .int .u8 yh7, .int .u16 yb, .int .u64 (yh : Int), .int .u64 (yl : Int), .bool yfx, .int .i64 yL, .int .i64 yD, .slice va nY vc] 31)
  obtain ⟨w7, hw7⟩ : ∃ x, x = w6.alloc (.cells #[.int .u8 yh0, .int .u8 yh1, .int .u8 yh2, .int .u8 yh3, .int .u8 yh4, .int .u8 yh5, .int .u8 yh6, .int .u8 yh7, .int .u16 yb, .int .u64 (yh : Int), .int .u64 (yl : Int), .bool yfx, .int .i64 yL, .int .i64 yD, .slice va nY vc] 31) := ⟨_, rfl⟩
  obtain ⟨q, hq⟩ : ∃ x, x = w6.heap.size := ⟨_, rfl⟩
  rw [← hw7, ← hq] at HS5
  rw [← hw7, ← hq]
  clear hw7 hq HS4
  obtain ⟨T, hT⟩ : ∃ T : Bool, T = (G == 0) := ⟨_, rfl⟩
  have ht : (G == 0) = T := hT.symm
  have HTt := Lib.hid hT
  clear hT
  go_upto_if 64 with fail
  go_cut [16] (fun u wx => Sep [] w wx [blkR (o + 1) 48 #[.int .u8 rh0, .int .u8 rh1, .int .u8 rh2, .int .u8 rh3, .int .u8 rh4, .int .u8 rh5, .int .u8 rh6, .int .u8 rh7, .int .u16 rb, .int .u64 (rh : Int), .int .u64 (rl : Int), .slice ar nR cr], blkR o 31 #[.int .u8 xh0, .int .u8 xh1, .int .u8 xh2, .int .u8 xh3, .int .u8 xh4, .int .u8 xh5, .int .u8 xh6, .int .u8 xh7, .int .u16 xb, .int .u64 (xh : Int), .int .u64 (xl : Int), .bool xfx, .int .i64 xL, .int .i64 xD, .slice a nX c]])
  case first => as_aux_lemma =>
    by_cases hG0 : G = 0
    · obtain rfl : T = true := by rw [HTt.out]; simp [hG0]
      have HR7 : Hid (∀ X, Frm [] w7 X → RdI .u8 X va yB) := Lib.hid (fun X hX => by
        obtain ⟨_, _, hv, rd, _⟩ := sl_of (k := .u8) ((HS5.out.keep hX).own 1 (by rw [HnY.out]; rfl))
        injection hv with h1 _ _
        subst h1
        exact rd)
      have HW7 := Lib.hid (HWy.out hG0 w7 HS5.out.frm (HR7.out w7 (Frm.refl _ _)) (by have := HYl.out hG0; omega))
      have HPy2 := Lib.hid (HPy.out hG0)
      have HSy2 := Lib.hid (HSy.out hG0)
      have hyl := HYl.out hG0
      have hyo := HYo.out hG0
      have q1 : decide ((nZ : Int) < (nO2 : Int)) = false := decide_eq_false (by omega)
      have q2 : decide (nZ < nO2) = false := decide_eq_false (by omega)
      clear HWy HPy HSy HYl HYo ht HTt hyo
      subst hG0
      have k0 := (HS5.out.blk 0 rfl).cell 0 rfl
      have k1 := (HS5.out.blk 0 rfl).cell 1 rfl
      have k2 := (HS5.out.blk 0 rfl).cell 2 rfl
      have k3 := (HS5.out.blk 0 rfl).cell 3 rfl
      have k4 := (HS5.out.blk 0 rfl).cell 4 rfl
      have k5 := (HS5.out.blk 0 rfl).cell 5 rfl
      have k6 := (HS5.out.blk 0 rfl).cell 6 rfl
      have k7 := (HS5.out.blk 0 rfl).cell 7 rfl
      have k8 := (HS5.out.blk 0 rfl).cell 8 rfl
      have k9 := (HS5.out.blk 0 rfl).cell 9 rfl
      have k10 := (HS5.out.blk 0 rfl).cell 10 rfl
      have k11 := (HS5.out.blk 0 rfl).cell 11 rfl
      have k12 := (HS5.out.blk 0 rfl).cell 12 rfl
      have k13 := (HS5.out.blk 0 rfl).cell 13 rfl
      have k14 := (HS5.out.blk 0 rfl).cell 14 rfl
      go_wp2_with fail
      clear k0 k1 k2 k3 k4 k5 k6 k7 k8 k9 k10 k11 k12 k13 k14
      refine HW7.out.mono ?_
      rintro e w8 ⟨v8, rfl, hS⟩
      obtain ⟨a8, c8, rfl, rd8, n8, l8, m8⟩ := sl_of (k := .u8) (hS.own 0 rfl)
      have HF8 := Lib.hid hS.frm
      have HP8 := Lib.hid (HPy2.out w8 a8 c8 rd8 (by have := HnO2.out; omega) m8 n8)
      have HS6 := Lib.hid (HS5.out.keep hS.frm)
      rw [← HnO2.out]
      clear hS rd8 n8 l8 m8 HPy2 HW7
      go_wp2_with fail
      refine HP8.out.mono ?_
      rintro e w9 ⟨vb, vm, vd, rfl, hS⟩
      obtain rfl : vm = nY := by
        obtain ⟨_, _, hv, _⟩ := own_shape (hS.own 0 rfl)
        injection hv with _ h2 _
        exact h2.trans HnY.out.symm
      have rd9 : RdI .u8 w9 vb yB := by
        obtain ⟨_, _, hv, rd, _⟩ := sl_of (k := .u8) (hS.own 0 rfl)
        injection hv with h1 _ _
        subst h1
        exact rd
      have HR9 := Lib.hid rd9
      have HF9 := Lib.hid (HF8.out.trans hS.frm)
      have HS7 := Lib.hid (HS6.out.keep hS.frm)
      clear hS rd9 HP8 HS6
      simp only [Fx.val, Fx.cells]
      go_upto_region 14 with fail
      have HS8 := Lib.hid (HS7.out.alloc #[.int .u8 yh0, .int .u8 yh1, .int .u8 yh2, .int .u8 yh3, .int .u8 yh4, .int .u8 yh5, .int .u8 yh6, .int .u8 yh7, .int .u16 yb, .int .u64 (yh : Int), .int .u64 (yl : Int), .bool yfx, .int .i64 yL, .int .i64 yD, .slice vb vm vd] 31)
      obtain ⟨w10, hw10⟩ : ∃ x, x = w9.alloc (.cells #[.int .u8 yh0, .int .u8 yh1, .int .u8 yh2, .int .u8 yh3, .int .u8 yh4, .int .u8 yh5, .int .u8 yh6, .int .u8 yh7, .int .u16 yb, .int .u64 (yh : Int), .int .u64 (yl : Int), .bool yfx, .int .i64 yL, .int .i64 yD, .slice vb vm vd] 31) := ⟨_, rfl⟩
      obtain ⟨g, hg⟩ : ∃ x, x = w9.heap.size := ⟨_, rfl⟩
      have HR10 : Hid (RdI .u8 w10 vb yB ∧ RdI .u8 w10 va yB) := Lib.hid (by rw [hw10]; exact ⟨HR9.out.alloc _, (HR7.out _ HF9.out).alloc _⟩)
      rw [← hw10, ← hg] at HS8
      rw [← hw10, ← hg]
      clear hw10 hg HS7
      have HSm := Lib.hid (HSy2.out w10 vb vd va vc HR10.out.1 HR10.out.2 (by omega))
      clear HSy2 hyl
      have j0 := (HS8.out.blk 0 rfl).cell 0 rfl
      have j1 := (HS8.out.blk 0 rfl).cell 1 rfl
      have j2 := (HS8.out.blk 0 rfl).cell 2 rfl
      have j3 := (HS8.out.blk 0 rfl).cell 3 rfl
      have j4 := (HS8.out.blk 0 rfl).cell 4 rfl
      have j5 := (HS8.out.blk 0 rfl).cell 5 rfl
      have j6 := (HS8.out.blk 0 rfl).cell 6 rfl
      have j7 := (HS8.out.blk 0 rfl).cell 7 rfl
      have j8 := (HS8.out.blk 0 rfl).cell 8 rfl
      have j9 := (HS8.out.blk 0 rfl).cell 9 rfl
      have j10 := (HS8.out.blk 0 rfl).cell 10 rfl
      have j11 := (HS8.out.blk 0 rfl).cell 11 rfl
      have j12 := (HS8.out.blk 0 rfl).cell 12 rfl
      have j13 := (HS8.out.blk 0 rfl).cell 13 rfl
      have j14 := (HS8.out.blk 0 rfl).cell 14 rfl
      have k0 := (HS8.out.blk 1 rfl).cell 0 rfl
      have k1 := (HS8.out.blk 1 rfl).cell 1 rfl
      have k2 := (HS8.out.blk 1 rfl).cell 2 rfl
      have k3 := (HS8.out.blk 1 rfl).cell 3 rfl
      have k4 := (HS8.out.blk 1 rfl).cell 4 rfl
      have k5 := (HS8.out.blk 1 rfl).cell 5 rfl
      have k6 := (HS8.out.blk 1 rfl).cell 6 rfl
      have k7 := (HS8.out.blk 1 rfl).cell 7 rfl
      have k8 := (HS8.out.blk 1 rfl).cell 8 rfl
      have k9 := (HS8.out.blk 1 rfl).cell 9 rfl
      have k10 := (HS8.out.blk 1 rfl).cell 10 rfl
      have k11 := (HS8.out.blk 1 rfl).cell 11 rfl
      have k12 := (HS8.out.blk 1 rfl).cell 12 rfl
      have k13 := (HS8.out.blk 1 rfl).cell 13 rfl
      have k14 := (HS8.out.blk 1 rfl).cell 14 rfl
      go_wp2_with fail
      clear j0 j1 j2 j3 j4 j5 j6 j7 j8 j9 j10 j11 j12 j13 j14 k0 k1 k2 k3 k4 k5 k6 k7 k8 k9 k10 k11 k12 k13 k14
      refine HSm.out.mono ?_
      rintro e w11 ⟨rfl, hf⟩
      have HS9 := Lib.hid ((HS8.out.keep hf).at_ [3, 4] (by decide) rfl)
      clear hf HSm HS8
      go_wp2_with fail
      go_meet
      exact HS9.out
    · obtain rfl : T = false := by rw [HTt.out]; simp [hG0]
      clear HWy HPy HSy HYl HYo ht HTt
      have HS9 := Lib.hid (HS5.out.at_ [2, 3] (by decide) rfl)
      go_wp2_with fail
      go_meet
      exact HS9.out
  obtain ⟨w8, hw8⟩ : ∃ x, x = wc := ⟨_, rfl⟩
  rw [← hw8] at hcut ⊢
  have HS6 := Lib.hid hcut
  clear hcut hw8 HS5 ht HTt HWy HPy HSy HYl HYo
  -- the third part
  have HO8 := Lib.hid (HOr.out w8 HS6.out.frm (by have := hL.out.2.2; omega))
  clear HOr
  have k0 := (HS6.out.blk 0 rfl).cell 0 rfl
  have k1 := (HS6.out.blk 0 rfl).cell 1 rfl
  have k2 := (HS6.out.blk 0 rfl).cell 2 rfl
  have k3 := (HS6.out.blk 0 rfl).cell 3 rfl
  have k4 := (HS6.out.blk 0 rfl).cell 4 rfl
  have k5 := (HS6.out.blk 0 rfl).cell 5 rfl
  have k6 := (HS6.out.blk 0 rfl).cell 6 rfl
  have k7 := (HS6.out.blk 0 rfl).cell 7 rfl
  have k8 := (HS6.out.blk 0 rfl).cell 8 rfl
  have k9 := (HS6.out.blk 0 rfl).cell 9 rfl
  have k10 := (HS6.out.blk 0 rfl).cell 10 rfl
  have k11 := (HS6.out.blk 0 rfl).cell 11 rfl
  go_wp2_with fail
  clear k0 k1 k2 k3 k4 k5 k6 k7 k8 k9 k10 k11
  refine HO8.out.mono ?_
  rintro e w9 ⟨va, vn, vc, rfl, hS⟩
  have hvn : vn = u.B.length := by
    obtain ⟨_, _, hv, _⟩ := own_shape (hS.own 0 rfl)
    injection hv with _ h2 _
  have nu : va = none → vc = 0 := by subst hvn; exact own_zero (hS.own 0 rfl)
  have HNu := Lib.hid nu
  have HS7 := Lib.hid (HS6.out.keep hS.frm)
  have HRu : Hid (RdI .u8 w9 va u.B) := Lib.hid (by
    obtain ⟨_, _, hv, rd, _⟩ := sl_of (k := .u8) (hS.own 0 rfl)
    injection hv with h1 _ _
    subst h1
    exact rd)
  clear hS HO8 nu HS6
  by_cases hH0 : H = 0
  · obtain ⟨hu, hfe, hfx⟩ := HB3.out hH0
    subst hu
    have HFl := Lib.hid (fun X (hX : Frm [] w X) a' c' (rd : RdI .u8 X a' rB) (hn : a' = none → c' = 0) (hl : rB.length ≤ 1000000) => (by
      have h := fflat_c _ a' c' X (pkOf_ok HOk.out) rd hn (HT.out X hX) hl
      rw [hfe, hfx] at h
      exact h))
    simp only [pkOf] at hvn HRu HFl ⊢
    obtain rfl : vn = nR := hvn.trans HnR.out.symm
    rw [← HnR.out] at HFl
    simp only [Fx.val, Fx.cells, rpOf] at HFl ⊢
    clear hfe hfx HB3 HB4 hvn
    have e1 := and63_u hr0.1 hr0.2
    obtain ⟨p, hp⟩ : ∃ p, p = rh0 % 64 := ⟨_, rfl⟩
    have hp2 : p % 64 = p := by omega
    rw [← hp] at e1 HFl ⊢
    rw [hp2] at HFl
    have HE1 := Lib.hid e1
    clear hp e1 hr0 hp2
    subst hH0
    go_upto_region 19 with fail
    have HS8 := Lib.hid (HS7.out.alloc #[.int .u8 p, .int .u8 rh1, .int .u8 rh2, .int .u8 rh3, .int .u8 rh4, .int .u8 rh5, .int .u8 rh6, .int .u8 rh7, .int .u16 rb, .int .u64 (rh : Int), .int .u64 (rl : Int), .bool false, .int .i64 0, .int .i64 0, .slice va vn vc] 31)
    obtain ⟨w10, hw10⟩ : ∃ x, x = w9.alloc (.cells #[.int .u8 p, .int .u8 rh1, .int .u8 rh2, .int .u8 rh3, .int .u8 rh4, .int .u8 rh5, .int .u8 rh6, .int .u8 rh7, .int .u16 rb, .int .u64 (rh : Int), .int .u64 (rl : Int), .bool false, .int .i64 0, .int .i64 0, .slice va vn vc] 31) := ⟨_, rfl⟩
    obtain ⟨q, hq⟩ : ∃ x, x = w9.heap.size := ⟨_, rfl⟩
    have HR10 : Hid (RdI .u8 w10 va rB) := Lib.hid (by rw [hw10]; exact HRu.out.alloc _)
    rw [← hw10, ← hq] at HS8
    rw [← hw10, ← hq]
    clear hw10 hq HS7
    have HF10 := Lib.hid (HFl.out w10 HS8.out.frm va vc HR10.out HNu.out (by have := hL.out.2.2; have := HnR.out; omega))
    clear HFl
    have k0 := (HS8.out.blk 0 rfl).cell 0 rfl
    have k1 := (HS8.out.blk 0 rfl).cell 1 rfl
    have k2 := (HS8.out.blk 0 rfl).cell 2 rfl
    have k3 := (HS8.out.blk 0 rfl).cell 3 rfl
    have k4 := (HS8.out.blk 0 rfl).cell 4 rfl
    have k5 := (HS8.out.blk 0 rfl).cell 5 rfl
    have k6 := (HS8.out.blk 0 rfl).cell 6 rfl
    have k7 := (HS8.out.blk 0 rfl).cell 7 rfl
    have k8 := (HS8.out.blk 0 rfl).cell 8 rfl
    have k9 := (HS8.out.blk 0 rfl).cell 9 rfl
    have k10 := (HS8.out.blk 0 rfl).cell 10 rfl
    have k11 := (HS8.out.blk 0 rfl).cell 11 rfl
    have k12 := (HS8.out.blk 0 rfl).cell 12 rfl
    have k13 := (HS8.out.blk 0 rfl).cell 13 rfl
    have k14 := (HS8.out.blk 0 rfl).cell 14 rfl
    go_wp2_with fail
    clear k0 k1 k2 k3 k4 k5 k6 k7 k8 k9 k10 k11 k12 k13 k14
    refine HF10.out.mono ?_
    rintro e w11 ⟨fa, fn, fc, rfl, hS⟩
    obtain rfl : vn = fn := by
      obtain ⟨_, _, hv, _⟩ := own_shape (hS.own 0 rfl)
      injection hv with _ h2 _
      exact HnR.out.trans h2.symm
    have HS9 := Lib.hid (HS8.out.more hS)
    clear hS HF10 HS8
    simp only [Rp.val, Rp.cells]
    go_upto_region 20 with fail
    have HS10 := Lib.hid (HS9.out.alloc #[.int .u8 p, .int .u8 rh1, .int .u8 rh2, .int .u8 rh3, .int .u8 rh4, .int .u8 rh5, .int .u8 rh6, .int .u8 rh7, .int .u16 rb, .int .u64 (rh : Int), .int .u64 (rl : Int), .slice fa vn fc] 48)
    obtain ⟨w12, hw12⟩ : ∃ x, x = w11.alloc (.cells #[.int .u8 p, .int .u8 rh1, .int .u8 rh2, .int .u8 rh3, .int .u8 rh4, .int .u8 rh5, .int .u8 rh6, .int .u8 rh7, .int .u16 rb, .int .u64 (rh : Int), .int .u64 (rl : Int), .slice fa vn fc] 48) := ⟨_, rfl⟩
    obtain ⟨s, hs⟩ : ∃ x, x = w11.heap.size := ⟨_, rfl⟩
    rw [← hw12, ← hs] at HS10
    rw [← hw12, ← hs]
    clear hw12 hs HS9
    have k0 := (HS10.out.blk 3 rfl).cell 0 rfl
    have f0 := (HS10.out.blk 3 rfl).free 0
    have e1 := HE1.out
    go_upto_region 21 with fail
    have HS11 := Lib.hid (show Sep [] w _ [blkR s 48 #[.int .u8 p, .int .u8 rh1, .int .u8 rh2, .int .u8 rh3, .int .u8 rh4, .int .u8 rh5, .int .u8 rh6, .int .u8 rh7, .int .u16 rb, .int .u64 (rh : Int), .int .u64 (rl : Int), .slice fa vn fc], sumR (.slice fa vn fc) rB, blkR q 31 #[.int .u8 p, .int .u8 rh1, .int .u8 rh2, .int .u8 rh3, .int .u8 rh4, .int .u8 rh5, .int .u8 rh6, .int .u8 rh7, .int .u16 rb, .int .u64 (rh : Int), .int .u64 (rl : Int), .bool false, .int .i64 0, .int .i64 0, .slice va vn vc], blkR (o + 1) 48 #[.int .u8 p, .int .u8 rh1, .int .u8 rh2, .int .u8 rh3, .int .u8 rh4, .int .u8 rh5, .int .u8 rh6, .int .u8 rh7, .int .u16 rb, .int .u64 (rh : Int), .int .u64 (rl : Int), .slice ar vn cr], blkR o 31 #[.int .u8 xh0, .int .u8 xh1, .int .u8 xh2, .int .u8 xh3, .int .u8 xh4, .int .u8 xh5, .int .u8 xh6, .int .u8 xh7, .int .u16 xb, .int .u64 (xh : Int), .int .u64 (xl : Int), .bool xfx, .int .i64 xL, .int .i64 xD, .slice a nX c]] from HS10.out.put 3 rfl 0 (.int .u8 p))
    obtain ⟨w13, hw13⟩ : ∃ x, x = w12.setCell ⟨o + 1, 0, none⟩ (.int .u8 p) := ⟨_, rfl⟩
    rw [← hw13] at HS11
    rw [← hw13]
    clear hw13 k0 f0 e1 HS10
    have HRf : Hid (RdI .u8 w13 fa rB) := Lib.hid (by
      obtain ⟨_, _, hv, rd, _⟩ := sl_of (k := .u8) (HS11.out.own 1 (by rw [HnR.out]; rfl))
      injection hv with h1 _ _
      subst h1
      exact rd)
    have HSm := Lib.hid ((by
      have h := sameRp_c ⟨p, rh1, rh2, rh3, rh4, rh5, rh6, rh7, rb, rh, rl, rB⟩ ⟨p, rh1, rh2, rh3, rh4, rh5, rh6, rh7, rb, rh, rl, rB⟩ ar fa cr fc w13 (HRr.out _ HS11.out.frm) HRf.out (by have := hL.out.2.2; have := HnR.out; simp only; omega) (by have := hL.out.2.2; have := HnR.out; simp only; omega)
      simp only [Rp.val, Rp.cells] at h
      rw [← HnR.out, show sameRp ⟨p, rh1, rh2, rh3, rh4, rh5, rh6, rh7, rb, rh, rl, rB⟩ ⟨p, rh1, rh2, rh3, rh4, rh5, rh6, rh7, rb, rh, rl, rB⟩ = true by simp [sameRp]] at h
      exact h : Calls Tryd.prog 19 #[.agg #[.int .u8 p, .int .u8 rh1, .int .u8 rh2, .int .u8 rh3, .int .u8 rh4, .int .u8 rh5, .int .u8 rh6, .int .u8 rh7, .int .u16 rb, .int .u64 (rh : Int), .int .u64 (rl : Int), .slice ar vn cr], .agg #[.int .u8 p, .int .u8 rh1, .int .u8 rh2, .int .u8 rh3, .int .u8 rh4, .int .u8 rh5, .int .u8 rh6, .int .u8 rh7, .int .u16 rb, .int .u64 (rh : Int), .int .u64 (rl : Int), .slice fa vn fc]] w13 fun e w' => e = .returned (.bool true) ∧ Frm [] w13 w'))
    have j0 := (HS11.out.blk 0 rfl).cell 0 rfl
    have j1 := (HS11.out.blk 0 rfl).cell 1 rfl
    have j2 := (HS11.out.blk 0 rfl).cell 2 rfl
    have j3 := (HS11.out.blk 0 rfl).cell 3 rfl
    have j4 := (HS11.out.blk 0 rfl).cell 4 rfl
    have j5 := (HS11.out.blk 0 rfl).cell 5 rfl
    have j6 := (HS11.out.blk 0 rfl).cell 6 rfl
    have j7 := (HS11.out.blk 0 rfl).cell 7 rfl
    have j8 := (HS11.out.blk 0 rfl).cell 8 rfl
    have j9 := (HS11.out.blk 0 rfl).cell 9 rfl
    have j10 := (HS11.out.blk 0 rfl).cell 10 rfl
    have j11 := (HS11.out.blk 0 rfl).cell 11 rfl
    have k0 := (HS11.out.blk 3 rfl).cell 0 rfl
    have k1 := (HS11.out.blk 3 rfl).cell 1 rfl
    have k2 := (HS11.out.blk 3 rfl).cell 2 rfl
    have k3 := (HS11.out.blk 3 rfl).cell 3 rfl
    have k4 := (HS11.out.blk 3 rfl).cell 4 rfl
    have k5 := (HS11.out.blk 3 rfl).cell 5 rfl
    have k6 := (HS11.out.blk 3 rfl).cell 6 rfl
    have k7 := (HS11.out.blk 3 rfl).cell 7 rfl
    have k8 := (HS11.out.blk 3 rfl).cell 8 rfl
    have k9 := (HS11.out.blk 3 rfl).cell 9 rfl
    have k10 := (HS11.out.blk 3 rfl).cell 10 rfl
    have k11 := (HS11.out.blk 3 rfl).cell 11 rfl
    go_wp2_with fail
    clear j0 j1 j2 j3 j4 j5 j6 j7 j8 j9 j10 j11 k0 k1 k2 k3 k4 k5 k6 k7 k8 k9 k10 k11
    refine HSm.out.mono ?_
    rintro e w14 ⟨rfl, hf⟩
    have HF14 := Lib.hid (HS11.out.frm.trans hf)
    clear hf HSm HS11
    go_wp2_with fail
    go_ret
    exact ⟨rfl, HF14.out.below⟩
  · have hu := HB4.out hH0
    subst hu
    obtain rfl : vn = 0 := hvn
    have t0 : (H != 0) = true := by simp [hH0]
    clear hH0 HB3 HB4 HRu
    simp only [Fx.val, Fx.cells, Fx.none]
    go_upto_region 17 with fail
    have HS8 := Lib.hid (HS7.out.alloc #[.int .u8 0, .int .u8 0, .int .u8 0, .int .u8 0, .int .u8 0, .int .u8 0, .int .u8 0, .int .u8 0, .int .u16 0, .int .u64 0, .int .u64 0, .bool false, .int .i64 0, .int .i64 0, .slice va 0 vc] 31)
    obtain ⟨w10, hw10⟩ : ∃ x, x = w9.alloc (.cells #[.int .u8 0, .int .u8 0, .int .u8 0, .int .u8 0, .int .u8 0, .int .u8 0, .int .u8 0, .int .u8 0, .int .u16 0, .int .u64 0, .int .u64 0, .bool false, .int .i64 0, .int .i64 0, .slice va 0 vc] 31) := ⟨_, rfl⟩
    obtain ⟨q, hq⟩ : ∃ x, x = w9.heap.size := ⟨_, rfl⟩
    rw [← hw10, ← hq] at HS8
    rw [← hw10, ← hq]
    clear hw10 hq HS7
    have k14 := (HS8.out.blk 0 rfl).cell 14 rfl
    go_wp2_with fail
    go_ret
    exact ⟨rfl, HS8.out.frm.below⟩
theorem flexBack_f {w : World} (hT : Tabs w) (x : Fx) (a : Option Addr) (c : Nat) (hox : x.Ok) (rx : RdI .u8 w a x.B) (nx : a = none → c = 0) (lx : x.B.length ≤ c) (mx : c ≤ maxLen)
    (ab : Option Addr) (cb : Nat) (zs : List Int) (lb : zs.length ≤ cb) (mb : cb ≤ maxLen) (nb : ab = none → cb = 0) (rb : RdI .u8 w ab zs) (wb : ∀ x ∈ zs, (Lit.int .u8 x).wf = true)
    (r : Rp) (ar : Option Addr) (cr : Nat) (hor : r.Ok) (rr : RdI .u8 w ar r.B) (nr : ar = none → cr = 0) (lr : r.B.length ≤ cr) (mr : cr ≤ maxLen) :
    Calls Tryd.prog 6 #[x.val (.slice a x.B.length c), .slice ab zs.length cb, r.val (.slice ar r.B.length cr)] w fun e w' => e = .returned (.bool true) ∧ Below w.heap.size w w' :=
  flexBack_w w hT x a c hox rx nx (by unfold maxLen at *; omega) ab cb zs rb (u8s_wf wb) lb (by unfold maxLen at *; omega) nb r ar cr hor rr nr (by unfold maxLen at *; omega)

end Go.Proofs.YtnloabpdjedanaaDoor
