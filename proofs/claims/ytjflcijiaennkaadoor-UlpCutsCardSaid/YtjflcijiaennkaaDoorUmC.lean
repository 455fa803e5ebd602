/-
  THE WALK of the law UlpBack. Printed by gen_umc.py.
-/
import Derived.Test.YtjflcijiaennkaaDoorUlY
import Derived.Test.YtjflcijiaennkaaDoorUlT
import Derived.Test.YtjflcijiaennkaaDoorUmP
import Derived.Test.YtjflcijiaennkaaDoorUmB
import Derived.Test.YtjflcijiaennkaaDoorUop
set_option linter.unusedVariables false
set_option linter.unusedSimpArgs false
namespace Go.Proofs.YtjflcijiaennkaaDoor
open Go.RowKit

theorem uwoX_byt {x : Ul} (hok : x.Ok) : Byt (uwoX x) := by
  by_cases h : uweX x = 0
  · rw [(uwe_zero h).2.2]
    intro z hz
    unfold ubyX at hz
    rcases List.mem_append.1 hz with hz | hz
    · unfold uhdB at hz
      rcases List.mem_append.1 hz with hz | hz
      · rcases List.mem_append.1 hz with hz | hz
        · have r0 := hok.r0
          have r1 := hok.r1
          simp at hz
          rcases hz with rfl | rfl
          · split <;> omega
          · omega
        · exact bigL_byt _ _ z hz
      · have := hok.r2; have := hok.r3; have := hok.r4; have := hok.r5; have := hok.r6; have := hok.r7
        simp at hz
        omega
    · obtain ⟨L, hL, hz⟩ := List.mem_flatMap.1 hz
      exact lvB_byt (hok.rL L hL).2.2 z hz
  · unfold uwoX
    rw [if_pos h]
    exact fun z hz => by cases hz
theorem ulow_ok {x : Ul} (hok : x.Ok) : (ulow x).Ok := ⟨by have := hok.r0; show 0 ≤ x.h0 % 64 ∧ x.h0 % 64 ≤ 255; omega, hok.r1, hok.r2, hok.r3, hok.r4, hok.r5, hok.r6, hok.r7, hok.rb, hok.rL⟩
theorem ulv_le {x : Ul} (h : uweX x = 0) {ts : List LvV} (ht : ts.map LvV.lv = x.Ls) : ts.length ≤ 2 ∧ ∀ q ∈ ts, q.B.length ≤ 1500 := by
  have hg := ugood_of (uwe_zero h).1
  refine ⟨?_, fun q hq => hg.body q.lv (ht ▸ List.mem_map_of_mem hq)⟩
  have := congrArg List.length ht
  have := hg.n2
  simp at *
  omega
theorem uof_none {r : Rp} {cut : Int} (h : uofE r cut ≠ 0) : uofX r cut = Ul.none := by unfold uofX; rw [if_neg h]
theorem sl3 {a a' : Option Addr} {n m c c' : Nat} (h : Value.slice a n c = .slice a' m c') : a = a' ∧ n = m ∧ c = c' := by injection h with h1 h2 h3; exact ⟨h1, h2, h3⟩

set_option maxRecDepth 100000 in
set_option maxHeartbeats 16000000 in
theorem ulpBack_w (w : World) (hT : Tabs w) (x : Ul) (a : Option Addr) (c : Nat) (qs : List LvV) (hqx : qs.map LvV.lv = x.Ls) (hox : x.Ok) (rx : RdLs w a qs) (lx : qs.length ≤ 9223372036854775807)
    (ab : Option Addr) (cb : Nat) (zs : List Int) (rz : RdI .u8 w ab zs) (bz : Byt zs) (hcb : zs.length ≤ cb) (hcm : cb ≤ 9223372036854775807) (nz : ab = none → cb = 0)
    (r : Rp) (ar : Option Addr) (cr : Nat) (hor : r.Ok) (rr : RdI .u8 w ar r.B) (nr : ar = none → cr = 0) (lr : r.B.length ≤ cr) (mr : cr ≤ 9223372036854775807) (cut : Int) :
    Calls Tryd.prog 6 #[x.val (.slice a qs.length c), .slice ab zs.length cb, r.val (.slice ar r.B.length cr), .int .i64 cut] w fun e w' => e = .returned (.bool true) ∧ Below w.heap.size w w' := by
  have HT := Lib.hid (fun X (hX : Frm [] w X) => hT.frm hX (by simp))
  have HAl := Lib.hid (fun X (hX : Frm [] w X) => ualive_c X (HT.out X hX))
  have HRx := Lib.hid (fun X (hX : Frm [] w X) => rx.frm hX)
  have HSx := Lib.hid (fun X (hX : Frm [] w X) => usmall_c x a c qs X (HRx.out X hX) lx)
  obtain ⟨Bx, hBx⟩ : ∃ B, B = usmall qs := ⟨_, rfl⟩
  rw [← hBx] at HSx
  have HbX := Lib.hid (fun (h : Bx = true) => usmall_of (hBx.symm.trans h))
  clear hBx
  have HWx := Lib.hid (fun X (hX : Frm [] w X) (hl : qs.length ≤ 1000000) => uWrite_c x a c qs X hqx hox (HRx.out X hX) (HT.out X hX) hl)
  have HPz := Lib.hid (fun X (hX : Frm [] w X) => uParse_c (c := cb) (rz.below hX.below) bz hcb hcm nz)
  have HRz := Lib.hid (fun X (hX : Frm [] w X) => rz.below (w' := X) hX.below)
  have HOr := Lib.hid (fun X (hX : Frm [] w X) (hl : r.B.length ≤ 1000000) => uof_c r cut ar cr X hor (rr.below hX.below) nr lr mr (HT.out X hX) hl)
  -- the first part's plain facts
  have HPx := Lib.hid (fun (h0 : uweX x = 0) X a' c' (hr : RdI .u8 X a' (uwoX x)) (hc : (uwoX x).length ≤ c') (hcm : c' ≤ 9223372036854775807) (hn : a' = none → c' = 0) => (by
    have h := uParse_c (c := c') hr (uwoX_byt hox) hc hcm hn
    rw [(uwr_back hox h0).1, (uwr_back hox h0).2] at h
    exact h : Calls Tryd.prog 10 #[.slice a' (uwoX x).length c'] X (UParseP X (ulow x) 0)))
  have HSm := Lib.hid (fun (h0 : uweX x = 0) X (hX : Frm [] w X) a' c' (ts : List LvV) (ht : ts.map LvV.lv = (ulow x).Ls) (hr : RdLs X a' ts) => (by
    have h1 := ulv_le h0 hqx
    have h2 := ulv_le h0 (ts := ts) ht
    have h := usame_c x (ulow x) a a' c c' qs ts X hqx ht hox (ulow_ok hox) (HRx.out X hX) hr (Nat.le_trans h1.1 (by decide)) (Nat.le_trans h2.1 (by decide)) (fun q hq => Nat.le_trans (h1.2 q hq) (by decide)) (fun q hq => Nat.le_trans (h2.2 q hq) (by decide))
    rw [usame_low] at h
    exact h : Calls Tryd.prog 21 #[x.val (.slice a qs.length c), (ulow x).val (.slice a' ts.length c')] X fun e w' => e = .returned (.bool true) ∧ Frm [] X w'))
  obtain ⟨E, hE⟩ : ∃ E, E = uweX x := ⟨_, rfl⟩
  obtain ⟨O, hO⟩ : ∃ O, O = uwoX x := ⟨_, rfl⟩
  rw [← hE] at HWx HPx HSm
  rw [← hO] at HWx HPx
  -- the second part's
  have HB2 := Lib.hid (fun h => urd_back (zs := zs) bz h)
  obtain ⟨y, hy⟩ : ∃ y, y = upaX zs := ⟨_, rfl⟩
  obtain ⟨G, hG⟩ : ∃ G, G = upaE zs := ⟨_, rfl⟩
  rw [← hy, ← hG] at HPz HB2
  have HWy := Lib.hid (fun (h0 : G = 0) X (hX : Frm [] w X) va vc (ts : List LvV) (ht : ts.map LvV.lv = y.Ls) (rd : RdLs X va ts) => (by
    obtain ⟨b1, b2, b3⟩ := HB2.out h0
    have h := uWrite_c y va vc ts X ht b1 rd (HT.out X hX) (Nat.le_trans (ulv_le b2 ht).1 (by decide))
    rw [b2, b3] at h
    exact h : Calls Tryd.prog 16 #[y.val (.slice va ts.length vc)] X (UWrP X zs 0)))
  have HBs := Lib.hid (fun X (hX : Frm [] w X) ga ca (rd : RdI .u8 X ga zs) (hl : zs.length ≤ 1000000) => (by
    have h := bsame_c ga ab ca cb zs zs X rd (HRz.out X hX) hl hl
    rw [decide_eq_true rfl] at h
    exact h.mono (fun e w' ⟨h1, m, h2⟩ => ⟨h1, h2 ▸ (Frm.refl _ _).drewN m⟩) : Calls Tryd.prog 14 #[.slice ga zs.length ca, .slice ab zs.length cb] X fun e w' => e = .returned (.bool true) ∧ Frm [] X w'))
  clear HB2
  -- the third part's
  have HOk := Lib.hid hor
  have HRr := Lib.hid (fun X (hX : Frm [] w X) => rr.below (w' := X) hX.below)
  obtain ⟨H, hH⟩ : ∃ H, H = uofE r cut := ⟨_, rfl⟩
  obtain ⟨u, hu⟩ : ∃ u, u = uofX r cut := ⟨_, rfl⟩
  have HU0 := Lib.hid (fun (h : H ≠ 0) => hu.trans (uof_none (hH ▸ h)))
  have HFl := Lib.hid (fun (h : H = 0) X (hX : Frm [] w X) va vc (ts : List LvV) (ht : ts.map LvV.lv = u.Ls) (rd : RdLs X va ts) => (by
    have h0 : uofE r cut = 0 := hH.symm.trans h
    obtain ⟨e1, e2, e3⟩ := uof_flat h0
    have hok : u.Ok := by rw [hu, e1]; exact upkOf_ok hor cut
    have hl : ts.length ≤ 2 := (ulv_le (x := u) (by rw [hu, e1]; exact h0) ht).1
    have hc := uflat_c u va vc ts X ht hok rd (HT.out X hX) (Nat.le_trans hl (by decide))
    rw [hu, e2, e3] at hc
    rw [hu]
    exact hc : Calls Tryd.prog 18 #[u.val (.slice va ts.length vc)] X (RprP X { r with h0 := r.h0 % 64 } 0)))
  rw [← hH, ← hu] at HOr
  clear hE hO hy hG hH hu rx rz hcb hcm nz rr nr hT HRx hqx
  have hr0 := hor.r0
  clear hox hor
  obtain ⟨xh0, xh1, xh2, xh3, xh4, xh5, xh6, xh7, xb, xlg, xLs⟩ := x
  obtain ⟨rh0, rh1, rh2, rh3, rh4, rh5, rh6, rh7, rb, rh, rl, rB⟩ := r
  simp only [Ul.val, Ul.cells, Rp.val, Rp.cells, ulow] at *
  obtain ⟨nX, hnX⟩ : ∃ n, n = qs.length := ⟨_, rfl⟩
  obtain ⟨nR, hnR⟩ : ∃ n, n = rB.length := ⟨_, rfl⟩
  obtain ⟨nZ, hnZ⟩ : ∃ n, n = zs.length := ⟨_, rfl⟩
  have HnR := Lib.hid hnR
  have HnZ := Lib.hid hnZ
  rw [← hnX] at HWx HSm HSx HbX lx ⊢
  rw [← hnR] at HOr lr ⊢
  rw [← hnZ] at HPz HBs ⊢
  clear hnX hnR hnZ lr mr lx
  obtain ⟨px, hpx⟩ : ∃ px, px = xh0 % 64 := ⟨_, rfl⟩
  rw [← hpx] at HPx HSm
  clear hpx
  have HS0 := Lib.hid ((((Sep.init w).alloc #[.int .u8 xh0, .int .u8 xh1, .int .u8 xh2, .int .u8 xh3, .int .u8 xh4, .int .u8 xh5, .int .u8 xh6, .int .u8 xh7, .int .u16 xb, .bool xlg, .slice a nX c] 29).alloc #[.int .u8 rh0, .int .u8 rh1, .int .u8 rh2, .int .u8 rh3, .int .u8 rh4, .int .u8 rh5, .int .u8 rh6, .int .u8 rh7, .int .u16 rb, .int .u64 (rh : Int), .int .u64 (rl : Int), .slice ar nR cr] 53))
  simp only [World.size_alloc] at HS0
  go_enter Tryd.func6, Tryd.ntmps6
  go_upto_region 1 with fail
  obtain ⟨w1, hw1⟩ : ∃ w1, w1 = (w.alloc (.cells #[.int .u8 xh0, .int .u8 xh1, .int .u8 xh2, .int .u8 xh3, .int .u8 xh4, .int .u8 xh5, .int .u8 xh6, .int .u8 xh7, .int .u16 xb, .bool xlg, .slice a nX c] 29)).alloc (.cells #[.int .u8 rh0, .int .u8 rh1, .int .u8 rh2, .int .u8 rh3, .int .u8 rh4, .int .u8 rh5, .int .u8 rh6, .int .u8 rh7, .int .u16 rb, .int .u64 (rh : Int), .int .u64 (rl : Int), .slice ar nR cr] 53) := ⟨_, rfl⟩
  obtain ⟨o, ho⟩ : ∃ o, o = w.heap.size := ⟨_, rfl⟩
  rw [← hw1, ← ho] at HS0
  rw [← hw1, ← ho]
  clear hw1 ho
  go_wp2_with fail
  refine (HAl.out w1 HS0.out.frm).mono ?_
  rintro e w2 ⟨rfl, hf⟩
  have HS1 := Lib.hid (HS0.out.keep hf)
  clear hf HS0 HAl
  go_upto_region 3 with fail
  have k0 := (HS1.out.blk 1 rfl).cell 0 rfl
  have k1 := (HS1.out.blk 1 rfl).cell 1 rfl
  have k2 := (HS1.out.blk 1 rfl).cell 2 rfl
  have k3 := (HS1.out.blk 1 rfl).cell 3 rfl
  have k4 := (HS1.out.blk 1 rfl).cell 4 rfl
  have k5 := (HS1.out.blk 1 rfl).cell 5 rfl
  have k6 := (HS1.out.blk 1 rfl).cell 6 rfl
  have k7 := (HS1.out.blk 1 rfl).cell 7 rfl
  have k8 := (HS1.out.blk 1 rfl).cell 8 rfl
  have k9 := (HS1.out.blk 1 rfl).cell 9 rfl
  have k10 := (HS1.out.blk 1 rfl).cell 10 rfl
  go_wp2_with fail
  clear k0 k1 k2 k3 k4 k5 k6 k7 k8 k9 k10
  refine (HSx.out w2 HS1.out.frm).mono ?_
  rintro e w3 ⟨rfl, hf⟩
  have HS2 := Lib.hid (HS1.out.keep hf)
  clear hf HS1 HSx
  have j11 := (HS2.out.blk 0 rfl).cell 11 rfl
  cases Bx with
  | false =>
    go_wp2_with fail
    go_ret
    exact ⟨rfl, HS2.out.frm.below⟩
  | true =>
    by_cases h2 : 2000 < nZ
    · have t2 : decide (2000 < (nZ : Int)) = true := decide_eq_true (by omega)
      clear h2
      go_wp2_with fail
      go_ret
      exact ⟨rfl, HS2.out.frm.below⟩
    have t2 : decide (2000 < (nZ : Int)) = false := decide_eq_false (by omega)
    by_cases h3 : 2000 < nR
    · have t3 : decide (2000 < (nR : Int)) = true := decide_eq_true (by omega)
      clear h3
      go_wp2_with fail
      go_ret
      exact ⟨rfl, HS2.out.frm.below⟩
    have t3 : decide (2000 < (nR : Int)) = false := decide_eq_false (by omega)
    go_upto_region 5 with fail
    clear t2 t3 j11
    have hL := Lib.hid (And.intro (show nX ≤ 1000000 from Nat.le_trans (HbX.out (by trivial)).1 (by decide)) (And.intro (show nZ ≤ 1000000 by omega) (show nR ≤ 1000000 by omega)))
    clear HbX h2 h3
    have k0 := (HS2.out.blk 1 rfl).cell 0 rfl
    have k1 := (HS2.out.blk 1 rfl).cell 1 rfl
    have k2 := (HS2.out.blk 1 rfl).cell 2 rfl
    have k3 := (HS2.out.blk 1 rfl).cell 3 rfl
    have k4 := (HS2.out.blk 1 rfl).cell 4 rfl
    have k5 := (HS2.out.blk 1 rfl).cell 5 rfl
    have k6 := (HS2.out.blk 1 rfl).cell 6 rfl
    have k7 := (HS2.out.blk 1 rfl).cell 7 rfl
    have k8 := (HS2.out.blk 1 rfl).cell 8 rfl
    have k9 := (HS2.out.blk 1 rfl).cell 9 rfl
    have k10 := (HS2.out.blk 1 rfl).cell 10 rfl
    go_wp2_with fail
    clear k0 k1 k2 k3 k4 k5 k6 k7 k8 k9 k10
    refine (HWx.out w3 HS2.out.frm hL.out.1).mono ?_
    rintro e w4 ⟨v3, rfl, hS⟩
    obtain ⟨a3, c3, rfl, rd3, n3, l3, m3⟩ := usl_of (k := .u8) (hS.own 0 rfl)
    have HS3 := Lib.hid (HS2.out.keep hS.frm)
    have HPx2 := Lib.hid (fun h0 => HPx.out h0 w4 a3 c3 rd3 l3 m3 n3)
    obtain ⟨nO, hnO⟩ : ∃ n, n = O.length := ⟨_, rfl⟩
    rw [← hnO] at HPx2 ⊢
    clear hS rd3 l3 m3 n3 HS2 HPx HWx hnO
    obtain ⟨T, hT⟩ : ∃ T : Bool, T = (E == 0) := ⟨_, rfl⟩
    have ht : (E == 0) = T := hT.symm
    have HTt := Lib.hid hT
    clear hT
    go_upto_if 43 with fail
    go_cut [10] (fun u wx => Sep [] w wx [blkR (o + 1) 53 #[.int .u8 rh0, .int .u8 rh1, .int .u8 rh2, .int .u8 rh3, .int .u8 rh4, .int .u8 rh5, .int .u8 rh6, .int .u8 rh7, .int .u16 rb, .int .u64 (rh : Int), .int .u64 (rl : Int), .slice ar nR cr], blkR o 29 #[.int .u8 xh0, .int .u8 xh1, .int .u8 xh2, .int .u8 xh3, .int .u8 xh4, .int .u8 xh5, .int .u8 xh6, .int .u8 xh7, .int .u16 xb, .bool xlg, .slice a nX c]])
    case first => as_aux_lemma =>
      by_cases hE0 : E = 0
      · obtain rfl : T = true := by rw [HTt.out]; simp [hE0]
        have HPx3 := Lib.hid (HPx2.out hE0)
        have HSm3 := Lib.hid (HSm.out hE0)
        clear HPx2 ht HTt HSm
        subst hE0
        go_wp2_with fail
        refine HPx3.out.mono ?_
        rintro e w5 ⟨va, nT, vc, ts, hts, rfl, hS⟩
        have HQ := Lib.hid hts
        obtain ⟨a1, c1, hv, -, -, -, r1⟩ := lb_rd (hS.get 0 rfl)
        obtain ⟨rfl, hnT, rfl⟩ := sl3 hv
        clear hv
        have HnT := Lib.hid hnT
        have HR5 := Lib.hid r1
        have HS4 := Lib.hid (HS3.out.keep hS.frm)
        clear hS r1 HPx3 hts hnT
        simp only [Ul.val, Ul.cells]
        go_upto_region 8 with fail
        have HS5 := Lib.hid (HS4.out.alloc #[.int .u8 px, .int .u8 xh1, .int .u8 xh2, .int .u8 xh3, .int .u8 xh4, .int .u8 xh5, .int .u8 xh6, .int .u8 xh7, .int .u16 xb, .bool xlg, .slice va nT vc] 29)
        obtain ⟨w6, hw6⟩ : ∃ x, x = w5.alloc (.cells #[.int .u8 px, .int .u8 xh1, .int .u8 xh2, .int .u8 xh3, .int .u8 xh4, .int .u8 xh5, .int .u8 xh6, .int .u8 xh7, .int .u16 xb, .bool xlg, .slice va nT vc] 29) := ⟨_, rfl⟩
        obtain ⟨q, hq⟩ : ∃ x, x = w5.heap.size := ⟨_, rfl⟩
        have HR6 : Hid (RdLs w6 va ts) := Lib.hid (by rw [hw6]; exact HR5.out.frm ((Frm.refl _ _).alloc _))
        rw [← hw6, ← hq] at HS5
        rw [← hw6, ← hq]
        clear hw6 hq
        have j0 := (HS5.out.blk 0 rfl).cell 0 rfl
        have j1 := (HS5.out.blk 0 rfl).cell 1 rfl
        have j2 := (HS5.out.blk 0 rfl).cell 2 rfl
        have j3 := (HS5.out.blk 0 rfl).cell 3 rfl
        have j4 := (HS5.out.blk 0 rfl).cell 4 rfl
        have j5 := (HS5.out.blk 0 rfl).cell 5 rfl
        have j6 := (HS5.out.blk 0 rfl).cell 6 rfl
        have j7 := (HS5.out.blk 0 rfl).cell 7 rfl
        have j8 := (HS5.out.blk 0 rfl).cell 8 rfl
        have j9 := (HS5.out.blk 0 rfl).cell 9 rfl
        have j10 := (HS5.out.blk 0 rfl).cell 10 rfl
        have k0 := (HS5.out.blk 2 rfl).cell 0 rfl
        have k1 := (HS5.out.blk 2 rfl).cell 1 rfl
        have k2 := (HS5.out.blk 2 rfl).cell 2 rfl
        have k3 := (HS5.out.blk 2 rfl).cell 3 rfl
        have k4 := (HS5.out.blk 2 rfl).cell 4 rfl
        have k5 := (HS5.out.blk 2 rfl).cell 5 rfl
        have k6 := (HS5.out.blk 2 rfl).cell 6 rfl
        have k7 := (HS5.out.blk 2 rfl).cell 7 rfl
        have k8 := (HS5.out.blk 2 rfl).cell 8 rfl
        have k9 := (HS5.out.blk 2 rfl).cell 9 rfl
        have k10 := (HS5.out.blk 2 rfl).cell 10 rfl
        have HSm4 := Lib.hid (HnT.out ▸ HSm3.out w6 HS5.out.frm va vc ts HQ.out HR6.out)
        go_wp2_with fail
        clear j0 j1 j2 j3 j4 j5 j6 j7 j8 j9 j10 k0 k1 k2 k3 k4 k5 k6 k7 k8 k9 k10
        refine HSm4.out.mono ?_
        rintro e w7 ⟨rfl, hf⟩
        have HS6 := Lib.hid ((HS5.out.keep hf).at_ [1, 2] (by decide) rfl)
        clear hf HSm4 HS5
        go_wp2_with fail
        go_meet
        exact HS6.out
      · obtain rfl : T = false := by rw [HTt.out]; simp [hE0]
        clear HPx2 ht HTt
        go_wp2_with fail
        go_meet
        exact HS3.out
    obtain ⟨w5, hw5⟩ : ∃ x, x = wc := ⟨_, rfl⟩
    rw [← hw5] at hcut ⊢
    have HS4 := Lib.hid hcut
    clear hcut hw5 HS3 HPx2 ht HTt HSm
    -- the second part
    have HPz2 := Lib.hid (HPz.out w5 HS4.out.frm)
    clear HPz
    go_wp2_with fail
    refine HPz2.out.mono ?_
    rintro e w6 ⟨va, nT, vc, ts, hts, rfl, hS⟩
    have HQ := Lib.hid hts
    obtain ⟨a1, c1, hv, -, -, -, r1⟩ := lb_rd (hS.get 0 rfl)
    obtain ⟨rfl, hnT, rfl⟩ := sl3 hv
    clear hv
    have HnT := Lib.hid hnT
    have HR6 := Lib.hid r1
    have HS5 := Lib.hid (HS4.out.keep hS.frm)
    clear hS r1 hts hnT HPz2 HS4
    obtain ⟨yh0, yh1, yh2, yh3, yh4, yh5, yh6, yh7, yb, ylg, yLs⟩ := y
    simp only [Ul.val, Ul.cells] at HWy ⊢
    go_upto_region 11 with fail
    have HS6 := Lib.hid (HS5.out.alloc #[.int .u8 yh0, .int .u8 yh1, .int .u8 yh2, .int .u8 yh3, .int .u8 yh4, .int .u8 yh5, .int .u8 yh6, .int .u8 yh7, .int .u16 yb, .bool ylg, .slice va nT vc] 29)
    obtain ⟨w7, hw7⟩ : ∃ x, x = w6.alloc (.cells #[.int .u8 yh0, .int .u8 yh1, .int .u8 yh2, .int .u8 yh3, .int .u8 yh4, .int .u8 yh5, .int .u8 yh6, .int .u8 yh7, .int .u16 yb, .bool ylg, .slice va nT vc] 29) := ⟨_, rfl⟩
    obtain ⟨q, hq⟩ : ∃ x, x = w6.heap.size := ⟨_, rfl⟩
    have HR7 : Hid (RdLs w7 va ts) := Lib.hid (by rw [hw7]; exact HR6.out.frm ((Frm.refl _ _).alloc _))
    rw [← hw7, ← hq] at HS6
    rw [← hw7, ← hq]
    clear hw7 hq HS5 HR6
    obtain ⟨T, hT⟩ : ∃ T : Bool, T = (G == 0) := ⟨_, rfl⟩
    have ht : (G == 0) = T := hT.symm
    have HTt := Lib.hid hT
    clear hT
    go_upto_if 63 with fail
    go_cut [16] (fun u wx => Sep [] w wx [blkR (o + 1) 53 #[.int .u8 rh0, .int .u8 rh1, .int .u8 rh2, .int .u8 rh3, .int .u8 rh4, .int .u8 rh5, .int .u8 rh6, .int .u8 rh7, .int .u16 rb, .int .u64 (rh : Int), .int .u64 (rl : Int), .slice ar nR cr], blkR o 29 #[.int .u8 xh0, .int .u8 xh1, .int .u8 xh2, .int .u8 xh3, .int .u8 xh4, .int .u8 xh5, .int .u8 xh6, .int .u8 xh7, .int .u16 xb, .bool xlg, .slice a nX c]])
    case first => as_aux_lemma =>
      by_cases hG0 : G = 0
      · obtain rfl : T = true := by rw [HTt.out]; simp [hG0]
        have HW7 := Lib.hid (HnT.out ▸ HWy.out hG0 w7 HS6.out.frm va vc ts HQ.out HR7.out)
        clear HWy ht HTt
        subst hG0
        have k0 := (HS6.out.blk 0 rfl).cell 0 rfl
        have k1 := (HS6.out.blk 0 rfl).cell 1 rfl
        have k2 := (HS6.out.blk 0 rfl).cell 2 rfl
        have k3 := (HS6.out.blk 0 rfl).cell 3 rfl
        have k4 := (HS6.out.blk 0 rfl).cell 4 rfl
        have k5 := (HS6.out.blk 0 rfl).cell 5 rfl
        have k6 := (HS6.out.blk 0 rfl).cell 6 rfl
        have k7 := (HS6.out.blk 0 rfl).cell 7 rfl
        have k8 := (HS6.out.blk 0 rfl).cell 8 rfl
        have k9 := (HS6.out.blk 0 rfl).cell 9 rfl
        have k10 := (HS6.out.blk 0 rfl).cell 10 rfl
        go_wp2_with fail
        clear k0 k1 k2 k3 k4 k5 k6 k7 k8 k9 k10
        refine HW7.out.mono ?_
        rintro e w8 ⟨v8, rfl, hS⟩
        obtain ⟨a8, c8, rfl, rd8, -, -, -⟩ := usl_of (k := .u8) (hS.own 0 rfl)
        have HS7 := Lib.hid (HS6.out.keep hS.frm)
        have HB8 := Lib.hid (HBs.out w8 HS7.out.frm a8 c8 rd8 (HnZ.out ▸ hL.out.2.1))
        rw [← HnZ.out]
        clear hS rd8 HW7 HBs HS6
        go_wp2_with fail
        refine HB8.out.mono ?_
        rintro e w9 ⟨rfl, hf⟩
        have HS8 := Lib.hid ((HS7.out.keep hf).at_ [1, 2] (by decide) rfl)
        clear hf HB8 HS7
        go_wp2_with fail
        go_meet
        exact HS8.out
      · obtain rfl : T = false := by rw [HTt.out]; simp [hG0]
        clear HWy ht HTt
        have HS8 := Lib.hid (HS6.out.at_ [1, 2] (by decide) rfl)
        go_wp2_with fail
        go_meet
        exact HS8.out
    obtain ⟨w8, hw8⟩ : ∃ x, x = wc := ⟨_, rfl⟩
    rw [← hw8] at hcut ⊢
    have HS7 := Lib.hid hcut
    clear hcut hw8 HS6 ht HTt HWy HBs HR7 HQ HnT
    -- the third part
    have HO8 := Lib.hid (HOr.out w8 HS7.out.frm hL.out.2.2)
    clear HOr
    have k0 := (HS7.out.blk 0 rfl).cell 0 rfl
    have k1 := (HS7.out.blk 0 rfl).cell 1 rfl
    have k2 := (HS7.out.blk 0 rfl).cell 2 rfl
    have k3 := (HS7.out.blk 0 rfl).cell 3 rfl
    have k4 := (HS7.out.blk 0 rfl).cell 4 rfl
    have k5 := (HS7.out.blk 0 rfl).cell 5 rfl
    have k6 := (HS7.out.blk 0 rfl).cell 6 rfl
    have k7 := (HS7.out.blk 0 rfl).cell 7 rfl
    have k8 := (HS7.out.blk 0 rfl).cell 8 rfl
    have k9 := (HS7.out.blk 0 rfl).cell 9 rfl
    have k10 := (HS7.out.blk 0 rfl).cell 10 rfl
    have k11 := (HS7.out.blk 0 rfl).cell 11 rfl
    go_wp2_with fail
    clear k0 k1 k2 k3 k4 k5 k6 k7 k8 k9 k10 k11
    refine HO8.out.mono ?_
    rintro e w9 ⟨vb, nU, vd, us, hus, rfl, hS⟩
    have HQ := Lib.hid hus
    obtain ⟨a1, c1, hv, -, -, -, r1⟩ := lb_rd (hS.get 0 rfl)
    obtain ⟨rfl, hnU, rfl⟩ := sl3 hv
    clear hv
    have HnU := Lib.hid hnU
    have HR9 := Lib.hid r1
    have HS8 := Lib.hid (HS7.out.keep hS.frm)
    clear hS r1 hus hnU HO8 HS7
    obtain ⟨uh0, uh1, uh2, uh3, uh4, uh5, uh6, uh7, ub, ulg, uLs⟩ := u
    simp only [Ul.val, Ul.cells] at HFl ⊢
    go_upto_region 16 with fail
    have HS9 := Lib.hid (HS8.out.alloc #[.int .u8 uh0, .int .u8 uh1, .int .u8 uh2, .int .u8 uh3, .int .u8 uh4, .int .u8 uh5, .int .u8 uh6, .int .u8 uh7, .int .u16 ub, .bool ulg, .slice vb nU vd] 29)
    obtain ⟨w10, hw10⟩ : ∃ x, x = w9.alloc (.cells #[.int .u8 uh0, .int .u8 uh1, .int .u8 uh2, .int .u8 uh3, .int .u8 uh4, .int .u8 uh5, .int .u8 uh6, .int .u8 uh7, .int .u16 ub, .bool ulg, .slice vb nU vd] 29) := ⟨_, rfl⟩
    obtain ⟨g, hg⟩ : ∃ x, x = w9.heap.size := ⟨_, rfl⟩
    have HR10 : Hid (RdLs w10 vb us) := Lib.hid (by rw [hw10]; exact HR9.out.frm ((Frm.refl _ _).alloc _))
    rw [← hw10, ← hg] at HS9
    rw [← hw10, ← hg]
    clear hw10 hg HS8 HR9
    by_cases hH0 : H = 0
    · have HF10 := Lib.hid (HnU.out ▸ HFl.out hH0 w10 HS9.out.frm vb vd us HQ.out HR10.out)
      clear HFl HU0
      have e1 := uand63_u hr0.1 hr0.2
      obtain ⟨p, hp⟩ : ∃ p, p = rh0 % 64 := ⟨_, rfl⟩
      rw [← hp] at e1 HF10
      have HE1 := Lib.hid e1
      clear hp e1 hr0
      subst hH0
      go_upto_region 18 with fail
      have k0 := (HS9.out.blk 0 rfl).cell 0 rfl
      have k1 := (HS9.out.blk 0 rfl).cell 1 rfl
      have k2 := (HS9.out.blk 0 rfl).cell 2 rfl
      have k3 := (HS9.out.blk 0 rfl).cell 3 rfl
      have k4 := (HS9.out.blk 0 rfl).cell 4 rfl
      have k5 := (HS9.out.blk 0 rfl).cell 5 rfl
      have k6 := (HS9.out.blk 0 rfl).cell 6 rfl
      have k7 := (HS9.out.blk 0 rfl).cell 7 rfl
      have k8 := (HS9.out.blk 0 rfl).cell 8 rfl
      have k9 := (HS9.out.blk 0 rfl).cell 9 rfl
      have k10 := (HS9.out.blk 0 rfl).cell 10 rfl
      go_wp2_with fail
      clear k0 k1 k2 k3 k4 k5 k6 k7 k8 k9 k10
      refine HF10.out.mono ?_
      rintro e w11 ⟨fa, fn, fc, rfl, hS⟩
      obtain rfl : nR = fn := by
        obtain ⟨_, _, hv, _⟩ := own_shape (hS.own 0 rfl)
        injection hv with _ h2 _
        exact HnR.out.trans h2.symm
      have HS10 := Lib.hid (HS9.out.more hS)
      clear hS HF10 HS9
      simp only [Rp.val, Rp.cells]
      go_upto_region 19 with fail
      have HS11 := Lib.hid (HS10.out.alloc #[.int .u8 p, .int .u8 rh1, .int .u8 rh2, .int .u8 rh3, .int .u8 rh4, .int .u8 rh5, .int .u8 rh6, .int .u8 rh7, .int .u16 rb, .int .u64 (rh : Int), .int .u64 (rl : Int), .slice fa nR fc] 53)
      obtain ⟨w12, hw12⟩ : ∃ x, x = w11.alloc (.cells #[.int .u8 p, .int .u8 rh1, .int .u8 rh2, .int .u8 rh3, .int .u8 rh4, .int .u8 rh5, .int .u8 rh6, .int .u8 rh7, .int .u16 rb, .int .u64 (rh : Int), .int .u64 (rl : Int), .slice fa nR fc] 53) := ⟨_, rfl⟩
      obtain ⟨s, hs⟩ : ∃ x, x = w11.heap.size := ⟨_, rfl⟩
      rw [← hw12, ← hs] at HS11
      rw [← hw12, ← hs]
      clear hw12 hs HS10
      have k0 := (HS11.out.blk 3 rfl).cell 0 rfl
      have f0 := (HS11.out.blk 3 rfl).free 0
      have e1 := HE1.out
      go_upto_region 20 with fail
      have HS12 := Lib.hid (show Sep [] w _ [blkR s 53 #[.int .u8 p, .int .u8 rh1, .int .u8 rh2, .int .u8 rh3, .int .u8 rh4, .int .u8 rh5, .int .u8 rh6, .int .u8 rh7, .int .u16 rb, .int .u64 (rh : Int), .int .u64 (rl : Int), .slice fa nR fc], sumR (.slice fa nR fc) rB, blkR g 29 #[.int .u8 uh0, .int .u8 uh1, .int .u8 uh2, .int .u8 uh3, .int .u8 uh4, .int .u8 uh5, .int .u8 uh6, .int .u8 uh7, .int .u16 ub, .bool ulg, .slice vb nU vd], blkR (o + 1) 53 #[.int .u8 p, .int .u8 rh1, .int .u8 rh2, .int .u8 rh3, .int .u8 rh4, .int .u8 rh5, .int .u8 rh6, .int .u8 rh7, .int .u16 rb, .int .u64 (rh : Int), .int .u64 (rl : Int), .slice ar nR cr], blkR o 29 #[.int .u8 xh0, .int .u8 xh1, .int .u8 xh2, .int .u8 xh3, .int .u8 xh4, .int .u8 xh5, .int .u8 xh6, .int .u8 xh7, .int .u16 xb, .bool xlg, .slice a nX c]] from HS11.out.put 3 rfl 0 (.int .u8 p))
      obtain ⟨w13, hw13⟩ : ∃ x, x = w12.setCell ⟨o + 1, 0, none⟩ (.int .u8 p) := ⟨_, rfl⟩
      rw [← hw13] at HS12
      rw [← hw13]
      clear hw13 k0 f0 e1 HS11
      have HRf : Hid (RdI .u8 w13 fa rB) := Lib.hid (by
        obtain ⟨_, _, hv, rd, _⟩ := usl_of (k := .u8) (HS12.out.own 1 (by rw [HnR.out]; rfl))
        injection hv with h1 _ _
        subst h1
        exact rd)
      have HSr := Lib.hid ((by
        have h := sameRp_c ⟨p, rh1, rh2, rh3, rh4, rh5, rh6, rh7, rb, rh, rl, rB⟩ ⟨p, rh1, rh2, rh3, rh4, rh5, rh6, rh7, rb, rh, rl, rB⟩ ar fa cr fc w13 (HRr.out _ HS12.out.frm) HRf.out (by have := hL.out.2.2; have := HnR.out; simp only; omega) (by have := hL.out.2.2; have := HnR.out; simp only; omega)
        simp only [Rp.val, Rp.cells] at h
        rw [← HnR.out, show sameRp ⟨p, rh1, rh2, rh3, rh4, rh5, rh6, rh7, rb, rh, rl, rB⟩ ⟨p, rh1, rh2, rh3, rh4, rh5, rh6, rh7, rb, rh, rl, rB⟩ = true by simp [sameRp]] at h
        exact h : Calls Tryd.prog 20 #[.agg #[.int .u8 p, .int .u8 rh1, .int .u8 rh2, .int .u8 rh3, .int .u8 rh4, .int .u8 rh5, .int .u8 rh6, .int .u8 rh7, .int .u16 rb, .int .u64 (rh : Int), .int .u64 (rl : Int), .slice ar nR cr], .agg #[.int .u8 p, .int .u8 rh1, .int .u8 rh2, .int .u8 rh3, .int .u8 rh4, .int .u8 rh5, .int .u8 rh6, .int .u8 rh7, .int .u16 rb, .int .u64 (rh : Int), .int .u64 (rl : Int), .slice fa nR fc]] w13 fun e w' => e = .returned (.bool true) ∧ Frm [] w13 w'))
      have j0 := (HS12.out.blk 0 rfl).cell 0 rfl
      have j1 := (HS12.out.blk 0 rfl).cell 1 rfl
      have j2 := (HS12.out.blk 0 rfl).cell 2 rfl
      have j3 := (HS12.out.blk 0 rfl).cell 3 rfl
      have j4 := (HS12.out.blk 0 rfl).cell 4 rfl
      have j5 := (HS12.out.blk 0 rfl).cell 5 rfl
      have j6 := (HS12.out.blk 0 rfl).cell 6 rfl
      have j7 := (HS12.out.blk 0 rfl).cell 7 rfl
      have j8 := (HS12.out.blk 0 rfl).cell 8 rfl
      have j9 := (HS12.out.blk 0 rfl).cell 9 rfl
      have j10 := (HS12.out.blk 0 rfl).cell 10 rfl
      have j11 := (HS12.out.blk 0 rfl).cell 11 rfl
      have k0 := (HS12.out.blk 3 rfl).cell 0 rfl
      have k1 := (HS12.out.blk 3 rfl).cell 1 rfl
      have k2 := (HS12.out.blk 3 rfl).cell 2 rfl
      have k3 := (HS12.out.blk 3 rfl).cell 3 rfl
      have k4 := (HS12.out.blk 3 rfl).cell 4 rfl
      have k5 := (HS12.out.blk 3 rfl).cell 5 rfl
      have k6 := (HS12.out.blk 3 rfl).cell 6 rfl
      have k7 := (HS12.out.blk 3 rfl).cell 7 rfl
      have k8 := (HS12.out.blk 3 rfl).cell 8 rfl
      have k9 := (HS12.out.blk 3 rfl).cell 9 rfl
      have k10 := (HS12.out.blk 3 rfl).cell 10 rfl
      have k11 := (HS12.out.blk 3 rfl).cell 11 rfl
      go_wp2_with fail
      clear j0 j1 j2 j3 j4 j5 j6 j7 j8 j9 j10 j11 k0 k1 k2 k3 k4 k5 k6 k7 k8 k9 k10 k11
      refine HSr.out.mono ?_
      rintro e w14 ⟨rfl, hf⟩
      have HF14 := Lib.hid (HS12.out.frm.trans hf)
      clear hf HSr HS12
      go_wp2_with fail
      go_ret
      exact ⟨rfl, HF14.out.below⟩
    · have hun := HU0.out hH0
      have hn0 : nU = 0 := by
        have h1 := congrArg List.length HQ.out
        have h2 := congrArg Ul.Ls hun
        simp only at h1 h2
        rw [h2, List.length_map, ← HnU.out] at h1
        exact h1
      subst hn0
      have t0 : (H != 0) = true := by simp [hH0]
      clear hH0 HU0 HFl hun
      have k10 := (HS9.out.blk 0 rfl).cell 10 rfl
      go_wp2_with fail
      go_ret
      exact ⟨rfl, HS9.out.frm.below⟩
theorem ulpBack_f {w : World} (hT : Tabs w) (x : Ul) (a : Option Addr) (c : Nat) (qs : List LvV) (hqx : qs.map LvV.lv = x.Ls) (hox : x.Ok) (rx : RdLs w a qs) (nx : a = none → c = 0) (lx : qs.length ≤ c) (mx : c ≤ maxLen)
    (ab : Option Addr) (cb : Nat) (zs : List Int) (lb : zs.length ≤ cb) (mb : cb ≤ maxLen) (nb : ab = none → cb = 0) (rb : RdI .u8 w ab zs) (wb : ∀ x ∈ zs, (Lit.int .u8 x).wf = true)
    (r : Rp) (ar : Option Addr) (cr : Nat) (hor : r.Ok) (rr : RdI .u8 w ar r.B) (nr : ar = none → cr = 0) (lr : r.B.length ≤ cr) (mr : cr ≤ maxLen) (cut : Int) (wc : (Lit.int .i64 cut).wf = true) :
    Calls Tryd.prog 6 #[x.val (.slice a qs.length c), .slice ab zs.length cb, r.val (.slice ar r.B.length cr), .int .i64 cut] w fun e w' => e = .returned (.bool true) ∧ Below w.heap.size w w' :=
  ulpBack_w w hT x a c qs hqx hox rx (by unfold maxLen at *; omega) ab cb zs rb (u8s_wf wb) lb (by unfold maxLen at *; omega) nb r ar cr hor rr nr lr (by unfold maxLen at *; omega) cut

end Go.Proofs.YtjflcijiaennkaaDoor
