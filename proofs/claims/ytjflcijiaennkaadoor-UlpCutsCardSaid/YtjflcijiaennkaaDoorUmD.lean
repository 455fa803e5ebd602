/-
  THE WALK of the law UlpCuts. Printed by gen_umd.py.
-/
import Derived.Test.YtjflcijiaennkaaDoorUmC
import Derived.Test.YtjflcijiaennkaaDoorBits
set_option linter.unusedVariables false
set_option linter.unusedSimpArgs false
namespace Go.Proofs.YtjflcijiaennkaaDoor
open Go.RowKit

theorem RdLs.firsts {w : World} {a : Option Addr} {qs : List LvV} (h : RdLs w a qs) (m : Nat) : RdLs w a (qs.take m) :=
  ⟨fun i row hi => by
    rw [List.map_take, List.getElem?_take] at hi
    split at hi
    · exact h.rows i row hi
    · exact absurd hi (by simp), fun q hq => h.bod q (List.mem_of_mem_take hq)⟩
theorem usame_low2 (x : Ul) : usame (ulow x) x = true := by
  unfold usame ulow
  simp [(sameLs_iff x.Ls x.Ls).2 rfl]
/-- The first byte turned. -/
def uturn (O : List Int) : List Int := O.set 0 ((uat O 0 + 128) % 256)
theorem uturn_back {x : Ul} (hok : x.Ok) (hw : uweX x = 0) : upaE (uturn (uwoX x)) = 21 ∧ Byt (uturn (uwoX x)) ∧ (uturn (uwoX x)).length = (uwoX x).length := by
  obtain ⟨h1, h2, h3⟩ := ufirst_low hok hw
  have hl := uwoX_le x
  have hb := uwoX_byt hok
  obtain ⟨O, hO⟩ : ∃ O, O = uwoX x := ⟨_, rfl⟩
  rw [← hO] at h1 h2 h3 hl hb ⊢
  have hlen : (uturn O).length = O.length := by unfold uturn; rw [List.length_set]
  have h0 : uat (uturn O) 0 = (uat O 0 + 128) % 256 := by
    unfold uturn
    conv => lhs; unfold uat
    rw [List.getD_eq_getElem?_getD, List.getElem?_set_self (by omega)]
    rfl
  refine ⟨uodd_back (by omega) (by omega) (by rw [h0]; omega), fun z hz => ?_, hlen⟩
  rcases List.mem_or_eq_of_mem_set hz with hz | hz
  · exact hb z hz
  · subst hz; omega

set_option maxRecDepth 100000 in
set_option maxHeartbeats 16000000 in
theorem ulpCuts_w (w : World) (hT : Tabs w) (x : Ul) (a : Option Addr) (c : Nat) (qs : List LvV) (hqx : qs.map LvV.lv = x.Ls) (hox : x.Ok) (rx : RdLs w a qs) (lx : qs.length ≤ c) (mx : c ≤ 9223372036854775807) (cut : Int) :
    Calls Tryd.prog 7 #[x.val (.slice a qs.length c), .int .i64 cut] w fun e w' => e = .returned (.bool true) ∧ Below w.heap.size w w' := by
  have HT := Lib.hid (fun X (hX : Frm [] w X) => hT.frm hX (by simp))
  have HAl := Lib.hid (fun X (hX : Frm [] w X) => ualive_c X (HT.out X hX))
  have HRx := Lib.hid (fun X (hX : Frm [] w X) => rx.frm hX)
  have HSx := Lib.hid (fun X (hX : Frm [] w X) => usmall_c x a c qs X (HRx.out X hX) (by omega))
  obtain ⟨Bx, hBx⟩ : ∃ B, B = usmall qs := ⟨_, rfl⟩
  rw [← hBx] at HSx
  have HbX := Lib.hid (fun (h : Bx = true) => usmall_of (hBx.symm.trans h))
  clear hBx
  have HWx := Lib.hid (fun X (hX : Frm [] w X) (hl : qs.length ≤ 1000000) => uWrite_c x a c qs X hqx hox (HRx.out X hX) (HT.out X hX) hl)
  -- where it is written
  have HGo := Lib.hid (fun (h0 : uweX x = 0) => ufirst_low hox h0)
  have HBad := Lib.hid (fun (h0 : uweX x ≠ 0) => (show uwoX x = [] from if_pos h0))
  have hqf : (qs.take 1).map LvV.lv = (ufst x).Ls := by rw [List.map_take, hqx]; rfl
  have HLn := Lib.hid (fun (h0 : uweX x = 0) => (show 1 ≤ qs.length ∧ x.Ls.length = qs.length from by
    have h1 := (ugood_of (uwe_zero h0).1).n0
    have h2 := congrArg List.length hqx
    rw [List.length_map] at h2
    omega))
  have HWf := Lib.hid (fun (h0 : uweX x = 0) X (hX : Frm [] w X) => (by
    have h := uWrite_c (ufst x) a c (qs.take 1) X hqf (ufst_ok hox) ((HRx.out X hX).firsts 1) (HT.out X hX) (by rw [List.length_take]; omega)
    have hl : (qs.take 1).length = 1 := by have := (HLn.out h0).1; rw [List.length_take]; omega
    rw [hl, ufst_we hox h0] at h
    exact h : Calls Tryd.prog 16 #[(ufst x).val (.slice a 1 c)] X (UWrP X (uwoX (ufst x)) 0)))
  have HPn := Lib.hid (fun (h0 : uweX x = 0) X a' n c' (hr : RdI .u8 X a' (uwoX x)) (hn : n < (uwoX x).length) (hc : n ≤ c') (hcm : c' ≤ 9223372036854775807) (hz : a' = none → c' = 0) => (by
    have e : ((uwoX x).take n).length = n := by rw [List.length_take]; omega
    have h := uParse_c (c := c') (hr.firsts n) ((uwoX_byt hox).take n) (by rw [e]; exact hc) hcm hz
    rw [e] at h
    exact h : Calls Tryd.prog 10 #[.slice a' n c'] X (UParseP X (upaX ((uwoX x).take n)) (upaE ((uwoX x).take n)))))
  have HCt := Lib.hid (fun (h0 : uweX x = 0) n (hn : n < (uwoX x).length) => ucut_back hox h0 n hn)
  have HPo := Lib.hid (fun (h0 : uweX x = 0) X a' c' (hr : RdI .u8 X a' (uturn (uwoX x))) (hc : (uwoX x).length ≤ c') (hcm : c' ≤ 9223372036854775807) (hz : a' = none → c' = 0) => (by
    obtain ⟨t1, t2, t3⟩ := uturn_back hox h0
    have h := uParse_c (c := c') hr t2 (by rw [t3]; exact hc) hcm hz
    rw [t1, t3] at h
    exact h : Calls Tryd.prog 10 #[.slice a' (uwoX x).length c'] X (UParseP X (upaX (uturn (uwoX x))) 21)))
  have HSm := Lib.hid (fun (h0 : uweX x = 0) X (hX : Frm [] w X) a' c' (ts : List LvV) (ht : ts.map LvV.lv = (ulow (ufst x)).Ls) (hr : RdLs X a' ts) => (by
    have h1 := ulv_le (ufst_we hox h0) hqf
    have h2 := ulv_le (ufst_we hox h0) (ts := ts) ht
    have h := usame_c (ulow (ufst x)) (ufst x) a' a c' c ts (qs.take 1) X ht hqf (ulow_ok (ufst_ok hox)) (ufst_ok hox) hr ((HRx.out X hX).firsts 1) (Nat.le_trans h2.1 (by decide)) (Nat.le_trans h1.1 (by decide)) (fun q hq => Nat.le_trans (h2.2 q hq) (by decide)) (fun q hq => Nat.le_trans (h1.2 q hq) (by decide))
    have hl : (qs.take 1).length = 1 := by have := (HLn.out h0).1; rw [List.length_take]; omega
    rw [usame_low2, hl] at h
    exact h : Calls Tryd.prog 21 #[(ulow (ufst x)).val (.slice a' ts.length c'), (ufst x).val (.slice a 1 c)] X fun e w' => e = .returned (.bool true) ∧ Frm [] X w'))
  have hO5 := uwoX_le x
  have hF5 := uwoX_le (ufst x)
  obtain ⟨E, hE⟩ : ∃ E, E = uweX x := ⟨_, rfl⟩
  obtain ⟨O, hO⟩ : ∃ O, O = uwoX x := ⟨_, rfl⟩
  obtain ⟨OF, hOF⟩ : ∃ OF, OF = uwoX (ufst x) := ⟨_, rfl⟩
  rw [← hE] at HWx HGo HBad HLn HWf HPn HCt HPo HSm
  rw [← hO] at HWx HGo HBad HPn HCt HPo hO5
  rw [← hOF] at HWf HCt hF5
  clear hE hO hOF hqx hqf rx hT HRx hox
  obtain ⟨xh0, xh1, xh2, xh3, xh4, xh5, xh6, xh7, xb, xlg, xLs⟩ := x
  simp only [Ul.val, Ul.cells, ulow, ufst] at *
  obtain ⟨nX, hnX⟩ : ∃ n, n = qs.length := ⟨_, rfl⟩
  rw [← hnX] at HWx HSx HbX HLn lx ⊢
  have HnX := Lib.hid hnX
  clear hnX
  obtain ⟨px, hpx⟩ : ∃ px, px = xh0 % 64 := ⟨_, rfl⟩
  rw [← hpx] at HSm HCt
  clear hpx
  have HS0 := Lib.hid ((Sep.init w).alloc #[.int .u8 xh0, .int .u8 xh1, .int .u8 xh2, .int .u8 xh3, .int .u8 xh4, .int .u8 xh5, .int .u8 xh6, .int .u8 xh7, .int .u16 xb, .bool xlg, .slice a nX c] 29)
  go_enter Tryd.func7, Tryd.ntmps7
  go_upto_region 1 with fail
  obtain ⟨w1, hw1⟩ : ∃ w1, w1 = w.alloc (.cells #[.int .u8 xh0, .int .u8 xh1, .int .u8 xh2, .int .u8 xh3, .int .u8 xh4, .int .u8 xh5, .int .u8 xh6, .int .u8 xh7, .int .u16 xb, .bool xlg, .slice a nX c] 29) := ⟨_, rfl⟩
  obtain ⟨o, ho⟩ : ∃ o, o = w.heap.size := ⟨_, rfl⟩
  rw [← hw1, ← ho] at HS0
  rw [← hw1, ← ho]
  clear hw1 ho
  go_wp2_with fail
  refine (HAl.out w1 HS0.out.frm).mono ?_
  rintro e w2 ⟨rfl, hf⟩
  have HS1 := Lib.hid (HS0.out.keep hf)
  clear hf HS0 HAl
  go_upto_region 3 with fail
  have k0 := (HS1.out.blk 0 rfl).cell 0 rfl
  have k1 := (HS1.out.blk 0 rfl).cell 1 rfl
  have k2 := (HS1.out.blk 0 rfl).cell 2 rfl
  have k3 := (HS1.out.blk 0 rfl).cell 3 rfl
  have k4 := (HS1.out.blk 0 rfl).cell 4 rfl
  have k5 := (HS1.out.blk 0 rfl).cell 5 rfl
  have k6 := (HS1.out.blk 0 rfl).cell 6 rfl
  have k7 := (HS1.out.blk 0 rfl).cell 7 rfl
  have k8 := (HS1.out.blk 0 rfl).cell 8 rfl
  have k9 := (HS1.out.blk 0 rfl).cell 9 rfl
  have k10 := (HS1.out.blk 0 rfl).cell 10 rfl
  go_wp2_with fail
  clear k0 k1 k2 k3 k4 k5 k6 k7 k8 k9 k10
  refine (HSx.out w2 HS1.out.frm).mono ?_
  rintro e w3 ⟨rfl, hf⟩
  have HS2 := Lib.hid (HS1.out.keep hf)
  clear hf HS1 HSx
  cases Bx with
  | false =>
    go_wp2_with fail
    go_ret
    exact ⟨rfl, HS2.out.frm.below⟩
  | true =>
    have hL := Lib.hid (show nX ≤ 1000000 from Nat.le_trans (HbX.out (by trivial)).1 (by decide))
    clear HbX
    go_upto_region 5 with fail
    have k0 := (HS2.out.blk 0 rfl).cell 0 rfl
    have k1 := (HS2.out.blk 0 rfl).cell 1 rfl
    have k2 := (HS2.out.blk 0 rfl).cell 2 rfl
    have k3 := (HS2.out.blk 0 rfl).cell 3 rfl
    have k4 := (HS2.out.blk 0 rfl).cell 4 rfl
    have k5 := (HS2.out.blk 0 rfl).cell 5 rfl
    have k6 := (HS2.out.blk 0 rfl).cell 6 rfl
    have k7 := (HS2.out.blk 0 rfl).cell 7 rfl
    have k8 := (HS2.out.blk 0 rfl).cell 8 rfl
    have k9 := (HS2.out.blk 0 rfl).cell 9 rfl
    have k10 := (HS2.out.blk 0 rfl).cell 10 rfl
    go_wp2_with fail
    clear k0 k1 k2 k3 k4 k5 k6 k7 k8 k9 k10
    refine (HWx.out w3 HS2.out.frm hL.out).mono ?_
    rintro e w4 ⟨v3, rfl, hS⟩
    obtain ⟨a3, c3, rfl, rd3, n3, l3, m3⟩ := usl_of (k := .u8) (hS.own 0 rfl)
    have HS3 := Lib.hid (HS2.out.more hS)
    obtain ⟨nO, hnO⟩ : ∃ n, n = O.length := ⟨_, rfl⟩
    rw [← hnO] at HS3 l3 hO5 HPn HCt HPo HGo ⊢
    have HnO := Lib.hid hnO
    have HR4 := Lib.hid (And.intro rd3 n3)
    clear hS rd3 n3 HS2 HWx hnO
    by_cases hE0 : E ≠ 0
    · have t1 : (E != 0) = true := by simp [hE0]
      have h0 : nO = 0 := by rw [HnO.out, HBad.out hE0]; rfl
      subst h0
      clear hE0
      go_wp2_with fail
      go_ret
      exact ⟨rfl, HS3.out.frm.below⟩
    have hE1 : E = 0 := by omega
    obtain ⟨g1, g2, g3⟩ := HGo.out hE1
    have HWf1 := Lib.hid (HWf.out hE1)
    have HPn1 := Lib.hid (HPn.out hE1)
    have HPo1 := Lib.hid (HPo.out hE1)
    have HCt1 := Lib.hid (HCt.out hE1)
    have HSm1 := Lib.hid (HSm.out hE1)
    have hln := HLn.out hE1
    clear HGo HBad HLn HWf HPn HPo HCt HSm
    subst hE1
    clear hE0
    obtain ⟨b0, b1⟩ := and_i64 cut 2047 (by decide) (by decide)
    obtain ⟨m, hm⟩ : ∃ m : Nat, bits .and .i64 cut 2047 = (m : Int) := ⟨(bits .and .i64 cut 2047).toNat, by omega⟩
    rw [hm] at b0 b1
    obtain ⟨n, hn⟩ : ∃ n : Nat, n = m % nO := ⟨_, rfl⟩
    have hnlt : n < nO := by rw [hn]; exact Nat.mod_lt _ (by omega)
    have e2 : Int.tmod (m : Int) (nO : Int) = (n : Int) := by rw [hn]; rfl
    have e3 : (m : Int) % (nO : Int) = (n : Int) := by rw [hn]; rfl
    have e4 : ¬ ((nO : Int) = 0) := by omega
    have e5 : (0 : Int) ≤ (n : Int) := by omega
    have e6 : (n : Int) ≤ (c3 : Int) := by omega
    clear hn
    obtain ⟨nF, hnF⟩ : ∃ n, n = OF.length := ⟨_, rfl⟩
    rw [← hnF] at HCt1 hF5
    have HnF := Lib.hid hnF
    clear hnF
    have HC := Lib.hid (HCt1.out n hnlt)
    obtain ⟨Fv, hFv⟩ : ∃ F, F = upaE (O.take n) := ⟨_, rfl⟩
    obtain ⟨y, hy⟩ : ∃ y, y = upaX (O.take n) := ⟨_, rfl⟩
    have HPn2 := Lib.hid (HPn1.out w4 a3 n c3 HR4.out.1 hnlt (by omega) m3 HR4.out.2)
    rw [← hFv, ← hy] at HPn2 HC
    have Hlen := Lib.hid (And.intro hO5 (And.intro hF5 (And.intro l3 (And.intro m3 (And.intro g3 hln)))))
    clear hFv hy HPn1 HCt1 b0 b1 hnlt g1 g2
    go_wp2_with fail
    clear e2 e3 e4 hm
    refine HPn2.out.mono ?_
    rintro e w5 ⟨va, nT, vc, ts, hts, rfl, hS⟩
    have HQ := Lib.hid hts
    obtain ⟨a1, c1, hv, -, -, -, r1⟩ := lb_rd (hS.get 0 rfl)
    obtain ⟨rfl, hnT, rfl⟩ := sl3 hv
    clear hv r1
    have HnT := Lib.hid hnT
    have HS4 := Lib.hid (HS3.out.more hS)
    clear hS hts hnT HPn2 HS3
    obtain ⟨yh0, yh1, yh2, yh3, yh4, yh5, yh6, yh7, yb, ylg, yLs⟩ := y
    simp only [Ul.val, Ul.cells]
    go_upto_region 10 with fail
    have HS5 := Lib.hid (HS4.out.alloc #[.int .u8 yh0, .int .u8 yh1, .int .u8 yh2, .int .u8 yh3, .int .u8 yh4, .int .u8 yh5, .int .u8 yh6, .int .u8 yh7, .int .u16 yb, .bool ylg, .slice va nT vc] 29)
    obtain ⟨w6, hw6⟩ : ∃ x, x = w5.alloc (.cells #[.int .u8 yh0, .int .u8 yh1, .int .u8 yh2, .int .u8 yh3, .int .u8 yh4, .int .u8 yh5, .int .u8 yh6, .int .u8 yh7, .int .u16 yb, .bool ylg, .slice va nT vc] 29) := ⟨_, rfl⟩
    obtain ⟨q, hq⟩ : ∃ x, x = w5.heap.size := ⟨_, rfl⟩
    rw [← hw6, ← hq] at HS5
    rw [← hw6, ← hq]
    clear hw6 hq HS4
    have k0 := (HS5.out.blk 3 rfl).cell 0 rfl
    have k1 := (HS5.out.blk 3 rfl).cell 1 rfl
    have k2 := (HS5.out.blk 3 rfl).cell 2 rfl
    have k3 := (HS5.out.blk 3 rfl).cell 3 rfl
    have k4 := (HS5.out.blk 3 rfl).cell 4 rfl
    have k5 := (HS5.out.blk 3 rfl).cell 5 rfl
    have k6 := (HS5.out.blk 3 rfl).cell 6 rfl
    have k7 := (HS5.out.blk 3 rfl).cell 7 rfl
    have k8 := (HS5.out.blk 3 rfl).cell 8 rfl
    have k9 := (HS5.out.blk 3 rfl).cell 9 rfl
    have k10 := (HS5.out.blk 3 rfl).cell 10 rfl
    go_upto_region 11 with fail
    have HS6 := Lib.hid (HS5.out.alloc #[.int .u8 xh0, .int .u8 xh1, .int .u8 xh2, .int .u8 xh3, .int .u8 xh4, .int .u8 xh5, .int .u8 xh6, .int .u8 xh7, .int .u16 xb, .bool xlg, .slice a nX c] 29)
    obtain ⟨w7, hw7⟩ : ∃ x, x = w6.alloc (.cells #[.int .u8 xh0, .int .u8 xh1, .int .u8 xh2, .int .u8 xh3, .int .u8 xh4, .int .u8 xh5, .int .u8 xh6, .int .u8 xh7, .int .u16 xb, .bool xlg, .slice a nX c] 29) := ⟨_, rfl⟩
    obtain ⟨g, hg⟩ : ∃ x, x = w6.heap.size := ⟨_, rfl⟩
    rw [← hw7, ← hg] at HS6
    rw [← hw7, ← hg]
    clear hw7 hg HS5 k0 k1 k2 k3 k4 k5 k6 k7 k8 k9 k10
    have k10 := (HS6.out.blk 4 rfl).cell 10 rfl
    have f10 := (HS6.out.blk 0 rfl).free 10
    have j10 := (HS6.out.blk 0 rfl).cell 10 rfl
    have i1 : (1 : Int) ≤ (c : Int) := by have := Hlen.out.2.2.2.2.2.1; omega
    go_upto_region 12 with fail
    have HS7 := Lib.hid (show Sep [] w _ [blkR g 29 #[.int .u8 xh0, .int .u8 xh1, .int .u8 xh2, .int .u8 xh3, .int .u8 xh4, .int .u8 xh5, .int .u8 xh6, .int .u8 xh7, .int .u16 xb, .bool xlg, .slice a 1 c], blkR q 29 #[.int .u8 yh0, .int .u8 yh1, .int .u8 yh2, .int .u8 yh3, .int .u8 yh4, .int .u8 yh5, .int .u8 yh6, .int .u8 yh7, .int .u16 yb, .bool ylg, .slice va nT vc], lbR 44 (.slice va nT vc) ts, sumR (.slice a3 nO c3) O, blkR o 29 #[.int .u8 xh0, .int .u8 xh1, .int .u8 xh2, .int .u8 xh3, .int .u8 xh4, .int .u8 xh5, .int .u8 xh6, .int .u8 xh7, .int .u16 xb, .bool xlg, .slice a nX c]] from HS6.out.put 0 rfl 10 (.slice a 1 c))
    obtain ⟨w8, hw8⟩ : ∃ x, x = w7.setCell ⟨g, 10, none⟩ (.slice a 1 c) := ⟨_, rfl⟩
    rw [← hw8] at HS7
    rw [← hw8]
    clear hw8 k10 j10 f10 HS6
    have k0 := (HS7.out.blk 0 rfl).cell 0 rfl
    have k1 := (HS7.out.blk 0 rfl).cell 1 rfl
    have k2 := (HS7.out.blk 0 rfl).cell 2 rfl
    have k3 := (HS7.out.blk 0 rfl).cell 3 rfl
    have k4 := (HS7.out.blk 0 rfl).cell 4 rfl
    have k5 := (HS7.out.blk 0 rfl).cell 5 rfl
    have k6 := (HS7.out.blk 0 rfl).cell 6 rfl
    have k7 := (HS7.out.blk 0 rfl).cell 7 rfl
    have k8 := (HS7.out.blk 0 rfl).cell 8 rfl
    have k9 := (HS7.out.blk 0 rfl).cell 9 rfl
    have k10 := (HS7.out.blk 0 rfl).cell 10 rfl
    go_wp2_with fail
    clear k0 k1 k2 k3 k4 k5 k6 k7 k8 k9 k10
    refine (HWf1.out w8 HS7.out.frm).mono ?_
    rintro e w9 ⟨v9, rfl, hS⟩
    obtain ⟨aw, cw, rfl, -, -, -, -⟩ := usl_of (k := .u8) (hS.own 0 rfl)
    rw [← HnF.out] at hS ⊢
    have HS8 := Lib.hid (show Sep [] w w9 [sumR (.slice aw nF cw) OF, blkR g 29 #[.int .u8 xh0, .int .u8 xh1, .int .u8 xh2, .int .u8 xh3, .int .u8 xh4, .int .u8 xh5, .int .u8 xh6, .int .u8 xh7, .int .u16 xb, .bool xlg, .slice a 1 c], blkR q 29 #[.int .u8 yh0, .int .u8 yh1, .int .u8 yh2, .int .u8 yh3, .int .u8 yh4, .int .u8 yh5, .int .u8 yh6, .int .u8 yh7, .int .u16 yb, .bool ylg, .slice va nT vc], lbR 44 (.slice va nT vc) ts, sumR (.slice a3 nO c3) O, blkR o 29 #[.int .u8 xh0, .int .u8 xh1, .int .u8 xh2, .int .u8 xh3, .int .u8 xh4, .int .u8 xh5, .int .u8 xh6, .int .u8 xh7, .int .u16 xb, .bool xlg, .slice a nX c]] from HS7.out.more hS)
    clear hS HS7 HWf1
    have HCp := Lib.hid (by
      obtain ⟨a9, c9, hv, rd, -, -, -⟩ := usl_of (k := .u8) (HS8.out.own 4 (by rw [HnO.out]; rfl))
      rw [← HnO.out] at hv
      obtain ⟨rfl, -, rfl⟩ := sl3 hv
      have h := bcopy_c a3 c3 O w9 rd (by have := Hlen.out.1; have := HnO.out; omega)
      rw [← HnO.out] at h
      exact h)
    go_wp2_with fail
    refine HCp.out.mono ?_
    rintro e w10 ⟨gm, cm, rfl, hS⟩
    have HS9 := Lib.hid (show Sep [] w w10 [sumR (.slice (some ⟨gm, 0, none⟩) nO cm) O, sumR (.slice aw nF cw) OF, blkR g 29 #[.int .u8 xh0, .int .u8 xh1, .int .u8 xh2, .int .u8 xh3, .int .u8 xh4, .int .u8 xh5, .int .u8 xh6, .int .u8 xh7, .int .u16 xb, .bool xlg, .slice a 1 c], blkR q 29 #[.int .u8 yh0, .int .u8 yh1, .int .u8 yh2, .int .u8 yh3, .int .u8 yh4, .int .u8 yh5, .int .u8 yh6, .int .u8 yh7, .int .u16 yb, .bool ylg, .slice va nT vc], lbR 44 (.slice va nT vc) ts, sumR (.slice a3 nO c3) O, blkR o 29 #[.int .u8 xh0, .int .u8 xh1, .int .u8 xh2, .int .u8 xh3, .int .u8 xh4, .int .u8 xh5, .int .u8 xh6, .int .u8 xh7, .int .u16 xb, .bool xlg, .slice a nX c]] from HS8.out.more hS)
    clear hS HS8 HCp
    have h1 := (show Sep [] w w10 [ownR 5 1 (.slice (some ⟨gm, 0, none⟩) nO cm) nO (O.map (Value.int .u8)), sumR (.slice aw nF cw) OF, blkR g 29 #[.int .u8 xh0, .int .u8 xh1, .int .u8 xh2, .int .u8 xh3, .int .u8 xh4, .int .u8 xh5, .int .u8 xh6, .int .u8 xh7, .int .u16 xb, .bool xlg, .slice a 1 c], blkR q 29 #[.int .u8 yh0, .int .u8 yh1, .int .u8 yh2, .int .u8 yh3, .int .u8 yh4, .int .u8 yh5, .int .u8 yh6, .int .u8 yh7, .int .u16 yb, .bool ylg, .slice va nT vc], lbR 44 (.slice va nT vc) ts, sumR (.slice a3 nO c3) O, blkR o 29 #[.int .u8 xh0, .int .u8 xh1, .int .u8 xh2, .int .u8 xh3, .int .u8 xh4, .int .u8 xh5, .int .u8 xh6, .int .u8 xh7, .int .u16 xb, .bool xlg, .slice a nX c]] from by
      have h := HS9.out
      rw [show sumR (.slice (some ⟨gm, 0, none⟩) nO cm) O = ownR 5 1 (.slice (some ⟨gm, 0, none⟩) nO cm) nO (O.map (Value.int .u8)) from by unfold sumR; rw [HnO.out]] at h
      exact h)
    have c0 := row_cell (k := .u8) (h1.own 0 rfl) 0 (by have := Hlen.out.2.2.2.2.1; have := HnO.out; omega)
    have f0 := row_free (h1.own 0 rfl) 0
    obtain ⟨z, hz⟩ : ∃ z, z = O.getD 0 0 := ⟨_, rfl⟩
    rw [← hz] at c0
    obtain ⟨u, hu⟩ : ∃ u, u = (z + 128) % 256 := ⟨_, rfl⟩
    have hut : O.set 0 u = uturn O := by rw [hu, hz]; rfl
    have h2 := h1.putRow 0 rfl 0 u
    have HU := Lib.hid hu.symm
    have HUt := Lib.hid hut
    have i2 : (0 : Int) < (nO : Int) := by have := Hlen.out.2.2.2.2.1; omega
    have H2 := Lib.hid h2
    clear h1 h2 hu hz hut HS9
    go_upto_region 15 with fail
    rw [HU.out]
    have HSA := Lib.hid (show Sep [] w _ [ownR 5 1 (.slice (some ⟨gm, 0, none⟩) nO cm) nO ((uturn O).map (Value.int .u8)), sumR (.slice aw nF cw) OF, blkR g 29 #[.int .u8 xh0, .int .u8 xh1, .int .u8 xh2, .int .u8 xh3, .int .u8 xh4, .int .u8 xh5, .int .u8 xh6, .int .u8 xh7, .int .u16 xb, .bool xlg, .slice a 1 c], blkR q 29 #[.int .u8 yh0, .int .u8 yh1, .int .u8 yh2, .int .u8 yh3, .int .u8 yh4, .int .u8 yh5, .int .u8 yh6, .int .u8 yh7, .int .u16 yb, .bool ylg, .slice va nT vc], lbR 44 (.slice va nT vc) ts, sumR (.slice a3 nO c3) O, blkR o 29 #[.int .u8 xh0, .int .u8 xh1, .int .u8 xh2, .int .u8 xh3, .int .u8 xh4, .int .u8 xh5, .int .u8 xh6, .int .u8 xh7, .int .u16 xb, .bool xlg, .slice a nX c]] from HUt.out ▸ H2.out)
    obtain ⟨wa, hwa⟩ : ∃ x, x = w10.setCell ⟨gm, 0, none⟩ (.int .u8 u) := ⟨_, rfl⟩
    rw [← hwa] at HSA
    rw [← hwa]
    clear hwa c0 f0 H2
    have HPo2 := Lib.hid (by
      have h := HSA.out.own 0 rfl
      obtain ⟨a9, c9, hv, rd, n9, l9, m9⟩ := usl_of (k := .u8) h
      obtain ⟨rfl, hl, rfl⟩ := sl3 hv
      exact HPo1.out wa (some ⟨gm, 0, none⟩) cm rd (by omega) m9 n9)
    go_wp2_with fail
    refine HPo2.out.mono ?_
    rintro e wb ⟨sb, nU, sd, us, hus, rfl, hS⟩
    have HSB := Lib.hid (HSA.out.keep hS.frm)
    clear hS hus HPo2 HPo1 HSA
    obtain ⟨v, hv⟩ : ∃ v, v = upaX (uturn O) := ⟨_, rfl⟩
    rw [← hv]
    clear hv
    obtain ⟨vh0, vh1, vh2, vh3, vh4, vh5, vh6, vh7, vb, vlg, vLs⟩ := v
    simp only [Ul.val, Ul.cells]
    go_upto_region 16 with fail
    have HSC := Lib.hid (HSB.out.alloc #[.int .u8 vh0, .int .u8 vh1, .int .u8 vh2, .int .u8 vh3, .int .u8 vh4, .int .u8 vh5, .int .u8 vh6, .int .u8 vh7, .int .u16 vb, .bool vlg, .slice sb nU sd] 29)
    obtain ⟨wd, hwd⟩ : ∃ x, x = wb.alloc (.cells #[.int .u8 vh0, .int .u8 vh1, .int .u8 vh2, .int .u8 vh3, .int .u8 vh4, .int .u8 vh5, .int .u8 vh6, .int .u8 vh7, .int .u16 vb, .bool vlg, .slice sb nU sd] 29) := ⟨_, rfl⟩
    obtain ⟨s, hs⟩ : ∃ x, x = wb.heap.size := ⟨_, rfl⟩
    rw [← hwd, ← hs] at HSC
    rw [← hwd, ← hs]
    clear hwd hs HSB
    have k10 := (HSC.out.blk 7 rfl).cell 10 rfl
    by_cases hC : nX = 2 ∧ n = nF
    · obtain ⟨hc1, hc2⟩ := hC
      obtain ⟨r1, r2, r3⟩ := HC.out.1 ⟨by rw [Hlen.out.2.2.2.2.2.2]; exact hc1, hc2⟩
      have HQ2 := Lib.hid (show ts.map LvV.lv = xLs.take 1 from HQ.out.trans (congrArg Ul.Ls r2))
      have HSm2 := Lib.hid (fun X (hX : Frm [] wd X) => (by
        have hl := HSC.out.keep hX
        obtain ⟨a9, c9, hv, -, -, -, rd⟩ := lb_rd (hl.get 5 rfl)
        obtain ⟨rfl, -, rfl⟩ := sl3 hv
        have h := HSm1.out X hl.frm va vc ts HQ2.out rd
        rw [← HnT.out] at h
        exact h))
      have HBs := Lib.hid (fun X (hX : Frm [] wd X) => (by
        have hl := HSC.out.keep hX
        obtain ⟨a9, c9, hv, rd, -, -, -⟩ := usl_of (k := .u8) (hl.own 2 (by rw [HnF.out]; rfl))
        rw [← HnF.out] at hv
        obtain ⟨rfl, -, rfl⟩ := sl3 hv
        obtain ⟨a8, c8, hv8, rd8, -, -, -⟩ := usl_of (k := .u8) (hl.own 6 (by rw [HnO.out]; rfl))
        rw [← HnO.out] at hv8
        obtain ⟨rfl, -, rfl⟩ := sl3 hv8
        have rd7 := rd8.firsts n
        rw [r3] at rd7
        have h := bsame_c aw a3 cw c3 OF OF X rd rd7 (by have := HnF.out; have := Hlen.out.2.1; omega) (by have := HnF.out; have := Hlen.out.2.1; omega)
        rw [decide_eq_true rfl, ← HnF.out] at h
        exact h.mono (fun e w' ⟨h1, m, h2⟩ => ⟨h1, h2 ▸ (Frm.refl _ _).drewN m⟩) : Calls Tryd.prog 14 #[.slice aw nF cw, .slice a3 nF c3] X fun e w' => e = .returned (.bool true) ∧ Frm [] X w'))
      have hy : yh0 = px ∧ yh1 = xh1 ∧ yh2 = xh2 ∧ yh3 = xh3 ∧ yh4 = xh4 ∧ yh5 = xh5 ∧ yh6 = xh6 ∧ yh7 = xh7 ∧ yb = xb ∧ ylg = xlg := by
        injection r2 with q0 q1 q2 q3 q4 q5 q6 q7 q8 q9 q10
        exact ⟨q0, q1, q2, q3, q4, q5, q6, q7, q8, q9⟩
      obtain ⟨rfl, rfl, rfl, rfl, rfl, rfl, rfl, rfl, rfl, rfl⟩ := hy
      subst hc1 hc2 r1
      clear r2 r3 HC HSm1
      have q0 := (HSC.out.blk 4 rfl).cell 0 rfl
      have q1 := (HSC.out.blk 4 rfl).cell 1 rfl
      have q2 := (HSC.out.blk 4 rfl).cell 2 rfl
      have q3 := (HSC.out.blk 4 rfl).cell 3 rfl
      have q4 := (HSC.out.blk 4 rfl).cell 4 rfl
      have q5 := (HSC.out.blk 4 rfl).cell 5 rfl
      have q6 := (HSC.out.blk 4 rfl).cell 6 rfl
      have q7 := (HSC.out.blk 4 rfl).cell 7 rfl
      have q8 := (HSC.out.blk 4 rfl).cell 8 rfl
      have q9 := (HSC.out.blk 4 rfl).cell 9 rfl
      have q10 := (HSC.out.blk 4 rfl).cell 10 rfl
      have j0 := (HSC.out.blk 3 rfl).cell 0 rfl
      have j1 := (HSC.out.blk 3 rfl).cell 1 rfl
      have j2 := (HSC.out.blk 3 rfl).cell 2 rfl
      have j3 := (HSC.out.blk 3 rfl).cell 3 rfl
      have j4 := (HSC.out.blk 3 rfl).cell 4 rfl
      have j5 := (HSC.out.blk 3 rfl).cell 5 rfl
      have j6 := (HSC.out.blk 3 rfl).cell 6 rfl
      have j7 := (HSC.out.blk 3 rfl).cell 7 rfl
      have j8 := (HSC.out.blk 3 rfl).cell 8 rfl
      have j9 := (HSC.out.blk 3 rfl).cell 9 rfl
      have j10 := (HSC.out.blk 3 rfl).cell 10 rfl
      go_wp2_with fail
      clear k10 q0 q1 q2 q3 q4 q5 q6 q7 q8 q9 q10 j0 j1 j2 j3 j4 j5 j6 j7 j8 j9 j10
      refine (HSm2.out wd (Frm.refl _ _)).mono ?_
      rintro e we ⟨rfl, hf⟩
      have HFe := Lib.hid hf
      clear hf
      go_wp2_with fail
      refine (HBs.out we HFe.out).mono ?_
      rintro e wf ⟨rfl, hf⟩
      have HFf := Lib.hid (HFe.out.trans hf)
      clear hf
      go_wp2_with fail
      go_ret
      exact ⟨rfl, (HSC.out.frm.trans HFf.out).below⟩
    · obtain ⟨r1, r2⟩ := HC.out.2 (fun hc => hC ⟨by rw [← Hlen.out.2.2.2.2.2.2]; exact hc.1, hc.2⟩)
      have hn0 : nT = 0 := by
        have h1 := congrArg List.length HQ.out
        have h2 := congrArg Ul.Ls r2
        simp only at h1 h2
        rw [h2, List.length_map, ← HnT.out] at h1
        exact h1
      subst hn0 r1
      clear r2 HC HSm1
      have j10 := (HSC.out.blk 4 rfl).cell 10 rfl
      by_cases h2 : nX = 2
      · have h3 : n ≠ nF := fun h => hC ⟨h2, h⟩
        have t3 : ((n : Int) == (nF : Int)) = false := by simp; omega
        subst h2
        clear hC h3
        go_wp2_with fail
        go_ret
        exact ⟨rfl, HSC.out.frm.below⟩
      · have t3 : ((nX : Int) == 2) = false := by simp; omega
        clear hC h2
        go_wp2_with fail
        go_ret
        exact ⟨rfl, HSC.out.frm.below⟩
theorem ulpCuts_f {w : World} (hT : Tabs w) (x : Ul) (a : Option Addr) (c : Nat) (qs : List LvV) (hqx : qs.map LvV.lv = x.Ls) (hox : x.Ok) (rx : RdLs w a qs) (nx : a = none → c = 0) (lx : qs.length ≤ c) (mx : c ≤ maxLen) (cut : Int) (wc : (Lit.int .i64 cut).wf = true) :
    Calls Tryd.prog 7 #[x.val (.slice a qs.length c), .int .i64 cut] w fun e w' => e = .returned (.bool true) ∧ Below w.heap.size w w' :=
  ulpCuts_w w hT x a c qs hqx hox rx lx (by unfold maxLen at *; omega) cut

end Go.Proofs.YtjflcijiaennkaaDoor
