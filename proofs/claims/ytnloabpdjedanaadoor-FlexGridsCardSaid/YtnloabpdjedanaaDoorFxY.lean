/-
  THE WALK of the law FlexGrids. Printed by gen_fxy.py.
-/
import Derived.Test.YtnloabpdjedanaaDoorFxX
set_option linter.unusedVariables false
set_option linter.unusedSimpArgs false
namespace Go.Proofs.YtnloabpdjedanaaDoor
open Go.RowKit

set_option maxRecDepth 100000 in
set_option maxHeartbeats 16000000 in
theorem flexGrids_w (w : World) (hT : Tabs w) (b l d y : Int) (b0 : 0 ≤ b ∧ b ≤ 65535) (y0 : 0 ≤ y ∧ y ≤ 65535) :
    Calls Tryd.prog 7 #[.int .u16 b, .int .i64 l, .int .i64 d, .int .u16 y] w fun e w' => e = .returned (.bool true) ∧ Below w.heap.size w w' := by
  have HT := Lib.hid (fun X (hX : Frm [] w X) => hT.frm hX (by simp))
  have HAl := Lib.hid (alive_c w hT)
  clear hT
  obtain ⟨m, hm⟩ : ∃ m, m = bits .and .i64 l 1023 := ⟨_, rfl⟩
  obtain ⟨D, hD⟩ : ∃ D, D = bits .and .i64 d 255 := ⟨_, rfl⟩
  have m1 := and_i64 l 1023 (by decide) (by decide)
  have D1 := and_i64 d 255 (by decide) (by decide)
  rw [← hm] at m1
  rw [← hD] at D1
  have e1 : bits .and .i64 l 1023 = m := hm.symm
  have e2 : bits .and .i64 d 255 = D := hD.symm
  have e3 : Int.tmod m 255 = m % 255 := Int.tmod_eq_emod_of_nonneg m1.1
  obtain ⟨q, hq⟩ : ∃ q, q = m % 255 := ⟨_, rfl⟩
  rw [← hq] at e3
  have q1 : 0 ≤ q ∧ q ≤ 254 := by omega
  have e4 : IntKind.i64.wrap (1 + q) = 1 + q := IntWalk.i64_in _ (by omega)
  obtain ⟨L, hL⟩ : ∃ L, L = 1 + q := ⟨_, rfl⟩
  rw [← hL] at e4
  have e5 : IntKind.i64.wrap (1 + q) = L := by rw [← hL]; exact e4
  have L1 : 1 ≤ L ∧ L ≤ 255 := by omega
  have e6 : IntKind.u16.wrap (b + y) = (b + y) % 65536 := by rw [IntKind.wrap_u16]
  obtain ⟨c, hc⟩ : ∃ c, c = (b + y) % 65536 := ⟨_, rfl⟩
  rw [← hc] at e6
  have c1 : 0 ≤ c ∧ c ≤ 65535 := by omega
  have hgr : gridB L D = true := by simp [gridB]; omega
  obtain ⟨N, hN⟩ : ∃ N, N = gN L D := ⟨_, rfl⟩
  obtain ⟨s, hs⟩ : ∃ s, s = gS L D := ⟨_, rfl⟩
  have hN2 : 1 ≤ N ∧ N ≤ 255 := by rw [hN]; unfold gN; split <;> omega
  have hs2 : 1 ≤ s ∧ s ≤ 255 := by rw [hs]; unfold gS; split <;> omega
  have HG1 := Lib.hid (fun X => fgrid_c b L D X b0.1 b0.2)
  have HG2 := Lib.hid (fun X => fgrid_c c L D X c1.1 c1.2)
  have hz : ∀ z, gridL z L D = gL z L D N := fun z => by unfold gridL; rw [if_pos hgr, hN]
  rw [hz] at HG1 HG2
  have HNs := Lib.hid (And.intro hN hs)
  have HC := Lib.hid hc
  have HX1 : Hid (∀ k : Nat, k < N → (gL b L D N)[k]? = some (add16 b ((k : Int) * s))) := Lib.hid (fun k hk => by rw [hs]; exact gL_at b L D hk)
  have HX2 : Hid (∀ k : Nat, k < N → (gL c L D N)[k]? = some (add16 c ((k : Int) * s))) := Lib.hid (fun k hk => by rw [hs]; exact gL_at c L D hk)
  have hl1 := gL_len b L D N
  have hl2 := gL_len c L D N
  obtain ⟨xs, hxs⟩ : ∃ xs, xs = gL b L D N := ⟨_, rfl⟩
  obtain ⟨ys, hys⟩ : ∃ ys, ys = gL c L D N := ⟨_, rfl⟩
  rw [← hxs] at HG1 HX1 hl1
  rw [← hys] at HG2 HX2 hl2
  have hP := fixP_w b0 L1 D1
  have hPo := fixP_ok b0 L1 D1
  obtain ⟨O, hO⟩ : ∃ O, O = woX (fixP b L D) := ⟨_, rfl⟩
  have hwb := wr_back hPo hP.1
  have hby := woX_byt hPo
  rw [← hO] at hwb hby
  rw [← hO] at hP
  rw [hP.2.2.2] at hwb
  have HWr := Lib.hid (fun X (hX : Frm [] w X) => (by
    have h := write_c (fixP b L D) none 0 X hPo (RdI.nil _ _ _) (fun _ => rfl) (HT.out X hX) (Nat.zero_le _)
    rw [hP.1, ← hO] at h
    exact h : Calls Tryd.prog 15 #[.agg #[.int .u8 0, .int .u8 0, .int .u8 0, .int .u8 0, .int .u8 0, .int .u8 0, .int .u8 0, .int .u8 0, .int .u16 b, .int .u64 0, .int .u64 0, .bool true, .int .i64 L, .int .i64 D, .slice none 0 0]] X (WrP X O 0)))
  have HPa := Lib.hid (fun X a c' (hr : RdI .u8 X a O) (hc : 12 ≤ c') (hcm : c' ≤ 9223372036854775807) (hn : a = none → c' = 0) => (by
    have h := Parse_c (c := c') hr hby.1 (by omega) hcm hn
    rw [hwb.1, hwb.2, hP.2.1] at h
    exact h : Calls Tryd.prog 10 #[.slice a 12 c'] X (ParseP X (fixP b L D) 0)))
  have HFl := Lib.hid (fun X a c' (hX : Frm [] w X) (hn : a = none → c' = 0) => (by
    have h := fflat_c (fixP b L D) a c' X hPo (RdI.nil _ _ _) hn (HT.out X hX) (Nat.zero_le _)
    rw [hP.2.2.1] at h
    exact h : Calls Tryd.prog 17 #[.agg #[.int .u8 0, .int .u8 0, .int .u8 0, .int .u8 0, .int .u8 0, .int .u8 0, .int .u8 0, .int .u8 0, .int .u16 b, .int .u64 0, .int .u64 0, .bool true, .int .i64 L, .int .i64 D, .slice a 0 c']] X (FlatP X (flX (fixP b L D)) 30)))
  have HSm := Lib.hid (fun X a c' => (by
    have h := same_c (fixP b L D) (fixP b L D) none a 0 c' X hPo hPo (RdI.nil _ _ _) (RdI.nil _ _ _) (Nat.zero_le _) (Nat.zero_le _)
    rw [same_self] at h
    exact h : Calls Tryd.prog 20 #[.agg #[.int .u8 0, .int .u8 0, .int .u8 0, .int .u8 0, .int .u8 0, .int .u8 0, .int .u8 0, .int .u8 0, .int .u16 b, .int .u64 0, .int .u64 0, .bool true, .int .i64 L, .int .i64 D, .slice none 0 0], .agg #[.int .u8 0, .int .u8 0, .int .u8 0, .int .u8 0, .int .u8 0, .int .u8 0, .int .u8 0, .int .u8 0, .int .u16 b, .int .u64 0, .int .u64 0, .bool true, .int .i64 L, .int .i64 D, .slice a 0 c']] X fun e w' => e = .returned (.bool true) ∧ Frm [] X w'))
  have hO12 := hP.2.1
  have HB := Lib.hid (And.intro b0 y0)
  clear hm hD hq hL e4 hc hgr hN hs hz hxs hys hP hPo hO hwb hby b0 y0 m1 q1
  go_enter Tryd.func7, Tryd.ntmps7
  go_wp2_with fail
  refine HAl.out.mono ?_
  rintro e w1 ⟨rfl, hf⟩
  have HF1 := Lib.hid hf
  clear hf HAl
  go_wp2_with fail
  refine (HG1.out _).mono ?_
  rintro e w2 ⟨v1, rfl, hS⟩
  have HS1 := Lib.hid (((Sep.init w).keep HF1.out).more hS)
  clear hS
  go_wp2_with fail
  refine (HG2.out _).mono ?_
  rintro e w3 ⟨v2, rfl, hS⟩
  have HS2 := Lib.hid (show Sep [] w w3 [nuR v2 ys, nuR v1 xs] from HS1.out.more hS)
  clear hS HS1 HG1 HG2 e1 e2 e3 e5 e6
  obtain ⟨a1, d1, rfl, rd1, _, k1, _⟩ := sl_of (k := .u16) (HS2.out.own 1 rfl)
  obtain ⟨a2, d2, rfl, rd2, _, k2, _⟩ := sl_of (k := .u16) (HS2.out.own 0 rfl)
  rw [hl1] at k1
  rw [hl2] at k2
  rw [hl1, hl2] at HS2 ⊢
  obtain ⟨g1, f1, rfl, hg1, cx⟩ := rd1 0 _ (HX1.out 0 (by omega))
  obtain ⟨g2, f2, rfl, hg2, _⟩ := rd2 0 _ (HX2.out 0 (by omega))
  have HR1 : Hid (∀ X, Frm [] w3 X → ∀ k : Nat, k < N → X.cell? ⟨g1, f1 + k, none⟩ = some (.int .u16 (add16 b ((k : Int) * s)))) := Lib.hid (fun X hX k hk => by
    obtain ⟨g', f', ha, hg', hc⟩ := rd1 k _ (HX1.out k hk)
    obtain ⟨e1, e2⟩ : g1 = g' ∧ f1 = f' := by
      injection ha with ha
      injection ha with e1 e2
      exact ⟨e1, e2⟩
    subst e1 e2
    exact (hX.cell hg' (by simp)).trans hc)
  have HR2 : Hid (∀ X, Frm [] w3 X → ∀ k : Nat, k < N → X.cell? ⟨g2, f2 + k, none⟩ = some (.int .u16 (add16 c ((k : Int) * s)))) := Lib.hid (fun X hX k hk => by
    obtain ⟨g', f', ha, hg', hc⟩ := rd2 k _ (HX2.out k hk)
    obtain ⟨e1, e2⟩ : g2 = g' ∧ f2 = f' := by
      injection ha with ha
      injection ha with e1 e2
      exact ⟨e1, e2⟩
    subst e1 e2
    exact (hX.cell hg' (by simp)).trans hc)
  have c0 : w3.cell? ⟨g1, f1, none⟩ = some (.int .u16 b) := by
    have h := HR1.out w3 (Frm.refl _ _) 0 (by omega)
    rw [show add16 b (((0 : Nat) : Int) * s) = b by unfold add16; have := HB.out.1; simp; omega] at h
    exact h
  have HF3 := Lib.hid HS2.out.frm
  clear rd1 rd2 hg1 hg2 cx HX1 HX2 hl1 hl2 HS2
  obtain ⟨T, hT⟩ : ∃ T : Bool, T = decide (1 < D) := ⟨_, rfl⟩
  have ht : decide (1 < D) = T := hT.symm
  have HTt := Lib.hid hT
  clear hT
  go_upto_if 41 with fail
  go_cut [11, 12] (fun u v wx => u = .int .i64 (N : Int) ∧ v = .int .i64 s ∧ wx = w3)
  case first =>
    by_cases hd : 1 < D
    · obtain rfl : T = true := by rw [HTt.out]; exact decide_eq_true hd
      have hN := HNs.out.1
      have hs := HNs.out.2
      unfold gN at hN
      unfold gS at hs
      rw [if_pos hd] at hN hs
      have HE := Lib.hid (show (N : Int) = D ∧ s = L from ⟨by omega, hs⟩)
      clear hd hN hs hN2 hs2
      go_wp2_with fail
      go_meet
      exact ⟨by rw [HE.out.1], by rw [HE.out.2], rfl⟩
    · obtain rfl : T = false := by rw [HTt.out]; exact decide_eq_false hd
      have hN := HNs.out.1
      have hs := HNs.out.2
      unfold gN at hN
      unfold gS at hs
      rw [if_neg hd] at hN hs
      have HE := Lib.hid (show (N : Int) = L ∧ s = 1 from ⟨by omega, hs⟩)
      clear hd hN hs hN2 hs2
      go_wp2_with fail
      go_meet
      exact ⟨by rw [HE.out.1], by rw [HE.out.2], rfl⟩
  obtain ⟨rfl, rfl, rfl⟩ := hcut
  obtain ⟨w4, hw4⟩ : ∃ w4, w4 = wc := ⟨_, rfl⟩
  rw [← hw4] at HR1 HR2 HF3 c0 ⊢
  clear hw4 ht HTt
  have nz : (0 : Int) < (N : Int) := by omega
  go_wp2_with fail
  clear nz c0
  go_loopw [63] (fun i wr => ∃ k : Nat, k ≤ N ∧ i = .int .i64 (k : Int) ∧ Frm [] w4 wr) (fun i _ => N - (intOf i).toNat)
  case atStart => exact ⟨0, Nat.zero_le _, rfl, Frm.refl _ _⟩
  case round =>
    obtain ⟨k, hk, rfl, hfr⟩ := hrel
    have HFr := Lib.hid hfr
    clear hfr
    obtain ⟨wi, hwi⟩ : ∃ wi : World, wi = wr := ⟨_, rfl⟩
    rw [← hwi] at HFr ⊢
    clear hwi
    by_cases hlt : k < N
    · have i1 : (k : Int) < (N : Int) := by omega
      have hkN : k ≤ 254 := by omega
      obtain ⟨x, hx⟩ : ∃ x, x = add16 b ((k : Int) * s) := ⟨_, rfl⟩
      obtain ⟨z, hz⟩ : ∃ z, z = add16 c ((k : Int) * s) := ⟨_, rfl⟩
      have hxz : (x + y) % 65536 = z := by rw [hx, hz, HC.out]; unfold add16; omega
      have hw16 : IntKind.u16.wrap (x + y) = z := by rw [IntKind.wrap_u16, ← hxz]
      have hX1 := fun X (hX : Frm [] wi X) => HR1.out X (HFr.out.trans hX) k hlt
      have hX2 := fun X (hX : Frm [] wi X) => HR2.out X (HFr.out.trans hX) k hlt
      rw [← hx] at hX1
      rw [← hz] at hX2
      have i0 : (0 : Int) ≤ (k : Int) := by omega
      rcases Nat.eq_zero_or_pos k with h0 | h0
      · subst h0
        clear hx hz hxz hlt
        go_upto_region 13 with fail
        have n1 := (Sep.init wi).inh
        have q1 := fun t : Cls (fun v => Sep [] wi v []) => hX1 t.world t.ok.frm
        have q2 := fun t : Cls (fun v => Sep [] wi v []) => hX2 t.world t.ok.frm
        simp only [Nat.add_zero] at q1 q2
        refine region_sep (Sep.init wi) (by kernel_rfl) (by kernel_rfl) ?_
        repeat (go_big_quiet_step (fail))
        refine wpQuiet_nil ?_
        intro w5 hS5
        have HF5 := Lib.hid (HFr.out.trans hS5.frm)
        clear hS5 n1 q1 q2 hX1 hX2
        go_wp2_with fail
        go_roundw
        case rel => exact ⟨1, by omega, by go_num, HF5.out⟩
        case measure => simp [intOf]; omega
      · obtain ⟨j, hj⟩ : ∃ j, k = j + 1 := ⟨k - 1, by omega⟩
        obtain ⟨u, hu⟩ : ∃ u, u = add16 b ((j : Int) * s) := ⟨_, rfl⟩
        have hX3 := fun X (hX : Frm [] wi X) => HR1.out X (HFr.out.trans hX) j (by omega)
        rw [← hu] at hX3
        have u1 : 0 ≤ u ∧ u ≤ 65535 := by rw [hu]; unfold add16; omega
        have hux : add16 u s = x := by
          rw [hx, hu, hj]
          have e : ((j + 1 : Nat) : Int) * s = (j : Int) * s + s := by rw [Int.natCast_add, Int.add_mul]; simp
          rw [e]
          unfold add16
          omega
        have hAd := fun X => radd_c u s X u1.1 u1.2
        rw [hux] at hAd
        have HAd := Lib.hid hAd
        have p1 : decide (0 < (k : Int)) = true := decide_eq_true (by omega)
        have p5 : decide (0 < k) = true := decide_eq_true h0
        have p2 : IntKind.i64.wrap ((k : Int) - 1) = (j : Int) := by rw [show (k : Int) - 1 = (j : Int) by omega]; exact IntWalk.i64_in _ (by omega)
        have p3 : (j : Int) < (N : Int) := by omega
        have p4 : (0 : Int) ≤ (j : Int) := by omega
        have HK := Lib.hid hlt
        clear hx hz hxz hlt hu hux hAd h0 hj u1
        go_upto_region 13 with fail
        have n1 := (Sep.init wi).inh
        have q1 := fun t : Cls (fun v => Sep [] wi v []) => hX1 t.world t.ok.frm
        have q2 := fun t : Cls (fun v => Sep [] wi v []) => hX2 t.world t.ok.frm
        have q3 := fun t : Cls (fun v => Sep [] wi v []) => hX3 t.world t.ok.frm
        refine region_sep (Sep.init wi) (by kernel_rfl) (by kernel_rfl) ?_
        repeat (go_big_quiet_step ((rename_i t; go_at_call 26; exact call_same t.ok (HAd.out _))))
        refine wpQuiet_nil ?_
        intro w5 hS5
        have HF5 := Lib.hid (HFr.out.trans hS5.frm)
        clear hS5 n1 q1 q2 q3 hX1 hX2 hX3 p1 p2 p3 p4 p5
        go_wp2_with fail
        go_roundw
        case rel => exact ⟨k + 1, HK.out, by go_num, HF5.out⟩
        case measure => simp [intOf]; have := HK.out; omega
    · obtain rfl : k = N := by omega
      clear hlt
      go_upto_region 17 with fail
      have HS5 := Lib.hid (show Sep [] w _ [blkR wi.heap.size 31 #[.int .u8 0, .int .u8 0, .int .u8 0, .int .u8 0, .int .u8 0, .int .u8 0, .int .u8 0, .int .u8 0, .int .u16 b, .int .u64 0, .int .u64 0, .bool true, .int .i64 L, .int .i64 D, .slice none 0 0]] from ((Sep.init w).keep (HF3.out.trans HFr.out)).alloc #[.int .u8 0, .int .u8 0, .int .u8 0, .int .u8 0, .int .u8 0, .int .u8 0, .int .u8 0, .int .u8 0, .int .u16 b, .int .u64 0, .int .u64 0, .bool true, .int .i64 L, .int .i64 D, .slice none 0 0] 31)
      obtain ⟨w5, hw5⟩ : ∃ x, x = wi.alloc (.cells #[.int .u8 0, .int .u8 0, .int .u8 0, .int .u8 0, .int .u8 0, .int .u8 0, .int .u8 0, .int .u8 0, .int .u16 b, .int .u64 0, .int .u64 0, .bool true, .int .i64 L, .int .i64 D, .slice none 0 0] 31) := ⟨_, rfl⟩
      obtain ⟨p, hp⟩ : ∃ x, x = wi.heap.size := ⟨_, rfl⟩
      rw [← hw5, ← hp] at HS5
      rw [← hw5, ← hp]
      clear hw5 hp
      have k0 := (HS5.out.blk 0 rfl).cell 0 rfl
      have k1 := (HS5.out.blk 0 rfl).cell 1 rfl
      have k2 := (HS5.out.blk 0 rfl).cell 2 rfl
      have k3 := (HS5.out.blk 0 rfl).cell 3 rfl
      have k4 := (HS5.out.blk 0 rfl).cell 4 rfl
      have k5 := (HS5.out.blk 0 rfl).cell 5 rfl
      have k6 := (HS5.out.blk 0 rfl).cell 6 rfl
      have k7 := (HS5.out.blk 0 rfl).cell 7 rfl
      have k8 := (HS5.out.blk 0 rfl).cell 8 rfl
      have k9 := (HS5.out.blk 0 rfl).cell 9 rfl
      have k10 := (HS5.out.blk 0 rfl).cell 10 rfl
      have k11 := (HS5.out.blk 0 rfl).cell 11 rfl
      have k12 := (HS5.out.blk 0 rfl).cell 12 rfl
      have k13 := (HS5.out.blk 0 rfl).cell 13 rfl
      have k14 := (HS5.out.blk 0 rfl).cell 14 rfl
      go_wp2_with fail
      clear k0 k1 k2 k3 k4 k5 k6 k7 k8 k9 k10 k11 k12 k13 k14
      refine (HWr.out w5 HS5.out.frm).mono ?_
      rintro e w6 ⟨v6, rfl, hS⟩
      obtain ⟨a6, c6, rfl, rd6, n6, l6, m6⟩ := sl_of (k := .u8) (hS.own 0 rfl)
      have HS6 := Lib.hid (show Sep [] w w6 [blkR p 31 #[.int .u8 0, .int .u8 0, .int .u8 0, .int .u8 0, .int .u8 0, .int .u8 0, .int .u8 0, .int .u8 0, .int .u16 b, .int .u64 0, .int .u64 0, .bool true, .int .i64 L, .int .i64 D, .slice none 0 0]] from HS5.out.keep hS.frm)
      have HPa2 := Lib.hid (HPa.out w6 a6 c6 rd6 (by omega) m6 n6)
      rw [hO12]
      clear hS rd6 l6 m6 n6 HS5 HPa HWr hO12
      go_wp2_with fail
      refine HPa2.out.mono ?_
      rintro e w7 ⟨va, vn, vc, rfl, hS⟩
      obtain rfl : vn = 0 := by
        obtain ⟨_, _, hv, _⟩ := own_shape (hS.own 0 rfl)
        injection hv
      have hn7 := own_zero (hS.own 0 rfl)
      have HS7 := Lib.hid (show Sep [] w w7 [blkR p 31 #[.int .u8 0, .int .u8 0, .int .u8 0, .int .u8 0, .int .u8 0, .int .u8 0, .int .u8 0, .int .u8 0, .int .u16 b, .int .u64 0, .int .u64 0, .bool true, .int .i64 L, .int .i64 D, .slice none 0 0]] from HS6.out.keep hS.frm)
      simp only [Fx.val, Fx.cells, fixP]
      clear hS HPa2 HS6
      go_upto_region 19 with fail
      have HS8 := Lib.hid (show Sep [] w _ [blkR w7.heap.size 31 #[.int .u8 0, .int .u8 0, .int .u8 0, .int .u8 0, .int .u8 0, .int .u8 0, .int .u8 0, .int .u8 0, .int .u16 b, .int .u64 0, .int .u64 0, .bool true, .int .i64 L, .int .i64 D, .slice va 0 vc], blkR p 31 #[.int .u8 0, .int .u8 0, .int .u8 0, .int .u8 0, .int .u8 0, .int .u8 0, .int .u8 0, .int .u8 0, .int .u16 b, .int .u64 0, .int .u64 0, .bool true, .int .i64 L, .int .i64 D, .slice none 0 0]] from HS7.out.alloc #[.int .u8 0, .int .u8 0, .int .u8 0, .int .u8 0, .int .u8 0, .int .u8 0, .int .u8 0, .int .u8 0, .int .u16 b, .int .u64 0, .int .u64 0, .bool true, .int .i64 L, .int .i64 D, .slice va 0 vc] 31)
      obtain ⟨w8, hw8⟩ : ∃ x, x = w7.alloc (.cells #[.int .u8 0, .int .u8 0, .int .u8 0, .int .u8 0, .int .u8 0, .int .u8 0, .int .u8 0, .int .u8 0, .int .u16 b, .int .u64 0, .int .u64 0, .bool true, .int .i64 L, .int .i64 D, .slice va 0 vc] 31) := ⟨_, rfl⟩
      obtain ⟨q, hq⟩ : ∃ x, x = w7.heap.size := ⟨_, rfl⟩
      rw [← hw8, ← hq] at HS8
      rw [← hw8, ← hq]
      clear hw8 hq HS7
      have k0 := (HS8.out.blk 0 rfl).cell 0 rfl
      have k1 := (HS8.out.blk 0 rfl).cell 1 rfl
      have k2 := (HS8.out.blk 0 rfl).cell 2 rfl
      have k3 := (HS8.out.blk 0 rfl).cell 3 rfl
      have k4 := (HS8.out.blk 0 rfl).cell 4 rfl
      have k5 := (HS8.out.blk 0 rfl).cell 5 rfl
      have k6 := (HS8.out.blk 0 rfl).cell 6 rfl
      have k7 := (HS8.out.blk 0 rfl).cell 7 rfl
      have k8 := (HS8.out.blk 0 rfl).cell 8 rfl
      have k9 := (HS8.out.blk 0 rfl).cell 9 rfl
      have k10 := (HS8.out.blk 0 rfl).cell 10 rfl
      have k11 := (HS8.out.blk 0 rfl).cell 11 rfl
      have k12 := (HS8.out.blk 0 rfl).cell 12 rfl
      have k13 := (HS8.out.blk 0 rfl).cell 13 rfl
      have k14 := (HS8.out.blk 0 rfl).cell 14 rfl
      have HFl2 := Lib.hid (HFl.out w8 va vc HS8.out.frm hn7)
      clear HFl hn7
      go_wp2_with fail
      clear k0 k1 k2 k3 k4 k5 k6 k7 k8 k9 k10 k11 k12 k13 k14
      refine HFl2.out.mono ?_
      rintro e w9 ⟨fa, fn, fc, rfl, hS⟩
      have HS9 := Lib.hid (show Sep [] w w9 [blkR q 31 #[.int .u8 0, .int .u8 0, .int .u8 0, .int .u8 0, .int .u8 0, .int .u8 0, .int .u8 0, .int .u8 0, .int .u16 b, .int .u64 0, .int .u64 0, .bool true, .int .i64 L, .int .i64 D, .slice va 0 vc], blkR p 31 #[.int .u8 0, .int .u8 0, .int .u8 0, .int .u8 0, .int .u8 0, .int .u8 0, .int .u8 0, .int .u8 0, .int .u16 b, .int .u64 0, .int .u64 0, .bool true, .int .i64 L, .int .i64 D, .slice none 0 0]] from HS8.out.keep hS.frm)
      clear hS HS8 HFl2
      obtain ⟨R, hR⟩ : ∃ R, R = flX (fixP b L D) := ⟨_, rfl⟩
      rw [← hR]
      clear hR
      obtain ⟨Rh0, Rh1, Rh2, Rh3, Rh4, Rh5, Rh6, Rh7, Rb, Rh, Rl, RB⟩ := R
      simp only [Rp.val, Rp.cells]
      go_upto_region 20 with fail
      have HS10 := Lib.hid (HS9.out.skip (.cells #[.int .u8 Rh0, .int .u8 Rh1, .int .u8 Rh2, .int .u8 Rh3, .int .u8 Rh4, .int .u8 Rh5, .int .u8 Rh6, .int .u8 Rh7, .int .u16 Rb, .int .u64 (Rh : Int), .int .u64 (Rl : Int), .slice fa fn fc] 48))
      obtain ⟨w10, hw10⟩ : ∃ x, x = w9.alloc (.cells #[.int .u8 Rh0, .int .u8 Rh1, .int .u8 Rh2, .int .u8 Rh3, .int .u8 Rh4, .int .u8 Rh5, .int .u8 Rh6, .int .u8 Rh7, .int .u16 Rb, .int .u64 (Rh : Int), .int .u64 (Rl : Int), .slice fa fn fc] 48) := ⟨_, rfl⟩
      rw [← hw10] at HS10
      rw [← hw10]
      clear hw10 HS9
      have j0 := (HS10.out.blk 0 rfl).cell 0 rfl
      have j1 := (HS10.out.blk 0 rfl).cell 1 rfl
      have j2 := (HS10.out.blk 0 rfl).cell 2 rfl
      have j3 := (HS10.out.blk 0 rfl).cell 3 rfl
      have j4 := (HS10.out.blk 0 rfl).cell 4 rfl
      have j5 := (HS10.out.blk 0 rfl).cell 5 rfl
      have j6 := (HS10.out.blk 0 rfl).cell 6 rfl
      have j7 := (HS10.out.blk 0 rfl).cell 7 rfl
      have j8 := (HS10.out.blk 0 rfl).cell 8 rfl
      have j9 := (HS10.out.blk 0 rfl).cell 9 rfl
      have j10 := (HS10.out.blk 0 rfl).cell 10 rfl
      have j11 := (HS10.out.blk 0 rfl).cell 11 rfl
      have j12 := (HS10.out.blk 0 rfl).cell 12 rfl
      have j13 := (HS10.out.blk 0 rfl).cell 13 rfl
      have j14 := (HS10.out.blk 0 rfl).cell 14 rfl
      have k0 := (HS10.out.blk 1 rfl).cell 0 rfl
      have k1 := (HS10.out.blk 1 rfl).cell 1 rfl
      have k2 := (HS10.out.blk 1 rfl).cell 2 rfl
      have k3 := (HS10.out.blk 1 rfl).cell 3 rfl
      have k4 := (HS10.out.blk 1 rfl).cell 4 rfl
      have k5 := (HS10.out.blk 1 rfl).cell 5 rfl
      have k6 := (HS10.out.blk 1 rfl).cell 6 rfl
      have k7 := (HS10.out.blk 1 rfl).cell 7 rfl
      have k8 := (HS10.out.blk 1 rfl).cell 8 rfl
      have k9 := (HS10.out.blk 1 rfl).cell 9 rfl
      have k10 := (HS10.out.blk 1 rfl).cell 10 rfl
      have k11 := (HS10.out.blk 1 rfl).cell 11 rfl
      have k12 := (HS10.out.blk 1 rfl).cell 12 rfl
      have k13 := (HS10.out.blk 1 rfl).cell 13 rfl
      have k14 := (HS10.out.blk 1 rfl).cell 14 rfl
      have HSm2 := Lib.hid (HSm.out w10 va vc)
      clear HSm
      go_wp2_with fail
      clear k0 k1 k2 k3 k4 k5 k6 k7 k8 k9 k10 k11 k12 k13 k14 j0 j1 j2 j3 j4 j5 j6 j7 j8 j9 j10 j11 j12 j13 j14
      refine HSm2.out.mono ?_
      rintro e w11 ⟨rfl, hf⟩
      have HF11 := Lib.hid (HS10.out.frm.trans hf)
      clear hf HSm2 HS10
      go_wp2_with fail
      go_ret
      exact ⟨rfl, HF11.out.below⟩
theorem flexGrids_f {w : World} (hT : Tabs w) (b : Int) (w0 : (Lit.int .u16 b).wf = true) (l : Int) (w1 : (Lit.int .i64 l).wf = true) (d : Int) (w2 : (Lit.int .i64 d).wf = true) (y : Int) (w3 : (Lit.int .u16 y).wf = true) :
    Calls Tryd.prog 7 #[.int .u16 b, .int .i64 l, .int .i64 d, .int .u16 y] w fun e w' => e = .returned (.bool true) ∧ Below w.heap.size w w' :=
  flexGrids_w w hT b l d y (by simpa [Lit.wf, IntKind.min, IntKind.max, IntKind.bits, IntKind.signed] using w0) (by simpa [Lit.wf, IntKind.min, IntKind.max, IntKind.bits, IntKind.signed] using w3)

end Go.Proofs.YtnloabpdjedanaaDoor
