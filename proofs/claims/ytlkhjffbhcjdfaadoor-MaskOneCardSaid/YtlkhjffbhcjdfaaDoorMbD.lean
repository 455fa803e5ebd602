/-
  THE WALK of MaskOne. Printed by gen_mbd.py.
-/
import Derived.Test.YtlkhjffbhcjdfaaDoorMbC
import Derived.Test.YtlkhjffbhcjdfaaDoorMix
set_option linter.unusedVariables false
set_option linter.unusedSimpArgs false
namespace Go.Proofs.YtlkhjffbhcjdfaaDoor
open Go.RowKit

set_option maxRecDepth 100000 in
set_option maxHeartbeats 16000000 in
theorem maskOne_w (w : World) (hT : Tabs w) (h l : Nat) (h0 : h < 18446744073709551616) (h1 : l < 18446744073709551616) (i : Int) (hi : -9223372036854775808 ≤ i ∧ i ≤ 9223372036854775807) (n : Int)
    (az : Option Addr) (cz : Nat) (zs : List Int) (lz : zs.length ≤ maxLen) (rz : RdZ w az zs) (wz : ∀ x ∈ zs, -9223372036854775808 ≤ x ∧ x ≤ 9223372036854775807) :
    Calls Tryd.prog 3 #[.int .u64 (h : Int), .int .u64 (l : Int), .int .i64 i, .int .i64 n, .slice az zs.length cz] w fun e w' => e = .returned (.bool true) ∧ Below w.heap.size w w' := by
  have hnot : ∀ (x : Bool) (w : World), (Op.unary .not (.bool x)).run Tryd.prog w = .ok (.bool (!x)) w := fun _ _ => rfl
  have HT := Lib.hid hT
  have HB := Lib.hid (And.intro h0 h1)
  have HZ := Lib.hid rz
  have HWz := Lib.hid wz
  have HIr := Lib.hid hi
  obtain ⟨Z, hZ⟩ : ∃ Z, Z = zs.length := ⟨_, rfl⟩
  have HZn := Lib.hid hZ
  rw [← hZ] at lz ⊢
  unfold maxLen at lz
  clear hT h0 h1 hi rz wz hZ
  go_enter Tryd.func3, Tryd.ntmps3
  go_wp2_with fail
  refine (alive_c _ HT.out).mono ?_
  rintro e w1 ⟨rfl, hf⟩
  have HF1 := Lib.hid hf
  clear hf
  by_cases hbig : 200 < Z
  · have b1 : decide ((Z : Int) > 200) = true := decide_eq_true (by omega)
    have b2 : decide ((200 : Int) < (Z : Int)) = true := decide_eq_true (by omega)
    clear hbig
    go_wp2_with fail
    go_ret
    exact ⟨rfl, HF1.out.below⟩
  have b1 : decide ((Z : Int) > 200) = false := decide_eq_false (by omega)
  have b2 : decide ((200 : Int) < (Z : Int)) = false := decide_eq_false (by omega)
  have hz200 : Z ≤ 200 := by omega
  clear hbig lz
  have HOf := Lib.hid (fun X => rof_c h l X HB.out.1 HB.out.2)
  go_wp2_with fail
  refine (HOf.out _).mono ?_
  rintro e w2 ⟨ab, cb, rfl, hS⟩
  obtain ⟨a5, c5, he, hq1, hq2, hrb⟩ := rdB_own (hS.own 0 rfl)
  injection he with e1 e2 e3
  subst e1; subst e3
  have HRb := Lib.hid hrb
  have HF2 := Lib.hid (HF1.out.trans hS.frm)
  clear hS hq1 hq2 hrb e2 b1 b2
  go_upto_region 6 with fail
  obtain ⟨w3, hw3⟩ : ∃ w3, w3 = w2.alloc (.cells #[.int .u64 (h : Int), .int .u64 (l : Int)] 26) := ⟨_, rfl⟩
  obtain ⟨q, hq⟩ : ∃ q, q = w2.heap.size := ⟨_, rfl⟩
  have HMk := Lib.hid (show Blk w3 q 26 #[.int .u64 (h : Int), .int .u64 (l : Int)] from by rw [hw3, hq]; exact Blk.made _ _ _)
  have HF3 := Lib.hid (show Frm [] w w3 from by rw [hw3]; exact HF2.out.alloc _)
  have HRb3 := Lib.hid (show RdB w3 ab (bools h l) from by rw [hw3]; exact HRb.out.below (((Frm.refl [] w2).alloc _).below))
  rw [← hw3, ← hq]
  clear hw3 hq HRb HF2
  have hli := rlist_c ab cb (bools h l) w3 HRb3.out (bools_len128 h l)
  rw [liB_all] at hli
  have hfi := fiN_eq HB.out.1 HB.out.2
  have hla := laN_eq HB.out.1 HB.out.2
  have hcn := count_len h l
  have hrl := bools_len h l
  have hLz := fun X => list_z h l X HB.out.1 HB.out.2
  have hTx := fun X (hp : PowTab X) => text_c h l X HB.out.1 HB.out.2 hp
  have hrT := fun a c X (hr : RdB X a (bools h l)) (hp : PowTab X) => rtext_c a c (bools h l) X hr (bools_len128 h l) hp
  rw [liB_all] at hrT
  obtain ⟨R, hR⟩ : ∃ R, R = bitsOf h l := ⟨_, rfl⟩
  rw [← hR] at hli hfi hla hcn hrl hLz hTx hrT
  obtain ⟨N, hN⟩ : ∃ N, N = R.length := ⟨_, rfl⟩
  rw [← hN] at hli hcn hrl hLz
  have HN := Lib.hid hN
  have HLi := Lib.hid hli
  have HFi := Lib.hid hfi
  have HLa := Lib.hid hla
  have HCn := Lib.hid hcn
  have HLz := Lib.hid hLz
  have HTx := Lib.hid hTx
  have HrT := Lib.hid hrT
  clear hli hfi hla hcn hLz hTx hrT hR hN
  go_wp2_with fail
  refine HLi.out.mono ?_
  rintro e w4 ⟨aL, cL, rfl, _, hz, hf⟩
  have HRl := Lib.hid hz
  have HF34 := Lib.hid hf
  clear hz hf HLi
  go_upto_if 36 with fail
  obtain ⟨B, hB⟩ : ∃ B, B = decide (0 < N) := ⟨_, rfl⟩
  rw [← hB]
  have HBn := Lib.hid hB
  clear hB
  go_cut [14, 15] (fun x y wx => x = .int .i64 (firstOf R) ∧ y = .int .i64 (lastOf R) ∧ Frm [] w4 wx)
  case first =>
    by_cases hn0 : 0 < N
    · obtain rfl : B = true := by rw [HBn.out]; exact decide_eq_true hn0
      obtain ⟨x, hx, hfx⟩ := first_at (R := R) (by rw [← HN.out]; exact hn0)
      obtain ⟨y, hy, hly⟩ := last_at (R := R) (by rw [← HN.out]; exact hn0)
      rw [← HN.out] at hy
      have HFx := Lib.hid (And.intro hfx hly)
      obtain ⟨b, off, ha, _, hc⟩ := HRl.out 0 (.int .i64 (x : Int)) (by rw [List.getElem?_map, hx]; rfl)
      obtain ⟨b', off', ha', _, hc'⟩ := HRl.out (N - 1) (.int .i64 (y : Int)) (by rw [List.getElem?_map, hy]; rfl)
      rw [ha] at ha'
      injection ha' with ha'
      injection ha' with e1 e2
      subst e1; subst e2; subst ha
      rw [Nat.add_zero] at hc
      obtain ⟨M, hM⟩ : ∃ M, M = N - 1 := ⟨_, rfl⟩
      rw [← hM] at hc'
      have m1 : IntKind.i64.wrap ((N : Int) - 1) = (M : Int) := by rw [IntWalk.i64_in _ (by omega)]; omega
      have i0 : (0 : Int) < (N : Int) := by omega
      have i1 : (0 : Int) ≤ (M : Int) := by omega
      have i2 : (M : Int) < (N : Int) := by omega
      clear hx hy hfx hly hM
      go_wp2_with fail
      go_quiet (fail)
      go_wp2_with fail
      go_meet
      exact ⟨by rw [HFx.out.1], by rw [HFx.out.2], (Frm.refl _ _).drewN _⟩
    · obtain rfl : B = false := by rw [HBn.out]; exact decide_eq_false hn0
      have hR0 : R = [] := List.length_eq_zero_iff.1 (by rw [← HN.out]; omega)
      have HR0 := Lib.hid hR0
      clear hn0 hR0
      go_wp2_with fail
      go_meet
      exact ⟨by rw [HR0.out]; rfl, by rw [HR0.out]; rfl, Frm.refl _ _⟩
  case rest =>
    obtain ⟨rfl, rfl, hfc⟩ := hcut
    obtain ⟨w5, rfl⟩ : ∃ w5, w5 = wc := ⟨_, rfl⟩
    have HF35 := Lib.hid (HF34.out.trans hfc)
    have HRl5 := Lib.hid (HRl.out.below hfc.below)
    have HF5 := Lib.hid (HF3.out.trans HF35.out)
    have HMk5 := Lib.hid (HF35.out.blk HMk.out (by simp))
    have HRb5 := Lib.hid (HRb3.out.below HF35.out.below)
    have HZ5 := Lib.hid (HZ.out.below HF5.out.below)
    clear hfc HRl HF34 HMk HRb3 HF3 HF35 HF1 HZ
    obtain ⟨F, hF⟩ : ∃ F, F = firstOf R := ⟨_, rfl⟩
    obtain ⟨LA, hLA⟩ : ∃ LA, LA = lastOf R := ⟨_, rfl⟩
    rw [← hF, ← hLA]
    have HFL := Lib.hid (And.intro hF hLA)
    clear hF hLA
    go_wp2_with fail
    refine (HOf.out _).mono ?_
    rintro e w6 ⟨a6, c6, rfl, hS⟩
    obtain ⟨g6, rfl⟩ := own_addr2 (hS.own 0 rfl) (by decide)
    have HS6 := Lib.hid hS
    clear hS
    go_wp2_with fail
    refine (HOf.out _).mono ?_
    rintro e w7 ⟨a7, c7, rfl, hS⟩
    obtain ⟨g7, rfl⟩ := own_addr2 (hS.own 0 rfl) (by decide)
    have HS7 := Lib.hid (show Sep [] w5 w7 [ownR 4 1 (.slice (some ⟨g7, 0, none⟩) 128 c7) 128 ((bools h l).map Value.bool), ownR 4 1 (.slice (some ⟨g6, 0, none⟩) 128 c6) 128 ((bools h l).map Value.bool)] from HS6.out.more hS)
    clear hS HS6
    go_upto_region 11 with fail
    go_cut [57] (fun v wx => v = .bool (decide (0 ≤ i ∧ i < 128)) ∧ wx = w7)
    case first =>
      by_cases hc1 : 0 ≤ i
      · have b1 : decide (i ≥ 0) = true := decide_eq_true hc1
        have b3 : decide (0 ≤ i) = true := decide_eq_true hc1
        have he : decide (0 ≤ i ∧ i < 128) = decide (i < 128) := decide_eq_decide.2 ⟨fun h => h.2, fun h => ⟨hc1, h⟩⟩
        have HE := Lib.hid he
        clear hc1 he
        go_wp2_with fail
        go_meet
        exact ⟨by rw [HE.out], rfl⟩
      · have b1 : decide (i ≥ 0) = false := decide_eq_false hc1
        have b3 : decide (0 ≤ i) = false := decide_eq_false hc1
        have he : decide (0 ≤ i ∧ i < 128) = false := decide_eq_false (fun h => hc1 h.1)
        have HE := Lib.hid he
        clear hc1 he
        go_wp2_with fail
        go_meet
        exact ⟨by rw [HE.out], rfl⟩
    case rest =>
    obtain ⟨rfl, hw⟩ := hcut
    have hw2 := hw.symm
    clear hw
    subst hw2
    obtain ⟨B, hB⟩ : ∃ B, B = decide (0 ≤ i ∧ i < 128) := ⟨_, rfl⟩
    rw [← hB]
    have HBi := Lib.hid hB
    clear hB
    go_upto_if 57 with fail
    go_cut [] (fun wx => Sep [] w5 wx [ownR 4 1 (.slice (some ⟨g7, 0, none⟩) 128 c7) 128 ((bools (h &&& (18446744073709551615 - bH i)) (l &&& (18446744073709551615 - bL i))).map Value.bool), ownR 4 1 (.slice (some ⟨g6, 0, none⟩) 128 c6) 128 ((bools (h ||| bH i) (l ||| bL i)).map Value.bool)])
    case first =>
      by_cases hin : 0 ≤ i ∧ i < 128
      · obtain rfl : B = true := by rw [HBi.out]; exact decide_eq_true hin
        obtain ⟨k, rfl⟩ := Int.eq_ofNat_of_zero_le hin.1
        have hk : k < 128 := by omega
        have k0 : (0 : Int) ≤ (k : Int) := by omega
        have k1 : (k : Int) < 128 := by omega
        have b1 : decide ((k : Int) ≥ 0) = true := decide_eq_true k0
        have hv : ((bools h l).map Value.bool)[k]? = some (.bool (bt h l k)) := by rw [List.getElem?_map, bools_at hk]; rfl
        obtain ⟨x, hx⟩ : ∃ x, x = bt h l k := ⟨_, rfl⟩
        rw [← hx] at hv
        have d0 := own_cell2 (HS7.out.own 1 rfl) hv
        have d1 := own_free (HS7.out.own 1 rfl) k
        have h5 := own_set (HS7.out.own 1 rfl) k (.bool true) hk
        rw [← List.map_set, set_with h l k hk] at h5
        have hX := HS7.out.grow 1 rfl (grown_put (grown_refl w7 _) k (.bool true)) h5 (.inl rfl)
        have c0 := own_cell2 (hX.own 0 rfl) hv
        have c1 := own_free (hX.own 0 rfl) k
        have h6 := own_set (hX.own 0 rfl) k (.bool false) hk
        rw [← List.map_set, set_less h l k hk] at h6
        have HX2 := Lib.hid (hX.grow 0 rfl (grown_put (grown_refl _ _) k (.bool false)) h6 (.inl rfl))
        clear hin hk hv hx h5 h6 hX HS7
        go_wp2_with fail
        go_meet
        exact HX2.out
      · have e1 := out_with (h := h) (l := l) i hin
        have e2 := out_less HB.out.1 HB.out.2 i hin
        have HE := Lib.hid (And.intro e1 e2)
        obtain rfl : B = false := by rw [HBi.out]; exact decide_eq_false hin
        clear e1 e2 hin
        go_wp2_with fail
        go_meet
        rw [HE.out.1, HE.out.2]
        exact HS7.out
    case rest =>
      have HS8 := Lib.hid hcut
      clear hcut HS7
      have hfr := rfrom_c none 0 [] wc (RdV.nil _ _) (by simp)
      rw [frB_nil, ← fuB_zero n] at hfr
      have HFr := Lib.hid hfr
      clear hfr
      go_wp2_with fail
      refine HFr.out.mono ?_
      rintro e w8 ⟨a8, c8, rfl, hS⟩
      obtain ⟨g8, rfl⟩ := own_addr2 (hS.own 0 rfl) (by decide)
      have HS9 := Lib.hid (show Sep [] w5 w8 [ownR 4 1 (.slice (some ⟨g8, 0, none⟩) 128 c8) 128 ((fuB n 0).map Value.bool), ownR 4 1 (.slice (some ⟨g7, 0, none⟩) 128 c7) 128 ((bools (h &&& (18446744073709551615 - bH i)) (l &&& (18446744073709551615 - bL i))).map Value.bool), ownR 4 1 (.slice (some ⟨g6, 0, none⟩) 128 c6) 128 ((bools (h ||| bH i) (l ||| bL i)).map Value.bool)] from HS8.out.more hS)
      clear hS HS8 HFr
      go_wp2_with fail
      refine (HOf.out _).mono ?_
      rintro e w9 ⟨a9, c9, rfl, hS⟩
      obtain ⟨g9, rfl⟩ := own_addr2 (hS.own 0 rfl) (by decide)
      have HS10 := Lib.hid (show Sep [] w5 w9 [ownR 4 1 (.slice (some ⟨g9, 0, none⟩) 128 c9) 128 ((ctB h l n 0).map Value.bool), ownR 4 1 (.slice (some ⟨g8, 0, none⟩) 128 c8) 128 ((fuB n 0).map Value.bool), ownR 4 1 (.slice (some ⟨g7, 0, none⟩) 128 c7) 128 ((bools (h &&& (18446744073709551615 - bH i)) (l &&& (18446744073709551615 - bL i))).map Value.bool), ownR 4 1 (.slice (some ⟨g6, 0, none⟩) 128 c6) 128 ((bools (h ||| bH i) (l ||| bL i)).map Value.bool)] from by rw [ctB_zero]; exact HS9.out.more hS)
      clear hS HS9 HOf
      go_wp2_with fail
      go_loopw [70] (fun t wr => ∃ j : Nat, j ≤ 128 ∧ t = .int .i64 (j : Int) ∧ Sep [] w5 wr [ownR 4 1 (.slice (some ⟨g9, 0, none⟩) 128 c9) 128 ((ctB h l n j).map Value.bool), ownR 4 1 (.slice (some ⟨g8, 0, none⟩) 128 c8) 128 ((fuB n j).map Value.bool), ownR 4 1 (.slice (some ⟨g7, 0, none⟩) 128 c7) 128 ((bools (h &&& (18446744073709551615 - bH i)) (l &&& (18446744073709551615 - bL i))).map Value.bool), ownR 4 1 (.slice (some ⟨g6, 0, none⟩) 128 c6) 128 ((bools (h ||| bH i) (l ||| bL i)).map Value.bool)]) (fun t _ => 128 - (intOf t).toNat)
      case atStart => exact ⟨0, by omega, rfl, HS10.out⟩
      case round =>
        obtain ⟨j, hj, rfl, hS⟩ := hrel
        have HS := Lib.hid hS
        clear hS
        by_cases hlt : j < 128
        · have i0 : (0 : Int) ≤ (j : Int) := by omega
          have i1 : (j : Int) < 128 := by omega
          obtain ⟨x, hx⟩ : ∃ x, x = bt h l j := ⟨_, rfl⟩
          obtain ⟨y, hy⟩ : ∃ y, y = decide ((j : Int) < n) := ⟨_, rfl⟩
          have b1 : decide ((j : Int) < n) = y := hy.symm
          obtain ⟨vb, hv⟩ : ∃ vb, ((fuB n j).map Value.bool)[j]? = some (.bool vb) := ⟨_, by rw [List.getElem?_map, fuB_at n j hlt]; rfl⟩
          have hv2 : ((ctB h l n j).map Value.bool)[j]? = some (.bool x) := by rw [List.getElem?_map, ctB_cur h l n j hlt, hx]; rfl
          have d0 := own_cell2 (HS.out.own 1 rfl) hv
          have d1 := own_free (HS.out.own 1 rfl) j
          have h5 := own_set (HS.out.own 1 rfl) j (.bool y) hlt
          have es := fuB_succ n j hlt
          have et := ctB_succ h l n j hlt
          rw [← hy] at es et
          rw [← hx] at et
          rw [← List.map_set, ← es] at h5
          have hX := HS.out.grow 1 rfl (grown_put (grown_refl wr _) j (.bool y)) h5 (.inl rfl)
          have c0 := own_cell2 (hX.own 0 rfl) hv2
          have c1 := own_free (hX.own 0 rfl) j
          have h6 := own_set (hX.own 0 rfl) j (.bool (x && y)) hlt
          rw [← List.map_set, ← et] at h6
          have HX2 := Lib.hid (hX.grow 0 rfl (grown_put (grown_refl _ _) j (.bool (x && y))) h6 (.inl rfl))
          clear hx hy hv hv2 h5 h6 hX HS es et HS10
          cases x
          all_goals
            simp only [Bool.false_and, Bool.true_and] at HX2
            go_wp2_with fail
            go_roundw
            case rel => exact ⟨j + 1, by omega, by go_num, HX2.out⟩
            case measure => simp [intOf]; omega
        · obtain rfl : j = 128 := by omega
          rw [fuB_all, ctB_all] at HS
          clear HS10
          go_upto_region 21 with fail
          obtain ⟨h0, h1⟩ := HB.out
          have HFr := Lib.hid HS.out.frm
          have HMq := Lib.hid (fun X (hf : Frm [] wr X) => (show X.cell? ⟨q, 0, none⟩ = some (.int .u64 (h : Int)) ∧ X.cell? ⟨q, 1, none⟩ = some (.int .u64 (l : Int)) from ⟨((HFr.out.trans hf).blk HMk5.out (by simp)).cell 0 rfl, ((HFr.out.trans hf).blk HMk5.out (by simp)).cell 1 rfl⟩))
          have hrb := fun X (hf : Frm [] wr X) => HRb5.out.below (HFr.out.trans hf).below
          have hrl5 := fun X (hf : Frm [] wr X) => HRl5.out.below (HFr.out.trans hf).below
          have hz5 := fun X (hf : Frm [] wr X) => HZ5.out.below (HFr.out.trans hf).below
          have htb := fun X (hf : Frm [] wr X) => HT.out.frm ((HF5.out.trans HFr.out).trans hf)
          obtain ⟨z6, y6, he6, hq1, hq2, hr6⟩ := rdB_own (HS.out.own 3 rfl)
          injection he6 with e1 e2 e3
          subst e1; subst e3
          clear hq1 hq2 e2
          have ho6 := fun X (hf : Frm [] wr X) => hr6.below hf.below
          obtain ⟨z7, y7, he7, hq1, hq2, hr7⟩ := rdB_own (HS.out.own 2 rfl)
          injection he7 with e1 e2 e3
          subst e1; subst e3
          clear hq1 hq2 e2
          have ho7 := fun X (hf : Frm [] wr X) => hr7.below hf.below
          obtain ⟨z8, y8, he8, hq1, hq2, hr8⟩ := rdB_own (HS.out.own 1 rfl)
          injection he8 with e1 e2 e3
          subst e1; subst e3
          clear hq1 hq2 e2
          have ho8 := fun X (hf : Frm [] wr X) => hr8.below hf.below
          obtain ⟨z9, y9, he9, hq1, hq2, hr9⟩ := rdB_own (HS.out.own 0 rfl)
          injection he9 with e1 e2 e3
          subst e1; subst e3
          clear hq1 hq2 e2
          have ho9 := fun X (hf : Frm [] wr X) => hr9.below hf.below
          have wH := or_lt h0 (bH_lt i)
          have wL := or_lt h1 (bL_lt i)
          have C0 := fun X (_ : Frm [] wr X) => has_c h l i X h0 h1 HIr.out.1 HIr.out.2
          rw [has_bt, ← hasB_bools] at C0
          have C1 := fun X (hf : Frm [] wr X) => rhas_c ab cb (bools h l) i X (hrb X hf) (bools_len128 h l)
          obtain ⟨v0, hv0⟩ : ∃ v, v = hasB (bools h l) i := ⟨_, rfl⟩
          simp only [← hv0] at C0 C1
          have C2 := fun X (_ : Frm [] wr X) => with_c h l i X h0 h1 HIr.out.1 HIr.out.2
          have C3 := fun X (hf : Frm [] wr X) => is_c _ _ _ c6 X (or_lt h0 (bH_lt i)) (or_lt h1 (bL_lt i)) (ho6 X hf)
          have C4 := fun X (_ : Frm [] wr X) => without_c h l i X h0 h1 HIr.out.1 HIr.out.2
          have C5 := fun X (hf : Frm [] wr X) => is_c _ _ _ c7 X (less_lt _ _ h0) (less_lt _ _ h1) (ho7 X hf)
          have C6 := fun X (_ : Frm [] wr X) => count_c h l X h0 h1
          rw [← HCn.out] at C6
          have C7 := fun X (_ : Frm [] wr X) => first_c h l X h0 h1
          rw [HFi.out, ← HFL.out.1] at C7
          have C8 := fun X (hf : Frm [] wr X) => last_c h l X h0 h1 (htb X hf).1.1 (htb X hf).1.2
          rw [HLa.out, ← HFL.out.2] at C8
          have C9 := fun X (_ : Frm [] wr X) => HLz.out X
          have hfl : (fwL R).length = N := by rw [HN.out]; simp [fwL]
          have C10 := fun al cl X (hf : Frm [] wr X) (hz : RdZ X al (fwL R)) => sameInts_t al cl aL cL (fwL R) X hz (hrl5 X hf) (by omega)
          rw [hfl] at C10
          have C11 := fun X (_ : Frm [] wr X) => down_c h l n X h0 h1
          have C12 := fun X (_ : Frm [] wr X) => rheld_c n (-200) 200 X
          have hg := held_in n (-200) 200 (by omega)
          have dnb := dnB_all h0 h1 n
          obtain ⟨G, hG⟩ : ∃ G, G = held n (-200) 200 := ⟨_, rfl⟩
          simp only [← hG] at C12 hg dnb
          have C13 := fun X (hf : Frm [] wr X) => rdown_c ab cb (bools h l) G X (hrb X hf) (bools_len128 h l) hg
          simp only [dnb] at C13
          have C14 := fun a c X (hr : RdB X a (bools (dwH h l n) (dwL h l n))) => is_c (dwH h l n) (dwL h l n) a c X (dwH_lt _ _ _ h0 h1) (dwL_lt _ _ _ h0 h1) hr
          have C15 := fun X (_ : Frm [] wr X) => full_c n X
          have C16 := fun X (hf : Frm [] wr X) => is_c _ _ _ c8 X (fuH_lt n) (fuL_lt n) (ho8 X hf)
          have C17 := fun X (_ : Frm [] wr X) => cut_c h l n X h0 h1
          have C18 := fun X (hf : Frm [] wr X) => is_c _ _ _ c9 X (less_lt _ _ h0) (less_lt _ _ h1) (ho9 X hf)
          have C19 := fun X (hf : Frm [] wr X) => HTx.out X (htb X hf).2
          have C20 := fun X (hf : Frm [] wr X) => HrT.out ab cb X (hrb X hf) (htb X hf).2
          obtain ⟨T, hTT⟩ : ∃ T, T = txB R := ⟨_, rfl⟩
          simp only [← hTT] at C19 C20
          have hz2 : zs.length ≤ 1000000 := by rw [← HZn.out]; omega
          have C21 := fun X (hf : Frm [] wr X) => of_c az cz zs X (hz5 X hf) hz2 HWz.out
          have C22 := fun X (hf : Frm [] wr X) => rfrom_c az cz zs X (hz5 X hf) hz2
          rw [← HZn.out] at C21 C22
          simp only [frB_all] at C22
          have C23 := fun a c X (hr : RdB X a (bools (ofH zs) (ofL zs))) => is_c (ofH zs) (ofL zs) a c X (ofH_lt _) (ofL_lt _) hr
          unfold mV at C0 C2 C4 C6 C7 C8 C11 C15 C17 C19 C21
          unfold ag at C3 C5 C9 C14 C16 C18 C23
          obtain ⟨dH, qdH⟩ : ∃ x, x = dwH h l n := ⟨_, rfl⟩
          simp only [← qdH] at C11 C13 C14
          obtain ⟨dL, qdL⟩ : ∃ x, x = dwL h l n := ⟨_, rfl⟩
          simp only [← qdL] at C11 C13 C14
          obtain ⟨kH, qkH⟩ : ∃ x, x = h &&& fuH n := ⟨_, rfl⟩
          simp only [← qkH] at C17 C18
          obtain ⟨kL, qkL⟩ : ∃ x, x = l &&& fuL n := ⟨_, rfl⟩
          simp only [← qkL] at C17 C18
          obtain ⟨fH, qfH⟩ : ∃ x, x = fuH n := ⟨_, rfl⟩
          simp only [← qfH] at C15 C16
          obtain ⟨fL, qfL⟩ : ∃ x, x = fuL n := ⟨_, rfl⟩
          simp only [← qfL] at C15 C16
          obtain ⟨pH, qpH⟩ : ∃ x, x = h ||| bH i := ⟨_, rfl⟩
          simp only [← qpH] at C2 C3
          obtain ⟨pL, qpL⟩ : ∃ x, x = l ||| bL i := ⟨_, rfl⟩
          simp only [← qpL] at C2 C3
          obtain ⟨sH, qsH⟩ : ∃ x, x = h &&& (18446744073709551615 - bH i) := ⟨_, rfl⟩
          simp only [← qsH] at C4 C5
          obtain ⟨sL, qsL⟩ : ∃ x, x = l &&& (18446744073709551615 - bL i) := ⟨_, rfl⟩
          simp only [← qsL] at C4 C5
          obtain ⟨oH, qoH⟩ : ∃ x, x = ofH zs := ⟨_, rfl⟩
          simp only [← qoH] at C21 C22 C23
          obtain ⟨oL, qoL⟩ : ∃ x, x = ofL zs := ⟨_, rfl⟩
          simp only [← qoL] at C21 C22 C23
          have K0 := Lib.hid C0
          have K1 := Lib.hid C1
          have K2 := Lib.hid C2
          have K3 := Lib.hid C3
          have K4 := Lib.hid C4
          have K5 := Lib.hid C5
          have K6 := Lib.hid C6
          have K7 := Lib.hid C7
          have K8 := Lib.hid C8
          have K9 := Lib.hid C9
          have K10 := Lib.hid C10
          have K11 := Lib.hid C11
          have K12 := Lib.hid C12
          have K13 := Lib.hid C13
          have K14 := Lib.hid C14
          have K15 := Lib.hid C15
          have K16 := Lib.hid C16
          have K17 := Lib.hid C17
          have K18 := Lib.hid C18
          have K19 := Lib.hid C19
          have K20 := Lib.hid C20
          have K21 := Lib.hid C21
          have K22 := Lib.hid C22
          have K23 := Lib.hid C23
          clear C0 C1 C2 C3 C4 C5 C6 C7 C8 C9 C10 C11 C12 C13 C14 C15 C16 C17 C18 C19 C20 C21 C22 C23 hrb hrl5 hz5 htb hr6 hr7 hr8 hr9 ho6 ho7 ho8 ho9 wH wL hfl hg hz2 h0 h1 hv0 hG hTT dnb qdH qdL qkH qkL qfH qfL qpH qpL qsH qsL qoH qoL
          have HFw := Lib.hid (HF5.out.trans HFr.out)
          clear HS HFr HMk5 HRb5 HRl5 HZ5 HT HF5 HWz HIr HZn HN HFi HLa HCn HLz HTx HrT HFL HB
          obtain ⟨x0, hx0⟩ : ∃ x0, x0 = wr := ⟨_, rfl⟩
          have HC := Lib.hid (show Frm [] wr x0 from by rw [hx0]; exact Frm.refl _ _)
          rw [← hx0]
          clear hx0
          obtain ⟨c0, c1⟩ := HMq.out x0 HC.out
          go_wp2_with fail
          refine (K0.out x0 HC.out).mono ?_
          rintro e x1 ⟨rfl, hf⟩
          replace HC := Lib.hid (HC.out.trans hf)
          clear hf
          clear c0 c1
          obtain ⟨c0, c1⟩ := HMq.out x1 HC.out
          go_wp2_with fail
          refine (K1.out x1 HC.out).mono ?_
          rintro e x2 ⟨rfl, rfl⟩
          clear c0 c1
          obtain ⟨c0, c1⟩ := HMq.out x1 HC.out
          go_wp2_with fail
          refine (K2.out x1 HC.out).mono ?_
          rintro e x2 ⟨rfl, hf⟩
          replace HC := Lib.hid (HC.out.trans hf)
          clear hf
          clear c0 c1
          obtain ⟨c0, c1⟩ := HMq.out x2 HC.out
          go_wp2_with fail
          refine (K3.out x2 HC.out).mono ?_
          rintro e x3 ⟨rfl, hf⟩
          replace HC := Lib.hid (HC.out.trans hf)
          clear hf
          clear c0 c1
          obtain ⟨c0, c1⟩ := HMq.out x3 HC.out
          go_wp2_with fail
          refine (K4.out x3 HC.out).mono ?_
          rintro e x4 ⟨rfl, hf⟩
          replace HC := Lib.hid (HC.out.trans hf)
          clear hf
          clear c0 c1
          obtain ⟨c0, c1⟩ := HMq.out x4 HC.out
          go_wp2_with fail
          refine (K5.out x4 HC.out).mono ?_
          rintro e x5 ⟨rfl, hf⟩
          replace HC := Lib.hid (HC.out.trans hf)
          clear hf
          clear c0 c1
          obtain ⟨c0, c1⟩ := HMq.out x5 HC.out
          go_wp2_with fail
          refine (K6.out x5 HC.out).mono ?_
          rintro e x6 ⟨rfl, hf⟩
          replace HC := Lib.hid (HC.out.trans hf)
          clear hf
          clear c0 c1
          obtain ⟨c0, c1⟩ := HMq.out x6 HC.out
          go_wp2_with fail
          refine (K7.out x6 HC.out).mono ?_
          rintro e x7 ⟨rfl, hf⟩
          replace HC := Lib.hid (HC.out.trans hf)
          clear hf
          clear c0 c1
          obtain ⟨c0, c1⟩ := HMq.out x7 HC.out
          go_wp2_with fail
          refine (K8.out x7 HC.out).mono ?_
          rintro e x8 ⟨rfl, hf⟩
          replace HC := Lib.hid (HC.out.trans hf)
          clear hf
          clear c0 c1
          obtain ⟨c0, c1⟩ := HMq.out x8 HC.out
          go_wp2_with fail
          refine (K9.out x8 HC.out).mono ?_
          rintro e x9 ⟨al, cl, rfl, _, hz, hf⟩
          have HZl := Lib.hid hz
          replace HC := Lib.hid (HC.out.trans hf)
          clear hz hf
          clear c0 c1
          obtain ⟨c0, c1⟩ := HMq.out x9 HC.out
          go_wp2_with fail
          refine (K10.out al cl x9 HC.out HZl.out).mono ?_
          rintro e x10 ⟨rfl, hf⟩
          replace HC := Lib.hid (HC.out.trans hf)
          clear hf HZl
          clear c0 c1
          obtain ⟨c0, c1⟩ := HMq.out x10 HC.out
          go_wp2_with fail
          refine (K11.out x10 HC.out).mono ?_
          rintro e x11 ⟨rfl, hf⟩
          replace HC := Lib.hid (HC.out.trans hf)
          clear hf
          clear c0 c1
          obtain ⟨c0, c1⟩ := HMq.out x11 HC.out
          go_wp2_with fail
          refine (K12.out x11 HC.out).mono ?_
          rintro e x12 ⟨rfl, rfl⟩
          clear c0 c1
          obtain ⟨c0, c1⟩ := HMq.out x11 HC.out
          go_wp2_with fail
          refine (K13.out x11 HC.out).mono ?_
          rintro e x12 ⟨ad, cd, rfl, hr, hf⟩
          have HRd := Lib.hid hr
          replace HC := Lib.hid (HC.out.trans hf)
          clear hr hf
          clear c0 c1
          obtain ⟨c0, c1⟩ := HMq.out x12 HC.out
          go_wp2_with fail
          refine (K14.out _ _ x12 HRd.out).mono ?_
          rintro e x13 ⟨rfl, hf⟩
          replace HC := Lib.hid (HC.out.trans hf)
          clear hf HRd
          clear c0 c1
          obtain ⟨c0, c1⟩ := HMq.out x13 HC.out
          go_wp2_with fail
          refine (K15.out x13 HC.out).mono ?_
          rintro e x14 ⟨rfl, hf⟩
          replace HC := Lib.hid (HC.out.trans hf)
          clear hf
          clear c0 c1
          obtain ⟨c0, c1⟩ := HMq.out x14 HC.out
          go_wp2_with fail
          refine (K16.out x14 HC.out).mono ?_
          rintro e x15 ⟨rfl, hf⟩
          replace HC := Lib.hid (HC.out.trans hf)
          clear hf
          clear c0 c1
          obtain ⟨c0, c1⟩ := HMq.out x15 HC.out
          go_wp2_with fail
          refine (K17.out x15 HC.out).mono ?_
          rintro e x16 ⟨rfl, hf⟩
          replace HC := Lib.hid (HC.out.trans hf)
          clear hf
          clear c0 c1
          obtain ⟨c0, c1⟩ := HMq.out x16 HC.out
          go_wp2_with fail
          refine (K18.out x16 HC.out).mono ?_
          rintro e x17 ⟨rfl, hf⟩
          replace HC := Lib.hid (HC.out.trans hf)
          clear hf
          clear c0 c1
          obtain ⟨c0, c1⟩ := HMq.out x17 HC.out
          go_wp2_with fail
          refine (K19.out x17 HC.out).mono ?_
          rintro e x18 ⟨rfl, hf⟩
          replace HC := Lib.hid (HC.out.trans hf)
          clear hf
          clear c0 c1
          obtain ⟨c0, c1⟩ := HMq.out x18 HC.out
          go_wp2_with fail
          refine (K20.out x18 HC.out).mono ?_
          rintro e x19 ⟨rfl, hf⟩
          replace HC := Lib.hid (HC.out.trans hf)
          clear hf
          clear c0 c1
          obtain ⟨c0, c1⟩ := HMq.out x19 HC.out
          go_wp2_with fail
          refine (K21.out x19 HC.out).mono ?_
          rintro e x20 ⟨rfl, hf⟩
          replace HC := Lib.hid (HC.out.trans hf)
          clear hf
          clear c0 c1
          obtain ⟨c0, c1⟩ := HMq.out x20 HC.out
          go_wp2_with fail
          refine (K22.out x20 HC.out).mono ?_
          rintro e x21 ⟨af, cf, rfl, hSf⟩
          obtain ⟨zf, yf, hef, hq1, hq2, hrf⟩ := rdB_own (hSf.own 0 rfl)
          injection hef with e1 e2 e3
          subst e1; subst e3
          have HRf := Lib.hid hrf
          replace HC := Lib.hid (HC.out.trans hSf.frm)
          clear hrf hSf hq1 hq2 e2
          clear c0 c1
          obtain ⟨c0, c1⟩ := HMq.out x21 HC.out
          go_wp2_with fail
          refine (K23.out _ _ x21 HRf.out).mono ?_
          rintro e x22 ⟨rfl, hf⟩
          replace HC := Lib.hid (HC.out.trans hf)
          clear hf HRf
          clear c0 c1
          have HFz := Lib.hid (HFw.out.trans HC.out)
          clear HC HFw HMq K0 K1 K2 K3 K4 K5 K6 K7 K8 K9 K10 K11 K12 K13 K14 K15 K16 K17 K18 K19 K20 K21 K22 K23
          go_wp2_with fail
          go_ret
          exact ⟨rfl, HFz.out.below⟩

theorem maskOne_f (w : World) (hT : Tabs w) (h : Int) (wh : (Lit.int .u64 h).wf = true) (l : Int) (wl : (Lit.int .u64 l).wf = true) (i : Int) (wi : (Lit.int .i64 i).wf = true) (n : Int) (wn : (Lit.int .i64 n).wf = true)
    (a : Option Addr) (c : Nat) (zs : List Int) (lc : zs.length ≤ c) (mc : c ≤ maxLen) (rd : RdI .i64 w a zs) (wf : ∀ x ∈ zs, (Lit.int .i64 x).wf = true) :
    Calls Tryd.prog 3 #[.int .u64 h, .int .u64 l, .int .i64 i, .int .i64 n, .slice a zs.length c] w fun e w' => e = .returned (.bool true) ∧ Below w.heap.size w w' := by
  obtain ⟨h, rfl, h0⟩ := u64_nat wh
  obtain ⟨l, rfl, h1⟩ := u64_nat wl
  exact maskOne_w w hT h l h0 h1 i (i64_in wi) n a c zs (Nat.le_trans lc mc) (rdI_Z rd) (fun x hx => i64_in (wf x hx))

end Go.Proofs.YtlkhjffbhcjdfaaDoor
