/-
  THE WALK of the law LinkPlays. Printed by gen_lis.py.
-/
import Derived.Test.YtekjpkppfcmjdaaLiR
set_option linter.unusedVariables false
set_option linter.unusedSimpArgs false
namespace Go.Proofs.Ytekjpkppfcmjdaa
open Go.RowKit

theorem sum_rd {w : World} {a : Option Addr} {n c : Nat} {xs : List Int} (h : (sumR (.slice a n c) xs).P w) : RdI .u8 w a xs := by
  obtain ⟨a', c', h1, h2, _⟩ := sum_sla h
  injection h1 with h1 hx1 hx2
  subst h1
  exact h2
theorem ints_rd' {w : World} {a : Option Addr} {n c : Nat} {xs : List Int} (h : (intsR (.slice a n c) xs).P w) : RdI .i64 w a xs := by
  obtain ⟨a', c', h1, h2⟩ := ints_rd h
  injection h1 with h1 hx1 hx2
  subst h1
  exact h2

set_option maxRecDepth 100000 in
set_option maxHeartbeats 16000000 in
theorem linkPlays_w (w : World) (a : Option Addr) (c : Nat) (bs : List Yt) (rd : RdYs w a bs) (hl : bs.length ≤ 9223372036854775807) (ac : Option Addr) (cc : Nat) (ch : List Int) (rc : RdI .i64 w ac ch) (hc : ac = none → cc = 0) :
    Calls Try.prog 3 #[.slice a bs.length c, .slice ac ch.length cc] w fun e w' => e = .returned (.bool true) ∧ Below w.heap.size w w' := by
  obtain ⟨inf, hi, hz0, hz1, hz2⟩ := info_parts info_ys
  obtain ⟨jnf, ji, jz0, jz1, jz2⟩ := info_parts info_u8
  have HR := Lib.hid (fun X (hX : Frm [] w X) => rd.frm hX)
  have HC := Lib.hid (fun X (hX : Frm [] w X) => rc.below (w' := X) hX.below)
  obtain ⟨B, hB⟩ : ∃ B, B = fewY bs 100 100 := ⟨_, rfl⟩
  have HFw := Lib.hid (fun X (hX : Frm [] w X) => few_c a c bs 100 100 X (HR.out X hX) (by decide) (by decide) hl)
  rw [← hB] at HFw
  have HBf := Lib.hid (fun (h : B = true) => few_yes.1 (hB.symm.trans h))
  have HCn := Lib.hid hc
  clear rd rc hB hc
  go_enter Try.func3, Try.ntmps3
  go_wp2_with fail
  refine (alive_c w).mono ?_
  rintro e w1 ⟨rfl, hf⟩
  have HS1 := Lib.hid ((Sep.init w).keep hf)
  clear hf
  go_wp2_with fail
  refine (HFw.out w1 HS1.out.frm).mono ?_
  rintro e w2 ⟨rfl, hw2⟩
  subst hw2
  cases B with
  | false =>
    go_wp2_with fail
    go_ret
    exact ⟨rfl, HS1.out.frm.below⟩
  | true =>
    by_cases h2 : 200 < ch.length
    · have t2 : decide (200 < (ch.length : Int)) = true := decide_eq_true (by omega)
      go_wp2_with fail
      go_ret
      exact ⟨rfl, HS1.out.frm.below⟩
    have t2 : decide (200 < (ch.length : Int)) = false := decide_eq_false (by omega)
    obtain ⟨hN, hz⟩ := HBf.out rfl
    have HZ := Lib.hid (fun b hb => Nat.le_trans (hz b hb) (show 100 ≤ 1000000 by decide))
    have HZ1 := Lib.hid hz
    obtain ⟨X, hX⟩ : ∃ X, X = bs.map Yt.zs := ⟨_, rfl⟩
    have HXx := Lib.hid hX
    have HXn := Lib.hid (show X.length = bs.length by rw [hX, List.length_map])
    have HXl := Lib.hid (show ∀ z ∈ X, z.length ≤ 1000000 from fun z h => by
      rw [hX] at h
      obtain ⟨b, hb, rfl⟩ := List.mem_map.1 h
      exact HZ.out b hb)
    have HNw := Lib.hid (new_c ac cc ch w1 (HC.out _ HS1.out.frm) HCn.out (by omega))
    clear HFw HBf hX hz
    go_wp2_with fail
    clear t2
    refine HNw.out.mono ?_
    rintro e w2 ⟨p, vc, rfl, hS1⟩
    have HS2 := Lib.hid (show Sep [] w w2 (lkN p vc (.slice none 0 0) ch X 0 [] []) from by
      have h0 : Sep [] w w2 [_, _] := HS1.out.more hS1
      have h1 := (Sep.gather1 (rs := []) h0).nil 51 2
      exact Sep.mix (A := [_, _, _, _]) (L := []) h1 [2, 3, 0, 1] (by decide) rfl)
    clear hS1 HNw HS1
    go_wp2_with fail
    go_loopw [6, 7, 39] (fun vn vg vi wi => ∃ (k : Nat) (vw : Value) (ws : List Wt), k ≤ bs.length ∧ vn = .int .i64 ((allO ch X k).length : Int) ∧ vg = .int .i64 (goneN ch k : Int) ∧ vi = .int .i64 (k : Int) ∧ wsD ws = qAt ch X k ∧ Sep [] w wi (lkN p vc vw ch X k ws [])) (fun _ _ i _ => bs.length - (intOf i).toNat)
    case atStart => exact ⟨0, .slice none 0 0, [], Nat.zero_le _, rfl, rfl, rfl, rfl, HS2.out⟩
    case round =>
      obtain ⟨k, vw, ws, hk, rfl, rfl, rfl, hw, hS⟩ := hrel
      have HT := Lib.hid hS
      have HW := Lib.hid hw
      clear hS hw HS2
      by_cases hlt : k < bs.length
      · skip
        obtain ⟨b, hb⟩ : ∃ b, bs[k]? = some b := ⟨_, List.getElem?_eq_getElem hlt⟩
        obtain ⟨g, off, q, d, rfl, hcell, -, hr, hq, -, -⟩ := (HR.out _ HT.out.frm).at_ hb
        have HXk := Lib.hid (show X[k]? = some b.zs by rw [HXx.out, List.getElem?_map, hb]; rfl)
        have HBm := Lib.hid (show b ∈ bs from List.mem_of_getElem? hb)
        have HCp := Lib.hid (bcopy_c q d b.zs _ hr (HZ.out b (List.mem_of_getElem? hb)))
        have t1 : decide (k < bs.length) = true := decide_eq_true (by omega)
        have i1 : (0 : Int) ≤ (k : Int) := by omega
        have i2 : (k : Int) < (bs.length : Int) := by omega
        clear hr hq hb
        go_wp2_with fail
        clear hcell
        refine HCp.out.mono ?_
        rintro e w3 ⟨gm, cm, rfl, hS3⟩
        obtain ⟨m, hm⟩ : ∃ m, m = b.zs.length := ⟨_, rfl⟩
        have HM := Lib.hid hm
        have HS3 := Lib.hid (show Sep [] w w3 (sumR (.slice (some ⟨gm, 0, none⟩) b.zs.length cm) b.zs :: lkN p vc vw ch X k ws []) from HT.out.more hS3)
        obtain ⟨K1, hK1⟩ : ∃ K1, K1 = k + 1 := ⟨_, rfl⟩
        have HK1 := Lib.hid hK1
        have HP := Lib.hid (step_c (S := []) (w0 := w) p vc vw ch X k ws (L := [sumR (.slice (some ⟨gm, 0, none⟩) b.zs.length cm) b.zs]) (Sep.mix (A := [_, _, _, _, _]) (L := []) HS3.out [1, 2, 3, 4, 0] (by decide) rfl) HW.out HXl.out (by omega) (some ⟨gm, 0, none⟩) cm b.zs HXk.out (sum_rd (HS3.out.get 0 rfl)) (fun h => by cases h))
        unfold StP at HP
        rw [← hK1] at HP
        rw [← hm] at HS3 HP ⊢
        clear hS3 HCp HT hm hK1
        go_wp2_with fail
        refine HP.out.mono ?_
        rintro e w4 ⟨v4, vw4, ws4, os, rfl, ho, hw4, hS4⟩
        obtain ⟨a4, c4, hv4, -, -⟩ := own_shape (hS4.own 0 rfl)
        subst hv4
        have HS4 := Lib.hid hS4
        have HO := Lib.hid ho
        have HW4 := Lib.hid hw4
        clear hS4 HP HS3 ho hw4
        -- what is wanted
        have e1 : (k : Int) + 1 = (K1 : Int) := by have := HK1.out; omega
        have e2 : IntKind.i64.wrap (K1 : Int) = (K1 : Int) := IntWalk.i64_in _ (by have := HK1.out; omega)
        have HS5 := Lib.hid (HS4.out.made 28 1 0 #[] (by unfold maxLen; omega) rfl)
        have HRp := Lib.hid (rput_c k (K1 : Int) (by omega) ac cc ch _ (HC.out _ HS5.out.frm) (by omega))
        go_wp2_with fail
        refine HRp.out.mono ?_
        rintro e w5 ⟨v5, rfl, hS5⟩
        obtain ⟨a5, c5, hv5, -, -⟩ := own_shape (hS5.own 0 rfl)
        obtain ⟨R, hR⟩ : ∃ R, R = rPut ch k := ⟨_, rfl⟩
        rw [← hR] at hS5 hv5
        rw [toI_len] at hv5
        subst hv5
        have HRr := Lib.hid hR
        have HRm := Lib.hid (show ∀ i ∈ R, i < bs.length from fun i h => by rw [hR] at h; have := rPut_mem h; omega)
        have HRl := Lib.hid (show R.length ≤ 102 by rw [hR]; have := rPut_len ch k; omega)
        have hRl2 := HRl.out
        have HS6 := Lib.hid (show Sep [] w w5 (ysR (.slice (some ⟨w4.heap.size, 0, none⟩) 0 0) (viewY bs (R.take 0)) :: intsR (.slice a5 R.length c5) (toI R) :: ysR (.slice a4 os.length c4) os :: bodsR os :: lkN p vc vw4 ch X K1 ws4 [sumR (.slice (some ⟨gm, 0, none⟩) m cm) b.zs]) from by
          have h : Sep [] w w5 [_, _, _, _, _, _, _, _, _] := HS5.out.more hS5
          exact Sep.mix (A := [_, _, _, _, _, _, _, _, _]) (L := []) h [1, 0, 2, 3, 4, 5, 6, 7, 8] (by decide) rfl)
        clear hS5 HRp HS5 HS4 hR
        go_wp2_with fail
        go_loopw [12, 55] (fun v i wi => ∃ (j : Nat), j ≤ R.length ∧ i = .int .i64 (j : Int) ∧ Sep [] w wi (ysR v (viewY bs (R.take j)) :: intsR (.slice a5 R.length c5) (toI R) :: ysR (.slice a4 os.length c4) os :: bodsR os :: lkN p vc vw4 ch X K1 ws4 [sumR (.slice (some ⟨gm, 0, none⟩) m cm) b.zs])) (fun _ i _ => R.length - (intOf i).toNat)
        case atStart => exact ⟨0, Nat.zero_le _, rfl, HS6.out⟩
        case round =>
          obtain ⟨j, hj, rfl, hS⟩ := hrel
          have HT := Lib.hid hS
          clear hS HS6
          by_cases hjt : j < R.length
          · obtain ⟨i, hij⟩ : ∃ i, R[j]? = some i := ⟨_, List.getElem?_eq_getElem hjt⟩
            have hib := HRm.out i (List.mem_of_getElem? hij)
            obtain ⟨y, hy⟩ : ∃ y, bs[i]? = some y := ⟨_, List.getElem?_eq_getElem hib⟩
            obtain ⟨g6, off6, q6, d6, hga, hcy, hyv, -, -, -, -⟩ := (HR.out _ HT.out.frm).at_ hy
            injection hga with hga
            injection hga with hg1 hg2 hg3
            subst hg1 hg2
            clear hg3
            obtain ⟨g5, off5, hg5, -, hc5⟩ := (ints_rd' (HT.out.get 1 rfl)) j _ (toI_at hij)
            subst hg5
            have hvl : (viewY bs (R.take j)).length ≤ 102 := by unfold viewY; rw [List.length_map, List.length_take]; omega
            have HVl := Lib.hid hvl
            have HYy := Lib.hid (And.intro hy hyv)
            have HIj := Lib.hid hij
            have t3 : decide (j < R.length) = true := decide_eq_true hjt
            have i3 : (0 : Int) ≤ (j : Int) := by omega
            have i4 : (j : Int) < (R.length : Int) := by omega
            have i5 : (0 : Int) ≤ (i : Int) := by omega
            have i6 : (i : Int) < (bs.length : Int) := by omega
            clear hij hy hyv hvl
            go_wp2_with (at_builtin; refine wpList_append_sep rfl _ _ 22 rfl 0 28 inf (.slice none 0 0) 24 Try.underlying22 hi hz0 hz1 hz2 rfl _ (viewY bs (R.take j)).length ((viewY bs (R.take j)).map Yt.v) rfl (HT.out.skip _) rfl _ 1 (.slice q6 y.zs.length d6) rfl (World.cell?_alloc_at _ _ _ _ rfl) rfl (by have := HVl.out; unfold maxLen; omega) (by have := HVl.out; omega) ?_; intro g7 c7 w7 hSx; have HSx := Lib.hid hSx; clear hSx)
            have HS7 := Lib.hid (show Sep [] w w7 (ysR (.slice (some ⟨g7, 0, none⟩) ((viewY bs (R.take j)).length + 1) c7) (viewY bs (R.take (j + 1))) :: intsR (.slice (some ⟨g5, off5, none⟩) R.length c5) (toI R) :: ysR (.slice a4 os.length c4) os :: bodsR os :: lkN p vc vw4 ch X K1 ws4 [sumR (.slice (some ⟨gm, 0, none⟩) m cm) b.zs]) from by
              rw [List.take_add_one, HIj.out, show (some i).toList = [i] from rfl, view_snoc bs _ i HYy.out.1]
              refine Sep.snocV ?_
              rw [HYy.out.2]
              exact HSx.out)
            clear HSx
            go_wp2_with fail
            go_roundw
            case rel => exact ⟨j + 1, by omega, by go_num, HS7.out⟩
            case measure => simp [intOf]; omega
          · obtain rfl : j = R.length := by omega
            have t3 : decide (R.length < R.length) = false := decide_eq_false (by omega)
            rw [List.take_length] at HT
            obtain ⟨av, cv, hvv, hrv⟩ := view_rd HT.out 0 rfl (HR.out _ HT.out.frm) HRm.out
            have HEq := Lib.hid (show os.map Yt.zs = (viewY bs R).map Yt.zs by
              rw [HO.out, view_zs, oAt_ref [] ch X k (by rw [HXn.out]; exact hlt), ← HRr.out, HXx.out])
            obtain ⟨V, hV⟩ : ∃ V, V = (viewY bs R).length := ⟨_, rfl⟩
            have HVl := Lib.hid (show V = R.length by rw [hV]; unfold viewY; rw [List.length_map])
            have HOs := Lib.hid (show os.length = V by have h := congrArg List.length HEq.out; rw [List.length_map, List.length_map] at h; rw [hV]; exact h)
            have HVo := Lib.hid hV
            obtain ⟨N0, hN0⟩ : ∃ n, n = (allO ch X k).length := ⟨_, rfl⟩
            obtain ⟨N1, hN1⟩ : ∃ n, n = (allO ch X K1).length := ⟨_, rfl⟩
            obtain ⟨G0, hG0⟩ : ∃ n, n = goneN ch k := ⟨_, rfl⟩
            obtain ⟨G1, hG1⟩ : ∃ n, n = goneN ch K1 := ⟨_, rfl⟩
            have HN1 := Lib.hid (show N1 = N0 + V ∧ N0 ≤ 200 by
              have h := all_len ch X k
              rw [hN1, HK1.out, allO, List.length_append, ← HO.out, List.length_map, HOs.out, ← hN0]
              exact ⟨rfl, by omega⟩)
            have HG1 := Lib.hid (show G1 = G0 + (if wy ch k = 3 then 1 else 0) ∧ G0 ≤ 100 by
              have h := gone_le ch k
              rw [hG1, HK1.out, goneN, ← hG0]
              exact ⟨rfl, by omega⟩)
            have HS8 := Lib.hid (show Sep [] w wr (ysR (.slice av V cv) (viewY bs R) :: ysR (.slice a4 os.length c4) os :: bodsR os :: lkL p vc vw4 ch ws4 K1 G1 N1 [sumR (.slice (some ⟨gm, 0, none⟩) m cm) b.zs]) from by
              rw [hG1, hN1, hV, ← hvv]
              exact Sep.mix (A := [_, _, _, _, _, _, _, _, _]) (L := []) HT.out [0, 2, 3, 4, 5, 6, 7, 8] (by decide) rfl)
            have HRv := Lib.hid hrv
            have HEn := Lib.hid (And.intro hN1 hG1)
            rw [← hV] at hvv
            subst hvv
            rw [← hN0, ← hG0]
            have HWa := Lib.hid (rway_c ac cc ch k _ (HC.out _ HT.out.frm))
            obtain ⟨T, hT⟩ : ∃ T, T = decide (wy ch k = 3) := ⟨_, rfl⟩
            have t4 : ((wy ch k : Int) == 3) = T := by rw [hT, Bool.eq_iff_iff, beq_iff_eq, decide_eq_true_eq]; omega
            have HTt := Lib.hid hT
            clear hV hN0 hG0 hG1 hN1 HT hT hrv
            go_wp2_with fail
            refine HWa.out.mono ?_
            rintro e w8 ⟨rfl, hw8⟩
            subst hw8
            clear HWa
            go_upto_if 70 with fail
            go_cut [7] (fun v wx => v = .int .i64 (G1 : Int) ∧ Frm [] wr wx)
            case first =>
              cases T with
              | true =>
                have e5 : (G0 : Int) + 1 = (G1 : Int) := by have h := HG1.out.1; rw [if_pos (of_decide_eq_true HTt.out.symm)] at h; omega
                have e6 : IntKind.i64.wrap (G1 : Int) = (G1 : Int) := IntWalk.i64_in _ (by have := HG1.out.2; omega)
                go_wp2_with fail
                go_meet
                exact ⟨rfl, Frm.refl _ _⟩
              | false =>
                have e5 : G0 = G1 := by have h := HG1.out.1; rw [if_neg (of_decide_eq_false HTt.out.symm)] at h; omega
                rw [e5]
                clear e5
                go_wp2_with fail
                go_meet
                exact ⟨rfl, Frm.refl _ _⟩
            obtain ⟨rfl, hf8⟩ := hcut
            obtain ⟨w9, hw9⟩ : ∃ y, y = wc := ⟨_, rfl⟩
            rw [← hw9] at hf8 ⊢
            have HF8 := Lib.hid hf8
            have HS9 := Lib.hid (HS8.out.keep hf8)
            have HRv9 := Lib.hid (HRv.out.frm hf8)
            clear hf8 hw9 HS8 HRv t4 HTt
            have e5 : (N0 : Int) + (V : Int) = (N1 : Int) := by have := HN1.out; omega
            have e6 : IntKind.i64.wrap (N1 : Int) = (N1 : Int) := IntWalk.i64_in _ (by have := HN1.out; have := HVl.out; omega)
            have HCo := Lib.hid (counts_c p vc vw4 (K1 : Int) (G1 : Int) (N1 : Int) (Sep.mix (A := [_, _, _, _, _, _, _, _]) (L := []) HS9.out [3] (by decide) rfl))
            go_wp2_with fail
            clear e5 e6
            refine HCo.out.mono ?_
            rintro e w10 ⟨rfl, hf⟩
            have HSA := Lib.hid (HS9.out.keep hf)
            have HSm := Lib.hid (by
              have h := sameAll_c a4 av c4 cv os (viewY bs R) w10 (ys_rds (HSA.out.get 1 rfl) (HSA.out.get 2 rfl)) (HRv9.out.frm hf) HEq.out (fun y hy => by
                have h1 : y.zs ∈ (viewY bs R).map Yt.zs := HEq.out ▸ List.mem_map_of_mem hy
                obtain ⟨z, hz, hze⟩ := List.mem_map.1 h1
                rw [← hze]
                exact HZ.out z (view_mem HRm.out z hz)) (by rw [HOs.out, HVl.out]; exact Nat.le_trans HRl.out (by decide))
              rw [← HVo.out] at h
              exact h : Calls Try.prog 14 #[.slice a4 os.length c4, .slice av V cv] w10 fun e w' => e = .returned (.bool true) ∧ Frm [] w10 w')
            clear hf HCo HS9 HRv9
            go_wp2_with fail
            refine HSm.out.mono ?_
            rintro e w11 ⟨rfl, hf⟩
            have HSB := Lib.hid (HSA.out.keep hf)
            clear hf HSm HSA
            obtain ⟨aw, cw, hvw, -, -⟩ := own_shape (HSB.out.own 5 rfl)
            obtain ⟨W1, hW1⟩ : ∃ W1, W1 = ws4.length := ⟨_, rfl⟩
            rw [← hW1] at hvw
            subst hvw
            have HWl := Lib.hid (show (rWait ch K1).length = W1 by
              have h := congrArg List.length HW4.out
              rw [qAt_ref [] ch X K1 (by rw [HXn.out, HK1.out]; omega)] at h
              unfold wsD at h
              rw [List.length_map, List.length_map] at h
              rw [hW1, h])
            have HWo := Lib.hid hW1
            clear hW1
            have HWt := Lib.hid (waiting_c p vc _ _ _ aw W1 cw (Sep.mix (A := [_, _, _, _, _, _, _, _]) (L := []) HSB.out [3] (by decide) rfl))
            go_wp2_with fail
            refine HWt.out.mono ?_
            rintro e w12 ⟨rfl, hw12⟩
            subst hw12
            clear HWt
            have HRw := Lib.hid (rwait_c K1 ac cc ch _ (HC.out _ HSB.out.frm) (by have := HK1.out; omega))
            go_wp2_with fail
            refine HRw.out.mono ?_
            rintro e w12 ⟨v12, rfl, hS12⟩
            obtain ⟨a12, c12, hv12, -, -⟩ := own_shape (hS12.own 0 rfl)
            rw [toI_len, HWl.out] at hv12
            subst hv12
            have HSC := Lib.hid (show Sep [] w w12 (sumR (.slice (some ⟨gm, 0, none⟩) m cm) b.zs :: bodsR os :: ysR (.slice a4 os.length c4) os :: lkL p vc (.slice aw W1 cw) ch ws4 K1 G1 N1 []) from by
              have h : Sep [] w w12 [_, _, _, _, _, _, _, _, _] := HSB.out.more hS12
              exact Sep.mix (A := [_, _, _, _, _, _, _, _, _]) (L := []) h [8, 3, 2, 4, 5, 6, 7] (by decide) rfl)
            clear hS12 HRw HSB
            have n1 : ((W1 : Int) != (W1 : Int)) = false := by simp
            have n2 : ((K1 : Int) != (K1 : Int)) = false := by simp
            have n3 : ((G1 : Int) != (G1 : Int)) = false := by simp
            have n4 : ((N1 : Int) != (N1 : Int)) = false := by simp
            go_wp2_with fail
            clear n1 n2 n3 n4
            have hm5 : m ≤ 100 := by rw [HM.out]; exact HZ1.out b HBm.out
            go_loopw [115] (fun i wi => ∃ (jj : Nat) (ys : List Int), jj ≤ m ∧ ys.length = m ∧ i = .int .i64 (jj : Int) ∧ Sep [] w wi (sumR (.slice (some ⟨gm, 0, none⟩) m cm) ys :: bodsR os :: ysR (.slice a4 os.length c4) os :: lkL p vc (.slice aw W1 cw) ch ws4 K1 G1 N1 [])) (fun i _ => m - (intOf i).toNat)
            case atStart => exact ⟨0, b.zs, Nat.zero_le _, HM.out.symm, rfl, HSC.out⟩
            case round =>
              obtain ⟨jj, ys, hjj, hys, rfl, hS⟩ := hrel
              have HU := Lib.hid hS
              have HYl := Lib.hid hys
              clear hS hys HSC
              by_cases hjt : jj < m
              · obtain ⟨gv, cv9, hv⟩ := row_slice (HU.out.own 0 rfl) (by rw [HYl.out]; omega)
                injection hv with hv1 hx1 hx2
                clear hx1 hx2
                injection hv1 with hv1
                injection hv1 with hv1 hx1 hx2
                clear hx1 hx2
                subst hv1
                have t5 : decide (jj < m) = true := decide_eq_true hjt
                have i3 : (0 : Int) ≤ (jj : Int) := by omega
                have i4 : (jj : Int) < (m : Int) := by omega
                have h1 := (show Sep [] w _ (ownR 5 1 (.slice (some ⟨gm, 0, none⟩) m cm) m (ys.map (Value.int .u8)) :: bodsR os :: ysR (.slice a4 os.length c4) os :: lkL p vc (.slice aw W1 cw) ch ws4 K1 G1 N1 []) from by
                  have h := HU.out
                  rw [show sumR (.slice (some ⟨gm, 0, none⟩) m cm) ys = ownR 5 1 (.slice (some ⟨gm, 0, none⟩) m cm) m (ys.map (Value.int .u8)) from by unfold sumR; rw [HYl.out]] at h
                  exact h)
                have c0 := row_cell (k := .u8) (h1.own 0 rfl) jj (by rw [HYl.out]; exact hjt)
                have f0 := row_free (h1.own 0 rfl) jj
                obtain ⟨y, hy⟩ : ∃ y, y = ys.getD jj 0 := ⟨_, rfl⟩
                rw [← hy] at c0
                obtain ⟨u, hu⟩ : ∃ u, u = (y + 1) % 256 := ⟨_, rfl⟩
                have h2 := h1.putRow 0 rfl jj u
                have HU2 := Lib.hid (show Sep [] w _ (sumR (.slice (some ⟨gm, 0, none⟩) m cm) (ys.set jj u) :: bodsR os :: ysR (.slice a4 os.length c4) os :: lkL p vc (.slice aw W1 cw) ch ws4 K1 G1 N1 []) from by
                  rw [show sumR (.slice (some ⟨gm, 0, none⟩) m cm) (ys.set jj u) = ownR 5 1 (.slice (some ⟨gm, 0, none⟩) m cm) m ((ys.set jj u).map (Value.int .u8)) from by unfold sumR; rw [List.length_set, HYl.out]]
                  exact h2)
                clear h2 h1
                have HUu := Lib.hid hu.symm
                clear hy hu HU
                go_wp2_with fail
                rw [HUu.out]
                go_roundw
                case rel => exact ⟨jj + 1, ys.set jj u, by omega, by rw [List.length_set]; exact HYl.out, by go_num, HU2.out⟩
                case measure => simp [intOf]; omega
              · obtain rfl : jj = m := by omega
                have t5 : decide (jj < jj) = false := decide_eq_false (by omega)
                have HSD := Lib.hid (show Sep [] w wr (bodsR os :: ysR (.slice a4 os.length c4) os :: lkL p vc (.slice aw W1 cw) ch ws4 K1 G1 N1 []) from Sep.mix (A := [_, _, _, _, _, _, _]) (L := []) HU.out [1, 2, 3, 4, 5, 6] (by decide) rfl)
                have HOz := Lib.hid (show ∀ y ∈ os, y.zs.length ≤ 100 from fun y hy => by
                  have h1 : y.zs ∈ (viewY bs R).map Yt.zs := HEq.out ▸ List.mem_map_of_mem hy
                  obtain ⟨z, hz, hze⟩ := List.mem_map.1 h1
                  rw [← hze]
                  exact HZ1.out z (view_mem HRm.out z hz))
                have hO2 : os.length ≤ 102 := by rw [HOs.out, HVl.out]; exact HRl.out
                clear HU HYl
                go_wp2_with fail
                go_loopw [127] (fun i wi => ∃ (j : Nat) (ts : List Yt), j ≤ os.length ∧ ts.length = os.length ∧ (∀ y ∈ ts, y.zs.length ≤ 100) ∧ i = .int .i64 (j : Int) ∧ Sep [] w wi (bodsR ts :: ysR (.slice a4 os.length c4) ts :: lkL p vc (.slice aw W1 cw) ch ws4 K1 G1 N1 [])) (fun i _ => os.length - (intOf i).toNat)
                case atStart => exact ⟨0, os, Nat.zero_le _, rfl, HOz.out, rfl, HSD.out⟩
                case round =>
                  obtain ⟨j, ts, hj, hts, htz, rfl, hS⟩ := hrel
                  have HT := Lib.hid hS
                  have HTl := Lib.hid hts
                  have HTz := Lib.hid htz
                  clear hS hts htz HSD HOz
                  by_cases hjt : j < os.length
                  · obtain ⟨y, hy⟩ : ∃ y, ts[j]? = some y := ⟨_, List.getElem?_eq_getElem (by rw [HTl.out]; exact hjt)⟩
                    obtain ⟨a9, c9, hv9, -, -, -, r9⟩ := own_vals (show wr.ownsRow 0 _ 1 (.slice a4 os.length c4) ts.length (ts.map Yt.v) from HT.out.get 1 rfl)
                    injection hv9 with hv9 hx1 hx2
                    clear hx1 hx2
                    subst hv9
                    obtain ⟨g9, o9, ha9, -, hc9⟩ := r9 j y.v (by rw [List.getElem?_map, hy]; rfl)
                    subst ha9
                    have HSE := Lib.hid (bods_out HT.out hy)
                    have HYy := Lib.hid hy
                    obtain ⟨RR, hRR⟩ : ∃ RR, RR = eachR ((ts.take j).map Yt.res ++ (ts.drop (j + 1)).map Yt.res) := ⟨_, rfl⟩
                    rw [← hRR] at HSE
                    have HRR := Lib.hid hRR
                    obtain ⟨tb, tc, htv, -, -⟩ := own_shape (HSE.out.own 0 rfl)
                    obtain ⟨mm, hmm⟩ : ∃ mm, mm = y.zs.length := ⟨_, rfl⟩
                    rw [← hmm] at htv
                    have HMm := Lib.hid hmm
                    have hm9 : mm ≤ 100 := by rw [hmm]; exact HTz.out y (List.mem_of_getElem? hy)
                    rw [htv] at hc9
                    have HTv := Lib.hid htv
                    have HSE := Lib.hid (show Sep [] w wr (sumR (.slice tb mm tc) y.zs :: RR :: ysR (.slice (some ⟨g9, o9, none⟩) os.length c4) ts :: lkL p vc (.slice aw W1 cw) ch ws4 K1 G1 N1 []) from by rw [← htv]; exact HSE.out)
                    have t6 : decide (j < os.length) = true := decide_eq_true hjt
                    have i5 : (0 : Int) ≤ (j : Int) := by omega
                    have i6 : (j : Int) < (os.length : Int) := by omega
                    clear hy hRR hmm htv HT r9
                    go_wp2_with fail
                    clear hc9
                    go_loopw [133] (fun i wi => ∃ (jj : Nat) (ys : List Int), jj ≤ mm ∧ ys.length = mm ∧ i = .int .i64 (jj : Int) ∧ Sep [] w wi (sumR (.slice tb mm tc) ys :: RR :: ysR (.slice (some ⟨g9, o9, none⟩) os.length c4) ts :: lkL p vc (.slice aw W1 cw) ch ws4 K1 G1 N1 [])) (fun i _ => mm - (intOf i).toNat)
                    case atStart => exact ⟨0, y.zs, Nat.zero_le _, HMm.out.symm, rfl, HSE.out⟩
                    case round =>
                      obtain ⟨jj, ys, hjj, hys, rfl, hS⟩ := hrel
                      have HU := Lib.hid hS
                      have HYl := Lib.hid hys
                      clear hS hys HSE
                      by_cases hjt : jj < mm
                      · obtain ⟨gv, cv9, hv⟩ := row_slice (HU.out.own 0 rfl) (by rw [HYl.out]; omega)
                        injection hv with hv1 hx1 hx2
                        clear hx1 hx2
                        subst hv1
                        have t5 : decide (jj < mm) = true := decide_eq_true hjt
                        have i3 : (0 : Int) ≤ (jj : Int) := by omega
                        have i4 : (jj : Int) < (mm : Int) := by omega
                        have h1 := (show Sep [] w _ (ownR 5 1 (.slice (some ⟨gv, 0, none⟩) mm tc) mm (ys.map (Value.int .u8)) :: RR :: ysR (.slice (some ⟨g9, o9, none⟩) os.length c4) ts :: lkL p vc (.slice aw W1 cw) ch ws4 K1 G1 N1 []) from by
                          have h := HU.out
                          rw [show sumR (.slice (some ⟨gv, 0, none⟩) mm tc) ys = ownR 5 1 (.slice (some ⟨gv, 0, none⟩) mm tc) mm (ys.map (Value.int .u8)) from by unfold sumR; rw [HYl.out]] at h
                          exact h)
                        have c0 := row_cell (k := .u8) (h1.own 0 rfl) jj (by rw [HYl.out]; exact hjt)
                        have f0 := row_free (h1.own 0 rfl) jj
                        obtain ⟨y8, hy8⟩ : ∃ y, y = ys.getD jj 0 := ⟨_, rfl⟩
                        rw [← hy8] at c0
                        obtain ⟨u, hu⟩ : ∃ u, u = (y8 + 1) % 256 := ⟨_, rfl⟩
                        have h2 := h1.putRow 0 rfl jj u
                        have HU2 := Lib.hid (show Sep [] w _ (sumR (.slice (some ⟨gv, 0, none⟩) mm tc) (ys.set jj u) :: RR :: ysR (.slice (some ⟨g9, o9, none⟩) os.length c4) ts :: lkL p vc (.slice aw W1 cw) ch ws4 K1 G1 N1 []) from by
                          rw [show sumR (.slice (some ⟨gv, 0, none⟩) mm tc) (ys.set jj u) = ownR 5 1 (.slice (some ⟨gv, 0, none⟩) mm tc) mm ((ys.set jj u).map (Value.int .u8)) from by unfold sumR; rw [List.length_set, HYl.out]]
                          exact h2)
                        clear h2 h1
                        have HUu := Lib.hid hu.symm
                        clear hy8 hu HU
                        go_wp2_with fail
                        rw [HUu.out]
                        go_roundw
                        case rel => exact ⟨jj + 1, ys.set jj u, by omega, by rw [List.length_set]; exact HYl.out, by go_num, HU2.out⟩
                        case measure => simp [intOf]; omega
                      · obtain rfl : jj = mm := by omega
                        have t5 : decide (jj < jj) = false := decide_eq_false (by omega)
                        have HSF := Lib.hid (show Sep [] w _ (bodsR (ts.take j ++ ⟨y.v, ys⟩ :: ts.drop (j + 1)) :: ysR (.slice (some ⟨g9, o9, none⟩) os.length c4) (ts.take j ++ ⟨y.v, ys⟩ :: ts.drop (j + 1)) :: lkL p vc (.slice aw W1 cw) ch ws4 K1 G1 N1 []) from by
                          have h := HU.out
                          rw [HRR.out, ← HTv.out] at h
                          rw [ysR_same HYy.out]
                          exact bods_back h)
                        have HTl2 := Lib.hid (show (ts.take j ++ (⟨y.v, ys⟩ : Yt) :: ts.drop (j + 1)).length = os.length by
                          have e := congrArg List.length (show ts = ts.take j ++ y :: ts.drop (j + 1) by
                            obtain ⟨hl9, hb9⟩ := List.getElem?_eq_some_iff.1 HYy.out
                            rw [← hb9, ← List.drop_eq_getElem_cons hl9, List.take_append_drop])
                          simp only [List.length_append, List.length_cons] at e ⊢
                          have := HTl.out
                          omega)
                        have HTz2 := Lib.hid (show ∀ q ∈ (ts.take j ++ (⟨y.v, ys⟩ : Yt) :: ts.drop (j + 1)), q.zs.length ≤ 100 from fun q hq => by
                          rcases List.mem_append.1 hq with hq | hq
                          · exact HTz.out q (List.mem_of_mem_take hq)
                          · rcases List.mem_cons.1 hq with rfl | hq
                            · show ys.length ≤ 100; rw [HYl.out]; exact hm9
                            · exact HTz.out q (List.mem_of_mem_drop hq))
                        clear HU
                        go_wp2_with fail
                        go_roundw
                        case rel => exact ⟨j + 1, _, by omega, HTl2.out, HTz2.out, by go_num, HSF.out⟩
                        case measure => simp [intOf]; omega
                  · obtain rfl : j = os.length := by omega
                    have t6 : decide (os.length < os.length) = false := decide_eq_false (by omega)
                    have HSG := Lib.hid (show Sep [] w wr (lkN p vc (.slice aw W1 cw) ch X K1 ws4 []) from by
                      unfold lkN
                      rw [← HEn.out.1, ← HEn.out.2]
                      exact Sep.mix (A := [_, _, _, _, _, _]) (L := []) HT.out [2, 3, 4, 5] (by decide) rfl)
                    rw [HEn.out.1, HEn.out.2]
                    clear HT
                    go_wp2_with fail
                    go_roundw
                    case rel => exact ⟨K1, .slice aw W1 cw, ws4, by have := HK1.out; omega, rfl, rfl, by go_num, HW4.out, HSG.out⟩
                    case measure => have := HK1.out; simp [intOf]; omega
      · obtain rfl : k = bs.length := by omega
        have t1 : decide (bs.length < bs.length) = false := decide_eq_false (by omega)
        have HS5 := Lib.hid (HT.out.made 28 1 0 #[] (by unfold maxLen; omega) rfl)
        have HRp := Lib.hid (rwait_c bs.length ac cc ch _ (HC.out _ HS5.out.frm) (by omega))
        go_wp2_with fail
        refine HRp.out.mono ?_
        rintro e w5 ⟨v5, rfl, hS5⟩
        obtain ⟨a5, c5, hv5, -, -⟩ := own_shape (hS5.own 0 rfl)
        obtain ⟨R, hR⟩ : ∃ R, R = rWait ch bs.length := ⟨_, rfl⟩
        rw [← hR] at hS5 hv5
        rw [toI_len] at hv5
        subst hv5
        have HRr := Lib.hid hR
        have HRm := Lib.hid (show ∀ i ∈ R, i < bs.length from fun i h => by rw [hR] at h; exact rWait_mem h)
        have HRl := Lib.hid (show R.length ≤ 102 by rw [hR]; have := rWait_len ch bs.length; omega)
        have hRl2 := HRl.out
        have HS6 := Lib.hid (show Sep [] w w5 (ysR (.slice (some ⟨wr.heap.size, 0, none⟩) 0 0) (viewY bs (R.take 0)) :: intsR (.slice a5 R.length c5) (toI R) :: lkN p vc vw ch X bs.length ws []) from by
          have h : Sep [] w w5 [_, _, _, _, _, _] := HS5.out.more hS5
          exact Sep.mix (A := [_, _, _, _, _, _]) (L := []) h [1, 0, 2, 3, 4, 5] (by decide) rfl)
        clear hS5 HRp HS5 HT hR
        go_wp2_with fail
        go_loopw [22, 151] (fun v i wi => ∃ (j : Nat), j ≤ R.length ∧ i = .int .i64 (j : Int) ∧ Sep [] w wi (ysR v (viewY bs (R.take j)) :: intsR (.slice a5 R.length c5) (toI R) :: lkN p vc vw ch X bs.length ws [])) (fun _ i _ => R.length - (intOf i).toNat)
        case atStart => exact ⟨0, Nat.zero_le _, rfl, HS6.out⟩
        case round =>
          obtain ⟨j, hj, rfl, hS⟩ := hrel
          have HT := Lib.hid hS
          clear hS HS6
          by_cases hjt : j < R.length
          · obtain ⟨i, hij⟩ : ∃ i, R[j]? = some i := ⟨_, List.getElem?_eq_getElem hjt⟩
            have hib := HRm.out i (List.mem_of_getElem? hij)
            obtain ⟨y, hy⟩ : ∃ y, bs[i]? = some y := ⟨_, List.getElem?_eq_getElem hib⟩
            obtain ⟨g6, off6, q6, d6, hga, hcy, hyv, -, -, -, -⟩ := (HR.out _ HT.out.frm).at_ hy
            subst hga
            obtain ⟨g5, off5, hg5, -, hc5⟩ := (ints_rd' (HT.out.get 1 rfl)) j _ (toI_at hij)
            subst hg5
            have hvl : (viewY bs (R.take j)).length ≤ 102 := by unfold viewY; rw [List.length_map, List.length_take]; omega
            have HVl := Lib.hid hvl
            have HYy := Lib.hid (And.intro hy hyv)
            have HIj := Lib.hid hij
            have t3 : decide (j < R.length) = true := decide_eq_true hjt
            have i3 : (0 : Int) ≤ (j : Int) := by omega
            have i4 : (j : Int) < (R.length : Int) := by omega
            have i5 : (0 : Int) ≤ (i : Int) := by omega
            have i6 : (i : Int) < (bs.length : Int) := by omega
            clear hij hy hyv hvl
            go_wp2_with (at_builtin; refine wpList_append_sep rfl _ _ 22 rfl 0 28 inf (.slice none 0 0) 24 Try.underlying22 hi hz0 hz1 hz2 rfl _ (viewY bs (R.take j)).length ((viewY bs (R.take j)).map Yt.v) rfl (HT.out.skip _) rfl _ 1 (.slice q6 y.zs.length d6) rfl (World.cell?_alloc_at _ _ _ _ rfl) rfl (by have := HVl.out; unfold maxLen; omega) (by have := HVl.out; omega) ?_; intro g7 c7 w7 hSx; have HSx := Lib.hid hSx; clear hSx)
            have HS7 := Lib.hid (show Sep [] w w7 (ysR (.slice (some ⟨g7, 0, none⟩) ((viewY bs (R.take j)).length + 1) c7) (viewY bs (R.take (j + 1))) :: intsR (.slice (some ⟨g5, off5, none⟩) R.length c5) (toI R) :: lkN p vc vw ch X bs.length ws []) from by
              rw [List.take_add_one, HIj.out, show (some i).toList = [i] from rfl, view_snoc bs _ i HYy.out.1]
              refine Sep.snocV ?_
              rw [HYy.out.2]
              exact HSx.out)
            clear HSx
            go_wp2_with fail
            go_roundw
            case rel => exact ⟨j + 1, by omega, by go_num, HS7.out⟩
            case measure => simp [intOf]; omega
          · obtain rfl : j = R.length := by omega
            have t3 : decide (R.length < R.length) = false := decide_eq_false (by omega)
            rw [List.take_length] at HT
            obtain ⟨av, cv, hvv, hrv⟩ := view_rd HT.out 0 rfl (HR.out _ HT.out.frm) HRm.out
            obtain ⟨V, hV⟩ : ∃ V, V = (viewY bs R).length := ⟨_, rfl⟩
            have HVo := Lib.hid hV
            rw [← hV] at hvv
            subst hvv
            have HEm := Lib.hid (emp_c (S := []) (w0 := w) p vc vw ch X bs.length ws (L := [ysR (.slice av V cv) (viewY bs R)]) (Sep.mix (A := [_, _, _, _, _, _]) (L := []) HT.out [2, 3, 4, 5, 0] (by decide) rfl) HW.out HXl.out (by omega))
            have HRv := Lib.hid hrv
            clear hV hrv HT
            go_wp2_with fail
            refine HEm.out.mono ?_
            rintro e w8 ⟨v8, os, rfl, ho, hS8⟩
            obtain ⟨a8, c8, hv8, -, -⟩ := own_shape (hS8.own 0 rfl)
            subst hv8
            have HS8 := Lib.hid hS8
            have HF8 := Lib.hid (show Frm [] w w8 from hS8.frm)
            have HEq := Lib.hid (show os.map Yt.zs = (viewY bs R).map Yt.zs by
              rw [ho, view_zs, qAt_fst [] ch X bs.length (by rw [HXn.out]; exact Nat.le_refl _), ← HRr.out, HXx.out])
            have HOl := Lib.hid (show os.length ≤ 102 by
              have h := congrArg List.length HEq.out
              unfold viewY at h
              rw [List.length_map, List.length_map, List.length_map] at h
              omega)
            have HSm := Lib.hid (by
              have h := sameAll_c a8 av c8 cv os (viewY bs R) w8 (ys_rds (HS8.out.get 0 rfl) (HS8.out.get 1 rfl)) (by
                  obtain ⟨av2, cv2, hv2, hr2⟩ := view_rd HS8.out 6 rfl (HR.out _ HF8.out) HRm.out
                  injection hv2 with hv2 _ _
                  subst hv2
                  exact hr2) HEq.out (fun y hy => by
                have h1 : y.zs ∈ (viewY bs R).map Yt.zs := HEq.out ▸ List.mem_map_of_mem hy
                obtain ⟨z, hz, hze⟩ := List.mem_map.1 h1
                rw [← hze]
                exact HZ.out z (view_mem HRm.out z hz)) (Nat.le_trans HOl.out (by decide))
              rw [← HVo.out] at h
              exact h : Calls Try.prog 14 #[.slice a8 os.length c8, .slice av V cv] w8 fun e w' => e = .returned (.bool true) ∧ Frm [] w8 w')
            clear hS8 ho HEm
            go_wp2_with fail
            refine HSm.out.mono ?_
            rintro e w9 ⟨rfl, hf⟩
            have HS9 := Lib.hid (HS8.out.keep hf)
            clear hf HSm HS8
            have HWt := Lib.hid (waiting_c p vc _ _ _ none 0 0 (Sep.mix (A := [_, _, _, _, _, _, _]) (L := []) HS9.out [2] (by decide) rfl))
            go_wp2_with fail
            refine HWt.out.mono ?_
            rintro e w10 ⟨rfl, hw10⟩
            subst hw10
            have HAp := Lib.hid (apply_c a c bs _ (HR.out _ HS9.out.frm) HZ.out (by omega) ac cc ch (HC.out _ HS9.out.frm) HCn.out (by omega))
            rw [← HXx.out] at HAp
            go_wp2_with fail
            refine HAp.out.mono ?_
            rintro e w10 ⟨vA, oA, rfl, hoA, hSA⟩
            obtain ⟨aA, cA, hvA, -, -⟩ := own_shape (hSA.own 0 rfl)
            subst hvA
            have HSA := Lib.hid hSA
            have HSA9 := Lib.hid (show Sep [] w w10 _ from HS9.out.more hSA)
            have HRa := Lib.hid (rapply_c a c bs _ (HR.out _ HSA9.out.frm) HZ.out (by omega) ac cc ch (HC.out _ HSA9.out.frm))
            rw [← HXx.out] at HRa
            go_wp2_with fail
            refine HRa.out.mono ?_
            rintro e w11 ⟨vB, oB, rfl, hoB, hSB⟩
            obtain ⟨aB, cB, hvB, -, -⟩ := own_shape (hSB.own 0 rfl)
            subst hvB
            have HSm2 := Lib.hid (sameAll_c aA aB cA cB oA oB w11 ((ys_rds (hSA.get 0 rfl) (hSA.get 1 rfl)).frm hSB.frm) (ys_rds (hSB.get 0 rfl) (hSB.get 1 rfl)) (by
              have hXN : bs.length ≤ X.length := by rw [HXn.out]; exact Nat.le_refl _
              rw [hoA, hoB, List.map_append, all_ref [] ch X bs.length hXN, qAt_fst [] ch X bs.length hXN]) (fun y hy => by
              have h1 : y.zs ∈ oA.map Yt.zs := List.mem_map_of_mem hy
              rw [hoA] at h1
              rcases List.mem_append.1 h1 with h | h
              · exact HXl.out _ (all_mem ch X bs.length _ h)
              · obtain ⟨q, hq, hqe⟩ := List.mem_map.1 h
                rw [← hqe]
                exact HXl.out _ ((qAt_ok ch X bs.length).l q hq).2.2) (by
              have h1 := congrArg List.length hoA
              rw [List.length_map, List.length_append, List.length_map] at h1
              have := all_len ch X bs.length
              omega))
            have HFB := Lib.hid (show Frm [] w w11 from HSA9.out.frm.trans hSB.frm)
            clear hSA hSB hoA hoB HAp HRa
            go_wp2_with fail
            refine HSm2.out.mono ?_
            rintro e w12 ⟨rfl, hf⟩
            have HF12 := Lib.hid (HFB.out.trans hf)
            clear hf HSm2
            go_wp2_with fail
            go_ret
            exact ⟨rfl, HF12.out.below⟩
theorem linkPlays_f {w : World} (a : Option Addr) (c : Nat) (rs : List IRow) (lc : rs.length ≤ c) (mc : c ≤ maxLen) (nc : a = none → c = 0) (rd : RdV w a (rs.map IRow.val)) (wf : ∀ r ∈ rs, r.zs.length ≤ r.c ∧ r.c ≤ maxLen ∧ (r.a = none → r.c = 0) ∧ RdI .u8 w r.a r.zs ∧ ∀ x ∈ r.zs, (Lit.int .u8 x).wf = true)
    (ac : Option Addr) (cc : Nat) (ch : List Int) (lcc : ch.length ≤ cc) (mcc : cc ≤ maxLen) (ncc : ac = none → cc = 0) (rc : RdI .i64 w ac ch) (wc : ∀ x ∈ ch, (Lit.int .i64 x).wf = true) :
    Calls Try.prog 3 #[.slice a rs.length c, .slice ac ch.length cc] w fun e w' => e = .returned (.bool true) ∧ Below w.heap.size w w' := by
  have h := linkPlays_w w a c (rs.map ytOf) (ys_of rd wf) (by rw [List.length_map]; unfold maxLen at mc; omega) ac cc ch rc ncc
  rw [List.length_map] at h
  exact h

end Go.Proofs.Ytekjpkppfcmjdaa
