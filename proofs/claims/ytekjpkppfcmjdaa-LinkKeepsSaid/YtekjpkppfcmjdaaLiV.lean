/-
  THE WALK of the law LinkKeeps. Printed by gen_liv.py.
-/
import Derived.Test.YtekjpkppfcmjdaaLiU
set_option linter.unusedVariables false
set_option linter.unusedSimpArgs false
namespace Go.Proofs.Ytekjpkppfcmjdaa
open Go.RowKit Go.Maps

set_option maxRecDepth 100000 in
set_option maxHeartbeats 16000000 in
theorem linkKeeps_w (w : World) (a : Option Addr) (c : Nat) (bs : List Yt) (rd : RdYs w a bs) (hl : bs.length ≤ 9223372036854775807) (ac : Option Addr) (cc : Nat) (ch : List Int) (rc : RdI .i64 w ac ch) (hc : ac = none → cc = 0) (n : Int) :
    Calls Try.prog 4 #[.slice a bs.length c, .slice ac ch.length cc, .int .i64 n] w fun e w' => e = .returned (.bool true) ∧ Below w.heap.size w w' := by
  have hmm := @run_makeMap Try.prog
  have HR := Lib.hid (fun X (hX : Frm [] w X) => rd.frm hX)
  have HC := Lib.hid (fun X (hX : Frm [] w X) => rc.below (w' := X) hX.below)
  obtain ⟨B, hB⟩ : ∃ B, B = fewY bs 100 100 := ⟨_, rfl⟩
  have HFw := Lib.hid (fun X (hX : Frm [] w X) => few_c a c bs 100 100 X (HR.out X hX) (by decide) (by decide) hl)
  rw [← hB] at HFw
  have HBf := Lib.hid (fun (h : B = true) => few_yes.1 (hB.symm.trans h))
  have HCn := Lib.hid hc
  clear rd rc hB hc
  go_enter Try.func4, Try.ntmps4
  go_wp2_with fail
  refine (alive_c w).mono ?_
  rintro e w1 ⟨rfl, hf⟩
  have HS1 := Lib.hid ((Sep.init w).keep hf)
  clear hf
  go_wp2_with fail
  refine (HFw.out w1 HS1.out.frm).mono ?_
  rintro e w2 ⟨rfl, hw2⟩
  subst hw2
  cases B with
  | false =>
    go_wp2_with fail
    go_ret
    exact ⟨rfl, HS1.out.frm.below⟩
  | true =>
    by_cases h2 : 200 < ch.length
    · have t2 : decide (200 < (ch.length : Int)) = true := decide_eq_true (by omega)
      go_wp2_with fail
      go_ret
      exact ⟨rfl, HS1.out.frm.below⟩
    have t2 : decide (200 < (ch.length : Int)) = false := decide_eq_false (by omega)
    obtain ⟨hN, hz⟩ := HBf.out rfl
    have HZ := Lib.hid (fun b hb => Nat.le_trans (hz b hb) (show 100 ≤ 1000000 by decide))
    obtain ⟨X, hX⟩ : ∃ X, X = bs.map Yt.zs := ⟨_, rfl⟩
    have HXx := Lib.hid hX
    have HXn := Lib.hid (show X.length = bs.length by rw [hX, List.length_map])
    have HXl := Lib.hid (show ∀ z ∈ X, z.length ≤ 1000000 from fun z h => by
      rw [hX] at h
      obtain ⟨b, hb, rfl⟩ := List.mem_map.1 h
      exact HZ.out b hb)
    clear HFw HBf hX hz
    have HLo := Lib.hid (lost_c (bs.length : Int) ac cc ch w1 (HC.out _ HS1.out.frm))
    rw [show lostN (bs.length : Int) = bs.length by unfold lostN; omega] at HLo
    have n1 : ((bs.length : Int) != (bs.length : Int)) = false := by simp
    go_wp2_with fail
    clear t2
    refine HLo.out.mono ?_
    rintro e w2 ⟨v2, rfl, hS2⟩
    obtain ⟨a2, c2, hv2, -, -⟩ := own_shape (hS2.own 0 rfl)
    subst hv2
    have HS2 := Lib.hid (show Sep [] w w2 [ownR 4 1 (.slice a2 bs.length c2) bs.length (lostV ch bs.length)] from HS1.out.more hS2)
    clear hS2 HLo HS1
    have HS3 := Lib.hid (HS2.out.add (r := mapR Try.prog 9 w2.heap.size (cntKv (cntF ch X 0) [])) ((Frm.refl [] w2).alloc (.map #[] 0)) (MapAt.made Try.prog 9 w2) (by simp [mapR]))
    go_wp2_with fail
    obtain ⟨g, hg⟩ : ∃ g, g = w2.heap.size := ⟨_, rfl⟩
    rw [← hg] at HS3 ⊢
    clear hg HS2 n1
    go_loopw [39] (fun i wi => ∃ (k : Nat) (ks : List ByteArray), k ≤ bs.length ∧ ks.length ≤ k ∧ (∀ s, s ∉ ks → cntF ch X k s = 0) ∧ i = .int .i64 (k : Int) ∧ Sep [] w wi [mapR Try.prog 9 g (cntKv (cntF ch X k) ks), ownR 4 1 (.slice a2 bs.length c2) bs.length (lostV ch bs.length)]) (fun i _ => bs.length - (intOf i).toNat)
    case atStart => exact ⟨0, [], Nat.zero_le _, Nat.zero_le _, fun _ _ => rfl, rfl, HS3.out⟩
    case round =>
      obtain ⟨k, ks, hk, hks, hk0, rfl, hS⟩ := hrel
      have HT := Lib.hid hS
      have HK0 := Lib.hid hk0
      clear hS HS3 hk0
      by_cases hlt : k < bs.length
      · skip
        obtain ⟨b, hb⟩ : ∃ b, bs[k]? = some b := ⟨_, List.getElem?_eq_getElem hlt⟩
        obtain ⟨gb, off, q, d, rfl, hcell, -, hr, -, -, -⟩ := (HR.out _ HT.out.frm).at_ hb
        obtain ⟨g2, cv2, hv2⟩ := row_slice (HT.out.own 1 rfl) (by omega)
        injection hv2 with hv2 hx1 hx2
        clear hx1 hx2
        subst hv2
        obtain ⟨D, hD⟩ : ∃ D, D = decide (wy ch k = 3) := ⟨_, rfl⟩
        have hlc := ownk_cell (HT.out.own 1 rfl) (show (lostV ch bs.length)[k]? = some (.bool D) by
          unfold lostV
          rw [List.getElem?_map, List.getElem?_range hlt, hD]
          rfl)
        have HXk := Lib.hid (show X[k]? = some b.zs by rw [HXx.out, List.getElem?_map, hb]; rfl)
        obtain ⟨zs, hzs⟩ : ∃ zs, zs = b.zs := ⟨_, rfl⟩
        rw [← hzs] at hr hcell HXk
        have HXz := Lib.hid (HXl.out zs (List.mem_of_getElem? HXk.out))
        obtain ⟨W, hW⟩ : ∃ W, W = wy ch k := ⟨_, rfl⟩
        rw [← hW] at hD
        obtain ⟨K1, hK1⟩ : ∃ K1, K1 = k + 1 := ⟨_, rfl⟩
        have HSu := Lib.hid (cntF_succ (ch := ch) HXk.out)
        rw [← hK1, ← hW] at HSu
        have HK1 := Lib.hid hK1
        have HRw := Lib.hid (rway_c ac cc ch k _ (HC.out _ HT.out.frm))
        rw [← hW] at HRw
        obtain ⟨V, hV⟩ : ∃ V, V = cntF ch X k (strOfNums zs) := ⟨_, rfl⟩
        have hVb : 0 ≤ V ∧ V ≤ 200 := by
          have := cntN_le ch X (isS (strOfNums zs)) k
          rw [hV]
          unfold cntF
          omega
        obtain ⟨kl, hkl⟩ := keyS HXz.out
        have hlk := cnt_look (HT.out.get 0 rfl) HK0.out keyedS Try.underlying42 (zeroInt _) (strOfNums zs) hkl
        rw [← hV] at hlk HSu
        have HSt := Lib.hid (fun v => cnt_store (HT.out.get 0 rfl) HK0.out keyedS Try.underlying42 (strOfNums zs) v hkl (by unfold maxLen; omega))
        have hcv := str_rd (c := d) hr
        obtain ⟨s, hs⟩ : ∃ s, s = strOfNums zs := ⟨_, rfl⟩
        rw [← hs] at hlk HSu HSt hcv
        have t1 : decide (k < bs.length) = true := decide_eq_true (by omega)
        have i1 : (0 : Int) ≤ (k : Int) := by omega
        have i2 : (k : Int) < (bs.length : Int) := by omega
        have hWl : W < 8 := by rw [hW]; exact wy_lt _ _
        have e1 : (k : Int) + 1 = (K1 : Int) := by omega
        have e2 : IntKind.i64.wrap (K1 : Int) = (K1 : Int) := IntWalk.i64_in _ (by omega)
        have HVb := Lib.hid hVb
        have HWl := Lib.hid hWl
        clear hb hr hzs hW hV hkl hs hK1 hVb hWl HK0
        by_cases h3 : W = 3
        · skip
          obtain ⟨T, hT⟩ : ∃ T, T = V + 0 := ⟨_, rfl⟩
          have e3 : V + 0 = T := hT.symm
          have e4 : IntKind.i64.wrap T = T := IntWalk.i64_in _ (by have := HVb.out; omega)
          obtain ⟨w3, ks3, hrun, hm3, hg3, h03, hl3⟩ := HSt.out T
          have HSu2 := Lib.hid (show cntF ch X K1 = cntUp (cntF ch X k) s T by rw [HSu.out, hT]; rw [h3]; rfl)
          have HS4 := Lib.hid (show Sep [] w w3 [mapR Try.prog 9 g (cntKv (cntF ch X K1) ks3), ownR 4 1 (.slice (some ⟨g2, 0, none⟩) bs.length c2) bs.length (lostV ch bs.length)] from by
            rw [HSu2.out]
            exact HT.out.write 0 rfl (F := [g]) (Frm.of_grown hg3) (by simp [mapR]) hm3 (by simp [mapR]))
          have H03 := Lib.hid (show ∀ s, s ∉ ks3 → cntF ch X K1 s = 0 by rw [HSu2.out]; exact h03)
          have HL3 := Lib.hid hl3
          have t3 : ((W : Int) == 4) = false := by rw [Bool.eq_false_iff, Ne, beq_iff_eq]; omega
          have hD2 : D = true := by rw [hD]; exact decide_eq_true h3
          subst hD2
          clear hD hT hm3 hg3 h03 hl3 HSu
          go_wp2_with fail
          refine HRw.out.mono ?_
          rintro e w4 ⟨rfl, hw4⟩
          subst hw4
          go_wp2_with fail
          go_roundw
          case rel => exact ⟨K1, ks3, by have := HK1.out; omega, by have := HK1.out; have := HL3.out; omega, H03.out, rfl, HS4.out⟩
          case measure => have := HK1.out; simp [intOf]; omega
        by_cases h4 : W = 4
        · skip
          obtain ⟨T, hT⟩ : ∃ T, T = V + 2 := ⟨_, rfl⟩
          have e3 : V + 2 = T := hT.symm
          have e4 : IntKind.i64.wrap T = T := IntWalk.i64_in _ (by have := HVb.out; omega)
          obtain ⟨w3, ks3, hrun, hm3, hg3, h03, hl3⟩ := HSt.out T
          have HSu2 := Lib.hid (show cntF ch X K1 = cntUp (cntF ch X k) s T by rw [HSu.out, hT]; rw [h4]; rfl)
          have HS4 := Lib.hid (show Sep [] w w3 [mapR Try.prog 9 g (cntKv (cntF ch X K1) ks3), ownR 4 1 (.slice (some ⟨g2, 0, none⟩) bs.length c2) bs.length (lostV ch bs.length)] from by
            rw [HSu2.out]
            exact HT.out.write 0 rfl (F := [g]) (Frm.of_grown hg3) (by simp [mapR]) hm3 (by simp [mapR]))
          have H03 := Lib.hid (show ∀ s, s ∉ ks3 → cntF ch X K1 s = 0 by rw [HSu2.out]; exact h03)
          have HL3 := Lib.hid hl3
          have t3 : ((W : Int) == 4) = true := by rw [beq_iff_eq]; omega
          have hD2 : D = false := by rw [hD]; exact decide_eq_false h3
          subst hD2
          clear hD hT hm3 hg3 h03 hl3 HSu
          go_wp2_with fail
          refine HRw.out.mono ?_
          rintro e w4 ⟨rfl, hw4⟩
          subst hw4
          go_wp2_with fail
          go_roundw
          case rel => exact ⟨K1, ks3, by have := HK1.out; omega, by have := HK1.out; have := HL3.out; omega, H03.out, rfl, HS4.out⟩
          case measure => have := HK1.out; simp [intOf]; omega
        · skip
          obtain ⟨T, hT⟩ : ∃ T, T = V + 1 := ⟨_, rfl⟩
          have e3 : V + 1 = T := hT.symm
          have e4 : IntKind.i64.wrap T = T := IntWalk.i64_in _ (by have := HVb.out; omega)
          obtain ⟨w3, ks3, hrun, hm3, hg3, h03, hl3⟩ := HSt.out T
          have HSu2 := Lib.hid (show cntF ch X K1 = cntUp (cntF ch X k) s T by rw [HSu.out, hT]; unfold kW; rw [if_neg h3, if_neg h4]; rfl)
          have HS4 := Lib.hid (show Sep [] w w3 [mapR Try.prog 9 g (cntKv (cntF ch X K1) ks3), ownR 4 1 (.slice (some ⟨g2, 0, none⟩) bs.length c2) bs.length (lostV ch bs.length)] from by
            rw [HSu2.out]
            exact HT.out.write 0 rfl (F := [g]) (Frm.of_grown hg3) (by simp [mapR]) hm3 (by simp [mapR]))
          have H03 := Lib.hid (show ∀ s, s ∉ ks3 → cntF ch X K1 s = 0 by rw [HSu2.out]; exact h03)
          have HL3 := Lib.hid hl3
          have t3 : ((W : Int) == 4) = false := by rw [Bool.eq_false_iff, Ne, beq_iff_eq]; omega
          have hD2 : D = false := by rw [hD]; exact decide_eq_false h3
          subst hD2
          clear hD hT hm3 hg3 h03 hl3 HSu
          go_wp2_with fail
          refine HRw.out.mono ?_
          rintro e w4 ⟨rfl, hw4⟩
          subst hw4
          go_wp2_with fail
          go_roundw
          case rel => exact ⟨K1, ks3, by have := HK1.out; omega, by have := HK1.out; have := HL3.out; omega, H03.out, rfl, HS4.out⟩
          case measure => have := HK1.out; simp [intOf]; omega
      · obtain rfl : k = bs.length := by omega
        have t1 : decide (bs.length < bs.length) = false := decide_eq_false (by omega)
        have HA := Lib.hid (apply_c a c bs wr (HR.out _ HT.out.frm) HZ.out (by omega) ac cc ch (HC.out _ HT.out.frm) HCn.out (by omega))
        rw [← HXx.out] at HA
        go_wp2_with fail
        refine HA.out.mono ?_
        rintro e w3 ⟨v3, os, rfl, ho, hS3⟩
        obtain ⟨a3, c3, hv3, _, _, r3⟩ := ys_rd (hS3.get 0 rfl) (hS3.get 1 rfl)
        subst hv3
        obtain ⟨O, hO⟩ : ∃ O, O = os.map Yt.zs := ⟨_, rfl⟩
        rw [← hO] at ho
        have HOo := Lib.hid hO
        have HOn := Lib.hid (show O.length = os.length by rw [hO, List.length_map])
        have HEq := Lib.hid (show ∀ s, lessF (cntF ch X bs.length) O s = 0 from fun s => by
          unfold lessF cntF
          rw [ho, all_cnt]
          omega)
        have hol : os.length ≤ 200 := by
          rw [← HOn.out, ho, List.length_append, List.length_map]
          have := all_len ch X bs.length
          omega
        have HOl := Lib.hid (show ∀ z ∈ O, z.length ≤ 1000000 from fun z hz => by
          rw [ho] at hz
          rcases List.mem_append.1 hz with h | h
          · exact HXl.out _ (all_mem ch X bs.length _ h)
          · obtain ⟨q, hq, hqe⟩ := List.mem_map.1 h
            rw [← hqe]
            exact HXl.out _ ((qAt_ok ch X bs.length).l q hq).2.2)
        have HS4 := Lib.hid (show Sep [] w w3 [mapR Try.prog 9 g (cntKv (lessF (cntF ch X bs.length) (O.take 0)) ks), ysR (.slice a3 os.length c3) os, bodsR os] from by
          have h : Sep [] w w3 [_, _, _, _] := HT.out.more hS3
          rw [show lessF (cntF ch X bs.length) (O.take 0) = cntF ch X bs.length from by funext s; unfold lessF; simp]
          exact Sep.mix (A := [_, _, _, _]) (L := []) h [2, 0, 1] (by decide) rfl)
        clear hS3 r3 ho hO HA HT
        have HK1 := Lib.hid (show ∀ s, s ∉ ks → lessF (cntF ch X bs.length) (O.take 0) s = 0 from fun s hs => by
          rw [show lessF (cntF ch X bs.length) (O.take 0) = cntF ch X bs.length from by funext s; unfold lessF; simp]
          exact HK0.out s hs)
        clear HK0
        go_wp2_with fail
        clear t1
        go_loopw [63] (fun i wi => ∃ (j : Nat) (ks : List ByteArray), j ≤ os.length ∧ ks.length ≤ 100 + j ∧ (∀ s, s ∉ ks → lessF (cntF ch X bs.length) (O.take j) s = 0) ∧ i = .int .i64 (j : Int) ∧ Sep [] w wi [mapR Try.prog 9 g (cntKv (lessF (cntF ch X bs.length) (O.take j)) ks), ysR (.slice a3 os.length c3) os, bodsR os]) (fun i _ => os.length - (intOf i).toNat)
        case atStart => exact ⟨0, ks, Nat.zero_le _, by omega, HK1.out, rfl, HS4.out⟩
        case round =>
          obtain ⟨j, ks, hj, hks, hk0, rfl, hS⟩ := hrel
          have HT := Lib.hid hS
          have HK0 := Lib.hid hk0
          clear hS HS4 hk0 HK1
          by_cases hlt : j < os.length
          · obtain ⟨y, hy⟩ : ∃ y, os[j]? = some y := ⟨_, List.getElem?_eq_getElem hlt⟩
            obtain ⟨gb, off, q, d, rfl, hcell, -, hr, -, -, -⟩ := (ys_rds (HT.out.get 1 rfl) (HT.out.get 2 rfl)).at_ hy
            have hOj : O[j]? = some y.zs := by rw [HOo.out, List.getElem?_map, hy]; rfl
            obtain ⟨zs, hzs⟩ : ∃ zs, zs = y.zs := ⟨_, rfl⟩
            rw [← hzs] at hr hcell hOj
            have hzl := HOl.out zs (List.mem_of_getElem? hOj)
            obtain ⟨J1, hJ1⟩ : ∃ J1, J1 = j + 1 := ⟨_, rfl⟩
            have hsu : lessF (cntF ch X bs.length) (O.take J1) = cntUp (lessF (cntF ch X bs.length) (O.take j)) (strOfNums zs) (lessF (cntF ch X bs.length) (O.take j) (strOfNums zs) - 1) := by
              rw [hJ1, List.take_add_one, hOj]
              exact lessF_snoc
            obtain ⟨V, hV⟩ : ∃ V, V = lessF (cntF ch X bs.length) (O.take j) (strOfNums zs) := ⟨_, rfl⟩
            have hVb : -200 ≤ V ∧ V ≤ 200 := by
              have h1 := cntN_le ch X (isS (strOfNums zs)) bs.length
              have h2 := List.countP_le_length (p := isS (strOfNums zs)) (l := O.take j)
              rw [List.length_take] at h2
              rw [hV]
              unfold lessF cntF
              omega
            obtain ⟨kl, hkl⟩ := keyS hzl
            have hlk := cnt_look (HT.out.get 0 rfl) HK0.out keyedS Try.underlying42 (zeroInt _) (strOfNums zs) hkl
            rw [← hV] at hlk hsu
            obtain ⟨T, hT⟩ : ∃ T, T = V - 1 := ⟨_, rfl⟩
            have e3 : V - 1 = T := hT.symm
            have e4 : IntKind.i64.wrap T = T := IntWalk.i64_in _ (by omega)
            rw [← hT] at hsu
            obtain ⟨w4, ks4, hrun, hm4, hg4, h04, hl4⟩ := cnt_store (HT.out.get 0 rfl) HK0.out keyedS Try.underlying42 (strOfNums zs) T hkl (by unfold maxLen; omega)
            have hcv := str_rd (c := d) hr
            obtain ⟨s, hs⟩ : ∃ s, s = strOfNums zs := ⟨_, rfl⟩
            rw [← hs] at hlk hsu hrun hm4 h04 hcv
            have HS5 := Lib.hid (show Sep [] w w4 [mapR Try.prog 9 g (cntKv (lessF (cntF ch X bs.length) (O.take J1)) ks4), ysR (.slice (some ⟨gb, off, none⟩) os.length c3) os, bodsR os] from by
              rw [hsu]
              exact HT.out.write 0 rfl (F := [g]) (Frm.of_grown hg4) (by simp [mapR]) hm4 (by simp [mapR]))
            have H04 := Lib.hid (show ∀ s, s ∉ ks4 → lessF (cntF ch X bs.length) (O.take J1) s = 0 by rw [hsu]; exact h04)
            have HL4 := Lib.hid hl4
            have HJ1 := Lib.hid hJ1
            have t1 : decide (j < os.length) = true := decide_eq_true (by omega)
            have i1 : (0 : Int) ≤ (j : Int) := by omega
            have i2 : (j : Int) < (os.length : Int) := by omega
            have e1 : (j : Int) + 1 = (J1 : Int) := by omega
            have e2 : IntKind.i64.wrap (J1 : Int) = (J1 : Int) := IntWalk.i64_in _ (by omega)
            clear hy hr hOj hzs hzl hJ1 hsu hV hkl hT hm4 hg4 h04 hl4 hs HK0 HT hVb
            go_wp2_with fail
            go_roundw
            case rel => exact ⟨J1, ks4, by have := HJ1.out; omega, by have := HJ1.out; have := HL4.out; omega, H04.out, rfl, HS5.out⟩
            case measure => have := HJ1.out; simp [intOf]; omega
          · obtain rfl : j = os.length := by omega
            have t1 : decide (os.length < os.length) = false := decide_eq_false (by omega)
            rw [← HOn.out, List.take_length] at HT
            obtain ⟨f, hf⟩ : ∃ f, f = lessF (cntF ch X bs.length) O := ⟨_, rfl⟩
            rw [← hf] at HT HEq
            obtain ⟨w5, hrun, hrg, hf5⟩ := MapAt.range (show MapAt Try.prog 9 wr g (cntKv f ks) from HT.out.get 0 rfl) Try.underlying42
            obtain ⟨r, hr⟩ : ∃ r, r = wr.heap.size := ⟨_, rfl⟩
            rw [← hr] at hrun hrg
            have HRr := Lib.hid (show w.heap.size ≤ r by rw [hr]; exact HT.out.frm.size)
            have HRg := Lib.hid hrg
            have HF5 := Lib.hid (show Frm [] w w5 from HT.out.frm.trans hf5)
            clear hf hrg hf5 hr HT HK0
            go_wp2_with fail
            clear hrun t1
            go_loopg [] ks.length (fun gk wi => ∃ (todo : List (Value × Value)), gk = todo.length ∧ RangeAt Try.prog 9 wi g r (cntKv f ks) todo ∧ Frm [] w wi)
            case atStart => exact ⟨_, by simp [cntKv], HRg.out, HF5.out⟩
            case round =>
              obtain ⟨todo, hgk, hrg, hf⟩ := hrel
              have HGk := Lib.hid hgk
              clear hgk HRg HF5
              rcases hrg.next 0 with ⟨htd, hrun⟩ | ⟨A, p, B, w6, htd, hp, hrun, hrg2, hf2, hen⟩
              · have HF6 := Lib.hid hf
                have HLo := Lib.hid (lost_c n ac cc ch _ (HC.out _ hf))
                obtain ⟨N, hN⟩ : ∃ N, N = lostN n := ⟨_, rfl⟩
                rw [← hN] at HLo
                obtain ⟨Mx, hM⟩ : ∃ Mx : Int, max n 0 = Mx := ⟨_, rfl⟩
                have hMN : min Mx 4096 = (N : Int) := by rw [← hM, hN]; unfold lostN; omega
                have n2 : ((N : Int) == (N : Int)) = true := by simp
                clear htd hf hrg hN
                go_wp2_with fail
                clear hrun
                refine HLo.out.mono ?_
                rintro e w7 ⟨v7, rfl, hS7⟩
                obtain ⟨a7, c7, hv7, -, -⟩ := own_shape (hS7.own 0 rfl)
                subst hv7
                have HF7 := Lib.hid (HF6.out.trans hS7.frm)
                clear hS7 HLo
                go_wp2_with fail
                go_ret
                exact ⟨rfl, HF7.out.below⟩
              · obtain ⟨s, hs, rfl⟩ := List.mem_map.1 hp
                have hz0 := HEq.out s
                have HF6 := Lib.hid (hf.after hf2 (fun x hx => by simp at hx; subst hx; exact .inr HRr.out))
                have HR6 := Lib.hid hrg2
                have HGl := Lib.hid (show (A ++ B).length < todo.length by rw [htd]; simp)
                dsimp only at hrun hen
                rw [hz0] at hrun hen
                clear htd hp hs hf hf2 hrg hrg2 hz0
                go_wp2_with fail
                clear hrun hen
                go_roundg (A ++ B).length
                case rel => exact ⟨A ++ B, rfl, HR6.out, HF6.out⟩
                case measure => rw [HGk.out]; exact HGl.out
theorem linkKeeps_f {w : World} (a : Option Addr) (c : Nat) (rs : List IRow) (lc : rs.length ≤ c) (mc : c ≤ maxLen) (nc : a = none → c = 0) (rd : RdV w a (rs.map IRow.val)) (wf : ∀ r ∈ rs, r.zs.length ≤ r.c ∧ r.c ≤ maxLen ∧ (r.a = none → r.c = 0) ∧ RdI .u8 w r.a r.zs ∧ ∀ x ∈ r.zs, (Lit.int .u8 x).wf = true)
    (ac : Option Addr) (cc : Nat) (ch : List Int) (lcc : ch.length ≤ cc) (mcc : cc ≤ maxLen) (ncc : ac = none → cc = 0) (rc : RdI .i64 w ac ch) (wc : ∀ x ∈ ch, (Lit.int .i64 x).wf = true) (n : Int) (hn : (Lit.int .i64 n).wf = true) :
    Calls Try.prog 4 #[.slice a rs.length c, .slice ac ch.length cc, .int .i64 n] w fun e w' => e = .returned (.bool true) ∧ Below w.heap.size w w' := by
  have h := linkKeeps_w w a c (rs.map ytOf) (ys_of rd wf) (by rw [List.length_map]; unfold maxLen at mc; omega) ac cc ch rc ncc n
  rw [List.length_map] at h
  exact h

end Go.Proofs.Ytekjpkppfcmjdaa
