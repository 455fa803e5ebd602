/-
  THE WALK of merging in place: symMerge, both pieces longer than one.
-/
import Derived.Test.YtkpkfgnebgcoaaaSrtN
import Derived.Deep.DeepCutAuto
set_option linter.unusedVariables false
set_option linter.unusedSimpArgs false
namespace Go.Proofs.Ytkpkfgnebgcoaaa
open Go.RowKit

theorem rot_none {s m e : Nat} (h : ¬ (s < m ∧ m < e)) (hs : s ≤ m) (he : m ≤ e) (L : List Int) : By L L (rotIx s m e) := fun k => by
  have : rotIx s m e k = k := by unfold rotIx; split <;> (try split) <;> omega
  rw [this]
theorem Turned.length {l m : List Int} {a b : Nat} (h : Turned l m a b) : m.length = l.length := h.len

set_option maxRecDepth 100000 in
set_option maxHeartbeats 32000000 in
theorem symmerge_c (g c cap : Nat) (f : Int) (tl : List Value) (N : Nat) (hne : c ≠ g) (hcap : cap ≤ 9223372036854775807) (hNc : N ≤ cap ∧ N ≤ 1000000) (f0 : 0 ≤ f) (f1 : f ≤ 65535) : ∀ fuel, MergeAt g c cap f tl N fuel := by
  intro fuel
  induction fuel with
  | zero => intro L a m b w hN hk ham hmb hb; omega
  | succ fuel ih =>
    intro L a m b w hN hk ham hmb hb hg hc h1 h2 hL
    by_cases hma : m = a + 1
    · subst hN
      exact merge_left g c cap f tl hne hcap f0 f1 L a m b w hNc hma hmb hb hg hc h2 hL
    · by_cases hbm : b = m + 1
      · subst hN
        exact merge_right g c cap f tl hne hcap f0 f1 L a m b w hNc (by omega) hbm hb hg hc h1 hL
      · have HIH : Hid (∀ (R : List Int) (x y z : Nat) (X Y Z : Int) (W : World), X = x → Y = y → Z = z → R.length = N → z - x ≤ fuel → x < y → y < z → z ≤ N → Blk W g 22 (srtCells R tl) → Blk W c 22 #[.int .u16 f] → SoOn (fun x => ah16 x f) R x y → SoOn (fun x => ah16 x f) R y z → (∀ x ∈ R, 0 ≤ x ∧ x ≤ 65535) →
            Calls Try.prog 34 #[.slice (some ⟨g, 0, none⟩) N cap, .int .i64 X, .int .i64 Y, .int .i64 Z, .func (.func 31) #[] #[.pointer (some ⟨c, 0, none⟩)]] W fun e w' => e = .returned (.tuple #[]) ∧ ∃ L', Turned R L' x z ∧ SoOn (fun x => ah16 x f) L' x z ∧ Blk w' g 22 (srtCells L' tl) ∧ Frm [g] W w') := Lib.hid fun R x y z X Y Z W hX hY hZ => by
          subst hX hY hZ
          exact ih R x y z W
        have HRo : Hid (∀ (R : List Int) (x y z : Nat) (X Y Z : Int) (W : World), X = x → Y = y → Z = z → R.length = N → x < y → y < z → z ≤ N → Blk W g 22 (srtCells R tl) →
            Calls Try.prog 35 #[.slice (some ⟨g, 0, none⟩) N cap, .int .i64 X, .int .i64 Y, .int .i64 Z, .func (.func 31) #[] #[.pointer (some ⟨c, 0, none⟩)]] W fun e w' => e = .returned (.tuple #[]) ∧ ∃ L', By R L' (rotIx x y z) ∧ Turned R L' x z ∧ Blk w' g 22 (srtCells L' tl) ∧ Frm [g] W w') := Lib.hid fun R x y z X Y Z W hX hY hZ hR h3 h4 h5 h6 => by
          subst hX hY hZ
          have := rotate_c g cap (.func (.func 31) #[] #[.pointer (some ⟨c, 0, none⟩)]) R tl x y z W h6 h3 h4 (by omega) (by omega) hcap
          rw [hR] at this
          exact this
        have HG := Lib.hid hg
        have HC := Lib.hid hc
        have HL := Lib.hid hL
        have HN := Lib.hid hN
        have H1 := Lib.hid h1
        have H2 := Lib.hid h2
        have HNe := Lib.hid hne
        have q0 : ((m : Int) - (a : Int) == 1) = false := beq_eq_false_iff_ne.2 (by omega)
        have q1 : ((b : Int) - (m : Int) == 1) = false := beq_eq_false_iff_ne.2 (by omega)
        have a1 : a + 2 ≤ m := by omega
        have a2 : m + 2 ≤ b := by omega
        have n1 : N ≤ L.length := by omega
        have n2 : L.length ≤ N := by omega
        have u1 : IntKind.u64.wrap ((a : Int) + (b : Int)) = (a : Int) + (b : Int) := IntWalk.u64_in _ (by omega)
        obtain ⟨d, hd⟩ : ∃ d : Nat, ((a : Int) + (b : Int)) / 2 = (d : Int) := ⟨(a + b) / 2, by omega⟩
        have d1 : 2 * d ≤ a + b := by omega
        have d2 : a + b ≤ 2 * d + 1 := by omega
        clear ih hg hc hL h1 h2 hne hma hbm hN
        unfold cmpV
        go_enter Try.func34, Try.ntmps34
        go_upto_if 140 with fail
        clear q0 q1 u1
        go_cut [20, 21] (fun x y wx => ∃ s0 r0 : Nat, x = .int .i64 s0 ∧ y = .int .i64 r0 ∧ ((d < m ∧ s0 + b = d + m ∧ r0 = d) ∨ (m ≤ d ∧ s0 = a ∧ r0 = m)) ∧ wx = w)
        case first =>
          as_aux_lemma =>
            by_cases hdm : d < m
            · go_wp2_with fail
              go_meet
              exact ⟨d + m - b, d, congrArg (Value.int .i64) (by omega), rfl, .inl ⟨hdm, by omega, rfl⟩, rfl⟩
            · go_wp2_with fail
              go_meet
              exact ⟨a, m, rfl, rfl, .inr ⟨by omega, rfl, rfl⟩, rfl⟩
        case rest =>
          obtain ⟨s0, r0, rfl, rfl, hsr, rfl⟩ := hcut
          obtain ⟨W0, rfl⟩ : ∃ W0 : World, W0 = wc := ⟨_, rfl⟩
          clear hd
          have b1 : a ≤ s0 := by omega
          have b2 : s0 ≤ r0 := by omega
          have b3 : r0 ≤ m := by omega
          have b4 : r0 ≤ d := by omega
          have b5 : d + m ≤ s0 + b := by omega
          have HSR := Lib.hid hsr
          clear hsr
          go_wp2_with fail
          go_loopw [20, 21] (fun x y wr => ∃ (s r : Nat), s0 ≤ s ∧ s ≤ r ∧ r ≤ r0 ∧ x = .int .i64 s ∧ y = .int .i64 r ∧ (∀ q, s0 ≤ q → q < s → ah16 (L.getD q 0) f ≤ ah16 (L.getD (d + m - 1 - q) 0) f) ∧ (∀ q, r ≤ q → q < r0 → ah16 (L.getD (d + m - 1 - q) 0) f < ah16 (L.getD q 0) f) ∧ Blk wr g 22 (srtCells L tl) ∧ Frm [g] W0 wr) (fun x y _ => (intOf y).toNat - (intOf x).toNat)
          case atStart => exact ⟨s0, r0, Nat.le_refl _, b2, Nat.le_refl _, rfl, rfl, (fun q h1 h2 => by omega), (fun q h1 h2 => by omega), HG.out, Frm.refl _ _⟩
          case round =>
            obtain ⟨s, r, hs, hsr, hr, rfl, rfl, hlo, hhi, hbl0, hfr0⟩ := hrel
            have HB0 := Lib.hid hbl0
            have HF0 := Lib.hid hfr0
            have HLo := Lib.hid hlo
            have HHi := Lib.hid hhi
            clear hbl0 hfr0 hlo hhi
            by_cases hlt : s < r
            · have u1 : IntKind.u64.wrap ((s : Int) + (r : Int)) = (s : Int) + (r : Int) := IntWalk.u64_in _ (by omega)
              obtain ⟨h, hh⟩ : ∃ h : Nat, ((s : Int) + (r : Int)) / 2 = (h : Int) := ⟨(s + r) / 2, by omega⟩
              have hb1 : s ≤ h := by omega
              have hb2 : h < r := by omega
              obtain ⟨t, ht⟩ : ∃ t, t = d + m - 1 - h := ⟨_, rfl⟩
              have ht1 : t + h + 1 = d + m := by omega
              have ht2 : m ≤ t := by omega
              have ht3 : t < b := by omega
              obtain ⟨X, hX⟩ : ∃ X, X = L.getD h 0 := ⟨_, rfl⟩
              obtain ⟨Y, hY⟩ : ∃ Y, Y = L.getD t 0 := ⟨_, rfl⟩
              have cx : wr.cell? ⟨g, h, none⟩ = some (.int .u16 X) := by rw [hX]; exact HB0.out.cell h (srt_at L tl h (by omega))
              have cy : wr.cell? ⟨g, t, none⟩ = some (.int .u16 Y) := by rw [hY]; exact HB0.out.cell t (srt_at L tl t (by omega))
              obtain ⟨D, hD⟩ : ∃ D, D = ah16 Y f - ah16 X f := ⟨_, rfl⟩
              have HCc : Hid (∀ n, Calls Try.prog 31 #[.int .u16 Y, .int .u16 X, .pointer (some ⟨c, 0, none⟩)] (wr.drewN n) fun e w' => e = .returned (.int .i64 D) ∧ ∃ m, w' = (wr.drewN n).drewN m) := Lib.hid fun n => by
                rw [hD, hX, hY]
                exact cmp_at HC.out HF0.out HNe.out f0 f1 HL.out t h (by omega) (by omega) n
              have b1' : (0 : Int) ≤ (h : Int) := by omega
              have b2' : (h : Int) < (N : Int) := by omega
              have b3' : (0 : Int) ≤ (t : Int) := by omega
              have b4' : (t : Int) < (N : Int) := by omega
              have i1 : IntKind.i64.wrap ((d : Int) + (m : Int) - 1 - (h : Int)) = (t : Int) := by rw [show (d : Int) + (m : Int) - 1 - (h : Int) = (t : Int) from by omega]; exact IntWalk.i64_in _ (by omega)
              have HX := Lib.hid hX
              have HY := Lib.hid hY
              have HD := Lib.hid hD
              have HT := Lib.hid ht
              clear hX hY hD ht
              by_cases hdd0 : D < 0
              · have hdd : decide (D < 0) = true := by simpa using hdd0
                go_wp2_with fail
                go_quiet ((exact Calls.quiet_of (HCc.out _)))
                clear HCc hdd i1
                go_wp2_with fail
                go_roundw
                case rel => exact ⟨s, h, hs, by omega, by omega, rfl, rfl, HLo.out, fun q h1 h2 => (by
                  have := HD.out
                  rw [HX.out, HY.out] at this
                  have k1 := H1.out.le (show a ≤ h by omega) h1 (show q < m by omega)
                  have k2 := H2.out.le (show m ≤ d + m - 1 - q by omega) (show d + m - 1 - q ≤ t by omega) ht3
                  omega), HB0.out.drewN _, HF0.out.drewN _⟩
                case measure => simp [intOf]; omega
              · have hdd : decide (D < 0) = false := by simpa using hdd0
                go_wp2_with fail
                go_quiet ((exact Calls.quiet_of (HCc.out _)))
                clear HCc hdd i1
                go_wp2_with fail
                go_roundw
                case rel => exact ⟨h + 1, r, by omega, by omega, hr, by go_num, rfl, fun q h1 h2 => (by
                  have := HD.out
                  rw [HX.out, HY.out] at this
                  have k1 := H1.out.le (show a ≤ q by omega) (show q ≤ h by omega) (show h < m by omega)
                  have k2 := H2.out.le ht2 (show t ≤ d + m - 1 - q by omega) (show d + m - 1 - q < b by omega)
                  omega), HHi.out, HB0.out.drewN _, HF0.out.drewN _⟩
                case measure => simp [intOf]; omega
            · obtain rfl : s = r := by omega
              obtain ⟨e, he⟩ : ∃ e, e = d + m - s := ⟨_, rfl⟩
              have e1 : e + s = d + m := by omega
              have e2 : m ≤ e := by omega
              have e3 : e ≤ b := by omega
              have hc1 : ∀ i j, a ≤ i → i < s → e ≤ j → j < b → ah16 (L.getD i 0) f ≤ ah16 (L.getD j 0) f := fun i j p1 p2 p3 p4 => by
                by_cases hs0 : s0 < s
                · have k := HLo.out (s - 1) (by omega) (by omega)
                  rw [show d + m - 1 - (s - 1) = e from by omega] at k
                  have k1 := H1.out.le p1 (show i ≤ s - 1 by omega) (by omega)
                  have k2 := H2.out.le e2 p3 p4
                  exact Int.le_trans k1 (Int.le_trans k k2)
                · rcases HSR.out with ⟨_, h4, _⟩ | ⟨_, h4, _⟩ <;> omega
              have hc2 : ∀ i j, m ≤ i → i < e → s ≤ j → j < m → ah16 (L.getD i 0) f ≤ ah16 (L.getD j 0) f := fun i j p1 p2 p3 p4 => by
                by_cases hs0 : s < r0
                · have k := HHi.out s (Nat.le_refl _) hs0
                  rw [show d + m - 1 - s = e - 1 from by omega] at k
                  have k1 := H2.out.le p1 (show i ≤ e - 1 by omega) (by omega)
                  have k2 := H1.out.le (show a ≤ s by omega) p3 p4
                  exact Int.le_trans k1 (Int.le_trans (Int.le_of_lt k) k2)
                · rcases HSR.out with ⟨_, _, h4⟩ | ⟨_, _, h4⟩ <;> omega
              have HC1 := Lib.hid hc1
              have HC2 := Lib.hid hc2
              clear he hc1 hc2 hlt
              obtain ⟨T, hT⟩ : ∃ T : Bool, T = decide (s < m ∧ m < e) := ⟨_, rfl⟩
              go_upto_region 39 with fail
              go_cut [185] (fun c wx => c = .bool T ∧ Blk wx g 22 (srtCells L tl) ∧ Frm [g] W0 wx)
              case first =>
                as_aux_lemma =>
                  by_cases r1 : s < m
                  · by_cases r2 : m < e
                    · have hT2 : T = true := by rw [hT, decide_eq_true_eq]; exact ⟨r1, r2⟩
                      subst hT2
                      clear hT
                      have g1 : decide ((s : Int) < (m : Int)) = true := by rw [decide_eq_true_eq]; omega
                      go_wp2_with fail
                      go_meet
                      exact ⟨by first | rfl | exact congrArg Value.bool (by rw [decide_eq_true_eq]; omega) | exact congrArg Value.bool (by rw [decide_eq_false_iff_not]; omega), HB0.out, HF0.out⟩
                    · have hT2 : T = false := by rw [hT, decide_eq_false_iff_not]; exact fun e => r2 e.2
                      subst hT2
                      clear hT
                      have g1 : decide ((s : Int) < (m : Int)) = true := by rw [decide_eq_true_eq]; omega
                      go_wp2_with fail
                      go_meet
                      exact ⟨by first | rfl | exact congrArg Value.bool (by rw [decide_eq_true_eq]; omega) | exact congrArg Value.bool (by rw [decide_eq_false_iff_not]; omega), HB0.out, HF0.out⟩
                  · have hT2 : T = false := by rw [hT, decide_eq_false_iff_not]; exact fun e => r1 e.1
                    subst hT2
                    clear hT
                    have g1 : decide ((s : Int) < (m : Int)) = false := by rw [decide_eq_false_iff_not]; omega
                    go_wp2_with fail
                    go_meet
                    exact ⟨by first | rfl | exact congrArg Value.bool (by rw [decide_eq_true_eq]; omega) | exact congrArg Value.bool (by rw [decide_eq_false_iff_not]; omega), HB0.out, HF0.out⟩
              case rest =>
                obtain ⟨rfl, bb1, ff1⟩ := hcut
                have HB1 := Lib.hid bb1
                have HF1 := Lib.hid ff1
                have HT := Lib.hid hT
                clear hT bb1 ff1
                go_upto_if 185 with fail
                go_cut [] (fun wx => ∃ R, By L R (rotIx s m e) ∧ Turned L R a b ∧ Blk wx g 22 (srtCells R tl) ∧ Frm [g] W0 wx)
                case first =>
                  as_aux_lemma =>
                    cases T
                    · have hno := of_decide_eq_false HT.out.symm
                      have HNo := Lib.hid hno
                      clear hno
                      go_wp2_with fail
                      go_meet
                      exact ⟨L, rot_none HNo.out (by omega) e2 L, Turned.refl _ _ _, HB1.out, HF1.out⟩
                    · have hyes := of_decide_eq_true HT.out.symm
                      obtain ⟨r1, r2⟩ := hyes
                      go_wp2_with fail
                      refine (HRo.out L s m e _ _ _ _ rfl rfl (by omega) HN.out r1 r2 (by omega) HB1.out).mono ?_
                      rintro e' w1 ⟨rfl, R', h3, h4, h5, h6⟩
                      have HX := Lib.hid (And.intro h3 (And.intro h4 (And.intro h5 h6)))
                      clear h3 h4 h5 h6
                      go_wp2_with fail
                      go_meet
                      exact ⟨R', HX.out.1, HX.out.2.1.wide (by omega) (by omega), HX.out.2.2.1, HF1.out.trans HX.out.2.2.2⟩
                case rest =>
                  obtain ⟨R, hby, htR, hbR, hfR⟩ := hcut
                  have hmg := merged (d := d) H1.out H2.out (show a ≤ s by omega) (show s ≤ m by omega) e2 e3 (by omega) hby HC1.out HC2.out
                  have HMg := Lib.hid hmg
                  have HTR := Lib.hid htR
                  have HBR := Lib.hid hbR
                  have HFR := Lib.hid hfR
                  have hRN : R.length = N := by rw [htR.len, HN.out]
                  have HRN := Lib.hid hRN
                  have HRL : Hid (∀ x ∈ R, 0 ≤ x ∧ x ≤ 65535) := Lib.hid fun x hx => HL.out x (htR.perm.mem_iff.1 hx)
                  clear hby htR hbR hfR hmg hRN
                  obtain ⟨T, hT⟩ : ∃ T : Bool, T = decide (a < s ∧ s < d) := ⟨_, rfl⟩
                  go_upto_region 41 with fail
                  go_cut [199] (fun c wx => c = .bool T ∧ Blk wx g 22 (srtCells R tl) ∧ Frm [g] W0 wx)
                  case first =>
                    as_aux_lemma =>
                      by_cases r1 : a < s
                      · by_cases r2 : s < d
                        · have hT2 : T = true := by rw [hT, decide_eq_true_eq]; exact ⟨r1, r2⟩
                          subst hT2
                          clear hT
                          have g1 : decide ((a : Int) < (s : Int)) = true := by rw [decide_eq_true_eq]; omega
                          go_wp2_with fail
                          go_meet
                          exact ⟨by first | rfl | exact congrArg Value.bool (by rw [decide_eq_true_eq]; omega) | exact congrArg Value.bool (by rw [decide_eq_false_iff_not]; omega), HBR.out, HFR.out⟩
                        · have hT2 : T = false := by rw [hT, decide_eq_false_iff_not]; exact fun e => r2 e.2
                          subst hT2
                          clear hT
                          have g1 : decide ((a : Int) < (s : Int)) = true := by rw [decide_eq_true_eq]; omega
                          go_wp2_with fail
                          go_meet
                          exact ⟨by first | rfl | exact congrArg Value.bool (by rw [decide_eq_true_eq]; omega) | exact congrArg Value.bool (by rw [decide_eq_false_iff_not]; omega), HBR.out, HFR.out⟩
                      · have hT2 : T = false := by rw [hT, decide_eq_false_iff_not]; exact fun e => r1 e.1
                        subst hT2
                        clear hT
                        have g1 : decide ((a : Int) < (s : Int)) = false := by rw [decide_eq_false_iff_not]; omega
                        go_wp2_with fail
                        go_meet
                        exact ⟨by first | rfl | exact congrArg Value.bool (by rw [decide_eq_true_eq]; omega) | exact congrArg Value.bool (by rw [decide_eq_false_iff_not]; omega), HBR.out, HFR.out⟩
                  case rest =>
                    obtain ⟨rfl, bb2, ff2⟩ := hcut
                    have HB2 := Lib.hid bb2
                    have HF2 := Lib.hid ff2
                    have HT := Lib.hid hT
                    clear hT bb2 ff2
                    go_upto_if 199 with fail
                    go_cut [] (fun wx => ∃ R1, Turned R R1 a d ∧ SoOn (fun x => ah16 x f) R1 a d ∧ Blk wx g 22 (srtCells R1 tl) ∧ Frm [g] W0 wx)
                    case first =>
                      as_aux_lemma =>
                        cases T
                        · have hno := of_decide_eq_false HT.out.symm
                          have HNo := Lib.hid hno
                          clear hno
                          go_wp2_with fail
                          go_meet
                          exact ⟨R, Turned.refl _ _ _, (by
                          by_cases k1 : a < s
                          · have k2 : d ≤ s := Nat.le_of_not_lt fun k => HNo.out ⟨k1, k⟩
                            exact HMg.out.1.sub (Nat.le_refl _) k2
                          · exact HMg.out.2.1.sub (by omega) (Nat.le_refl _)), HB2.out, HF2.out⟩
                        · have hyes := of_decide_eq_true HT.out.symm
                          obtain ⟨r1, r2⟩ := hyes
                          go_wp2_with fail
                          refine (HIH.out R a s d _ _ _ _ rfl rfl rfl HRN.out (by omega) r1 r2 (by omega) HB2.out (HF2.out.blk HC.out (by simpa using HNe.out)) HMg.out.1 HMg.out.2.1 HRL.out).mono ?_
                          rintro e' w1 ⟨rfl, R', h3, h4, h5, h6⟩
                          have HX := Lib.hid (And.intro h3 (And.intro h4 (And.intro h5 h6)))
                          clear h3 h4 h5 h6
                          go_wp2_with fail
                          go_meet
                          exact ⟨R', HX.out.1, HX.out.2.1, HX.out.2.2.1, HF2.out.trans HX.out.2.2.2⟩
                    case rest =>
                      obtain ⟨R1, ht1, hs1, hb1, hf1⟩ := hcut
                      have HT1 := Lib.hid ht1
                      have HS1 := Lib.hid hs1
                      have HB3 := Lib.hid hb1
                      have HF3 := Lib.hid hf1
                      have hRN1 : R1.length = N := by rw [ht1.len, HRN.out]
                      have HRN1 := Lib.hid hRN1
                      have HRL1 : Hid (∀ x ∈ R1, 0 ≤ x ∧ x ≤ 65535) := Lib.hid fun x hx => HRL.out x (ht1.perm.mem_iff.1 hx)
                      have HD1 : Hid (SoOn (fun x => ah16 x f) R1 d e) := Lib.hid (HMg.out.2.2.1.same fun k k1 k2 => ht1.out k (.inr k1))
                      have HD2 : Hid (SoOn (fun x => ah16 x f) R1 e b) := Lib.hid (HMg.out.2.2.2.1.same fun k k1 k2 => ht1.out k (.inr (by omega)))
                      clear ht1 hs1 hb1 hf1 hRN1
                      obtain ⟨T, hT⟩ : ∃ T : Bool, T = decide (d < e ∧ e < b) := ⟨_, rfl⟩
                      go_upto_region 43 with fail
                      go_cut [213] (fun c wx => c = .bool T ∧ Blk wx g 22 (srtCells R1 tl) ∧ Frm [g] W0 wx)
                      case first =>
                        as_aux_lemma =>
                          by_cases r1 : d < e
                          · by_cases r2 : e < b
                            · have hT2 : T = true := by rw [hT, decide_eq_true_eq]; exact ⟨r1, r2⟩
                              subst hT2
                              clear hT
                              have g1 : decide ((d : Int) < (e : Int)) = true := by rw [decide_eq_true_eq]; omega
                              go_wp2_with fail
                              go_meet
                              exact ⟨by first | rfl | exact congrArg Value.bool (by rw [decide_eq_true_eq]; omega) | exact congrArg Value.bool (by rw [decide_eq_false_iff_not]; omega), HB3.out, HF3.out⟩
                            · have hT2 : T = false := by rw [hT, decide_eq_false_iff_not]; exact fun e => r2 e.2
                              subst hT2
                              clear hT
                              have g1 : decide ((d : Int) < (e : Int)) = true := by rw [decide_eq_true_eq]; omega
                              go_wp2_with fail
                              go_meet
                              exact ⟨by first | rfl | exact congrArg Value.bool (by rw [decide_eq_true_eq]; omega) | exact congrArg Value.bool (by rw [decide_eq_false_iff_not]; omega), HB3.out, HF3.out⟩
                          · have hT2 : T = false := by rw [hT, decide_eq_false_iff_not]; exact fun e => r1 e.1
                            subst hT2
                            clear hT
                            have g1 : decide ((d : Int) < (e : Int)) = false := by rw [decide_eq_false_iff_not]; omega
                            go_wp2_with fail
                            go_meet
                            exact ⟨by first | rfl | exact congrArg Value.bool (by rw [decide_eq_true_eq]; omega) | exact congrArg Value.bool (by rw [decide_eq_false_iff_not]; omega), HB3.out, HF3.out⟩
                      case rest =>
                        obtain ⟨rfl, bb4, ff4⟩ := hcut
                        have HB4 := Lib.hid bb4
                        have HF4 := Lib.hid ff4
                        have HT := Lib.hid hT
                        clear hT bb4 ff4
                        cases T
                        · have hno := of_decide_eq_false HT.out.symm
                          have hs2 : SoOn (fun x => ah16 x f) R1 d b := by
                            by_cases k1 : d < e
                            · have k2 : b ≤ e := Nat.le_of_not_lt fun k => hno ⟨k1, k⟩
                              exact HD1.out.sub (Nat.le_refl _) k2
                            · exact HD2.out.sub (by omega) (Nat.le_refl _)
                          have HS2 := Lib.hid hs2
                          clear hno hs2
                          go_wp2_with fail
                          go_end0
                          exact ⟨rfl, R1, (HTR.out.trans (HT1.out.wide (Nat.le_refl _) (by omega))).trans ((Turned.refl R1 d b).wide (by omega) (Nat.le_refl _)), joined (show a ≤ d by omega) (show d ≤ b by omega) HT1.out (Turned.refl R1 d b) HS1.out HS2.out HMg.out.2.2.2.2, HB4.out, HF4.out⟩
                        · have hyes := of_decide_eq_true HT.out.symm
                          obtain ⟨r1, r2⟩ := hyes
                          go_wp2_with fail
                          refine (HIH.out R1 d e b _ _ _ _ rfl (by omega) rfl HRN1.out (by omega) r1 r2 (by omega) HB4.out (HF4.out.blk HC.out (by simpa using HNe.out)) HD1.out HD2.out HRL1.out).mono ?_
                          rintro e' w1 ⟨rfl, R', h3, h4, h5, h6⟩
                          have HX := Lib.hid (And.intro h3 (And.intro h4 (And.intro h5 h6)))
                          clear h3 h4 h5 h6
                          go_wp2_with fail
                          go_end0
                          exact ⟨rfl, R', (HTR.out.trans (HT1.out.wide (Nat.le_refl _) (by omega))).trans (HX.out.1.wide (by omega) (Nat.le_refl _)), joined (show a ≤ d by omega) (show d ≤ b by omega) HT1.out HX.out.1 HS1.out HX.out.2.1 HMg.out.2.2.2.2, HX.out.2.2.1, (HF4.out.trans HX.out.2.2.2)⟩

end Go.Proofs.Ytkpkfgnebgcoaaa
