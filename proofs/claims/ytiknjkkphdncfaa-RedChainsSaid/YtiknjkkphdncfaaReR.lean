/-
  THE WALK of the law RedBack (printed by gen_back6.py).
-/
import Derived.Test.YtiknjkkphdncfaaReO
import Derived.Test.YtiknjkkphdncfaaReQ
import Derived.Test.YtiknjkkphdncfaaOpk
set_option linter.unusedVariables false
set_option linter.unusedSimpArgs false
namespace Go.Proofs.Ytiknjkkphdncfaa
open Go.RowKit

theorem catK_byt {f : Nat → BkV → List Int} {bs : List BkV} (h : ∀ (i : Nat) b, bs[i]? = some b → Byt (f i b)) (k : Nat) : Byt (catK f bs k) := fun x hx => by
  unfold catK at hx
  rw [List.mem_flatMap] at hx
  obtain ⟨i, _, hx⟩ := hx
  cases hb : bs[i]? with
  | none => rw [hb] at hx; simp at hx
  | some b => rw [hb] at hx; exact h i b hb x hx
theorem bytesB_byt {bs : List BkV} (h : wrongE bs = 0) (hy : ∀ b ∈ bs, Byt b.B) : Byt (bytesB bs) := by
  have hr := right_of h
  unfold bytesB
  intro x hx
  rcases List.mem_append.1 hx with hx | hx
  · refine catK_byt (fun i b hb => ?_) _ x hx
    have ho := hr.odd i b hb
    simp [oddB] at ho
    unfold hdB
    split
    · intro y hy; simp at hy; omega
    · intro y hy
      rcases List.mem_cons.1 hy with rfl | hy
      · omega
      · exact bigL_byt _ _ y hy
  · exact catK_byt (fun i b hb => hy b (List.mem_of_getElem? hb)) _ x hx
theorem chO_back {bs : List BkV} (h : wrongE bs = 0) : chO (bytesB bs) = bs.map BkV.bk ∧ chE (bytesB bs) = 0 := by
  unfold chO chE
  rw [chain_back h]
  exact ⟨rfl, rfl⟩
theorem back_ch {zs : List Int} (hz : Byt zs) (he : chE zs = 0) (hl : zs.length ≤ 1500) {bs : List BkV} (hb : bs.map BkV.bk = chO zs) : wrongE bs = 0 ∧ outB bs = zs := by
  unfold chE at he
  unfold chO at hb
  cases hc : chainL zs with
  | error e => rw [hc] at he; exact absurd he (chainL_ne hc)
  | ok r =>
    obtain ⟨o, k⟩ := r
    rw [hc] at hb
    have h := back_chain hz hc hl hb
    unfold outB
    rw [if_pos h.1]
    exact h
theorem wrapE_ok {x : Pp} {n : Int} (h : wrapE x n = 0) : wrongE (wrapB x) = 0 := by
  unfold wrapE at h
  split at h
  · exact h
  · cases h
theorem primL_wrap {x : Pp} {n : Int} (h : wrapE x n = 0) : primL (wrapL x n) = x := by
  have hw := wrapE_ok h
  unfold wrapL
  rw [if_pos h]
  unfold primL
  simp only
  rw [(chO_back hw).1]
  unfold wrapB
  simp [BkV.bk]
theorem wrap_pt {x : Pp} {n : Int} (h : wrapE x n = 0) : (wrapL x n).pt = n := by unfold wrapL; rw [if_pos h]
theorem wrap_P {x : Pp} {n : Int} (h : wrapE x n = 0) : (wrapL x n).P = bytesB (wrapB x) := by unfold wrapL; rw [if_pos h]
theorem wrap_sm {x : Pp} {n : Int} (h : PpSm x) : PpSm (wrapL x n) := by
  unfold wrapL
  split
  · rename_i he
    exact ⟨h.c, h.e, Nat.le_trans (bytesB_le (wrapE_ok he)) (by decide), h.d⟩
  · exact ⟨by decide, by decide, by decide, by decide⟩
theorem few_of {x : Pp} (h : fewP x = true) : PpSm x ∧ x.P.length ≤ 2000 := by
  unfold fewP at h
  rw [decide_eq_true_iff] at h
  exact ⟨⟨by omega, by omega, by omega, by omega⟩, by omega⟩

set_option maxRecDepth 100000 in
set_option maxHeartbeats 16000000 in
theorem redBackA (w : World) (a : Option Addr) (c : Nat) (bs : List BkV) (lc : bs.length ≤ c) (mc : c ≤ maxLen) (rd : RdS 3 w a (bs.map BkV.row)) (wf : ∀ b ∈ bs, BlkOk w b)
    (ab : Option Addr) (cb : Nat) (zs : List Int) (lb : zs.length ≤ cb) (mb : cb ≤ maxLen) (nb : ab = none → cb = 0) (rdb : RdI .u8 w ab zs) (wfb : ∀ x ∈ zs, (Lit.int .u8 x).wf = true) (p : Pk) (hp : RdPk w p) (ok : PpOk p.pl) (n : Int) (hbad : smallB bs = false ∨ 3000 < zs.length ∨ fewP p.pl = false) :
    Calls Try.prog 4 #[.slice a bs.length c, .slice ab zs.length cb, .agg p.cells, .int .i64 n] w fun e w' => e = .returned (.bool true) ∧ Below w.heap.size w w' := by
  unfold maxLen at mc mb
  have HB := Lib.hid (fun X (hX : Frm [] w X) => (rdBs_of rd wf).frm hX)
  have HBy := Lib.hid (fun b hb => (wf b hb).choose_spec.choose_spec.2.2.2.1)
  have HL := Lib.hid (fun b hb => (wf b hb).choose_spec.choose_spec.2.2.2.2)
  have hn : bs.length ≤ 9223372036854775807 := by omega
  have mbb : cb ≤ 9223372036854775807 := by omega
  have hzn : zs.length ≤ 9223372036854775807 := by omega
  have HSm := Lib.hid (fun X (hX : Frm [] w X) => small_c X a c bs (HB.out X hX) hn HL.out)
  have HFw := Lib.hid (fun X (hX : Frm [] w X) => pfew_c p X (hp.frm hX))
  have HP := Lib.hid (fun X (hX : Frm [] w X) => hp.frm hX)
  have HOk := Lib.hid ok
  have HZ := Lib.hid (And.intro rdb (And.intro (byt_wf wfb) (And.intro lb nb)))
  obtain ⟨p0, hp0⟩ : ∃ p0, p0 = p := ⟨_, rfl⟩
  rw [← hp0] at HP HFw HOk ⊢
  obtain ⟨⟨m, pt, seq, ts, ss, C, hx, pf, EE, P, D⟩, cv, ev, pv, dv⟩ := p
  have HQ := Lib.hid hp0
  obtain ⟨aC, cC, e1, _⟩ := (HP.out w (Frm.refl _ _)).c
  obtain ⟨aE, cE, e2, _⟩ := (HP.out w (Frm.refl _ _)).e
  obtain ⟨aP, cP, e3, _⟩ := (HP.out w (Frm.refl _ _)).p
  obtain ⟨aD, cD, e4, _⟩ := (HP.out w (Frm.refl _ _)).d
  rw [hp0] at e1 e2 e3 e4
  simp only at e1 e2 e3 e4
  subst e1 e2 e3 e4
  rw [hp0]
  rw [hp0] at HFw
  simp only [Pk.cells] at HFw ⊢
  obtain ⟨w0, hw0⟩ : ∃ w0, w0 = w.alloc (.cells #[.bool m, .int .i64 pt, .int .u16 seq, .int .u32 ts, .int .u32 ss, .slice aC C.length cC, .bool hx, .int .u16 pf, .slice aE EE.length cE, .slice aP P.length cP, .slice aD D.length cD] 36) := ⟨_, rfl⟩
  have HW0 := Lib.hid hw0
  have HF0 := Lib.hid (show Frm [] w w0 by rw [hw0]; exact (Frm.refl _ _).alloc _)
  have HK := Lib.hid (fun X (hX : Frm [] w0 X) => show Blk X w.heap.size 36 #[.bool m, .int .i64 pt, .int .u16 seq, .int .u32 ts, .int .u32 ss, .slice aC C.length cC, .bool hx, .int .u16 pf, .slice aE EE.length cE, .slice aP P.length cP, .slice aD D.length cD] from hX.blk (by rw [hw0]; exact Blk.made _ _ _) (by simp))
  simp only at hbad
  clear rd wf lc mc lb mb nb rdb wfb hp ok hw0 hp0
  cases hs : smallB bs with
  | false =>
    rw [hs] at HSm
    clear hbad hs
    go_enter Try.func4, Try.ntmps4
    go_wp2_with fail
    rw [← HW0.out]
    refine (alive_c _).mono ?_
    rintro e w1 ⟨rfl, hF⟩
    have HF1 := Lib.hid hF
    clear hF
    go_wp2_with fail
    refine (HSm.out _ (HF0.out.trans HF1.out)).mono ?_
    rintro e w2 ⟨rfl, hF⟩
    have HF2 := Lib.hid (HF1.out.trans hF)
    clear hF
    go_wp2_with fail
    go_ret
    exact ⟨rfl, (HF0.out.trans HF2.out).below⟩
  | true =>
    rw [hs] at HSm hbad
    by_cases h3 : 3000 < zs.length
    · have q3 : decide (3000 < (zs.length : Int)) = true := by rw [decide_eq_true_iff]; omega
      clear hbad hs h3
      go_enter Try.func4, Try.ntmps4
      go_wp2_with fail
      rw [← HW0.out]
      refine (alive_c _).mono ?_
      rintro e w1 ⟨rfl, hF⟩
      have HF1 := Lib.hid hF
      clear hF
      go_wp2_with fail
      refine (HSm.out _ (HF0.out.trans HF1.out)).mono ?_
      rintro e w2 ⟨rfl, hF⟩
      have HF2 := Lib.hid (HF1.out.trans hF)
      clear hF
      go_wp2_with fail
      go_ret
      exact ⟨rfl, (HF0.out.trans HF2.out).below⟩
    · have q3 : decide (3000 < (zs.length : Int)) = false := by rw [decide_eq_false_iff_not]; omega
      have hfw : fewP ⟨m, pt, seq, ts, ss, C, hx, pf, EE, P, D⟩ = false := by
        rcases hbad with h | h | h
        · cases h
        · exact absurd h h3
        · exact h
      rw [hfw] at HFw
      clear hbad hs h3 hfw
      go_enter Try.func4, Try.ntmps4
      go_wp2_with fail
      rw [← HW0.out]
      refine (alive_c _).mono ?_
      rintro e w1 ⟨rfl, hF⟩
      have HF1 := Lib.hid hF
      clear hF
      go_wp2_with fail
      refine (HSm.out _ (HF0.out.trans HF1.out)).mono ?_
      rintro e w2 ⟨rfl, hF⟩
      have HF2 := Lib.hid (HF1.out.trans hF)
      clear hF
      have k0 := (HK.out w2 HF2.out).cell 0 rfl
      have k1 := (HK.out w2 HF2.out).cell 1 rfl
      have k2 := (HK.out w2 HF2.out).cell 2 rfl
      have k3 := (HK.out w2 HF2.out).cell 3 rfl
      have k4 := (HK.out w2 HF2.out).cell 4 rfl
      have k5 := (HK.out w2 HF2.out).cell 5 rfl
      have k6 := (HK.out w2 HF2.out).cell 6 rfl
      have k7 := (HK.out w2 HF2.out).cell 7 rfl
      have k8 := (HK.out w2 HF2.out).cell 8 rfl
      have k9 := (HK.out w2 HF2.out).cell 9 rfl
      have k10 := (HK.out w2 HF2.out).cell 10 rfl
      go_wp2_with fail
      refine (HFw.out _ (HF0.out.trans HF2.out)).mono ?_
      rintro e w3 ⟨rfl, hF⟩
      have HF3 := Lib.hid (HF2.out.trans hF)
      clear hF
      go_wp2_with fail
      go_ret
      exact ⟨rfl, (HF0.out.trans HF3.out).below⟩

set_option maxRecDepth 100000 in
set_option maxHeartbeats 32000000 in
theorem redBackB (w : World) (a : Option Addr) (c : Nat) (bs : List BkV) (lc : bs.length ≤ c) (mc : c ≤ maxLen) (rd : RdS 3 w a (bs.map BkV.row)) (wf : ∀ b ∈ bs, BlkOk w b)
    (ab : Option Addr) (cb : Nat) (zs : List Int) (lb : zs.length ≤ cb) (mb : cb ≤ maxLen) (nb : ab = none → cb = 0) (rdb : RdI .u8 w ab zs) (wfb : ∀ x ∈ zs, (Lit.int .u8 x).wf = true) (p : Pk) (hp : RdPk w p) (ok : PpOk p.pl) (n : Int) (hs : smallB bs = true) (h3 : ¬ 3000 < zs.length) (hfw : fewP p.pl = true) :
    Calls Try.prog 4 #[.slice a bs.length c, .slice ab zs.length cb, .agg p.cells, .int .i64 n] w fun e w' => e = .returned (.bool true) ∧ Below w.heap.size w w' := by
  unfold maxLen at mc mb
  have HB := Lib.hid (fun X (hX : Frm [] w X) => (rdBs_of rd wf).frm hX)
  have HBy := Lib.hid (fun b hb => (wf b hb).choose_spec.choose_spec.2.2.2.1)
  have HL := Lib.hid (fun b hb => (wf b hb).choose_spec.choose_spec.2.2.2.2)
  have hn : bs.length ≤ 9223372036854775807 := by omega
  have mbb : cb ≤ 9223372036854775807 := by omega
  have hzn : zs.length ≤ 9223372036854775807 := by omega
  have HSm := Lib.hid (fun X (hX : Frm [] w X) => small_c X a c bs (HB.out X hX) hn HL.out)
  have HFw := Lib.hid (fun X (hX : Frm [] w X) => pfew_c p X (hp.frm hX))
  have HP := Lib.hid (fun X (hX : Frm [] w X) => hp.frm hX)
  have HOk := Lib.hid ok
  have HZ := Lib.hid (And.intro rdb (And.intro (byt_wf wfb) (And.intro lb nb)))
  obtain ⟨p0, hp0⟩ : ∃ p0, p0 = p := ⟨_, rfl⟩
  rw [← hp0] at HP HFw HOk ⊢
  obtain ⟨⟨m, pt, seq, ts, ss, C, hx, pf, EE, P, D⟩, cv, ev, pv, dv⟩ := p
  have HQ := Lib.hid hp0
  obtain ⟨aC, cC, e1, _⟩ := (HP.out w (Frm.refl _ _)).c
  obtain ⟨aE, cE, e2, _⟩ := (HP.out w (Frm.refl _ _)).e
  obtain ⟨aP, cP, e3, _⟩ := (HP.out w (Frm.refl _ _)).p
  obtain ⟨aD, cD, e4, _⟩ := (HP.out w (Frm.refl _ _)).d
  rw [hp0] at e1 e2 e3 e4
  simp only at e1 e2 e3 e4
  subst e1 e2 e3 e4
  rw [hp0]
  rw [hp0] at HFw
  simp only [Pk.cells] at HFw ⊢
  obtain ⟨w0, hw0⟩ : ∃ w0, w0 = w.alloc (.cells #[.bool m, .int .i64 pt, .int .u16 seq, .int .u32 ts, .int .u32 ss, .slice aC C.length cC, .bool hx, .int .u16 pf, .slice aE EE.length cE, .slice aP P.length cP, .slice aD D.length cD] 36) := ⟨_, rfl⟩
  have HW0 := Lib.hid hw0
  have HF0 := Lib.hid (show Frm [] w w0 by rw [hw0]; exact (Frm.refl _ _).alloc _)
  have HK := Lib.hid (fun X (hX : Frm [] w0 X) => show Blk X w.heap.size 36 #[.bool m, .int .i64 pt, .int .u16 seq, .int .u32 ts, .int .u32 ss, .slice aC C.length cC, .bool hx, .int .u16 pf, .slice aE EE.length cE, .slice aP P.length cP, .slice aD D.length cD] from hX.blk (by rw [hw0]; exact Blk.made _ _ _) (by simp))
  rw [hs] at HSm
  simp only at hfw
  rw [hfw] at HFw
  obtain ⟨h12, h20⟩ := small_of hs
  obtain ⟨sm0, hp20⟩ := few_of hfw
  have q3 : decide (3000 < (zs.length : Int)) = false := by rw [decide_eq_false_iff_not]; omega
  have HWr := Lib.hid (fun X (hX : Frm [] w X) => write_c X a c bs (HB.out X hX) (by omega) h20)
  have HO := Lib.hid (outB_le bs)
  have HBad := Lib.hid (fun (h : wrongE bs = 0) => chO_back h)
  have HByt := Lib.hid (fun (h : wrongE bs = 0) => bytesB_byt h HBy.out)
  have HOb := Lib.hid (fun (h : wrongE bs = 0) => show outB bs = bytesB bs by unfold outB; rw [if_pos h])
  have HL20 := Lib.hid h20
  have HWp := Lib.hid (fun X (hX : Frm [] w X) => show Calls Try.prog 14 #[.agg #[.bool m, .int .i64 pt, .int .u16 seq, .int .u32 ts, .int .u32 ss, .slice aC C.length cC, .bool hx, .int .u16 pf, .slice aE EE.length cE, .slice aP P.length cP, .slice aD D.length cD], .int .i64 n] X (PktP X (wrapL p0.pl n) (wrapE p0.pl n)) from by
    have h := wrap_c p0 n X (HP.out X hX) (by rw [hp0]; exact sm0) (by rw [hp0]; exact hp20)
    rw [hp0] at h ⊢
    exact h)
  have HSm0 := Lib.hid (show PpSm p0.pl by rw [hp0]; exact sm0)
  clear rd wf lc mc lb mb nb rdb wfb hp ok hw0 hp0 hs hfw h20 sm0 hp20
  go_enter Try.func4, Try.ntmps4
  go_wp2_with fail
  rw [← HW0.out]
  refine (alive_c _).mono ?_
  rintro e w1 ⟨rfl, hF⟩
  have HF1 := Lib.hid hF
  clear hF
  go_wp2_with fail
  refine (HSm.out _ (HF0.out.trans HF1.out)).mono ?_
  rintro e w2 ⟨rfl, hF⟩
  have HF2 := Lib.hid (HF1.out.trans hF)
  clear hF
  have k0 := (HK.out w2 HF2.out).cell 0 rfl
  have k1 := (HK.out w2 HF2.out).cell 1 rfl
  have k2 := (HK.out w2 HF2.out).cell 2 rfl
  have k3 := (HK.out w2 HF2.out).cell 3 rfl
  have k4 := (HK.out w2 HF2.out).cell 4 rfl
  have k5 := (HK.out w2 HF2.out).cell 5 rfl
  have k6 := (HK.out w2 HF2.out).cell 6 rfl
  have k7 := (HK.out w2 HF2.out).cell 7 rfl
  have k8 := (HK.out w2 HF2.out).cell 8 rfl
  have k9 := (HK.out w2 HF2.out).cell 9 rfl
  have k10 := (HK.out w2 HF2.out).cell 10 rfl
  go_wp2_with fail
  refine (HFw.out _ (HF0.out.trans HF2.out)).mono ?_
  rintro e w3 ⟨rfl, hF⟩
  have HF3 := Lib.hid (HF2.out.trans hF)
  clear hF
  clear k0 k1 k2 k3 k4 k5 k6 k7 k8 k9 k10
  go_wp2_with fail
  refine (HWr.out _ (HF0.out.trans HF3.out)).mono ?_
  rintro e w4 ⟨v4, rfl, hS4⟩
  obtain ⟨a4, c4, rfl, n4, hr4⟩ := RdI.of_own (k := .u8) (hS4.own 0 rfl)
  have HS4 := Lib.hid hS4
  have HR4 := Lib.hid (And.intro n4 hr4)
  have HF4 := Lib.hid (HF3.out.trans hS4.frm)
  clear hS4 n4 hr4
  obtain ⟨O, hOo⟩ : ∃ O, O = outB bs := ⟨_, rfl⟩
  obtain ⟨E1, hE1⟩ : ∃ E1, E1 = wrongE bs := ⟨_, rfl⟩
  rw [← hOo] at HS4 HR4 ⊢
  rw [← hE1]
  have HOo := Lib.hid hOo
  have HE1 := Lib.hid hE1
  clear hOo hE1
  go_upto_if 42 with fail
  go_cut [] (fun wx => Frm [] w0 wx)
  case first =>
    by_cases h0 : E1 = 0
    · have hw := HE1.out
      rw [h0] at hw
      have hO2 : O = bytesB bs := by rw [HOo.out]; exact HOb.out hw.symm
      obtain ⟨b1, b2⟩ := HBad.out hw.symm
      rw [← hO2] at b1 b2
      have hOl : O.length ≤ 1500 := by rw [HOo.out]; exact HO.out
      have hS0 := Sla.of_own (HS4.out.own 0 rfl)
      obtain ⟨a', c', e', _, hn4, hl4, hm4⟩ := hS0
      injection e' with e' _ e''
      subst e' e''
      have HPar := Lib.hid (Parse_c (w := w4) (a := a4) (c := c4) (zs := O) ⟨HR4.out.2, by rw [hO2]; exact HByt.out hw.symm, hl4, hm4, hn4, by omega⟩)
      rw [b1, b2] at HPar
      have q0 : (E1 == 0) = true := by simp [h0]
      clear hw hO2 b1 b2 hOl hl4 hm4 hn4 h0
      go_wp2_with fail
      refine HPar.out.mono ?_
      rintro e w5 ⟨v5, gs, hgs, rfl, hsm, hS5⟩
      obtain ⟨av, cv, rfl, _, _, hrd⟩ := blks_rd (hS5.get 0 rfl)
      have hgl : gs.length = bs.length := by have := congrArg List.length hgs; simpa using this
      have HSm5 := Lib.hid (blksame_c av a cv c gs bs w5 ⟨hrd, fun b hb => by obtain ⟨x1, x2, x3, x4, x5, _⟩ := data_rd (hS5.get 1 rfl) hb; exact ⟨x1, x2, x3, x4, x5⟩⟩ (HB.out w5 (HF0.out.trans (HF4.out.trans hS5.frm))) (by omega) (fun g hg => by
        have h1 : g.bk ∈ bs.map BkV.bk := by rw [← hgs]; exact List.mem_map.2 ⟨g, hg, rfl⟩
        obtain ⟨b, hb, he⟩ := List.mem_map.1 h1
        have h2 := HL20.out b hb
        have h3 : b.bk.B = g.bk.B := by rw [he]
        simp only [BkV.bk] at h3
        rw [← h3]
        omega) hgs)
      have HF5 := Lib.hid (HF4.out.trans hS5.frm)
      clear hS5 hrd hgs hsm hgl
      go_wp2_with fail
      refine HSm5.out.mono ?_
      rintro e w6 ⟨rfl, m6, rfl⟩
      go_wp2_with fail
      go_meet
      exact HF5.out.drewN m6
    · have q0 : (E1 == 0) = false := by simp [h0]
      clear h0
      go_wp2_with fail
      go_meet
      exact HF4.out
  case rest =>
    have HF5 := Lib.hid hcut
    clear hcut HS4 HR4 HF4
    have HZs := Lib.hid (fun X (hX : Frm [] w X) => show Bytes X ab cb zs from ⟨HZ.out.1.below hX.below, HZ.out.2.1, HZ.out.2.2.1, mbb, HZ.out.2.2.2, by omega⟩)
    have HPar := Lib.hid (fun X (hX : Frm [] w X) => Parse_c (HZs.out X hX))
    go_wp2_with fail
    refine (HPar.out _ (HF0.out.trans HF5.out)).mono ?_
    rintro e w6 ⟨v6, gs, hgs, rfl, hsm, hS6⟩
    have HS6 := Lib.hid (And.intro hgs (And.intro hsm hS6))
    have HF6 := Lib.hid (HF5.out.trans hS6.frm)
    obtain ⟨av, cv, rfl, hle, hmx, hrd⟩ := blks_rd (hS6.get 0 rfl)
    have HRb := Lib.hid (show RdBs w6 av gs from ⟨hrd, fun b hb => by obtain ⟨x1, x2, x3, x4, x5, _⟩ := data_rd (hS6.get 1 rfl) hb; exact ⟨x1, x2, x3, x4, x5⟩⟩)
    obtain ⟨E2, hE2⟩ : ∃ E2, E2 = chE zs := ⟨_, rfl⟩
    rw [← hE2]
    have HE2 := Lib.hid hE2
    clear hgs hsm hS6 hle hmx hrd hE2 HPar
    go_upto_region 11 with fail
    go_cut [67] (fun v wx => v = .bool (decide (E2 = 0 ∧ zs.length ≤ 1500)) ∧ wx = w6)
    case first =>
      by_cases h0 : E2 = 0
      · have q0 : (E2 == 0) = true := by simp [h0]
        by_cases h15 : zs.length ≤ 1500
        · have q15 : decide ((zs.length : Int) ≤ 1500) = true := by rw [decide_eq_true_iff]; omega
          have HT := Lib.hid (decide_eq_true (show E2 = 0 ∧ zs.length ≤ 1500 from ⟨h0, h15⟩))
          clear h0 h15
          go_wp2_with fail
          go_meet
          exact ⟨by rw [HT.out], rfl⟩
        · have q15 : decide ((zs.length : Int) ≤ 1500) = false := by rw [decide_eq_false_iff_not]; omega
          have HT := Lib.hid (decide_eq_false (show ¬ (E2 = 0 ∧ zs.length ≤ 1500) from fun h => h15 h.2))
          clear h0 h15
          go_wp2_with fail
          go_meet
          exact ⟨by rw [HT.out], rfl⟩
      · have q0 : (E2 == 0) = false := by simp [h0]
        have HT := Lib.hid (decide_eq_false (show ¬ (E2 = 0 ∧ zs.length ≤ 1500) from fun h => h0 h.1))
        clear h0
        go_wp2_with fail
        go_meet
        exact ⟨by rw [HT.out], rfl⟩
    case rest =>
      obtain ⟨rfl, rfl⟩ := hcut
      go_upto_if 67 with fail
      go_cut [] (fun wx => Frm [] w0 wx)
      case first =>
        by_cases hT : E2 = 0 ∧ zs.length ≤ 1500
        · have hb := back_ch HZ.out.2.1 (by rw [← HE2.out]; exact hT.1) hT.2 HS6.out.1
          have hgl : gs.length ≤ 9 := by
            have h1 := chO_ok (zs := zs) (by rw [← HE2.out]; exact hT.1)
            rw [← HS6.out.1, List.length_map] at h1
            exact h1.2.1
          have HWg := Lib.hid (write_c _ av cv gs HRb.out (by omega) (fun b hb' => by have := HS6.out.2.1 b hb'; omega))
          rw [hb.1, hb.2] at HWg
          rw [decide_eq_true hT]
          have h15 := hT.2
          clear hb hT hgl
          go_wp2_with fail
          refine HWg.out.mono ?_
          rintro e w7 ⟨v7, rfl, hS7⟩
          obtain ⟨a7, c7, rfl, _, hr7⟩ := RdI.of_own (k := .u8) (hS7.own 0 rfl)
          have HF7 := Lib.hid (HF6.out.trans hS7.frm)
          have hC := bsame_c a7 ab c7 cb zs zs w7 hr7 (HZ.out.1.below (HF0.out.trans HF7.out).below) (by omega) (by omega)
          rw [decide_eq_true rfl] at hC
          have HC := Lib.hid hC
          clear hS7 hr7 hC
          go_wp2_with fail
          refine HC.out.mono ?_
          rintro e w8 ⟨rfl, m8, rfl⟩
          go_wp2_with fail
          go_meet
          exact HF7.out.drewN m8
        · rw [decide_eq_false hT]
          clear hT
          go_wp2_with fail
          go_meet
          exact HF6.out
      case rest =>
        have HF8 := Lib.hid hcut
        clear hcut
        have k0 := (HK.out _ HF8.out).cell 0 rfl
        have k1 := (HK.out _ HF8.out).cell 1 rfl
        have k2 := (HK.out _ HF8.out).cell 2 rfl
        have k3 := (HK.out _ HF8.out).cell 3 rfl
        have k4 := (HK.out _ HF8.out).cell 4 rfl
        have k5 := (HK.out _ HF8.out).cell 5 rfl
        have k6 := (HK.out _ HF8.out).cell 6 rfl
        have k7 := (HK.out _ HF8.out).cell 7 rfl
        have k8 := (HK.out _ HF8.out).cell 8 rfl
        have k9 := (HK.out _ HF8.out).cell 9 rfl
        have k10 := (HK.out _ HF8.out).cell 10 rfl
        go_wp2_with fail
        refine (HWp.out _ (HF0.out.trans HF8.out)).mono ?_
        rintro e w9 ⟨⟨⟨m3, pt3, seq3, ts3, ss3, C3, hx3, pf3, E3, P3, D3⟩, qc, qe, qp, qd⟩, rfl, hql, hq, hF9⟩
        simp only at hql
        obtain ⟨b1, d1, f1, _⟩ := hq.c
        obtain ⟨b2, d2, f2, _⟩ := hq.e
        obtain ⟨b3, d3, f3, _⟩ := hq.p
        obtain ⟨b4, d4, f4, _⟩ := hq.d
        simp only at f1 f2 f3 f4
        subst f1 f2 f3 f4
        have HQ9 := Lib.hid hq
        have HQl := Lib.hid hql
        have HF9 := Lib.hid (HF8.out.trans hF9)
        obtain ⟨EW, hEW⟩ : ∃ EW, EW = wrapE p0.pl n := ⟨_, rfl⟩
        rw [← hEW]
        have HEW := Lib.hid hEW
        simp only [Pk.cells]
        clear hF9 hq hql hEW k0 k1 k2 k3 k4 k5 k6 k7 k8 k9 k10
        have HSm9 := Lib.hid (show PpSm ⟨m3, pt3, seq3, ts3, ss3, C3, hx3, pf3, E3, P3, D3⟩ by rw [HQl.out]; exact wrap_sm HSm0.out)
        obtain ⟨wa, hwa⟩ : ∃ wa, wa = w9.alloc (.cells #[.bool m3, .int .i64 pt3, .int .u16 seq3, .int .u32 ts3, .int .u32 ss3, .slice b1 C3.length d1, .bool hx3, .int .u16 pf3, .slice b2 E3.length d2, .slice b3 P3.length d3, .slice b4 D3.length d4] 36) := ⟨_, rfl⟩
        obtain ⟨ba, hba⟩ : ∃ ba, ba = w9.heap.size := ⟨_, rfl⟩
        have HBa := Lib.hid (fun X (hX : Frm [] wa X) => show Blk X ba 36 #[.bool m3, .int .i64 pt3, .int .u16 seq3, .int .u32 ts3, .int .u32 ss3, .slice b1 C3.length d1, .bool hx3, .int .u16 pf3, .slice b2 E3.length d2, .slice b3 P3.length d3, .slice b4 D3.length d4] from hX.blk (by rw [hwa, hba]; exact Blk.made _ _ _) (by simp))
        have HF9a := Lib.hid (show Frm [] w9 wa by rw [hwa]; exact (Frm.refl _ _).alloc _)
        have HWa := Lib.hid (And.intro hwa hba)
        clear hwa hba
        have hba := HBa.out wa (Frm.refl _ _)
        have x0 := (hba).cell 0 rfl
        have x1 := (hba).cell 1 rfl
        have x2 := (hba).cell 2 rfl
        have x3 := (hba).cell 3 rfl
        have x4 := (hba).cell 4 rfl
        have x5 := (hba).cell 5 rfl
        have x6 := (hba).cell 6 rfl
        have x7 := (hba).cell 7 rfl
        have x8 := (hba).cell 8 rfl
        have x9 := (hba).cell 9 rfl
        have x10 := (hba).cell 10 rfl
        clear hba
        go_upto_region 16 with fail
        rw [← HWa.out.2, ← HWa.out.1]
        by_cases h0 : EW = 0
        · have q0 : (EW != 0) = false := by simp [h0]
          have hwe : wrapE p0.pl n = 0 := by rw [← HEW.out]; exact h0
          have hP3 : P3 = bytesB (wrapB p0.pl) := (congrArg Pp.P HQl.out).trans (wrap_P hwe)
          have hpt : pt3 = n := (congrArg Pp.pt HQl.out).trans (wrap_pt hwe)
          have hby : Byt P3 := by rw [hP3]; exact bytesB_byt (wrapE_ok hwe) (fun b hb => by simp [wrapB] at hb; subst hb; exact HOk.out.p)
          have e1 : primL ⟨m3, pt3, seq3, ts3, ss3, C3, hx3, pf3, E3, P3, D3⟩ = p0.pl := by rw [HQl.out]; exact primL_wrap hwe
          have e2 : chE P3 = 0 := by rw [hP3]; exact (chO_back (wrapE_ok hwe)).2
          have HPr := Lib.hid (fun X (hX : Frm [] w9 X) => show Calls Try.prog 16 #[.agg #[.bool m3, .int .i64 pt3, .int .u16 seq3, .int .u32 ts3, .int .u32 ss3, .slice b1 C3.length d1, .bool hx3, .int .u16 pf3, .slice b2 E3.length d2, .slice b3 P3.length d3, .slice b4 D3.length d4]] X (PktP X p0.pl 0) from by
            have h := primary_c ⟨⟨m3, pt3, seq3, ts3, ss3, C3, hx3, pf3, E3, P3, D3⟩, .slice b1 C3.length d1, .slice b2 E3.length d2, .slice b3 P3.length d3, .slice b4 D3.length d4⟩ X (HQ9.out.frm hX) HSm9.out hby
            simp only at h
            rw [e1, e2] at h
            exact h)
          subst hpt
          clear h0 hwe hP3 hby e1 e2
          go_wp2_with fail
          refine (HPr.out wa HF9a.out).mono ?_
          rintro e w10 ⟨⟨ql, qc, qe, qp, qd⟩, rfl, hql, hq, hF10⟩
          simp only at hql
          rw [HQ.out] at hql
          simp only at hql
          subst hql
          obtain ⟨r1, s1, f1, _⟩ := hq.c
          obtain ⟨r2, s2, f2, _⟩ := hq.e
          obtain ⟨r3, s3, f3, _⟩ := hq.p
          obtain ⟨r4, s4, f4, _⟩ := hq.d
          simp only at f1 f2 f3 f4
          subst f1 f2 f3 f4
          have HQ10 := Lib.hid hq
          have HFa10 := Lib.hid hF10
          simp only [Pk.cells]
          clear hF10 hq HPr
          go_upto_region 19 with fail
          obtain ⟨wb, hwb⟩ : ∃ wb, wb = w10.alloc (.cells #[.bool m, .int .i64 pt, .int .u16 seq, .int .u32 ts, .int .u32 ss, .slice r1 C.length s1, .bool hx, .int .u16 pf, .slice r2 EE.length s2, .slice r3 P.length s3, .slice r4 D.length s4] 36) := ⟨_, rfl⟩
          obtain ⟨bb, hbb⟩ : ∃ bb, bb = w10.heap.size := ⟨_, rfl⟩
          rw [← hwb, ← hbb]
          have HF10b := Lib.hid (show Frm [] w10 wb by rw [hwb]; exact (Frm.refl _ _).alloc _)
          have hbb2 : Blk wb bb 36 #[.bool m, .int .i64 pt, .int .u16 seq, .int .u32 ts, .int .u32 ss, .slice r1 C.length s1, .bool hx, .int .u16 pf, .slice r2 EE.length s2, .slice r3 P.length s3, .slice r4 D.length s4] := by rw [hwb, hbb]; exact Blk.made _ _ _
          have HF0b := Lib.hid (HF9.out.trans (HF9a.out.trans (HFa10.out.trans HF10b.out)))
          have hk := HK.out wb HF0b.out
          have k0 := (hk).cell 0 rfl
          have k1 := (hk).cell 1 rfl
          have k2 := (hk).cell 2 rfl
          have k3 := (hk).cell 3 rfl
          have k4 := (hk).cell 4 rfl
          have k5 := (hk).cell 5 rfl
          have k6 := (hk).cell 6 rfl
          have k7 := (hk).cell 7 rfl
          have k8 := (hk).cell 8 rfl
          have k9 := (hk).cell 9 rfl
          have k10 := (hk).cell 10 rfl
          have y0 := (hbb2).cell 0 rfl
          have y1 := (hbb2).cell 1 rfl
          have y2 := (hbb2).cell 2 rfl
          have y3 := (hbb2).cell 3 rfl
          have y4 := (hbb2).cell 4 rfl
          have y5 := (hbb2).cell 5 rfl
          have y6 := (hbb2).cell 6 rfl
          have y7 := (hbb2).cell 7 rfl
          have y8 := (hbb2).cell 8 rfl
          have y9 := (hbb2).cell 9 rfl
          have y10 := (hbb2).cell 10 rfl
          have HPs := Lib.hid (show Calls Try.prog 15 #[.agg #[.bool m, .int .i64 pt, .int .u16 seq, .int .u32 ts, .int .u32 ss, .slice r1 C.length s1, .bool hx, .int .u16 pf, .slice r2 EE.length s2, .slice r3 P.length s3, .slice r4 D.length s4], .agg #[.bool m, .int .i64 pt, .int .u16 seq, .int .u32 ts, .int .u32 ss, .slice aC C.length cC, .bool hx, .int .u16 pf, .slice aE EE.length cE, .slice aP P.length cP, .slice aD D.length cD]] wb fun e w' => e = .returned (.bool true) ∧ Frm [] wb w' from by
            have h := psame_c ⟨⟨m, pt, seq, ts, ss, C, hx, pf, EE, P, D⟩, .slice r1 C.length s1, .slice r2 EE.length s2, .slice r3 P.length s3, .slice r4 D.length s4⟩ p0 wb (HQ10.out.frm HF10b.out) (HP.out wb (HF0.out.trans HF0b.out)) (by rw [HQ.out]) (by have := HSm0.out; rw [HQ.out] at this; exact this)
            rw [HQ.out] at h
            exact h)
          clear hk hbb2 hwb hbb
          go_wp2_with fail
          refine HPs.out.mono ?_
          rintro e w12 ⟨rfl, hF12⟩
          have z1 := (HBa.out w12 (HFa10.out.trans (HF10b.out.trans hF12))).cell 1 rfl
          have HFin := Lib.hid (HF0b.out.trans hF12)
          clear hF12
          go_wp2_with fail
          go_ret
          exact ⟨rfl, (HF0.out.trans HFin.out).below⟩
        · have q0 : (EW != 0) = true := by simp [h0]
          have hzp : (⟨m3, pt3, seq3, ts3, ss3, C3, hx3, pf3, E3, P3, D3⟩ : Pp) = zeroP := by
            rw [HQl.out]
            unfold wrapL
            rw [if_neg (by rw [← HEW.out]; exact h0)]
          have HPs := Lib.hid (psame_c ⟨⟨m3, pt3, seq3, ts3, ss3, C3, hx3, pf3, E3, P3, D3⟩, .slice b1 C3.length d1, .slice b2 E3.length d2, .slice b3 P3.length d3, .slice b4 D3.length d4⟩ zeroK wa (HQ9.out.frm HF9a.out) (zeroK_rd _) hzp.symm HSm9.out)
          simp only [Pk.cells, zeroK, zeroP] at HPs
          clear h0 hzp
          go_wp2_with fail
          refine HPs.out.mono ?_
          rintro e w10 ⟨rfl, hF10⟩
          have HFin := Lib.hid (HF9.out.trans (HF9a.out.trans hF10))
          clear hF10
          go_wp2_with fail
          go_ret
          exact ⟨rfl, (HF0.out.trans HFin.out).below⟩

theorem redBack_w (w : World) (a : Option Addr) (c : Nat) (bs : List BkV) (lc : bs.length ≤ c) (mc : c ≤ maxLen) (rd : RdS 3 w a (bs.map BkV.row)) (wf : ∀ b ∈ bs, BlkOk w b)
    (ab : Option Addr) (cb : Nat) (zs : List Int) (lb : zs.length ≤ cb) (mb : cb ≤ maxLen) (nb : ab = none → cb = 0) (rdb : RdI .u8 w ab zs) (wfb : ∀ x ∈ zs, (Lit.int .u8 x).wf = true) (p : Pk) (hp : RdPk w p) (ok : PpOk p.pl) (n : Int) :
    Calls Try.prog 4 #[.slice a bs.length c, .slice ab zs.length cb, .agg p.cells, .int .i64 n] w fun e w' => e = .returned (.bool true) ∧ Below w.heap.size w w' := by
  cases hs : smallB bs with
  | false => exact redBackA w a c bs lc mc rd wf ab cb zs lb mb nb rdb wfb p hp ok n (.inl hs)
  | true =>
    by_cases h3 : 3000 < zs.length
    · exact redBackA w a c bs lc mc rd wf ab cb zs lb mb nb rdb wfb p hp ok n (.inr (.inl h3))
    · cases hf : fewP p.pl with
      | false => exact redBackA w a c bs lc mc rd wf ab cb zs lb mb nb rdb wfb p hp ok n (.inr (.inr hf))
      | true => exact redBackB w a c bs lc mc rd wf ab cb zs lb mb nb rdb wfb p hp ok n hs h3 hf

end Go.Proofs.Ytiknjkkphdncfaa
