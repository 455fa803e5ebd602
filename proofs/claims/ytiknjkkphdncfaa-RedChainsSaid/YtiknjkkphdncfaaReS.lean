/-
  THE WALK of the law RedChains (printed by gen_chain6.py).
-/
import Derived.Test.YtiknjkkphdncfaaReR
import Derived.Deep.QuietTactic
import Derived.BigQuiet
set_option linter.unusedVariables false
set_option linter.unusedSimpArgs false
namespace Go.Proofs.Ytiknjkkphdncfaa
open Go.RowKit

set_option maxHeartbeats 400000 in
theorem radd32_c (a n : Int) (w : World) (a0 : 0 ≤ a) (a1 : a ≤ 4294967295) :
    Calls Try.prog 18 #[.int .u32 a, .int .i64 n] w fun e w' => e = .returned (.int .u32 (add32 a n)) ∧ w = w' := by
  obtain ⟨d, hd⟩ : ∃ d, n.tmod 4294967296 = d := ⟨_, rfl⟩
  have d1 : -4294967295 ≤ d ∧ d ≤ 4294967295 ∧ (0 ≤ n → d = n % 4294967296) ∧ (n < 0 → d = -((-n) % 4294967296)) := by
    rw [← hd]
    by_cases hn : 0 ≤ n
    · rw [Int.tmod_eq_emod_of_nonneg hn]; omega
    · have h1 := Int.neg_tmod (-n) 4294967296
      have h2 := Int.tmod_eq_emod_of_nonneg (a := -n) (b := 4294967296) (by omega)
      rw [Int.neg_neg, h2] at h1
      omega
  obtain ⟨d1, d2, d3, d4⟩ := d1
  have e1 : IntKind.i64.wrap d = d := IntWalk.i64_in _ (by omega)
  by_cases hn : d < 0
  · go_enter Try.func18, Try.ntmps18
    have HD3 := Lib.hid d3
    have HD4 := Lib.hid d4
    clear d3 d4
    go_wp2_with fail
    all_goals (go_ret; exact ⟨ret_int (by have := HD3.out; have := HD4.out; unfold add32; omega), rfl⟩)
  · go_enter Try.func18, Try.ntmps18
    have HD3 := Lib.hid d3
    have HD4 := Lib.hid d4
    clear d3 d4
    go_wp2_with fail
    all_goals (go_ret; exact ⟨ret_int (by have := HD3.out; have := HD4.out; unfold add32; omega), rfl⟩)

set_option maxRecDepth 100000 in
set_option maxHeartbeats 16000000 in
theorem redChainsA (w : World) (a : Option Addr) (c : Nat) (bs : List BkV) (lc : bs.length ≤ c) (mc : c ≤ maxLen) (rd : RdS 3 w a (bs.map BkV.row)) (wf : ∀ b ∈ bs, BlkOk w b) (p : Pk) (hp : RdPk w p) (ok : PpOk p.pl) (hbad : smallB bs = false ∨ fewP p.pl = false) :
    Calls Try.prog 5 #[.slice a bs.length c, .agg p.cells] w fun e w' => e = .returned (.bool true) ∧ Below w.heap.size w w' := by
  unfold maxLen at mc
  have HB := Lib.hid (fun X (hX : Frm [] w X) => (rdBs_of rd wf).frm hX)
  have HBy := Lib.hid (fun b hb => (wf b hb).choose_spec.choose_spec.2.2.2.1)
  have HL := Lib.hid (fun b hb => (wf b hb).choose_spec.choose_spec.2.2.2.2)
  have hn : bs.length ≤ 9223372036854775807 := by omega
  have HSm := Lib.hid (fun X (hX : Frm [] w X) => small_c X a c bs (HB.out X hX) hn HL.out)
  have HFw := Lib.hid (fun X (hX : Frm [] w X) => pfew_c p X (hp.frm hX))
  have HP := Lib.hid (fun X (hX : Frm [] w X) => hp.frm hX)
  have HOk := Lib.hid ok
  obtain ⟨p0, hp0⟩ : ∃ p0, p0 = p := ⟨_, rfl⟩
  rw [← hp0] at HP HFw HOk ⊢
  obtain ⟨⟨m, pt, seq, ts, ss, C, hx, pf, EE, P, D⟩, cv, ev, pv, dv⟩ := p
  have HQ := Lib.hid hp0
  obtain ⟨aC, cC, e1, _⟩ := (HP.out w (Frm.refl _ _)).c
  obtain ⟨aE, cE, e2, _⟩ := (HP.out w (Frm.refl _ _)).e
  obtain ⟨aP, cP, e3, _⟩ := (HP.out w (Frm.refl _ _)).p
  obtain ⟨aD, cD, e4, _⟩ := (HP.out w (Frm.refl _ _)).d
  rw [hp0] at e1 e2 e3 e4
  simp only at e1 e2 e3 e4
  subst e1 e2 e3 e4
  rw [hp0]
  rw [hp0] at HFw
  simp only [Pk.cells] at HFw ⊢
  obtain ⟨w0, hw0⟩ : ∃ w0, w0 = w.alloc (.cells #[.bool m, .int .i64 pt, .int .u16 seq, .int .u32 ts, .int .u32 ss, .slice aC C.length cC, .bool hx, .int .u16 pf, .slice aE EE.length cE, .slice aP P.length cP, .slice aD D.length cD] 36) := ⟨_, rfl⟩
  have HW0 := Lib.hid hw0
  have HF0 := Lib.hid (show Frm [] w w0 by rw [hw0]; exact (Frm.refl _ _).alloc _)
  have HK := Lib.hid (fun X (hX : Frm [] w0 X) => show Blk X w.heap.size 36 #[.bool m, .int .i64 pt, .int .u16 seq, .int .u32 ts, .int .u32 ss, .slice aC C.length cC, .bool hx, .int .u16 pf, .slice aE EE.length cE, .slice aP P.length cP, .slice aD D.length cD] from hX.blk (by rw [hw0]; exact Blk.made _ _ _) (by simp))
  simp only at hbad
  clear rd wf lc mc hp ok hw0 hp0
  cases hs : smallB bs with
  | false =>
    rw [hs] at HSm
    clear hbad hs
    go_enter Try.func5, Try.ntmps5
    go_wp2_with fail
    rw [← HW0.out]
    refine (alive_c _).mono ?_
    rintro e w1 ⟨rfl, hF⟩
    have HF1 := Lib.hid hF
    clear hF
    go_wp2_with fail
    refine (HSm.out _ (HF0.out.trans HF1.out)).mono ?_
    rintro e w2 ⟨rfl, hF⟩
    have HF2 := Lib.hid (HF1.out.trans hF)
    clear hF
    go_wp2_with fail
    go_ret
    exact ⟨rfl, (HF0.out.trans HF2.out).below⟩
  | true =>
    rw [hs] at HSm hbad
    have hfw : fewP ⟨m, pt, seq, ts, ss, C, hx, pf, EE, P, D⟩ = false := by
      rcases hbad with h | h
      · cases h
      · exact h
    rw [hfw] at HFw
    clear hbad hs hfw
    go_enter Try.func5, Try.ntmps5
    go_wp2_with fail
    rw [← HW0.out]
    refine (alive_c _).mono ?_
    rintro e w1 ⟨rfl, hF⟩
    have HF1 := Lib.hid hF
    clear hF
    go_wp2_with fail
    refine (HSm.out _ (HF0.out.trans HF1.out)).mono ?_
    rintro e w2 ⟨rfl, hF⟩
    have HF2 := Lib.hid (HF1.out.trans hF)
    clear hF
    have k0 := (HK.out w2 HF2.out).cell 0 rfl
    have k1 := (HK.out w2 HF2.out).cell 1 rfl
    have k2 := (HK.out w2 HF2.out).cell 2 rfl
    have k3 := (HK.out w2 HF2.out).cell 3 rfl
    have k4 := (HK.out w2 HF2.out).cell 4 rfl
    have k5 := (HK.out w2 HF2.out).cell 5 rfl
    have k6 := (HK.out w2 HF2.out).cell 6 rfl
    have k7 := (HK.out w2 HF2.out).cell 7 rfl
    have k8 := (HK.out w2 HF2.out).cell 8 rfl
    have k9 := (HK.out w2 HF2.out).cell 9 rfl
    have k10 := (HK.out w2 HF2.out).cell 10 rfl
    go_wp2_with fail
    refine (HFw.out _ (HF0.out.trans HF2.out)).mono ?_
    rintro e w3 ⟨rfl, hF⟩
    have HF3 := Lib.hid (HF2.out.trans hF)
    clear hF
    go_wp2_with fail
    go_ret
    exact ⟨rfl, (HF0.out.trans HF3.out).below⟩

set_option maxRecDepth 100000 in
set_option maxHeartbeats 16000000 in
theorem redChainsB (w : World) (a : Option Addr) (c : Nat) (bs : List BkV) (lc : bs.length ≤ c) (mc : c ≤ maxLen) (rd : RdS 3 w a (bs.map BkV.row)) (wf : ∀ b ∈ bs, BlkOk w b) (p : Pk) (hp : RdPk w p) (ok : PpOk p.pl) (hs : smallB bs = true) (hfw : fewP p.pl = true) (hE : wrongE bs ≠ 0) :
    Calls Try.prog 5 #[.slice a bs.length c, .agg p.cells] w fun e w' => e = .returned (.bool true) ∧ Below w.heap.size w w' := by
  unfold maxLen at mc
  have HB := Lib.hid (fun X (hX : Frm [] w X) => (rdBs_of rd wf).frm hX)
  have HBy := Lib.hid (fun b hb => (wf b hb).choose_spec.choose_spec.2.2.2.1)
  have HL := Lib.hid (fun b hb => (wf b hb).choose_spec.choose_spec.2.2.2.2)
  have hn : bs.length ≤ 9223372036854775807 := by omega
  have HSm := Lib.hid (fun X (hX : Frm [] w X) => small_c X a c bs (HB.out X hX) hn HL.out)
  have HFw := Lib.hid (fun X (hX : Frm [] w X) => pfew_c p X (hp.frm hX))
  have HP := Lib.hid (fun X (hX : Frm [] w X) => hp.frm hX)
  have HOk := Lib.hid ok
  obtain ⟨p0, hp0⟩ : ∃ p0, p0 = p := ⟨_, rfl⟩
  rw [← hp0] at HP HFw HOk ⊢
  obtain ⟨⟨m, pt, seq, ts, ss, C, hx, pf, EE, P, D⟩, cv, ev, pv, dv⟩ := p
  have HQ := Lib.hid hp0
  obtain ⟨aC, cC, e1, _⟩ := (HP.out w (Frm.refl _ _)).c
  obtain ⟨aE, cE, e2, _⟩ := (HP.out w (Frm.refl _ _)).e
  obtain ⟨aP, cP, e3, _⟩ := (HP.out w (Frm.refl _ _)).p
  obtain ⟨aD, cD, e4, _⟩ := (HP.out w (Frm.refl _ _)).d
  rw [hp0] at e1 e2 e3 e4
  simp only at e1 e2 e3 e4
  subst e1 e2 e3 e4
  rw [hp0]
  rw [hp0] at HFw
  simp only [Pk.cells] at HFw ⊢
  obtain ⟨w0, hw0⟩ : ∃ w0, w0 = w.alloc (.cells #[.bool m, .int .i64 pt, .int .u16 seq, .int .u32 ts, .int .u32 ss, .slice aC C.length cC, .bool hx, .int .u16 pf, .slice aE EE.length cE, .slice aP P.length cP, .slice aD D.length cD] 36) := ⟨_, rfl⟩
  have HW0 := Lib.hid hw0
  have HF0 := Lib.hid (show Frm [] w w0 by rw [hw0]; exact (Frm.refl _ _).alloc _)
  have HK := Lib.hid (fun X (hX : Frm [] w0 X) => show Blk X w.heap.size 36 #[.bool m, .int .i64 pt, .int .u16 seq, .int .u32 ts, .int .u32 ss, .slice aC C.length cC, .bool hx, .int .u16 pf, .slice aE EE.length cE, .slice aP P.length cP, .slice aD D.length cD] from hX.blk (by rw [hw0]; exact Blk.made _ _ _) (by simp))
  simp only at hfw
  rw [hs] at HSm
  rw [hfw] at HFw
  obtain ⟨h12, h20⟩ := small_of hs
  have HWr := Lib.hid (fun X (hX : Frm [] w X) => write_c X a c bs (HB.out X hX) (by omega) h20)
  rw [show outB bs = [] by unfold outB; rw [if_neg hE]] at HWr
  obtain ⟨E1, hE1⟩ : ∃ E1, E1 = wrongE bs := ⟨_, rfl⟩
  rw [← hE1] at HWr hE
  have q0 : (E1 != 0) = true := by simp [hE]
  clear rd wf lc mc hp ok hw0 hp0 hs hfw h20 hE1 hE
  go_enter Try.func5, Try.ntmps5
  go_wp2_with fail
  rw [← HW0.out]
  refine (alive_c _).mono ?_
  rintro e w1 ⟨rfl, hF⟩
  have HF1 := Lib.hid hF
  clear hF
  go_wp2_with fail
  refine (HSm.out _ (HF0.out.trans HF1.out)).mono ?_
  rintro e w2 ⟨rfl, hF⟩
  have HF2 := Lib.hid (HF1.out.trans hF)
  clear hF
  have k0 := (HK.out w2 HF2.out).cell 0 rfl
  have k1 := (HK.out w2 HF2.out).cell 1 rfl
  have k2 := (HK.out w2 HF2.out).cell 2 rfl
  have k3 := (HK.out w2 HF2.out).cell 3 rfl
  have k4 := (HK.out w2 HF2.out).cell 4 rfl
  have k5 := (HK.out w2 HF2.out).cell 5 rfl
  have k6 := (HK.out w2 HF2.out).cell 6 rfl
  have k7 := (HK.out w2 HF2.out).cell 7 rfl
  have k8 := (HK.out w2 HF2.out).cell 8 rfl
  have k9 := (HK.out w2 HF2.out).cell 9 rfl
  have k10 := (HK.out w2 HF2.out).cell 10 rfl
  go_wp2_with fail
  refine (HFw.out _ (HF0.out.trans HF2.out)).mono ?_
  rintro e w3 ⟨rfl, hF⟩
  have HF3 := Lib.hid (HF2.out.trans hF)
  clear hF
  go_wp2_with fail
  refine (HWr.out _ (HF0.out.trans HF3.out)).mono ?_
  rintro e w4 ⟨v4, rfl, hS4⟩
  obtain ⟨a4, c4, rfl, _, _⟩ := RdI.of_own (k := .u8) (hS4.own 0 rfl)
  have HF4 := Lib.hid (HF3.out.trans hS4.frm)
  clear hS4
  go_wp2_with fail
  go_ret
  exact ⟨rfl, (HF0.out.trans HF4.out).below⟩

set_option maxRecDepth 100000 in
set_option maxHeartbeats 32000000 in
theorem redChainsC (w : World) (a : Option Addr) (c : Nat) (bs : List BkV) (lc : bs.length ≤ c) (mc : c ≤ maxLen) (rd : RdS 3 w a (bs.map BkV.row)) (wf : ∀ b ∈ bs, BlkOk w b) (p : Pk) (hp : RdPk w p) (ok : PpOk p.pl) (hs : smallB bs = true) (hfw : fewP p.pl = true) (hE : wrongE bs = 0) :
    Calls Try.prog 5 #[.slice a bs.length c, .agg p.cells] w fun e w' => e = .returned (.bool true) ∧ Below w.heap.size w w' := by
  unfold maxLen at mc
  have HB := Lib.hid (fun X (hX : Frm [] w X) => (rdBs_of rd wf).frm hX)
  have HBy := Lib.hid (fun b hb => (wf b hb).choose_spec.choose_spec.2.2.2.1)
  have HL := Lib.hid (fun b hb => (wf b hb).choose_spec.choose_spec.2.2.2.2)
  have hn : bs.length ≤ 9223372036854775807 := by omega
  have HSm := Lib.hid (fun X (hX : Frm [] w X) => small_c X a c bs (HB.out X hX) hn HL.out)
  have HFw := Lib.hid (fun X (hX : Frm [] w X) => pfew_c p X (hp.frm hX))
  have HP := Lib.hid (fun X (hX : Frm [] w X) => hp.frm hX)
  have HOk := Lib.hid ok
  obtain ⟨p0, hp0⟩ : ∃ p0, p0 = p := ⟨_, rfl⟩
  rw [← hp0] at HP HFw HOk ⊢
  obtain ⟨⟨m, pt, seq, ts, ss, C, hx, pf, EE, P, D⟩, cv, ev, pv, dv⟩ := p
  have HQ := Lib.hid hp0
  obtain ⟨aC, cC, e1, _⟩ := (HP.out w (Frm.refl _ _)).c
  obtain ⟨aE, cE, e2, _⟩ := (HP.out w (Frm.refl _ _)).e
  obtain ⟨aP, cP, e3, _⟩ := (HP.out w (Frm.refl _ _)).p
  obtain ⟨aD, cD, e4, _⟩ := (HP.out w (Frm.refl _ _)).d
  rw [hp0] at e1 e2 e3 e4
  simp only at e1 e2 e3 e4
  subst e1 e2 e3 e4
  rw [hp0]
  rw [hp0] at HFw
  simp only [Pk.cells] at HFw ⊢
  obtain ⟨w0, hw0⟩ : ∃ w0, w0 = w.alloc (.cells #[.bool m, .int .i64 pt, .int .u16 seq, .int .u32 ts, .int .u32 ss, .slice aC C.length cC, .bool hx, .int .u16 pf, .slice aE EE.length cE, .slice aP P.length cP, .slice aD D.length cD] 36) := ⟨_, rfl⟩
  have HW0 := Lib.hid hw0
  have HF0 := Lib.hid (show Frm [] w w0 by rw [hw0]; exact (Frm.refl _ _).alloc _)
  have HK := Lib.hid (fun X (hX : Frm [] w0 X) => show Blk X w.heap.size 36 #[.bool m, .int .i64 pt, .int .u16 seq, .int .u32 ts, .int .u32 ss, .slice aC C.length cC, .bool hx, .int .u16 pf, .slice aE EE.length cE, .slice aP P.length cP, .slice aD D.length cD] from hX.blk (by rw [hw0]; exact Blk.made _ _ _) (by simp))
  simp only at hfw
  rw [hs] at HSm
  rw [hfw] at HFw
  obtain ⟨h12, h20⟩ := small_of hs
  obtain ⟨sm0, hp20⟩ := few_of hfw
  have HWr := Lib.hid (fun X (hX : Frm [] w X) => write_c X a c bs (HB.out X hX) (by omega) h20)
  have hr := right_of hE
  obtain ⟨l, hl⟩ : ∃ l, l + 1 = bs.length := ⟨bs.length - 1, by have := hr.pos; omega⟩
  obtain ⟨O, hO⟩ : ∃ O, O = outB bs := ⟨_, rfl⟩
  rw [hE, ← hO] at HWr
  have hO2 : O = bytesB bs := by rw [hO]; unfold outB; rw [if_pos hE]
  have HCh := Lib.hid (show chO O = bs.map BkV.bk ∧ chE O = 0 by rw [hO2]; exact chO_back hE)
  have HOb := Lib.hid (show Byt O ∧ O.length ≤ 1500 by rw [hO2]; exact ⟨bytesB_byt hE HBy.out, bytesB_le hE⟩)
  have HL20 := Lib.hid h20
  have HSm0 := Lib.hid sm0
  have HOk' := HOk.out
  rw [hp0] at HOk'
  have t0 := HOk'.t.1
  have t1 := HOk'.t.2
  simp only at t0 t1
  clear rd wf lc mc hp ok hw0 hp0 hs hfw h20 hE hO2 hO hr sm0 HOk'
  go_enter Try.func5, Try.ntmps5
  go_wp2_with fail
  rw [← HW0.out]
  refine (alive_c _).mono ?_
  rintro e w1 ⟨rfl, hF⟩
  have HF1 := Lib.hid hF
  clear hF
  go_wp2_with fail
  refine (HSm.out _ (HF0.out.trans HF1.out)).mono ?_
  rintro e w2 ⟨rfl, hF⟩
  have HF2 := Lib.hid (HF1.out.trans hF)
  clear hF
  have k0 := (HK.out w2 HF2.out).cell 0 rfl
  have k1 := (HK.out w2 HF2.out).cell 1 rfl
  have k2 := (HK.out w2 HF2.out).cell 2 rfl
  have k3 := (HK.out w2 HF2.out).cell 3 rfl
  have k4 := (HK.out w2 HF2.out).cell 4 rfl
  have k5 := (HK.out w2 HF2.out).cell 5 rfl
  have k6 := (HK.out w2 HF2.out).cell 6 rfl
  have k7 := (HK.out w2 HF2.out).cell 7 rfl
  have k8 := (HK.out w2 HF2.out).cell 8 rfl
  have k9 := (HK.out w2 HF2.out).cell 9 rfl
  have k10 := (HK.out w2 HF2.out).cell 10 rfl
  go_wp2_with fail
  refine (HFw.out _ (HF0.out.trans HF2.out)).mono ?_
  rintro e w3 ⟨rfl, hF⟩
  have HF3 := Lib.hid (HF2.out.trans hF)
  clear hF
  clear k0 k1 k2 k3 k4 k5 k6 k7 k8 k9 k10
  go_wp2_with fail
  refine (HWr.out _ (HF0.out.trans HF3.out)).mono ?_
  rintro e w4 ⟨v4, rfl, hS4⟩
  have hN := SlaN.of_sep (B := w.heap.size + 1) hS4 (by have := (HK.out w3 HF3.out).lt; omega)
  obtain ⟨a4, c4, e4, _⟩ := hN.sla
  subst e4
  have HN4 := Lib.hid hN
  have HF4 := Lib.hid (HF3.out.trans hS4.frm)
  clear hS4 hN HWr
  have hk := HK.out w4 HF4.out
  have kf := hk.free 9
  have k0 := (hk).cell 0 rfl
  have k1 := (hk).cell 1 rfl
  have k2 := (hk).cell 2 rfl
  have k3 := (hk).cell 3 rfl
  have k4 := (hk).cell 4 rfl
  have k5 := (hk).cell 5 rfl
  have k6 := (hk).cell 6 rfl
  have k7 := (hk).cell 7 rfl
  have k8 := (hk).cell 8 rfl
  have k9 := (hk).cell 9 rfl
  have k10 := (hk).cell 10 rfl
  clear hk
  go_upto_region 9 with fail
  obtain ⟨w5, hw5⟩ : ∃ w5, w5 = w4.setCell ⟨w.heap.size, 9, none⟩ (.slice a4 O.length c4) := ⟨_, rfl⟩
  rw [← hw5]
  have HF5 := Lib.hid (show Frm [] w w5 by rw [hw5]; exact (HF0.out.trans HF4.out).put (.inr (Nat.le_refl _)) _ _ _)
  have hbx : Blk w5 w.heap.size 36 #[.bool m, .int .i64 pt, .int .u16 seq, .int .u32 ts, .int .u32 ss, .slice aC C.length cC, .bool hx, .int .u16 pf, .slice aE EE.length cE, .slice a4 O.length c4, .slice aD D.length cD] := by rw [hw5]; exact (HK.out w4 HF4.out).put 9 _
  have HBx := Lib.hid (fun X (hX : Frm [] w5 X) => hX.blk hbx (by simp))
  have HRd := Lib.hid (show RdPk w5 ⟨⟨m, pt, seq, ts, ss, C, hx, pf, EE, O, D⟩, .slice aC C.length cC, .slice aE EE.length cE, .slice a4 O.length c4, .slice aD D.length cD⟩ from ⟨by have := (HP.out w5 HF5.out).c; rw [HQ.out] at this; exact this, by have := (HP.out w5 HF5.out).e; rw [HQ.out] at this; exact this, (HN4.out.far (F := [w.heap.size]) (by rw [hw5]; exact (Frm.refl _ _).put (.inl (by simp)) _ _ _) (by simp)).sla, by have := (HP.out w5 HF5.out).d; rw [HQ.out] at this; exact this⟩)
  clear k0 k1 k2 k3 k4 k5 k6 k7 k8 k9 k10
  have k0 := (hbx).cell 0 rfl
  have k1 := (hbx).cell 1 rfl
  have k2 := (hbx).cell 2 rfl
  have k3 := (hbx).cell 3 rfl
  have k4 := (hbx).cell 4 rfl
  have k5 := (hbx).cell 5 rfl
  have k6 := (hbx).cell 6 rfl
  have k7 := (hbx).cell 7 rfl
  have k8 := (hbx).cell 8 rfl
  have k9 := (hbx).cell 9 rfl
  have k10 := (hbx).cell 10 rfl
  clear hw5 hbx kf HK HN4 HF4 HF3 HF2 HF1
  obtain ⟨b, hb⟩ : ∃ b, bs[l]? = some b := ⟨_, List.getElem?_eq_getElem (by omega)⟩
  have hpl := primL_last (x := ⟨m, pt, seq, ts, ss, C, hx, pf, EE, O, D⟩) (by show bs.map BkV.bk = chO O; exact HCh.out.1.symm) (show bs[bs.length - 1]? = some b by rw [← hl]; exact hb)
  have hsm : PpSm ⟨m, pt, seq, ts, ss, C, hx, pf, EE, O, D⟩ := ⟨HSm0.out.c, HSm0.out.e, Nat.le_trans HOb.out.2 (by decide), HSm0.out.d⟩
  have HMb := Lib.hid (List.mem_of_getElem? hb)
  have HBl := Lib.hid hb
  obtain ⟨lp, lo, lv, lB⟩ := b
  simp only at hpl
  have HPr := Lib.hid (fun X (hX : Frm [] w5 X) => show Calls Try.prog 16 #[.agg #[.bool m, .int .i64 pt, .int .u16 seq, .int .u32 ts, .int .u32 ss, .slice aC C.length cC, .bool hx, .int .u16 pf, .slice aE EE.length cE, .slice a4 O.length c4, .slice aD D.length cD]] X (PktP X ⟨m, lp, seq, ts, ss, C, hx, pf, EE, lB, D⟩ 0) from by
    have h := primary_c ⟨⟨m, pt, seq, ts, ss, C, hx, pf, EE, O, D⟩, .slice aC C.length cC, .slice aE EE.length cE, .slice a4 O.length c4, .slice aD D.length cD⟩ X (HRd.out.frm hX) hsm HOb.out.1
    simp only at h
    rw [hpl, HCh.out.2] at h
    exact h)
  have HOd := Lib.hid (fun X (hX : Frm [] w5 X) => show Calls Try.prog 17 #[.agg #[.bool m, .int .i64 pt, .int .u16 seq, .int .u32 ts, .int .u32 ss, .slice aC C.length cC, .bool hx, .int .u16 pf, .slice aE EE.length cE, .slice a4 O.length c4, .slice aD D.length cD]] X (OldP X ⟨m, pt, seq, ts, ss, C, hx, pf, EE, O, D⟩ 0) from by
    have h := older_c ⟨⟨m, pt, seq, ts, ss, C, hx, pf, EE, O, D⟩, .slice aC C.length cC, .slice aE EE.length cE, .slice a4 O.length c4, .slice aD D.length cD⟩ X (HRd.out.frm hX) hsm HOb.out.1
    simp only at h
    rw [HCh.out.2] at h
    exact h)
  have HLl := Lib.hid (HL20.out _ (List.mem_of_getElem? hb))
  clear hpl hsm hb
  go_wp2_with fail
  refine (HPr.out w5 (Frm.refl _ _)).mono ?_
  rintro e w6 ⟨⟨ql, qc, qe, qp, qd⟩, rfl, hql, hq, hF6⟩
  simp only at hql
  subst hql
  obtain ⟨r1, s1, f1, _⟩ := hq.c
  obtain ⟨r2, s2, f2, _⟩ := hq.e
  obtain ⟨r3, s3, f3, _⟩ := hq.p
  obtain ⟨r4, s4, f4, _⟩ := hq.d
  simp only at f1 f2 f3 f4
  subst f1 f2 f3 f4
  have HQ6 := Lib.hid hq
  simp only [Pk.cells]
  go_upto_region 10 with fail
  obtain ⟨w7, hw7⟩ : ∃ w7, w7 = w6.alloc (.cells #[.bool m, .int .i64 lp, .int .u16 seq, .int .u32 ts, .int .u32 ss, .slice r1 C.length s1, .bool hx, .int .u16 pf, .slice r2 EE.length s2, .slice r3 lB.length s3, .slice r4 D.length s4] 36) := ⟨_, rfl⟩
  obtain ⟨b7, hb7⟩ : ∃ b7, b7 = w6.heap.size := ⟨_, rfl⟩
  rw [← hw7, ← hb7]
  have HB7 := Lib.hid (fun X (hX : Frm [] w7 X) => show Blk X b7 36 #[.bool m, .int .i64 lp, .int .u16 seq, .int .u32 ts, .int .u32 ss, .slice r1 C.length s1, .bool hx, .int .u16 pf, .slice r2 EE.length s2, .slice r3 lB.length s3, .slice r4 D.length s4] from hX.blk (by rw [hw7, hb7]; exact Blk.made _ _ _) (by simp))
  have HF67 := Lib.hid (show Frm [] w6 w7 by rw [hw7]; exact (Frm.refl _ _).alloc _)
  have HF57 := Lib.hid (hF6.trans HF67.out)
  have hbx := HBx.out w7 HF57.out
  clear k0 k1 k2 k3 k4 k5 k6 k7 k8 k9 k10
  have k0 := (hbx).cell 0 rfl
  have k1 := (hbx).cell 1 rfl
  have k2 := (hbx).cell 2 rfl
  have k3 := (hbx).cell 3 rfl
  have k4 := (hbx).cell 4 rfl
  have k5 := (hbx).cell 5 rfl
  have k6 := (hbx).cell 6 rfl
  have k7 := (hbx).cell 7 rfl
  have k8 := (hbx).cell 8 rfl
  have k9 := (hbx).cell 9 rfl
  have k10 := (hbx).cell 10 rfl
  clear hbx hw7 hb7 hq hF6 HPr
  go_wp2_with fail
  refine (HOd.out w7 HF57.out).mono ?_
  rintro e w8 ⟨v8, gs, hgs, rfl, _, hS8⟩
  obtain ⟨av, ac, hv8, lac, mac, _, hrd8, _⟩ := RdS.of_own (n := (gs.map (oldK ⟨m, pt, seq, ts, ss, C, hx, pf, EE, O, D⟩)).length) (rows := (gs.map (oldK ⟨m, pt, seq, ts, ss, C, hx, pf, EE, O, D⟩)).map pkRow) (hS8.own 0 rfl) (fun r hr => by obtain ⟨x, _, rfl⟩ := List.mem_map.1 hr; rfl) (by decide) (by simp)
  have hgl : gs.length = l := by
    have h1 := congrArg List.length hgs
    rw [List.length_map, List.length_dropLast] at h1
    have h2 : (chO O).length = bs.length := by rw [HCh.out.1, List.length_map]
    have h3 : (chO ((⟨m, pt, seq, ts, ss, C, hx, pf, EE, O, D⟩ : Pp).P)).length = (chO O).length := rfl
    omega
  have hll : ((gs.map (oldK ⟨m, pt, seq, ts, ss, C, hx, pf, EE, O, D⟩)).map pkRow).length = l := by rw [List.length_map, List.length_map, hgl]
  rw [hll] at hv8 lac
  subst hv8
  have HRd8 := Lib.hid (fun X (hX : Frm [] w8 X) => hrd8.low hX (by simp))
  have HDt := Lib.hid (fun X (hX : Frm [] w8 X) (g : BkV) (hg : g ∈ gs) => (data_rd (hS8.get 1 rfl) hg).frm hX)
  have HGs := Lib.hid (show gs.map BkV.bk = (bs.map BkV.bk).dropLast by rw [← HCh.out.1]; exact hgs)
  have HF78 := Lib.hid hS8.frm
  have HF58 := Lib.hid (HF57.out.trans hS8.frm)
  have HFw8 := Lib.hid (HF5.out.trans HF58.out)
  have HGl := Lib.hid hgl
  unfold maxLen at mac
  clear hS8 hrd8 hgs hll hgl HOd
  clear k0 k1 k2 k3 k4 k5 k6 k7 k8 k9 k10
  obtain ⟨bb, bo, rfl, hbb, hc⟩ := (HB.out w8 HFw8.out).1 l _ (by rw [List.getElem?_map, HBl.out]; rfl)
  obtain ⟨pB, cB, hlv, hrB, _⟩ := (HB.out w8 HFw8.out).2 _ HMb.out
  simp only at hlv hrB
  subst hlv
  have d0 : w8.cell? ⟨bb, bo + l * 3, none⟩ = some (.int .i64 lp) := hc 0 _ rfl
  have d1 : w8.cell? ⟨bb, bo + l * 3 + 1, none⟩ = some (.int .i64 lo) := hc 1 _ rfl
  have d2 : w8.cell? ⟨bb, bo + l * 3 + 2, none⟩ = some (.slice pB lB.length cB) := hc 2 _ rfl
  rw [← hl]
  have i1 : ((l + 1 : Nat) : Int) - 1 = (l : Int) := by omega
  have i2 : (0 : Int) ≤ (l : Int) := by omega
  have i3 : (l : Int) < ((l + 1 : Nat) : Int) := by omega
  have i4 : IntKind.i64.wrap (((l + 1 : Nat) : Int) - 1) = (l : Int) := by rw [i1]; exact IntWalk.i64_in _ (by omega)
  have HL := Lib.hid hl
  have hl12 : l ≤ 12 := by omega
  clear hc hbb hl
  go_upto_region 12 with fail
  obtain ⟨w9, hw9⟩ : ∃ w9, w9 = w8.alloc (.cells #[.int .i64 lp, .int .i64 lo, .slice pB lB.length cB] 50) := ⟨_, rfl⟩
  obtain ⟨b9, hb9⟩ : ∃ b9, b9 = w8.heap.size := ⟨_, rfl⟩
  rw [← hw9, ← hb9]
  have HF89 := Lib.hid (show Frm [] w8 w9 by rw [hw9]; exact (Frm.refl _ _).alloc _)
  have hb9b : Blk w9 b9 50 #[.int .i64 lp, .int .i64 lo, .slice pB lB.length cB] := by rw [hw9, hb9]; exact Blk.made _ _ _
  have y0 := hb9b.cell 0 rfl
  have y2 := hb9b.cell 2 rfl
  have hx7 := HB7.out w9 (HF78.out.trans HF89.out)
  have x1 := hx7.cell 1 rfl
  have x2 := hx7.cell 2 rfl
  have x3 := hx7.cell 3 rfl
  have x9 := hx7.cell 9 rfl
  have hbx := HBx.out w9 (HF58.out.trans HF89.out)
  have k2 := hbx.cell 2 rfl
  have k3 := hbx.cell 3 rfl
  have hq9 := (HQ6.out.frm (HF67.out.trans (HF78.out.trans HF89.out))).p
  obtain ⟨r3', s3', e3', rd3, _⟩ := hq9
  simp only at e3' rd3
  injection e3' with e3' _ e3''
  subst e3' e3''
  have hC := bsame_c r3 pB s3 cB lB lB w9 rd3 (hrB.below HF89.out.below) (by have := HLl.out; omega) (by have := HLl.out; omega)
  rw [decide_eq_true rfl] at hC
  have HC := Lib.hid hC
  have HF59 := Lib.hid (HF58.out.trans HF89.out)
  clear hb9b hx7 hbx rd3 hC hrB hw9 hb9 d0 d1 d2
  go_wp2_with fail
  refine HC.out.mono ?_
  rintro e w10 ⟨rfl, m10, rfl⟩
  go_wp2_with fail
  obtain ⟨wl, hwl⟩ : ∃ wl, wl = w9.drewN m10 := ⟨_, rfl⟩
  rw [← hwl]
  have HFl := Lib.hid (show Frm [] w5 wl by rw [hwl]; exact HF59.out.drewN _)
  have HF8l := Lib.hid (show Frm [] w8 wl by rw [hwl]; exact HF89.out.drewN _)
  clear hwl x1 x2 x3 x9 y0 y2 k2 k3 HC
  go_loopw [97] (fun i wr => ∃ j : Nat, j ≤ l ∧ i = .int .i64 j ∧ Frm [] wl wr) (fun i _ => l - (intOf i).toNat)
  case atStart => exact ⟨0, Nat.zero_le _, rfl, Frm.refl _ _⟩
  case round =>
    obtain ⟨j, hj, rfl, hfr⟩ := hrel
    have HFr := Lib.hid hfr
    clear hfr
    obtain ⟨wo, hwo⟩ : ∃ wo : World, wo = wr := ⟨_, rfl⟩
    rw [← hwo] at HFr ⊢
    clear hwo
    by_cases hlt : j < l
    · obtain ⟨b, hb⟩ : ∃ b, bs[j]? = some b := ⟨_, List.getElem?_eq_getElem (by have := HL.out; omega)⟩
      obtain ⟨g, hg⟩ : ∃ g, gs[j]? = some g := ⟨_, List.getElem?_eq_getElem (by have := HGl.out; omega)⟩
      have hbk : g.bk = b.bk := by
        have h1 := congrArg (fun L => L[j]?) HGs.out
        simp only [List.getElem?_map, hg, Option.map_some, List.getElem?_dropLast, List.length_map] at h1
        rw [if_pos (by have := HL.out; omega), hb] at h1
        simpa using h1
      have HF8o := Lib.hid (HF8l.out.trans HFr.out)
      have HF5o := Lib.hid (HFl.out.trans HFr.out)
      have HFwo := Lib.hid (HF5.out.trans HF5o.out)
      obtain ⟨bz, oz, rfl, _, hcz⟩ := HRd8.out wo HF8o.out j (pkRow (oldK ⟨m, pt, seq, ts, ss, C, hx, pf, EE, O, D⟩ g)) (by rw [List.getElem?_map, List.getElem?_map, hg]; rfl)
      obtain ⟨bb', bo', hbe, _, hcb⟩ := (HB.out wo HFwo.out).1 j b.row (by rw [List.getElem?_map, hb]; rfl)
      injection hbe with hbe
      injection hbe with e1 e2 _
      subst e1 e2
      obtain ⟨pb, cb, hbv, hrb, _⟩ := (HB.out wo HFwo.out).2 b (List.mem_of_getElem? hb)
      have hgd := HDt.out wo HF8o.out g (List.mem_of_getElem? hg)
      have hbl := HL20.out b (List.mem_of_getElem? hb)
      obtain ⟨gp, go_, gv, gB⟩ := g
      obtain ⟨bp, bq, bv, bB⟩ := b
      injection hbk with h1 h2 h3
      subst h1 h2 h3
      obtain ⟨pg, cg, e5, hrg, _⟩ := hgd
      simp only at hbv e5 hrb hrg hbl
      subst hbv e5
      obtain ⟨A, hA⟩ : ∃ A, A = add32 ts (IntKind.i64.wrap (-go_)) := ⟨_, rfl⟩
      have HAd := Lib.hid (fun X => (show Calls Try.prog 18 #[.int .u32 ts, .int .i64 (wrap64 (-go_))] X fun e w' => e = .returned (.int .u32 A) ∧ X = w' from by rw [hA, IntWalk.i64_left]; exact radd32_c ts _ X t0 t1))
      have d0 : wo.cell? ⟨bb, bo + j * 3, none⟩ = some (.int .i64 gp) := hcb 0 _ rfl
      have d1 : wo.cell? ⟨bb, bo + j * 3 + 1, none⟩ = some (.int .i64 go_) := hcb 1 _ rfl
      have d2 : wo.cell? ⟨bb, bo + j * 3 + 2, none⟩ = some (.slice pb gB.length cb) := hcb 2 _ rfl
      have z0 : wo.cell? ⟨bz, oz + j * 11, none⟩ = some (.bool false) := hcz 0 _ rfl
      have z1 : wo.cell? ⟨bz, oz + j * 11 + 1, none⟩ = some (.int .i64 gp) := hcz 1 _ rfl
      have z2 : wo.cell? ⟨bz, oz + j * 11 + 2, none⟩ = some (.int .u16 0) := hcz 2 _ rfl
      have z3 : wo.cell? ⟨bz, oz + j * 11 + 3, none⟩ = some (.int .u32 A) := by rw [hA]; exact hcz 3 _ rfl
      have z4 : wo.cell? ⟨bz, oz + j * 11 + 4, none⟩ = some (.int .u32 ss) := hcz 4 _ rfl
      have z5 : wo.cell? ⟨bz, oz + j * 11 + 5, none⟩ = some (.slice none 0 0) := hcz 5 _ rfl
      have z6 : wo.cell? ⟨bz, oz + j * 11 + 6, none⟩ = some (.bool false) := hcz 6 _ rfl
      have z7 : wo.cell? ⟨bz, oz + j * 11 + 7, none⟩ = some (.int .u16 0) := hcz 7 _ rfl
      have z8 : wo.cell? ⟨bz, oz + j * 11 + 8, none⟩ = some (.slice none 0 0) := hcz 8 _ rfl
      have z9 : wo.cell? ⟨bz, oz + j * 11 + 9, none⟩ = some (.slice pg gB.length cg) := hcz 9 _ rfl
      have z10 : wo.cell? ⟨bz, oz + j * 11 + 10, none⟩ = some (.slice none 0 0) := hcz 10 _ rfl
      have j1 : (0 : Int) ≤ (j : Int) := by omega
      have j2 : (j : Int) < (l : Int) := by omega
      have j3 : (j : Int) < ((l + 1 : Nat) : Int) := by omega
      have hbx := HBx.out wo HF5o.out
      have k3 := hbx.cell 3 rfl
      have k4 := hbx.cell 4 rfl
      have HCs := Lib.hid (fun X (hX : Frm [] wo X) => (show Calls Try.prog 10 #[.slice pg gB.length cg, .slice pb gB.length cb] X fun e w' => e = .returned (.bool true) ∧ ∃ m, w' = X.drewN m from by
        have h := bsame_c pg pb cg cb gB gB X (hrg.below hX.below) (hrb.below hX.below) (by omega) (by omega)
        rw [decide_eq_true rfl] at h
        exact h))
      clear hA hb hg hcz hcb hrb hrg hbl hbx
      go_upto_region 17 with fail
      obtain ⟨wz, hwz⟩ : ∃ wz, wz = wo.alloc (.cells #[.bool false, .int .i64 gp, .int .u16 0, .int .u32 A, .int .u32 ss, .slice none 0 0, .bool false, .int .u16 0, .slice none 0 0, .slice pg gB.length cg, .slice none 0 0] 36) := ⟨_, rfl⟩
      obtain ⟨b13, hb13⟩ : ∃ b13, b13 = wo.heap.size := ⟨_, rfl⟩
      rw [← hwz, ← hb13]
      have HFz := Lib.hid (show Frm [] wo wz by rw [hwz]; exact (Frm.refl _ _).alloc _)
      have hbz : Blk wz b13 36 #[.bool false, .int .i64 gp, .int .u16 0, .int .u32 A, .int .u32 ss, .slice none 0 0, .bool false, .int .u16 0, .slice none 0 0, .slice pg gB.length cg, .slice none 0 0] := by rw [hwz, hb13]; exact Blk.made _ _ _
      have x1 := hbz.cell 1 rfl
      have x3 := hbz.cell 3 rfl
      have x4 := hbz.cell 4 rfl
      have x9 := hbz.cell 9 rfl
      have d0 : wz.cell? ⟨bb, bo + j * 3, none⟩ = some (.int .i64 gp) := by rw [HFz.out.cell (World.block_lt_of_cell? wo ⟨bb, bo + j * 3, none⟩ d0) (by simp)]; exact d0
      have d1 : wz.cell? ⟨bb, bo + j * 3 + 1, none⟩ = some (.int .i64 go_) := by rw [HFz.out.cell (World.block_lt_of_cell? wo ⟨bb, bo + j * 3 + 1, none⟩ d1) (by simp)]; exact d1
      have d2 : wz.cell? ⟨bb, bo + j * 3 + 2, none⟩ = some (.slice pb gB.length cb) := by rw [HFz.out.cell (World.block_lt_of_cell? wo ⟨bb, bo + j * 3 + 2, none⟩ d2) (by simp)]; exact d2
      have hbx := HBx.out wz (HF5o.out.trans HFz.out)
      have k3 := hbx.cell 3 rfl
      have k4 := hbx.cell 4 rfl
      clear hbx hbz hwz hb13
      have HSz := Lib.hid (Sep.init wz)
      have n1 := HSz.out.inh
      have hce : ∀ (x : Cls (fun v => Sep [] wz v [])) (q i : Nat) (v : Value), wz.cell? ⟨q, i, none⟩ = some v → x.world.cell? ⟨q, i, none⟩ = some v := fun x q i v h => (x.ok.frm.cell (World.block_lt_of_cell? wz ⟨q, i, none⟩ h) (by simp)).trans h
      have x1 := fun x => hce x _ _ _ x1
      have x3 := fun x => hce x _ _ _ x3
      have x4 := fun x => hce x _ _ _ x4
      have x9 := fun x => hce x _ _ _ x9
      have d0 := fun x => hce x _ _ _ d0
      have d1 := fun x => hce x _ _ _ d1
      have d2 := fun x => hce x _ _ _ d2
      have k3 := fun x => hce x _ _ _ k3
      have k4 := fun x => hce x _ _ _ k4
      clear hce
      refine region_sep HSz.out (by kernel_rfl) (by kernel_rfl) ?_
      repeat (go_big_quiet_step ((rename_i x; first
        | (go_at_call 10; exact call_keeps x.ok (frm_of (HCs.out _ (HFz.out.trans x.ok.frm))))
        | (go_at_call 18; exact call_keeps x.ok (frm_of_same (HAd.out _))))))
      refine wpQuiet_nil ?_
      intro wq hSq
      have HSq := Lib.hid hSq
      clear hSq n1 x1 x3 x4 x9 d0 d1 d2 k3 k4
      go_wp2_with fail
      go_roundw
      case rel => exact ⟨j + 1, by omega, by go_num, HFr.out.trans (HFz.out.trans HSq.out.frm)⟩
      case measure => simp [intOf]; omega
    · obtain rfl : j = l := by omega
      go_wp2_with fail
      go_ret
      exact ⟨rfl, (HF5.out.trans (HFl.out.trans HFr.out)).below⟩

theorem redChains_w (w : World) (a : Option Addr) (c : Nat) (bs : List BkV) (lc : bs.length ≤ c) (mc : c ≤ maxLen) (rd : RdS 3 w a (bs.map BkV.row)) (wf : ∀ b ∈ bs, BlkOk w b) (p : Pk) (hp : RdPk w p) (ok : PpOk p.pl) :
    Calls Try.prog 5 #[.slice a bs.length c, .agg p.cells] w fun e w' => e = .returned (.bool true) ∧ Below w.heap.size w w' := by
  cases hs : smallB bs with
  | false => exact redChainsA w a c bs lc mc rd wf p hp ok (.inl hs)
  | true =>
    cases hf : fewP p.pl with
    | false => exact redChainsA w a c bs lc mc rd wf p hp ok (.inr hf)
    | true =>
      by_cases hE : wrongE bs = 0
      · exact redChainsC w a c bs lc mc rd wf p hp ok hs hf hE
      · exact redChainsB w a c bs lc mc rd wf p hp ok hs hf hE

end Go.Proofs.Ytiknjkkphdncfaa
