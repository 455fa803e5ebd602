/-
  THE WALK of confluxref03.Each (printed by gen_reach.py).
-/
import Derived.Test.YtdkbibfgebfeaaaWiJ
set_option linter.unusedVariables false
set_option linter.unusedSimpArgs false
namespace Go.Proofs.Ytdkbibfgebfeaaa
open Go.RowKit

set_option maxRecDepth 100000 in
set_option maxHeartbeats 8000000 in
theorem reach_c (w : World) (a : Option Addr) (c : Nat) (zs : List Int) (most : Int) (hb : Bytes w a c zs) (ad : Option Addr) (cs : Nat) (ss : List Stp) (hs0 : Steps w ad ss) :
    Calls Try.prog 22 #[.slice a zs.length c, .int .i64 most, .slice ad ss.length cs] w (EachOkG w EV.pl EV.val EV.thg (eachL (fun z => runL z ss) most zs)) := by
  obtain ⟨i0, hi, hz0, hz1, hz2⟩ := info_parts info_eachG
  have HSt := Lib.hid (fun X (hX : Frm [] w X) => hs0.frm hX)
  have hc := hb.cap
  have hcm := hb.big
  have hs := hb.sm
  obtain ⟨E, hE⟩ : ∃ E, E = eachL (fun z => runL z ss) most zs := ⟨_, rfl⟩
  rw [← hE]
  have HE := Lib.hid hE
  have HS := Lib.hid (((Sep.init w).made 23 1 0 #[] (by unfold maxLen; omega) rfl).none)
  have HR := Lib.hid hb.rd
  have HBy := Lib.hid hb.byt
  have HN := Lib.hid hb.nil
  obtain ⟨n, hnl⟩ : ∃ n, n = zs.length := ⟨_, rfl⟩
  rw [← hnl] at hc hs ⊢
  have HNl := Lib.hid hnl
  clear hE hb hs0 hnl
  go_enter Try.func22, Try.ntmps22
  go_wp2_with fail
  go_loopw [0, 8] (fun b out wr => ∃ (a' : Option Addr) (m c' : Nat) (zs' : List Int) (o : Value) (ms : List EV) (fu : Nat), b = .slice a' m c' ∧ o = out ∧ EachIG w wr EV.pl EV.val EV.thg (fun z => runL z ss) n most E a' m c' zs' o ms fu) (fun b _ _ => lenG b)
  case atStart => exact ⟨a, n, c, zs, _, [], n, rfl, rfl, HNl.out.symm, HR.out, HBy.out, hc, hcm, HN.out, by simp, Nat.le_refl _, by rw [HE.out, HNl.out]; rfl, HS.out⟩
  case round =>
    obtain ⟨a', m, c', zs', o, ms, fu, rfl, rfl, hI⟩ := hrel
    have HI := Lib.hid hI
    have hle := hI.le
    have hca := hI.cap
    have hbg := hI.big
    obtain ⟨ao, po, rfl, _, _⟩ := own_shape (hI.sep.own 1 rfl)
    clear hI
    by_cases h0 : m = 0
    · subst h0
      go_wp2_with fail
      refine bodyPost_ret (v := .tuple #[.slice ao ms.length po, .int .i64 0]) ?_ rfl (.inr ⟨_, ms, ?_, rfl, HI.out.sep.swap2⟩)
      · simp [results, Try.results22]
      · rw [HI.out.eq]; exact eachF_end fu HI.out.len
    · have hpos : 0 < m := by omega
      have t1 : (0 : Int) < (m : Int) := by omega
      clear h0
      cases hrd : runL zs' ss with
      | error e =>
        have he := runL_ne ss hrd
        have HC := Lib.hid (rrun_c wr a' c' zs' (HI.out.rdi.below HI.out.sep.frm.below) HI.out.byt (by rw [HI.out.len]; exact HI.out.cap) HI.out.big HI.out.nil (by rw [HI.out.len]; omega) ad cs ss (HSt.out _ HI.out.sep.frm).rd (HSt.out _ HI.out.sep.frm).le (HSt.out _ HI.out.sep.frm).n)
        rw [HI.out.len] at HC
        have e1 : (e != 0) = true := by simpa using he
        have HF := Lib.hid (show E = .error e by rw [HI.out.eq]; exact eachF_error (by rw [HI.out.len]; exact HI.out.fuel) (by rw [HI.out.len]; exact hpos) hrd)
        have HEz := Lib.hid he
        have HRd := Lib.hid hrd
        clear hrd he
        go_wp2_with fail
        refine HC.out.mono ?_
        rintro x w1 (⟨e', he', rfl, hF⟩ | ⟨v, gs, k', hr', _⟩)
        case inr => rw [HRd.out] at hr'; cases hr'
        rw [HRd.out] at he'
        injection he' with he'
        subst he'
        have HFr := Lib.hid (HI.out.sep.frm.trans hF)
        clear hF HC
        go_wp2_with fail
        refine bodyPost_ret (v := .tuple #[.slice none 0 0, .int .i64 e]) ?_ rfl (.inl ⟨e, HF.out, HEz.out, rfl, HFr.out⟩)
        simp [results, Try.results22]
      | ok r =>
        obtain ⟨x, k⟩ := r
        have HC := Lib.hid (rrun_c wr a' c' zs' (HI.out.rdi.below HI.out.sep.frm.below) HI.out.byt (by rw [HI.out.len]; exact HI.out.cap) HI.out.big HI.out.nil (by rw [HI.out.len]; omega) ad cs ss (HSt.out _ HI.out.sep.frm).rd (HSt.out _ HI.out.sep.frm).le (HSt.out _ HI.out.sep.frm).n)
        rw [HI.out.len] at HC
        have HRd := Lib.hid hrd
        clear hrd
        go_wp2_with fail
        refine HC.out.mono ?_
        rintro x w1 (⟨e', he', _⟩ | ⟨v, gs, k', hr', hkm, rfl, hS⟩)
        case inl => rw [HRd.out] at he'; cases he'
        obtain ⟨ya, yc, rfl, _, _⟩ := own_shape (hS.get 1 rfl)
        obtain ⟨y, hy⟩ : ∃ y : EV, y = ⟨ya, gs.length, yc, gs⟩ := ⟨_, rfl⟩
        rw [show (gs.map GtV.gt, k') = (y.pl, k') by rw [hy]; rfl] at hr'
        have HRd := Lib.hid hr'
        have HS1 := Lib.hid (show Sep [] wr w1 y.thg by rw [hy]; exact hS.swap2)
        rw [show (Value.slice ya gs.length yc) = .slice y.a y.n y.c by rw [hy]]
        rw [HI.out.len] at hkm
        clear hr' hy
        clear HC hS
        by_cases hk0 : k' = 0
        · subst hk0
          have HF := Lib.hid (show E = .error 21 by rw [HI.out.eq]; exact eachF_form (by rw [HI.out.len]; exact HI.out.fuel) (by rw [HI.out.len]; exact hpos) HRd.out)
          go_wp2_with fail
          refine bodyPost_ret (v := .tuple #[.slice none 0 0, .int .i64 21]) ?_ rfl (.inl ⟨21, HF.out, by decide, rfl, HI.out.sep.frm.trans HS1.out.frm⟩)
          simp [results, Try.results22]
        · have e2 : ((k' : Int) == 0) = false := by rw [beq_eq_false_iff_ne]; omega
          have hkp : 0 < k' := by omega
          clear hk0
          by_cases hmo : most ≤ (ms.length : Int)
          · have e3 : decide (most ≤ (ms.length : Int)) = true := decide_eq_true hmo
            have HF := Lib.hid (show E = .error 3 by rw [HI.out.eq]; exact eachF_many (by rw [HI.out.len]; exact HI.out.fuel) (by rw [HI.out.len]; exact hpos) HRd.out hkp (by rw [List.length_map]; exact hmo))
            clear hmo
            go_wp2_with fail
            refine bodyPost_ret (v := .tuple #[.slice none 0 0, .int .i64 3]) ?_ rfl (.inl ⟨3, HF.out, by decide, rfl, HI.out.sep.frm.trans HS1.out.frm⟩)
            simp [results, Try.results22]
          · have e3 : decide (most ≤ (ms.length : Int)) = false := decide_eq_false hmo
            obtain ⟨fu', hfu, hEq⟩ := eachF_step (rd := fun z => runL z ss) (most := most) (out := ms.map EV.pl) (by rw [HI.out.len]; exact HI.out.fuel) (by rw [HI.out.len]; exact hpos) HRd.out hkp (by rw [List.length_map]; exact hmo)
            have HF := Lib.hid (And.intro hfu (HI.out.eq.trans hEq))
            clear hmo hfu hEq
            have HS2 := Lib.hid ((HI.out.sep.more HS1.out).gather)
            have hml : ms.length ≤ 1000000 := by omega
            have s0 : (0 : Int) ≤ (k' : Int) := by omega
            have s1 : (k' : Int) ≤ (m : Int) := by omega
            have s2 : (m : Int) ≤ (c' : Int) := by omega
            obtain ⟨b', off', x0, _, rfl, _, _⟩ := HI.out.rdi.at_ 0 (by rw [HI.out.len]; exact hpos)
            clear HS1
            go_wp2_with (at_builtin; go_must (refine wpList_append_sep rfl _ _ 50 rfl 1 23 i0 (.slice none 0 0) 24 Try.underlying50 hi hz0 hz1 hz2 rfl _ _ _ rfl (HS2.out.skip _) rfl w1.heap.size 1 (.slice y.a y.n y.c) rfl (World.cell?_alloc_at _ _ _ _ rfl) rfl (by unfold maxLen; omega) (by omega) ?_); intro g4 c4 w4 hS4; have HS4 := Lib.hid hS4; clear hS4)
            go_roundw
            case rel =>
              refine ⟨_, m - k', c' - k', zs'.drop k', _, ms ++ [y], fu', rfl, rfl, ?_⟩
              have hlen : (zs'.drop k').length = m - k' := by rw [List.length_drop, HI.out.len]
              refine ⟨hlen, HI.out.rdi.cutOff (by rw [HI.out.len]; exact hca), HI.out.byt.drop k', by omega, by omega, fun h => ?_, ?_, by rw [← hlen]; exact HF.out.1, ?_, ?_⟩
              · split at h <;> cases h
              · rw [List.length_append, List.length_singleton]; omega
              · rw [List.map_append]; exact HF.out.2
              · rw [List.flatMap_append, List.flatMap_singleton, List.length_append, List.length_singleton, List.map_append]; exact HS4.out
            case measure => simp [lenG]; omega

theorem reach_v {w : World} {a : Option Addr} {c : Nat} {zs : List Int} (hb : Bytes w a c zs) {ad : Option Addr} {cs : Nat} {ss : List Stp} (hs : Steps w ad ss) (most : Int) :
    Calls Try.prog 22 #[.slice a zs.length c, .int .i64 most, .slice ad ss.length cs] w (EachP w (eachO zs ss most) (eachE zs ss most)) := by
  refine (reach_c w a c zs most hb ad cs ss hs).mono ?_
  rintro x W' (⟨e, he, _, rfl, hF⟩ | ⟨v, ms, he, rfl, hS⟩)
  · exact ⟨_, [], by unfold eachO; rw [he]; rfl, by unfold eachE; rw [he], noeach hF⟩
  · exact ⟨v, ms, by unfold eachO; rw [he], by unfold eachE; rw [he], hS⟩

end Go.Proofs.Ytdkbibfgebfeaaa
