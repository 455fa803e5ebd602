/-
  THE WALK of the law EquateMore.
-/
import Derived.Test.YtdcpimnjdggabaaErI
import Derived.Test.YtdcpimnjdggabaaVal
set_option linter.unusedVariables false
set_option linter.unusedSimpArgs false
namespace Go.Proofs.Ytdcpimnjdggabaa
open Go.RowKit Go.Maps

/-- Behind a loop over a map: each key is in the other. -/
def SubPost (w : World) (e : Ending) (w' : World) : Prop := e = .returned (.bool true) ∧ Below w.heap.size w w'

set_option maxRecDepth 100000 in
set_option maxHeartbeats 16000000 in
theorem equateMore_w (w : World) (ak : Option Addr) (ck : Nat) (ks : List Int) (lk : ks.length ≤ ck) (mk : ck ≤ maxLen) (nk : ak = none → ck = 0) (rk : RdI .i64 w ak ks) (wk : ∀ x ∈ ks, (Lit.int .i64 x).wf = true)
    (al : Option Addr) (cl : Nat) (ls : List Int) (ll : ls.length ≤ cl) (ml : cl ≤ maxLen) (nl : al = none → cl = 0) (rl : RdI .i64 w al ls) (wl : ∀ x ∈ ls, (Lit.int .i64 x).wf = true)
    (a : Option Addr) (c : Nat) (qs : List IRow) (lc : qs.length ≤ c) (mc : c ≤ maxLen) (nc : a = none → c = 0) (rd : RdV w a (qs.map IRow.val)) (wf : ∀ r ∈ qs, r.zs.length ≤ r.c ∧ r.c ≤ maxLen ∧ (r.a = none → r.c = 0) ∧ RdI .i64 w r.a r.zs ∧ ∀ x ∈ r.zs, (Lit.int .i64 x).wf = true)
    (ae : Option Addr) (ce : Nat) (es : List Int) (le : es.length ≤ ce) (me : ce ≤ maxLen) (ne : ae = none → ce = 0) (re : RdI .i64 w ae es) (we : ∀ x ∈ es, (Lit.int .i64 x).wf = true) :
    Calls Try.prog 5 #[.slice ak ks.length ck, .slice al ls.length cl, .slice a qs.length c, .slice ae es.length ce] w fun e w' => e = .returned (.bool true) ∧ Below w.heap.size w w' := by
  have hnot : ∀ (x : Bool) (w : World), (Op.unary .not (.bool x)).run Try.prog w = .ok (.bool (!x)) w := fun _ _ => rfl
  obtain ⟨i0, hi, hz0, hz1, hz2⟩ := info_parts info_int
  obtain ⟨i1, ji, jz0, jz1, jz2⟩ := info_parts info_row
  obtain ⟨hr, hrl, hro⟩ := rows_arg rd wf
  have hql : qs.length = (qs.map toRow).length := by simp
  rw [hql] at lc ⊢
  obtain ⟨rs, hrs⟩ : ∃ rs, rs = qs.map toRow := ⟨_, rfl⟩
  rw [← hrs] at hr hrl hro lc ⊢
  have HK := Lib.hid (show RdZ w ak ks from RdV.of_ints rk)
  have HL := Lib.hid (show RdZ w al ls from RdV.of_ints rl)
  have HEq := Lib.hid (show RdZ w ae es from RdV.of_ints re)
  have HR := Lib.hid hr
  have HKo := Lib.hid (show ∀ x ∈ ks, okI x from wk)
  have HLo := Lib.hid (show ∀ x ∈ ls, okI x from wl)
  have HEo := Lib.hid (show ∀ x ∈ es, okI x from we)
  have HRo := Lib.hid hro
  have HNk := Lib.hid nk
  have HNl := Lib.hid nl
  have HNc := Lib.hid nc
  have lk2 : ks.length ≤ maxLen := Nat.le_trans lk mk
  have ll2 : ls.length ≤ maxLen := Nat.le_trans ll ml
  have le2 : es.length ≤ maxLen := Nat.le_trans le me
  have lc2 : rs.length ≤ maxLen := Nat.le_trans lc mc
  have HFw := fun w1 (h : Frm [] w w1) => few_c ak ck ks a c rs w1 (hr.below h.below) lk2 lc2 hrl
  have HFew := Lib.hid HFw
  unfold maxLen at ll2 le2
  clear hr hrl hro hrs rk rl wk wl rd wf nk nl nc lk mk ll ml lc mc hql HFw lk2 lc2 re we le me ne
  go_enter Try.func5, Try.ntmps5
  go_wp2_with fail
  refine (alive_c _).mono ?_
  rintro e w1 ⟨rfl, hf⟩
  have HF1 := Lib.hid hf
  clear hf
  go_wp2_with fail
  refine (HFew.out w1 HF1.out).mono ?_
  rintro e w' ⟨b, rfl, hb, rfl⟩
  cases b with
  | false =>
    clear hb
    go_wp2_with fail
    go_ret
    exact ⟨rfl, HF1.out.below⟩
  | true =>
    obtain ⟨f1, f2, f3, f4⟩ := few_len (hb rfl)
    have HF3 := Lib.hid f3
    have HF4 := Lib.hid f4
    clear hb f3 f4
    by_cases hbig : 60 < ls.length
    · have b1 : decide ((60 : Int) < (ls.length : Int)) = true := by simp; omega
      go_wp2_with fail
      go_ret
      exact ⟨rfl, HF1.out.below⟩
    · have b1 : decide ((60 : Int) < (ls.length : Int)) = false := by simp; omega
      have hll : ls.length ≤ 60 := by omega
      clear hbig
      by_cases hbig : 60 < es.length
      · have b2 : decide ((60 : Int) < (es.length : Int)) = true := by simp; omega
        go_wp2_with fail
        go_ret
        exact ⟨rfl, HF1.out.below⟩
      · have b2 : decide ((60 : Int) < (es.length : Int)) = false := by simp; omega
        have hel : es.length ≤ 60 := by omega
        clear hbig
        have hrok : ∀ r ∈ rs, r.xs.length ≤ 1000 ∧ ∀ x ∈ r.xs, okI x := fun r hr => ⟨by have := HF3.out r hr; omega, HRo.out r hr⟩
        have HC1 := Lib.hid (fun w2 (h : Frm [] w w2) => closureI_c ak ck ks a c rs w2 (HK.out.below h.below) (HR.out.below h.below) (by omega) hrok (by omega) HKo.out (by have := HF4.out; omega))
        have HST := Lib.hid (fun w2 (h : Frm [] w w2) => stuck_c ak ck ks a c rs w2 (HK.out.below h.below) (HR.out.below h.below) (by omega) (by omega) hrok HKo.out (by have := HF4.out; omega))
        have HRok := Lib.hid hrok
        clear hrok HFew
        go_wp2_with fail
        refine (HC1.out w1 HF1.out).mono ?_
        rintro e w2 ⟨m1, rfl, hS2⟩
        have HM1 := Lib.hid (hS2.get 0 rfl)
        have HF2 := Lib.hid (HF1.out.trans hS2.frm)
        have HS3 := Lib.hid ((Sep.init w2).made 3 1 0 #[] (Nat.zero_le _) rfl)
        clear hS2 HC1
        go_upto_region 7 with (first | (at_builtin; refine wpList_append_ints rfl (.tmp 37) (.tmp 38) 22 rfl 0 3 i0 (.int .i64 0) 8 Try.underlying22 hi hz0 hz1 hz2 rfl .i64 _ 0 [] rfl HS3.out rfl ak ck ks rfl HNk.out (HK.out.below (HF2.out.trans HS3.out.frm).below).ints (by unfold maxLen; omega) (by omega) ?_; intro v4 w4 hS4; have HS4 := Lib.hid hS4; clear hS4) | (at_builtin; refine wpList_append_ints rfl (.tmp 39) (.tmp 40) 22 rfl 0 3 i0 (.int .i64 0) 8 Try.underlying22 hi hz0 hz1 hz2 rfl .i64 _ _ _ rfl HS4.out rfl al cl ls rfl HNl.out (HL.out.below (HF2.out.trans HS4.out.frm).below).ints (by unfold maxLen; omega) (by omega) ?_; intro v5 w5 hS5; have HS5 := Lib.hid (hS5.made 22 1 0 #[] (Nat.zero_le _) rfl); clear hS5) | (at_builtin; refine wpList_append_vals rfl (.tmp 42) (.tmp 43) 23 rfl 0 22 i1 (.slice none 0 0) 24 Try.underlying23 ji jz0 jz1 jz2 rfl _ _ _ rfl HS5.out rfl a c (rs.map Row.val) (by rw [List.length_map]; rfl) HNc.out (HR.out.below (HF2.out.trans HS5.out.frm).below).1 (fun u hu => by obtain ⟨r, _, rfl⟩ := List.mem_map.1 hu; rfl) (by rw [List.length_map]; unfold maxLen; omega) (by rw [List.length_map]; omega) ?_; intro v6 w6 hS6; have HS6 := Lib.hid hS6; clear hS6) | (at_builtin; refine wpList_append_sep rfl (.tmp 44) (.tmp 46) 23 rfl 0 22 i1 (.slice none 0 0) 24 Try.underlying23 ji jz0 jz1 jz2 rfl _ _ _ rfl (HS6.out.skip _) rfl _ 1 (.slice ae es.length ce) rfl (World.cell?_alloc_at _ _ _ _ rfl) rfl (by rw [List.length_map]; unfold maxLen; omega) (by rw [List.length_map]; omega) ?_; intro g7 c7 w7 hS7; have HS7 := Lib.hid hS7; clear hS7))
        have h5 := own_Z (zs := ks ++ ls) (v := v5) (n := (ks ++ ls).length) (w := w7) (by
          have h := HS7.out.own 1 rfl
          simp only [Nat.zero_add, List.nil_append, ← List.map_append, ← List.length_append] at h
          exact h)
        obtain ⟨a5, c5, rfl, e1, e2, e3, hz5⟩ := h5
        obtain ⟨a7, c8, hv7, _, _, _, hr7⟩ := RdV.of_own (HS7.out.own 0 rfl)
        have hr7' : RdV w7 (some ⟨g7, 0, none⟩) ((rs ++ [(⟨ae, ce, es⟩ : Row Int)]).map Row.val) := by
          injection hv7 with h1 h2 h3
          rw [← h1] at hr7
          rw [List.map_append]
          simp only [List.nil_append] at hr7
          exact hr7
        have HF7 := Lib.hid (HF2.out.trans HS7.out.frm)
        have hE2 : (rs ++ [(⟨ae, ce, es⟩ : Row Int)]).map (·.xs) = rs.map (·.xs) ++ [es] := by simp
        have hc2 := closureI_c a5 c5 (ks ++ ls) (some ⟨g7, 0, none⟩) c7 (rs ++ [⟨ae, ce, es⟩]) w7 hz5 ⟨hr7', fun r hr => by
            rcases List.mem_append.1 hr with hr | hr
            · exact (HR.out.below HF7.out.below).2 r hr
            · simp at hr; subst hr; exact HEq.out.below HF7.out.below⟩ (by simp; omega) (fun r hr => by
            rcases List.mem_append.1 hr with hr | hr
            · exact HRok.out r hr
            · simp at hr; subst hr; exact ⟨by show es.length ≤ 1000; omega, HEo.out⟩) (by simp; omega) (fun x hx => by
            rcases List.mem_append.1 hx with hx | hx
            · exact HKo.out x hx
            · exact HLo.out x hx) (by rw [hE2, flat_snoc]; have := HF4.out; omega)
        rw [hE2, show (rs ++ [(⟨ae, ce, es⟩ : Row Int)]).length = rs.length + 1 from by simp] at hc2
        have hsub : ∀ x ∈ keysI ks (peel ks (rs.map (·.xs))), x ∈ keysI (ks ++ ls) (peel (ks ++ ls) (rs.map (·.xs) ++ [es])) ∧ okI x := fun x hx => by
          refine ⟨(keys_clo _ _ x).2 (clo_mono (fun y hy => by simp [hy]) (fun e he => by simp [he]) x ((keys_clo _ _ x).1 hx)), ?_⟩
          rcases List.mem_append.1 ((keys_clo _ _ x).1 hx) with hx | hx
          · exact HKo.out x hx
          · obtain ⟨l, hl1, hl2⟩ := List.mem_flatten.1 (peel_told.2 x hx).2
            obtain ⟨r, hr, rfl⟩ := List.mem_map.1 hl1
            exact HRo.out r hr x hl2
        obtain ⟨KS2, hKS2⟩ : ∃ KS2, KS2 = keysI (ks ++ ls) (peel (ks ++ ls) (rs.map (·.xs) ++ [es])) := ⟨_, rfl⟩
        rw [← hKS2] at hc2 hsub
        have hKk := keys_clo ks (rs.map (·.xs))
        obtain ⟨KS1, hKS1⟩ : ∃ KS1, KS1 = keysI ks (peel ks (rs.map (·.xs))) := ⟨_, rfl⟩
        rw [← hKS1] at hsub hKk HM1
        have HC2 := Lib.hid hc2
        have HSub := Lib.hid hsub
        have HKk := Lib.hid hKk
        clear e1 e2 e3 hz5 hv7 hr7 hr7' hE2 hc2 hsub hKS2 hKS1 hKk
        refine HC2.out.mono ?_
        rintro e w8 ⟨m2, rfl, hS8⟩
        have HM2 := Lib.hid (hS8.get 0 rfl)
        have HF8 := Lib.hid (HF7.out.trans hS8.frm)
        have HM1w8 := Lib.hid (HM1.out.frm (HS7.out.frm.trans hS8.frm) (by simp))
        clear hS8 HC2
        obtain ⟨w9, hrun, hrg, hrf⟩ := HM1w8.out.range Try.underlying34
        obtain ⟨r1, hr1⟩ : ∃ r, r = w8.heap.size := ⟨_, rfl⟩
        rw [← hr1] at hrun hrg
        have HRg := Lib.hid hrg
        have HRf := Lib.hid hrf
        have HRe := Lib.hid hr1
        clear hrg hrf hr1
        go_wp2_with fail
        clear hrun
        go_loopg [11] KS1.length (fun gk x wr => ∃ (todo : List (Value × Value)), gk = todo.length ∧ RangeAt Try.prog 3 wr m1 r1 (setKv (Value.int .i64) KS1) todo ∧ Frm [] w8 wr)
        case atStart => exact ⟨_, by simp [setKv], HRg.out, HRf.out⟩
        case round =>
          obtain ⟨todo, hgk, hrg, hf⟩ := hrel
          rcases hrg.next 0 with ⟨htd, hrun⟩ | ⟨A, p, B, wn, htd, hp, hrun, hrg2, hf2, hen⟩
          · subst htd
            have HFz := Lib.hid (HF8.out.trans hf)
            have HFy := Lib.hid hf
            clear hgk hrg hf HRg HRf
            have HM1z := Lib.hid (HM1w8.out.frm HFy.out (by simp))
            have HS10 := Lib.hid ((Sep.init wr).made 22 1 0 #[] (Nat.zero_le _) rfl)
            go_wp2_with fail
            clear hrun
            obtain ⟨wq, hwq⟩ : ∃ wq : World, wq = wr := ⟨_, rfl⟩
            subst hwq
            go_loopw [62, 12] (fun i v wx => ∃ (n : Nat), n ≤ rs.length ∧ i = .int .i64 n ∧ Sep [] wq wx [ownR 22 1 v n ((rs.reverse.take n).map Row.val)]) (fun i _ _ => rs.length - (intOf i).toNat)
            case atStart => exact ⟨0, Nat.zero_le _, rfl, HS10.out⟩
            case round =>
              obtain ⟨n, hn, rfl, hS⟩ := hrel
              by_cases hlt : n < rs.length
              · obtain ⟨k, hk⟩ : ∃ k : Nat, (rs.length : Int) - 1 - (n : Int) = (k : Int) := ⟨rs.length - 1 - n, by omega⟩
                have hkl : k < rs.length := by omega
                obtain ⟨b, off, r, hre, hrm, hts, rfl, hb, hc, hrd⟩ := rows_at (HR.out.below (HFz.out.trans hS.frm).below) hkl
                have hrv : rs.reverse.take (n + 1) = rs.reverse.take n ++ [r] := by
                  have h1 : rs.reverse[n]? = some r := by rw [List.getElem?_reverse hlt, show rs.length - 1 - n = k from by omega]; exact hre
                  rw [List.take_add_one, h1]; rfl
                have hrx := HF3.out r hrm
                have HRv := Lib.hid hrv
                have HS11 := Lib.hid hS
                have k0 : (0 : Int) ≤ (k : Int) := by omega
                have k1 : (k : Int) < (rs.length : Int) := by omega
                clear hS hre hrm hts hb hrd hrv
                go_wp2_with (at_builtin; refine wpList_append_sep rfl _ _ 23 rfl 0 22 i1 (.slice none 0 0) 24 Try.underlying23 ji jz0 jz1 jz2 rfl _ _ _ rfl (HS11.out.skip _) rfl _ 1 (.slice r.a r.xs.length r.c) rfl (World.cell?_alloc_at _ _ _ _ rfl) rfl (by unfold maxLen; omega) (by omega) ?_; intro g12 c12 w12 hS12; have HS12 := Lib.hid hS12; clear hS12)
                go_roundw
                case rel =>
                  refine ⟨n + 1, by omega, by go_num, ?_⟩
                  rw [HRv.out, List.map_append]
                  exact HS12.out
                case measure => simp [intOf]; omega
              · obtain rfl : n = rs.length := by omega
                rw [show rs.reverse.take rs.length = rs.reverse from by rw [← List.length_reverse, List.take_length]] at hS
                obtain ⟨ab, cb, rfl, e1, e2, e3, hrb⟩ := RdV.of_own (hS.own 0 rfl)
                have HFb := Lib.hid (HFz.out.trans hS.frm)
                have hE3 : (rs.reverse).map (·.xs) = (rs.map (·.xs)).reverse := by rw [List.map_reverse]
                have hc3 := closureI_c ak ck ks ab cb rs.reverse wr (HK.out.below HFb.out.below) ⟨hrb, fun r hr => (HR.out.below HFb.out.below).2 r (by simpa using hr)⟩ (by simp; omega) (fun r hr => HRok.out r (by simpa using hr)) (by omega) HKo.out (by rw [hE3]; have := HF4.out; simp only [List.length_flatten, List.map_reverse, List.sum_reverse] at this ⊢; omega)
                rw [hE3, List.length_reverse] at hc3
                have hsame : ∀ x, x ∈ keysI ks (peel ks (rs.map (·.xs)).reverse) ↔ x ∈ KS1 := fun x => by
                  rw [keys_clo, HKk.out x]
                  exact clo_same (fun _ => Iff.rfl) (fun e => by simp) x
                have hl3 : ((rs.reverse).map Row.val).length = rs.length := by simp
                obtain ⟨KS3, hKS3⟩ : ∃ KS3, KS3 = keysI ks (peel ks (rs.map (·.xs)).reverse) := ⟨_, rfl⟩
                rw [← hKS3] at hc3 hsame
                rw [hl3]
                have HC3 := Lib.hid hc3
                have HSame := Lib.hid hsame
                have HSub3 := Lib.hid (show ∀ x ∈ KS3, x ∈ KS1 ∧ okI x from fun x hx => ⟨(hsame x).1 hx, (HSub.out x ((hsame x).1 hx)).2⟩)
                have HM1b := Lib.hid (HM1z.out.frm hS.frm (by simp))
                clear hS e1 e2 e3 hrb hE3 hc3 hsame hl3 hKS3
                go_wp2_with fail
                refine HC3.out.mono ?_
                rintro e w13 ⟨m3, rfl, hS13⟩
                have HM3 := Lib.hid (hS13.get 0 rfl)
                have HF13 := Lib.hid (HFb.out.trans hS13.frm)
                have HM1c := Lib.hid (HM1b.out.frm hS13.frm (by simp))
                clear hS13 HC3
                obtain ⟨w14, hrun, hrg, hrf⟩ := HM3.out.range Try.underlying34
                obtain ⟨r3, hr3⟩ : ∃ r, r = w13.heap.size := ⟨_, rfl⟩
                rw [← hr3] at hrun hrg
                have HRg := Lib.hid hrg
                have HRf := Lib.hid hrf
                have HRe := Lib.hid hr3
                clear hrg hrf hr3
                go_wp2_with fail
                clear hrun
                go_loopg [15] KS3.length (fun gk x wr => ∃ (todo : List (Value × Value)), gk = todo.length ∧ RangeAt Try.prog 3 wr m3 r3 (setKv (Value.int .i64) KS3) todo ∧ Frm [] w13 wr)
                case atStart => exact ⟨_, by simp [setKv], HRg.out, HRf.out⟩
                case round =>
                  obtain ⟨todo, hgk, hrg, hf⟩ := hrel
                  rcases hrg.next 0 with ⟨htd, hrun⟩ | ⟨A, p, B, wn, htd, hp, hrun, hrg2, hf2, hen⟩
                  · subst htd
                    have HFz2 := Lib.hid (HF13.out.trans hf)
                    have HFy2 := Lib.hid hf
                    have HM1e := Lib.hid (HM1c.out.frm hf (by simp))
                    have HM3e := Lib.hid (HM3.out.frm hf (by simp))
                    clear hgk hrg hf HRg HRf
                    go_wp2_with fail
                    clear hrun
                    refine (HST.out wr HFz2.out).mono ?_
                    rintro e w15 ⟨ax, cx, rows, rfl, hrw, hrr, hfr⟩
                    have hrl : ∀ q ∈ rows, 2 ≤ q.xs.length ∧ q.xs.length ≤ 1000 := fun q hq => by
                      have h1 : q.xs ∈ stk (clo ks (rs.map (·.xs))) (rs.map (·.xs)) := by rw [← hrw]; exact List.mem_map_of_mem hq
                      unfold stk at h1
                      obtain ⟨h2, h3⟩ := List.mem_filter.1 h1
                      obtain ⟨e, he, h4⟩ := List.mem_map.1 h2
                      have h5 := clo_closed (base := ks) he
                      rw [h4] at h5
                      have h6 : 0 < q.xs.length := by simpa using h3
                      refine ⟨by omega, ?_⟩
                      obtain ⟨r, hr, rfl⟩ := List.mem_map.1 he
                      have h7 := (HRok.out r hr).1
                      rw [← h4]
                      exact Nat.le_trans (opn_len _ _) h7
                    have hrn : rows.length ≤ 1000 := by
                      have h1 : (rows.map (·.xs)).length ≤ (rs.map (·.xs)).length := by rw [hrw]; exact stk_len _ _
                      simp only [List.length_map] at h1
                      omega
                    have HRl := Lib.hid hrl
                    have HRr := Lib.hid hrr
                    have HF15 := Lib.hid (HFz2.out.trans hfr)
                    have HM1f := Lib.hid (HM1e.out.frm hfr (by simp))
                    have HM3f := Lib.hid (HM3e.out.frm hfr (by simp))
                    clear hrw hrr hfr hrl HST
                    go_wp2_with fail
                    go_loopw [94] (fun i wx => ∃ (n : Nat), n ≤ rows.length ∧ i = .int .i64 n ∧ Frm [] w15 wx) (fun i _ => rows.length - (intOf i).toNat)
                    case atStart => exact ⟨0, Nat.zero_le _, rfl, Frm.refl _ _⟩
                    case round =>
                      obtain ⟨n, hn, rfl, hf⟩ := hrel
                      by_cases hlt : n < rows.length
                      · obtain ⟨b, off, r, hre, hrm, hts, rfl, hb, hc, hrd⟩ := rows_at (HRr.out.below hf.below) hlt
                        have hr2 := HRl.out r hrm
                        have b3 : decide ((r.xs.length : Int) < 2) = false := by rw [decide_eq_false_iff_not]; omega
                        have HF16 := Lib.hid hf
                        clear hf hre hrm hts hb hrd
                        go_wp2_with fail
                        go_roundw
                        case rel => exact ⟨n + 1, by omega, by go_num, HF16.out⟩
                        case measure => simp [intOf]; omega
                      · obtain rfl : n = rows.length := by omega
                        have hm1 := HM1f.out.frm hf (by simp)
                        have hm3 := HM3f.out.frm hf (by simp)
                        have hk13 : KS3.length = KS1.length := nodup_same (set_nodup hm3) (set_nodup hm1) HSame.out
                        have hl1 := set_len hm1 Try.underlying34 3
                        have hl3 := set_len hm3 Try.underlying34 3
                        rw [hk13] at hl3
                        have hpe : ((KS1.length : Int) == (KS1.length : Int)) = true := by simp
                        have HF17 := Lib.hid (HF15.out.trans hf)
                        clear hm1 hm3 hf hk13
                        go_wp2_with fail
                        go_ret
                        exact ⟨by first | rfl | simp, HF17.out.below⟩
                  · obtain ⟨x, hxk, rfl⟩ := List.mem_map.1 hp
                    have hf3 := hf.after hf2 (fun g hg => by simp at hg; subst hg; exact .inr (by rw [HRe.out]; exact Nat.le_refl _))
                    obtain ⟨hx2, hok⟩ := HSub3.out x hxk
                    have hlk := set_look (HM1c.out.frm hf3 (by simp)) injI keyedI Try.underlying34 (zeroBI _) x (keyOf_int_mk Try.underlying3 hok)
                    rw [isIn_yes.2 hx2] at hlk
                    have HF3 := Lib.hid hf3
                    have HR3 := Lib.hid hrg2
                    have HG := Lib.hid (show (A ++ B).length < gk by rw [hgk, htd]; simp)
                    dsimp only at hrun hen
                    clear htd hp hxk hx2 hok hf hf2 hf3 hrg hrg2 hgk
                    go_wp2_with fail
                    go_roundg (A ++ B).length
                    case rel => exact ⟨A ++ B, rfl, HR3.out, HF3.out⟩
                    case measure => exact HG.out

          · obtain ⟨x, hxk, rfl⟩ := List.mem_map.1 hp
            have hf3 := hf.after hf2 (fun g hg => by simp at hg; subst hg; exact .inr (by rw [HRe.out]; exact Nat.le_refl _))
            obtain ⟨hx2, hok⟩ := HSub.out x hxk
            have hlk := set_look (HM2.out.frm hf3 (by simp)) injI keyedI Try.underlying34 (zeroBI _) x (keyOf_int_mk Try.underlying3 hok)
            rw [isIn_yes.2 hx2] at hlk
            have HF3 := Lib.hid hf3
            have HR3 := Lib.hid hrg2
            have HG := Lib.hid (show (A ++ B).length < gk by rw [hgk, htd]; simp)
            dsimp only at hrun hen
            clear htd hp hxk hx2 hok hf hf2 hf3 hrg hrg2 hgk
            go_wp2_with fail
            go_roundg (A ++ B).length
            case rel => exact ⟨A ++ B, rfl, HR3.out, HF3.out⟩
            case measure => exact HG.out

end Go.Proofs.Ytdcpimnjdggabaa
