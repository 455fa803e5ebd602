/-
  THE WALK of the law EquateTells.
-/
import Derived.Test.YtdcpimnjdggabaaErI
import Derived.Test.YtdcpimnjdggabaaBits
import Derived.Test.YtdcpimnjdggabaaCel
set_option linter.unusedVariables false
set_option linter.unusedSimpArgs false
namespace Go.Proofs.Ytdcpimnjdggabaa
open Go.RowKit Go.Maps Go.Shelf
attribute [local go_sem] Oper.semAt_some

theorem own_cap {w : World} {base e size : Nat} {a : Option Addr} {m c n : Nat} {xs : List Value} (h : w.ownsRow base e size (.slice a m c) n xs) : c ≤ maxLen := by
  rcases h.2 with ⟨hv, h0⟩ | ⟨g, cap, cur, hv, hb, hh, hc, hm, _⟩
  · cases hv; exact Nat.zero_le _
  · cases hv; exact hm
/-- The things of the call beside the foreign blocks. -/
def tL (g h o M : Nat) (ks : Value) (es : Value) (R : List (Int × Nat)) (wv : Value) (b : Bool) (pre : List (Int × Nat)) : List Res :=
  [blkR (o + 1) 23 #[es], blkR o 22 #[ks], blkR (h + 1) 3 #[.int .i64 pre.length], blkR h 26 #[wv], ownR 32 2 wv R.length (tCells R), blkR (g + 1) 4 #[.bool b], blkR g 3 #[.int .i64 (1 + (M : Int))]]

set_option maxRecDepth 100000 in
set_option maxHeartbeats 16000000 in
theorem equateTells_w (w : World) (ak : Option Addr) (ck : Nat) (ks : List Int) (lk : ks.length ≤ ck) (mk : ck ≤ maxLen) (nk : ak = none → ck = 0) (rk : RdI .i64 w ak ks) (wk : ∀ x ∈ ks, (Lit.int .i64 x).wf = true)
    (a : Option Addr) (c : Nat) (qs : List IRow) (lc : qs.length ≤ c) (mc : c ≤ maxLen) (nc : a = none → c = 0) (rd : RdV w a (qs.map IRow.val)) (wf : ∀ r ∈ qs, r.zs.length ≤ r.c ∧ r.c ≤ maxLen ∧ (r.a = none → r.c = 0) ∧ RdI .i64 w r.a r.zs ∧ ∀ x ∈ r.zs, (Lit.int .i64 x).wf = true)
    (most : Int) (wm : (Lit.int .i64 most).wf = true) :
    Calls Try.prog 3 #[.slice ak ks.length ck, .slice a qs.length c, .int .i64 most] w fun e w' => e = .returned (.bool true) ∧ Below w.heap.size w w' := by
  have hnot : ∀ (x : Bool) (w : World), (Op.unary .not (.bool x)).run Try.prog w = .ok (.bool (!x)) w := fun _ _ => rfl
  obtain ⟨M', hM'⟩ : ∃ z, bits .and .i64 most 255 = z := ⟨_, rfl⟩
  have hMb := and_i64 most 255 (by omega) (by omega)
  rw [hM'] at hMb
  obtain ⟨M, hM⟩ : ∃ M : Nat, M' = (M : Int) := ⟨M'.toNat, by omega⟩
  subst hM
  obtain ⟨m0, m1⟩ := hMb
  obtain ⟨hr, hrl, hro⟩ := rows_arg rd wf
  have hql : qs.length = (qs.map toRow).length := by simp
  rw [hql] at lc ⊢
  obtain ⟨rs, hrs⟩ : ∃ rs, rs = qs.map toRow := ⟨_, rfl⟩
  rw [← hrs] at hr hrl hro lc ⊢
  have HK := Lib.hid (show RdZ w ak ks from RdV.of_ints rk)
  have HR := Lib.hid hr
  have HKo := Lib.hid (show ∀ x ∈ ks, okI x from wk)
  have HRo := Lib.hid hro
  have HNk := Lib.hid nk
  have lk2 : ks.length ≤ maxLen := Nat.le_trans lk mk
  have lc2 : rs.length ≤ maxLen := Nat.le_trans lc mc
  have HFw := fun w1 (h : Frm [] w w1) => few_c ak ck ks a c rs w1 (hr.below h.below) lk2 lc2 hrl
  have HFew := Lib.hid HFw
  have HS0 := Lib.hid (((Sep.init w).alloc #[.int .i64 most] 3).alloc #[.bool false] 4)
  simp only [World.size_alloc] at HS0
  clear hr hrl hro hrs rk wk wm rd wf nk nc lk mk lc mc hql HFw lk2 lc2
  refine (callsIn_wide (n := 8)).1 ?_
  refine callsIn_of_wp_marks Try.func3 rfl trivial ?_ rfl
  simp only [Try.ntmps3, List.size_toArray, List.length_cons, List.length_nil, Nat.reduceAdd, Nat.reduceSub, Array.replicate_succ, Array.replicate_zero, List.push_toArray, List.append_toArray, List.nil_append, List.cons_append]
  gi_wp2_with fail
  obtain ⟨w0, hw0⟩ : ∃ w0, w0 = (w.alloc (.cells #[.int .i64 most] 3)).alloc (.cells #[.bool false] 4) := ⟨_, rfl⟩
  obtain ⟨g, hg⟩ : ∃ g, g = w.heap.size := ⟨_, rfl⟩
  rw [← hw0, ← hg] at HS0
  rw [← hw0, ← hg]
  clear hw0 hg
  refine ⟨trivial, (callsIn_wide.2 (alive_c w0)).mono ?_⟩
  rintro e w1 ⟨rfl, hf⟩
  have HS1 := Lib.hid (HS0.out.keep hf)
  clear hf HS0
  gi_wp2_with fail
  refine ⟨trivial, (callsIn_wide.2 (HFew.out w1 HS1.out.frm)).mono ?_⟩
  rintro e w' ⟨b, rfl, hb, rfl⟩
  cases b with
  | false =>
    have cr := (HS1.out.blk 0 rfl).cell 0 rfl
    have fr := (HS1.out.blk 0 rfl).free 0
    clear hb
    gi_wp2_with fail
    exact cell_end0 rfl ((HS1.out.put 0 rfl 0 (.bool true)).blk 0 rfl) rfl (HS1.out.put 0 rfl 0 (.bool true)).frm
  | true =>
    obtain ⟨f1, f2, f3, f4⟩ := few_len (hb rfl)
    have HF3 := Lib.hid f3
    have HF4 := Lib.hid f4
    clear hb f3 f4
    have hrp := fun w2 (h : Frm [] w w2) => rpeel_c ak ck ks a c rs w2 HNk.out (HK.out.below h.below) (HR.out.below h.below) (by omega) (by omega) (fun r hr => by have := HF3.out r hr; omega) (by have := HF4.out; omega)
    have hcl := fun w2 (h : Frm [] w w2) => closureI_c ak ck ks a c rs w2 (HK.out.below h.below) (HR.out.below h.below) (by omega) (fun r hr => ⟨by have := HF3.out r hr; omega, HRo.out r hr⟩) (by omega) HKo.out (by have := HF4.out; omega)
    have hrc := fun w2 (h : Frm [] w w2) => rclosure_c ak ck ks a c rs w2 HNk.out (HK.out.below h.below) (HR.out.below h.below) (by omega) (by omega) (fun r hr => by have := HF3.out r hr; omega) (by have := HF4.out; omega)
    have hsq := fun n hn p q w2 => peelI_seq n hn p q ak ck ks a c rs w2 (by omega) (fun r hr => ⟨by have := HF3.out r hr; omega, HRo.out r hr⟩) (by omega) HKo.out (by have := HF4.out; omega)
    have hpl := peel_len (base := ks) (eqs := rs.map (·.xs))
    have hRl : (peel ks (rs.map (·.xs))).length ≤ 300 := by have := HF4.out; omega
    have HKC := Lib.hid (keys_clo ks (rs.map (·.xs)))
    have hcok : ∀ x ∈ clo ks (rs.map (·.xs)), okI x := fun x hx => by
      rcases List.mem_append.1 hx with hx | hx
      · exact HKo.out x hx
      · have h2 := (peel_told.2 x hx).2
        obtain ⟨l, hl1, hl2⟩ := List.mem_flatten.1 h2
        obtain ⟨r, hr, rfl⟩ := List.mem_map.1 hl1
        exact HRo.out r hr x hl2
    have hcll : (clo ks (rs.map (·.xs))).length ≤ 1000 := by
      unfold clo
      simp only [List.length_append, List.length_map]
      omega
    obtain ⟨C, hC⟩ : ∃ C, C = clo ks (rs.map (·.xs)) := ⟨_, rfl⟩
    obtain ⟨R, hR⟩ : ∃ R, R = peel ks (rs.map (·.xs)) := ⟨_, rfl⟩
    rw [← hR] at hrp hcl hsq hRl HKC
    rw [← hC] at hrc hcok hcll HKC
    obtain ⟨KS, hKS⟩ : ∃ KS, KS = keysI ks R := ⟨_, rfl⟩
    rw [← hKS] at hcl HKC
    have HRp := Lib.hid hrp
    have HCl := Lib.hid hcl
    have HRc := Lib.hid hrc
    have HSq := Lib.hid hsq
    have HCok := Lib.hid hcok
    clear hrp hcl hrc hsq hcok hpl hC hR hKS HFew HNk
    gi_wp2_with fail
    refine ⟨trivial, (callsIn_wide.2 (HRp.out w1 HS1.out.frm)).mono ?_⟩
    rintro e w2 ⟨wv, rfl, hS⟩
    obtain ⟨wa, wc, rfl, wl, _⟩ := told_at (hS.own 0 rfl) rfl
    have HS2 := Lib.hid (HS1.out.gains hS)
    clear hS HS1 HRp
    gi_upto_region 6 with fail
    have HS3 := Lib.hid (HS2.out.alloc #[.slice wa R.length wc] 26)
    obtain ⟨w3, hw3⟩ : ∃ w3, w3 = w2.alloc (.cells #[.slice wa R.length wc] 26) := ⟨_, rfl⟩
    obtain ⟨h, hh⟩ : ∃ h, h = w2.heap.size := ⟨_, rfl⟩
    rw [← hw3, ← hh] at HS3
    rw [← hw3, ← hh]
    have hw3s : w3.heap.size = h + 1 := by rw [hw3, hh]; simp
    have HW3s := Lib.hid hw3s
    clear hw3 hh HS2 hw3s
    have cm := (HS3.out.blk 3 rfl).cell 0 rfl
    have cf := (HS3.out.blk 3 rfl).free 0
    have HS4 := Lib.hid ((HS3.out.put 3 rfl 0 (.int .i64 (1 + (M : Int)))).alloc #[.int .i64 0] 3)
    simp only [World.size_setCell, HW3s.out] at HS4
    gi_upto_region 8 with fail
    obtain ⟨w4, hw4⟩ : ∃ w4, w4 = (w3.setCell ⟨g, 0, none⟩ (.int .i64 (1 + (M : Int)))).alloc (.cells #[.int .i64 0] 3) := ⟨_, rfl⟩
    rw [← hw4] at HS4
    rw [← hw4, HW3s.out]
    clear hw4 cm cf HS3 HW3s
    gi_wp2_with fail
    refine ⟨trivial, (callsIn_wide.2 (peelI_c ak ks.length ck a rs.length c w4)).mono ?_⟩
    rintro e w5 ⟨rfl, rfl⟩
    have HS5 := Lib.hid ((HS4.out.alloc #[.slice ak ks.length ck] 22).alloc #[.slice a rs.length c] 23)
    simp only [World.size_alloc] at HS5
    gi_wp2_with fail
    obtain ⟨w5, hw5⟩ : ∃ w5, w5 = (w4.alloc (.cells #[.slice ak ks.length ck] 22)).alloc (.cells #[.slice a rs.length c] 23) := ⟨_, rfl⟩
    obtain ⟨o, ho⟩ : ∃ o, o = w4.heap.size := ⟨_, rfl⟩
    rw [← hw5, ← ho] at HS5
    rw [← hw5, ← ho]
    clear hw5 ho HS4
    have hsz := HS5.out.frm.size
    have HSq2 := Lib.hid (HSq.out 7 (by omega) o (o + 1) w5)
    clear HSq
    refine range_f (n := 8) (by omega) (gf := 20) (lb := _) rfl (enters_of Try.func20 (by kernel_rfl) rfl) HSq2.out (Below.refl _ _) (fun _ => rfl) (fun _ _ _ _ _ _ h => h) [] (by simp)
      (fun pre F W => pre.length < 1 + M ∧ Sep [] w W (frgR F W :: tL g h o M (.slice ak ks.length ck) (.slice a rs.length c) R (.slice wa R.length wc) false pre))
      (fun cd pre F W => (cd = .exit 0 ∧ pre.length = 1 + M) ∧ Sep [] w W (frgR F W :: tL g h o M (.slice ak ks.length ck) (.slice a rs.length c) R (.slice wa R.length wc) false pre)) (bears_and (bears_sep [] _) _) (fun cd => bears_and (bears_sep [] _) _) ?hQ ?h0 ?round ?done ?stop
    case hQ =>
      rintro pre F W ⟨_, hS⟩
      exact ⟨(hS.blk 2 rfl).cell 0 rfl, (hS.blk 1 rfl).cell 0 rfl, HK.out.below hS.frm.below, HR.out.below hS.frm.below⟩
    case h0 => exact ⟨by simp; omega, HS5.out.add (r := frgR [] w5) (Frm.refl _ _) (by intro k hk; cases hk) (by simp [frgR])⟩
    case round =>
      rintro l pre F x W Wb K ⟨hpl, hS⟩ _ hx hK
      have HKx := Lib.hid hK
      have hxp : R[pre.length]? = some x := by
        obtain ⟨t, ht⟩ := hx
        rw [← ht, List.append_assoc]
        simp
      have hpr : pre.length < R.length := (List.getElem?_eq_some_iff.1 hxp).1
      have hlen : (pre ++ [x]).length = pre.length + 1 := by simp
      obtain ⟨wa2, wc2, hwe, _, hcells⟩ := told_at (hS.own 5 rfl) rfl
      cases hwe
      obtain ⟨wb, wo, rfl, _, cx1, cx2⟩ := hcells _ _ hxp
      have cw := (hS.blk 4 rfl).cell 0 rfl
      have ci := (hS.blk 3 rfl).cell 0 rfl
      have fi := (hS.blk 3 rfl).free 0
      have cm := (hS.blk 7 rfl).cell 0 rfl
      obtain ⟨x1, x2⟩ := x
      dsimp only at cx1 cx2
      have hnx : ∀ W', Sep [] w W' (frgR F Wb :: tL g h o M (.slice ak ks.length ck) (.slice a rs.length c) R (.slice (some ⟨wb, wo, none⟩) R.length wc) false pre |>.set 3 (blkR (h + 1) 3 #[.int .i64 ((pre.length : Int) + 1)])) →
        Sep [] w W' (frgR F Wb :: tL g h o M (.slice ak ks.length ck) (.slice a rs.length c) R (.slice (some ⟨wb, wo, none⟩) R.length wc) false (pre ++ [(x1, x2)])) := fun W' h => by
        have e : (((pre ++ [(x1, x2)]).length : Nat) : Int) = (pre.length : Int) + 1 := by rw [hlen]; simp
        unfold tL
        rw [e]
        exact h
      obtain ⟨N, hN⟩ : ∃ N, N = pre.length := ⟨_, rfl⟩
      rw [← hN] at hpl hpr ci cx1 cx2 hlen
      have HNx := Lib.hid hnx
      have HLen := Lib.hid hlen
      have HS := Lib.hid hS
      have HNe := Lib.hid hN
      have b1 : decide (R.length ≤ N) = false := by rw [decide_eq_false_iff_not]; omega
      have i0 : (0 : Int) ≤ (N : Int) := by omega
      have i1 : (N : Int) < (R.length : Int) := by omega
      clear hK hS hx hxp hlen hcells hnx hN
      gi_wp2
      refine HKx.out _ ?_
      clear HKx
      gi_upto_region 14 with fail
      have h3 := HS.out.put 3 rfl 0 (.int .i64 ((N : Int) + 1))
      rw [HNe.out] at h3
      have HS3 := Lib.hid (HNx.out _ h3)
      obtain ⟨w6, hw6⟩ : ∃ w6, w6 = Wb.setCell ⟨h + 1, 0, none⟩ (.int .i64 ((N : Int) + 1)) := ⟨_, rfl⟩
      have HSz := Lib.hid (show Wb.heap.size ≤ w6.heap.size by rw [hw6]; simp)
      rw [← HNe.out, ← hw6] at HS3
      rw [← hw6]
      have cm2 := (HS3.out.blk 7 rfl).cell 0 rfl
      have ci2 : w6.cell? ⟨h + 1, 0, none⟩ = some (.int .i64 ((N : Int) + 1)) := by
        have := (HS3.out.blk 3 rfl).cell 0 rfl
        rw [HLen.out] at this
        exact this
      clear h3 hw6 HS HNx cw ci fi cm cx1 cx2
      by_cases hm : N = M
      · subst hm
        have b9 : ((N : Int) + 1 == 1 + (N : Int)) = true := by rw [beq_iff_eq]; omega
        gi_wp2_with fail
        exact ⟨kpF_of HSz.out HS3.out, ⟨rfl, by rw [HLen.out]; omega⟩, HS3.out.pin⟩
      · have b9 : ((N : Int) + 1 == 1 + (M : Int)) = false := by rw [beq_eq_false_iff_ne]; omega
        gi_wp2_with fail
        exact ⟨kpF_of HSz.out HS3.out, by rw [HLen.out]; omega, HS3.out.pin⟩
    case done =>
      rintro D xs F W hD hDF _ rfl ⟨hpl, hS⟩ hK
      obtain ⟨NN, hN⟩ : ∃ NN, NN = xs.length := ⟨_, rfl⟩
      have hNe := hN
      rw [← hN] at hpl
      have HK2 := Lib.hid hK
      have HS6 := Lib.hid (hS)
      have cw := (HS6.out.blk 4 rfl).cell 0 rfl
      have ci : W.cell? ⟨h + 1, 0, none⟩ = some (.int .i64 (NN : Int)) := by have := (HS6.out.blk 3 rfl).cell 0 rfl; rw [← hN] at this; exact this
      have cm := (HS6.out.blk 7 rfl).cell 0 rfl
      have HCl2 := Lib.hid (HCl.out W HS6.out.frm)
      have b1 : ((NN : Int) == min (1 + (M : Int)) (xs.length : Int)) = true := by rw [beq_iff_eq]; omega
      have hle : (xs.length : Int) < 1 + (M : Int) := by omega
      have b2 : ((NN : Int) == (xs.length : Int)) = true := by rw [beq_iff_eq]; omega
      clear hS hK hN hNe
      gi_wp2_with fail
      clear cw ci cm
      refine ⟨trivial, (callsIn_wide.2 HCl2.out).mono ?_⟩
      rintro e W2 ⟨m, rfl, hS2⟩
      have HS7 := Lib.hid (HS6.out.gains hS2)
      have HRc2 := Lib.hid (HRc.out W2 HS7.out.frm)
      clear hS2 HCl2
      gi_wp2_with fail
      refine ⟨trivial, (callsIn_wide.2 HRc2.out).mono ?_⟩
      rintro e W3 ⟨v3, rfl, hS3⟩
      have HS8 := Lib.hid (HS7.out.gains hS3)
      obtain ⟨ac, cc, rfl, e1, e2, e3, hrz⟩ := own_Z (hS3.own 0 rfl)
      have hcap := own_cap (hS3.own 0 rfl)
      have HIs := Lib.hid (is_c m KS ac cc C W3 (HS8.out.get 1 rfl) hrz e2 hcap (by omega) HCok.out HKC.out)
      clear hS3 e1 e2 e3 hrz hcap HRc2
      gi_wp2_with fail
      refine ⟨trivial, (callsIn_wide.2 HIs.out).mono ?_⟩
      rintro e W4 ⟨rfl, hf4⟩
      have HS9 := Lib.hid (HS8.out.keep hf4)
      have cr := (HS9.out.blk 8 rfl).cell 0 rfl
      have fr := (HS9.out.blk 8 rfl).free 0
      clear hf4 HIs
      gi_wp2_with fail
      have hK4 : W4.heap[D]? = some (.deferred (some [])) := (frgR.same (HS9.out.get 2 rfl) D hDF).trans HK2.out
      have hS10 := HS9.out.put 8 rfl 0 (.bool true)
      have hK5 : (W4.setCell ⟨g + 1, 0, none⟩ (.bool true)).heap[D]? = some (.deferred (some [])) := (Below.heap_setCell W4 _ _ D (fun e => no_cells hK4 (HS9.out.blk 8 rfl) e)).trans hK4
      exact cell_end1 rfl hK5 (hS10.blk 8 rfl) rfl hS10.frm (by omega)
    case stop =>
      rintro D cd pre F W hD hDF _ hpre ⟨⟨rfl, hlen⟩, hS⟩ hK
      obtain ⟨NN, hN⟩ : ∃ NN, NN = pre.length := ⟨_, rfl⟩
      have hpr := hpre.length_le
      rw [← hN] at hpr hlen
      have HK2 := Lib.hid hK
      have HS6 := Lib.hid (hS)
      have cw := (HS6.out.blk 4 rfl).cell 0 rfl
      have ci : W.cell? ⟨h + 1, 0, none⟩ = some (.int .i64 (NN : Int)) := by have := (HS6.out.blk 3 rfl).cell 0 rfl; rw [← hN] at this; exact this
      have cm := (HS6.out.blk 7 rfl).cell 0 rfl
      have HCl2 := Lib.hid (HCl.out W HS6.out.frm)
      have b1 : ((NN : Int) == min (1 + (M : Int)) (R.length : Int)) = true := by rw [beq_iff_eq]; omega
      have hle : (1 + (M : Int)) ≤ (R.length : Int) := by omega
      clear hS hK hN hpre
      gi_wp2_with fail
      clear cw ci cm
      refine ⟨trivial, (callsIn_wide.2 HCl2.out).mono ?_⟩
      rintro e W2 ⟨m, rfl, hS2⟩
      have HS7 := Lib.hid (HS6.out.gains hS2)
      have HRc2 := Lib.hid (HRc.out W2 HS7.out.frm)
      clear hS2 HCl2
      gi_wp2_with fail
      refine ⟨trivial, (callsIn_wide.2 HRc2.out).mono ?_⟩
      rintro e W3 ⟨v3, rfl, hS3⟩
      have HS8 := Lib.hid (HS7.out.gains hS3)
      obtain ⟨ac, cc, rfl, e1, e2, e3, hrz⟩ := own_Z (hS3.own 0 rfl)
      have hcap := own_cap (hS3.own 0 rfl)
      have HIs := Lib.hid (is_c m KS ac cc C W3 (HS8.out.get 1 rfl) hrz e2 hcap (by omega) HCok.out HKC.out)
      clear hS3 e1 e2 e3 hrz hcap HRc2
      gi_wp2_with fail
      refine ⟨trivial, (callsIn_wide.2 HIs.out).mono ?_⟩
      rintro e W4 ⟨rfl, hf4⟩
      have HS9 := Lib.hid (HS8.out.keep hf4)
      have cr := (HS9.out.blk 8 rfl).cell 0 rfl
      have fr := (HS9.out.blk 8 rfl).free 0
      clear hf4 HIs
      gi_wp2_with fail
      have hK4 : W4.heap[D]? = some (.deferred (some [])) := (frgR.same (HS9.out.get 2 rfl) D hDF).trans HK2.out
      have hS10 := HS9.out.put 8 rfl 0 (.bool true)
      have hK5 : (W4.setCell ⟨g + 1, 0, none⟩ (.bool true)).heap[D]? = some (.deferred (some [])) := (Below.heap_setCell W4 _ _ D (fun e => no_cells hK4 (HS9.out.blk 8 rfl) e)).trans hK4
      exact cell_end1 rfl hK5 (hS10.blk 8 rfl) rfl hS10.frm (by omega)

end Go.Proofs.Ytdcpimnjdggabaa
