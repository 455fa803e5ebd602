/-
  THE WALK of the law StripeTwo.
-/
import Derived.Test.YtmdjdhbnigppcaaStJ
set_option linter.unusedVariables false
set_option linter.unusedSimpArgs false
namespace Go.Proofs.Ytmdjdhbnigppcaa
open Go.RowKit Go.Shelf

theorem u8_wf {x : Int} (h : (Lit.int .u8 x).wf = true) : 0 ≤ x ∧ x ≤ 255 := by simpa [Lit.wf, IntKind.min, IntKind.max, IntKind.bits, IntKind.signed] using h

set_option maxRecDepth 100000 in
set_option maxHeartbeats 16000000 in
theorem stripeTwo_w (w : World) (a : Option Addr) (ca : Nat) (xs : List Int) (lca : xs.length ≤ ca) (mca : ca ≤ maxLen) (nca : a = none → ca = 0) (rda : RdI .u8 w a xs) (wsa : ∀ x ∈ xs, (Lit.int .u8 x).wf = true)
    (b : Option Addr) (cb : Nat) (ys : List Int) (lcb : ys.length ≤ cb) (mcb : cb ≤ maxLen) (ncb : b = none → cb = 0) (rdb : RdI .u8 w b ys) (wsb : ∀ x ∈ ys, (Lit.int .u8 x).wf = true) (n : Int) (wn : (Lit.int .i64 n).wf = true) :
    Calls Try.prog 4 #[.slice a xs.length ca, .slice b ys.length cb, .int .i64 n] w fun e w' => e = .returned (.bool true) ∧ Below w.heap.size w w' := by
  unfold maxLen at mca mcb
  have HR := Lib.hid rda
  have HQ := Lib.hid rdb
  have HBx := Lib.hid (show Byt xs from fun x hx => u8_wf (wsa x hx))
  have HBy := Lib.hid (show Byt ys from fun x hx => u8_wf (wsb x hx))
  have HNa := Lib.hid nca
  clear rda rdb wsa wsb nca ncb wn
  go_enter Try.func4, Try.ntmps4
  go_wp2_with fail
  refine (alive_c _).mono ?_
  rintro e w1 ⟨rfl, hf⟩
  have HS := Lib.hid ((Sep.init w).keep hf)
  clear hf
  have HSm := Lib.hid (small_c (some ⟨w1.heap.size, 0, none⟩) 2 [⟨a, ca, xs⟩, ⟨b, cb, ys⟩] (w1.alloc (.cells #[.slice a xs.length ca, .slice b ys.length cb] 25)) (fun i z hz => by
    have hbk := Blk.made w1 25 #[.slice a xs.length ca, .slice b ys.length cb]
    match i, hz with
    | 0, hz => simp at hz; subst hz; exact ⟨_, 0, rfl, hbk.lt, hbk.cell 0 rfl⟩
    | 1, hz => simp at hz; subst hz; exact ⟨_, 0, rfl, hbk.lt, hbk.cell 1 rfl⟩
    | (i + 2), hz => simp at hz) (by simp))
  go_wp2_with fail
  refine HSm.out.mono ?_
  have HS1 := Lib.hid (HS.out.skip (.cells #[.slice a xs.length ca, .slice b ys.length cb] 25))
  clear HSm HS
  rintro e w2 ⟨rfl, ⟨rfl, hs⟩ | ⟨rfl, hno⟩⟩
  · have hlx : xs.length ≤ 500 := hs.1 ⟨a, ca, xs⟩ (by simp)
    have hly : ys.length ≤ 500 := hs.1 ⟨b, cb, ys⟩ (by simp)
    obtain ⟨wo, hwo⟩ : ∃ wo, wo = w1.alloc (.cells #[.slice a xs.length ca, .slice b ys.length cb] 25) := ⟨_, rfl⟩
    rw [← hwo] at HS1 ⊢
    clear hs hwo
    by_cases hn1 : 3000 < n ∧ n < 65536
    · obtain ⟨hn2, hn3⟩ := hn1
      have g1 : decide (3000 < n) = true := by simp; omega
      have g2 : decide (n < 65536) = true := by simp; omega
      go_wp2_with fail
      go_ret
      exact ⟨rfl, HS1.out.frm.below⟩
    · have hg : decide (3000 < n) = false ∨ decide (3000 < n) = true ∧ decide (n < 65536) = false := by
        by_cases h : 3000 < n
        · exact .inr ⟨by simp; omega, by simp; omega⟩
        · exact .inl (by simp; omega)
      clear hn1
      have key : True := trivial
      rcases hg with g1 | ⟨g1, g2⟩
      all_goals
        go_wp2_with fail
        refine (xor_c ⟨a, ca, xs⟩ ⟨b, cb, ys⟩ _ ⟨HR.out.below HS1.out.frm.below, HBx.out, by show xs.length ≤ _; omega⟩ ⟨HQ.out.below HS1.out.frm.below, HBy.out, by show ys.length ≤ _; omega⟩).mono ?_
        rintro e w3 ⟨v3, rfl, hS3⟩
        have hg3 := HS1.out.gains hS3
        have HS3 := Lib.hid hg3
        obtain ⟨a3, c3, rfl, _, _⟩ := RdI.of_own (hS3.own 0 rfl)
        clear hS3 hg3
        go_wp2_with fail
        refine (rxor_c ⟨a, ca, xs⟩ ⟨b, cb, ys⟩ _ ⟨HR.out.below HS3.out.frm.below, HBx.out, by show xs.length ≤ _; omega⟩ ⟨HQ.out.below HS3.out.frm.below, HBy.out, by show ys.length ≤ _; omega⟩).mono ?_
        rintro e w4 ⟨v4, rfl, hS4⟩
        have HS4 := Lib.hid (HS3.out.gains hS4)
        obtain ⟨a4, c4, rfl, _, r4⟩ := RdI.of_own (hS4.own 0 rfl)
        have r3 := RdI.of_own ((HS3.out.gains hS4).own 1 rfl)
        obtain ⟨a5, c5, hv5, _, r5⟩ := r3
        injection hv5 with h5 _ _
        subst h5
        have HRr := Lib.hid (And.intro r5 r4)
        have hxl : (xo xs ys).length ≤ 1000000 := by rw [xo_length]; omega
        clear hS4 r4 r5 HS3
        go_wp2_with fail
        refine (bsame_c a3 a4 _ _ (xo xs ys) (xo xs ys) w4 HRr.out.1 HRr.out.2 hxl hxl).mono ?_
        rintro e w5 ⟨rfl, m5, rfl⟩
        rw [show decide (xo xs ys = xo xs ys) = true from by simp]
        have HS5 := Lib.hid (HS4.out.drewN m5)
        clear HRr HS4 hxl
        go_wp2_with fail
        refine (gap_c ⟨a, ca, xs⟩ ⟨b, cb, ys⟩ _ ⟨HR.out.below HS5.out.frm.below, HBx.out, by show xs.length ≤ _; omega⟩ ⟨HQ.out.below HS5.out.frm.below, HBy.out, by show ys.length ≤ _; omega⟩).mono ?_
        rintro e w6 ⟨rfl, hf⟩
        have HS6 := Lib.hid (HS5.out.keep hf)
        clear hf HS5
        go_wp2_with fail
        refine (rgap_c ⟨a, ca, xs⟩ ⟨b, cb, ys⟩ _ ⟨HR.out.below HS6.out.frm.below, HBx.out, by show xs.length ≤ _; omega⟩ ⟨HQ.out.below HS6.out.frm.below, HBy.out, by show ys.length ≤ _; omega⟩).mono ?_
        rintro e w' ⟨rfl, rfl⟩
        obtain ⟨G, hG⟩ : ∃ G, G = gapOf xs ys := ⟨_, rfl⟩
        rw [← hG]
        have e1 : (G == G) = true := by simp
        clear hG
        go_wp2_with fail
        refine (zero_c ⟨a, ca, xs⟩ _ ⟨HR.out.below HS6.out.frm.below, HBx.out, by show xs.length ≤ _; omega⟩).mono ?_
        rintro e w7 ⟨rfl, hf⟩
        have HS7 := Lib.hid (HS6.out.keep hf)
        clear hf HS6
        go_wp2_with fail
        refine (rgap_c ⟨a, ca, xs⟩ ⟨some ⟨w7.heap.size, 0, none⟩, 0, []⟩ _ ⟨HR.out.below (HS7.out.skip _).frm.below, HBx.out, by show xs.length ≤ _; omega⟩ ⟨RdI.nil _ _ _, Byt.nil, by simp⟩).mono ?_
        rintro e w8 ⟨rfl, rfl⟩
        have HS8 := Lib.hid (HS7.out.skip (.cells #[] 5))
        obtain ⟨G2, hG2⟩ : ∃ G2, G2 = gapOf xs [] := ⟨_, rfl⟩
        rw [← hG2]
        have e2 : (decide (G2 < 0) == decide (G2 < 0)) = true := by simp
        clear hG2
        go_wp2_with fail
        obtain ⟨w9, hw9⟩ : ∃ w9, w9 = w7.alloc (.cells #[] 5) := ⟨_, rfl⟩
        rw [← hw9] at HS8 ⊢
        clear hw9 HS7
        refine (fit_c a ca xs n _ (HR.out.below HS8.out.frm.below) (by omega) HNa.out).mono ?_
        rintro e w10 ⟨v10, rfl, hS10⟩
        have HS10 := Lib.hid (HS8.out.gains hS10)
        obtain ⟨a10, c10, rfl, _, _⟩ := RdI.of_own (hS10.own 0 rfl)
        clear hS10
        go_wp2_with fail
        refine (held_c n 0 65536 _).mono ?_
        rintro e w' ⟨rfl, rfl⟩
        obtain ⟨M, hM⟩ : ∃ M : Nat, M = (held n 0 65536).toNat := ⟨_, rfl⟩
        have hM2 : held n 0 65536 = (M : Int) := by rw [hM]; unfold held; split <;> (try split) <;> omega
        have hM3 : M ≤ 65536 := by rw [hM]; unfold held; split <;> (try split) <;> omega
        rw [← hM] at HS10 ⊢
        rw [hM2]
        clear hM hM2
        have hfl := fitL_length xs M
        have HFl := Lib.hid hfl
        rw [hfl]
        clear hfl
        go_wp2_with fail
        refine (rfit_c a ca xs M _ (HR.out.below HS10.out.frm.below) (by omega)).mono ?_
        rintro e w11 ⟨v11, rfl, hS11⟩
        have HS11 := Lib.hid (HS10.out.gains hS11)
        obtain ⟨a11, c11, rfl, _, r4⟩ := RdI.of_own (hS11.own 0 rfl)
        obtain ⟨a5, c5, hv5, _, r5⟩ := RdI.of_own ((HS10.out.gains hS11).own 1 rfl)
        injection hv5 with h5 _ _
        subst h5
        have HRr := Lib.hid (And.intro r5 r4)
        rw [HFl.out]
        have hx11 : (fitL xs M).length ≤ 1000000 := by rw [HFl.out]; omega
        have HX := Lib.hid (fun p q : Nat => bsame_c a10 a11 p q (fitL xs M) (fitL xs M) w11 HRr.out.1 HRr.out.2 hx11 hx11)
        simp only [HFl.out, show decide (fitL xs M = fitL xs M) = true from by simp] at HX
        clear hS11 r4 r5 HS10 hx11
        go_wp2_with fail
        refine (HX.out _ _).mono ?_
        rintro e w12 ⟨rfl, m12, rfl⟩
        go_wp2_with fail
        go_ret
        exact ⟨rfl, (HS11.out.drewN m12).frm.below⟩
  · clear hno
    go_wp2_with fail
    go_ret
    exact ⟨rfl, HS1.out.frm.below⟩

end Go.Proofs.Ytmdjdhbnigppcaa
