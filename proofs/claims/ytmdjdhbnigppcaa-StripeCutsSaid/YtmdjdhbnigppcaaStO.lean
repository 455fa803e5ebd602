/-
  THE WALK of the law StripeCuts.
-/
import Derived.Test.YtmdjdhbnigppcaaStN
import Derived.Deep.RegionHeld3
import Derived.Deep.DeepCutAuto
set_option linter.unusedVariables false
set_option linter.unusedSimpArgs false
namespace Go.Proofs.Ytmdjdhbnigppcaa
open Go.RowKit Go.Shelf

set_option maxRecDepth 100000 in
set_option maxHeartbeats 16000000 in
theorem cutsA_w (w : World) (a b : Option Addr) (ca : Nat) (xs : List Int) (rda : RdI .u8 w a xs) (cb : Nat) (ys : List Int) (rdb : RdI .u8 w b ys) (nca : a = none → ca = 0)
    (lca : xs.length ≤ ca) (mca : ca ≤ 9223372036854775807) (lcb : ys.length ≤ cb) (mcb : cb ≤ 9223372036854775807) (bx0 : Byt xs) (by0 : Byt ys) (hlx : xs.length ≤ 500) (hxy : xs.length = ys.length) (t : Int) (n : Int) :
    Calls Try.prog 6 #[.slice a xs.length ca, .slice b ys.length cb, .int .i64 t, .int .i64 n] w fun e w' => e = .returned (.bool true) ∧ Below w.heap.size w w' := by
  obtain ⟨inf, hi, hz0, hz1, hz2⟩ := info_parts info_u8
  have HR := Lib.hid rda
  have HQ := Lib.hid rdb
  have HBx := Lib.hid bx0
  have HBy := Lib.hid by0
  have HNa := Lib.hid nca
  have d1 : decide (500 < (xs.length : Int)) = false := by simp; omega
  have d2 : decide (500 < (ys.length : Int)) = false := by simp; omega
  have d3 : ((xs.length : Int) != (ys.length : Int)) = false := by simp; omega
  have HL := Lib.hid hxy
  have hxy2 : xs.length ≤ ys.length ∧ ys.length ≤ xs.length := by omega
  obtain ⟨l1, l2⟩ := hxy2
  obtain ⟨z, hz⟩ : ∃ z, bits .and .i64 t 1023 = z := ⟨_, rfl⟩
  have hzb := and_i64 t 1023 (by omega) (by omega)
  rw [hz] at hzb
  obtain ⟨z0, z1⟩ := hzb
  obtain ⟨y, hy, hy1⟩ : ∃ y : Nat, bits .and .i64 n 1023 = (y : Int) ∧ y ≤ 1023 := by
    have hyb := and_i64 n 1023 (by omega) (by omega)
    exact ⟨(bits .and .i64 n 1023).toNat, by omega, by omega⟩
  clear rda rdb bx0 by0 hxy nca
  go_enter Try.func6, Try.ntmps6
  go_wp2_with fail
  refine (alive_c _).mono ?_
  rintro e w1 ⟨rfl, hf⟩
  have HS1 := Lib.hid ((Sep.init w).keep hf)
  clear hf
  go_wp2_with fail
  refine (xor_c ⟨a, ca, xs⟩ ⟨b, cb, ys⟩ _ ⟨HR.out.below HS1.out.frm.below, HBx.out, by show xs.length ≤ _; omega⟩ ⟨HQ.out.below HS1.out.frm.below, HBy.out, by show ys.length ≤ _; omega⟩).mono ?_
  rintro e w3 ⟨v3, rfl, hS3⟩
  have hg3 := HS1.out.gains hS3
  have HS3 := Lib.hid hg3
  obtain ⟨a3, c3, rfl, hn3, _⟩ := sum_slice (hS3.get 0 rfl)
  have HN3 := Lib.hid hn3
  clear hS3 hg3 hn3 HS1
  have hxl : (xo xs ys).length ≤ 500 := by rw [xo_length]; have := HL.out; omega
  go_upto_if 34 with (fail)
  go_cut [] (fun wx => Sep [] w wx [sumR (.slice a3 (xo xs ys).length c3) (xo xs ys)])
  case first =>
    by_cases hl0 : 0 < xs.length
    · have d4 : decide (0 < (xs.length : Int)) = true := by simp; omega
      obtain ⟨b1, o1, x1, _, rfl, _, _⟩ := HR.out.at_ 0 hl0
      obtain ⟨b2, o2, x2, _, rfl, _, _⟩ := HQ.out.at_ 0 (by omega)
      go_wp2_with fail
      obtain ⟨k, hk, hkl⟩ : ∃ k : Nat, z % (xs.length : Int) = (k : Int) ∧ k < xs.length := by
        have h1 := Int.emod_nonneg z (show (xs.length : Int) ≠ 0 by omega)
        have h2 := Int.emod_lt_of_pos z (show (0 : Int) < (xs.length : Int) by omega)
        exact ⟨(z % (xs.length : Int)).toNat, by omega, by omega⟩
      rw [hk]
      clear hk
      have i1 : (0 : Int) ≤ (k : Int) := by omega
      have i2 : (k : Int) < (xs.length : Int) := by omega
      have i3 : (k : Int) < (ys.length : Int) := by omega
      have hlk1 : (xs.take k).length = k := by rw [List.length_take]; omega
      have hlk2 : (ys.take k).length = k := by rw [List.length_take]; omega
      have HLk := Lib.hid (And.intro hlk1 hlk2)
      have HC1 : Hid (∀ wx, Below w.heap.size w wx → Calls Try.prog 18 #[.slice (some ⟨b1, o1, none⟩) k ca, .slice (some ⟨b2, o2, none⟩) k cb] wx fun e w' => ∃ v, e = .returned v ∧ Sep [] wx w' [sumR v (xo (xs.take k) (ys.take k))]) := Lib.hid (fun wx hb => by
        have h := xor_c ⟨some ⟨b1, o1, none⟩, ca, xs.take k⟩ ⟨some ⟨b2, o2, none⟩, cb, ys.take k⟩ wx ⟨(HR.out.below hb).cut k, HBx.out.take k, by show (xs.take k).length ≤ _; omega⟩ ⟨(HQ.out.below hb).cut k, HBy.out.take k, by show (ys.take k).length ≤ _; omega⟩
        unfold Bs.val at h
        dsimp only at h
        rw [hlk1, hlk2] at h
        exact h)
      have hld1 : (xs.drop k).length = xs.length - k := List.length_drop
      have hld2 : (ys.drop k).length = ys.length - k := List.length_drop
      have HC2 : Hid (∀ wx, Below w.heap.size w wx → Calls Try.prog 18 #[.slice (some ⟨b1, o1 + k, none⟩) (xs.length - k) (ca - k), .slice (some ⟨b2, o2 + k, none⟩) (ys.length - k) (cb - k)] wx fun e w' => ∃ v, e = .returned v ∧ Sep [] wx w' [sumR v (xo (xs.drop k) (ys.drop k))]) := Lib.hid (fun wx hb => by
        have h := xor_c ⟨some ⟨b1, o1 + k, none⟩, ca - k, xs.drop k⟩ ⟨some ⟨b2, o2 + k, none⟩, cb - k, ys.drop k⟩ wx ⟨(HR.out.below hb).rest k, HBx.out.drop k, by show (xs.drop k).length ≤ _; omega⟩ ⟨(HQ.out.below hb).rest k, HBy.out.drop k, by show (ys.drop k).length ≤ _; omega⟩
        unfold Bs.val at h
        dsimp only at h
        rw [hld1, hld2] at h
        exact h)
      have hlA : (xo (xs.take k) (ys.take k)).length = k := by rw [xo_length]; omega
      have hlB : (xo (xs.drop k) (ys.drop k)).length = xs.length - k := by rw [xo_length]; omega
      have hAB := xo_cut HBx.out HBy.out HL.out k (by omega)
      obtain ⟨A, hA⟩ : ∃ A, A = xo (xs.take k) (ys.take k) := ⟨_, rfl⟩
      obtain ⟨B, hB⟩ : ∃ B, B = xo (xs.drop k) (ys.drop k) := ⟨_, rfl⟩
      rw [← hA] at HC1 hlA hAB
      rw [← hB] at HC2 hlB hAB
      have hABl := congrArg List.length hAB
      rw [List.length_append] at hABl
      have hmap : A.map (Value.int .u8) ++ B.map (Value.int .u8) = (xo xs ys).map (Value.int .u8) := by rw [← List.map_append, hAB]
      have HAB := Lib.hid (And.intro hABl hmap)
      clear hlk1 hlk2 hld1 hld2 hlA hlB hAB hA hB hABl hmap
      have j1 : k ≤ ca := by omega
      have j2 : k ≤ cb := by omega
      have j3 : k ≤ xs.length := by omega
      have j4 : k ≤ ys.length := by omega
      have j5 : (k : Int) ≤ (ca : Int) := by omega
      have j6 : (k : Int) ≤ (cb : Int) := by omega
      have j7 : (k : Int) ≤ (xs.length : Int) := by omega
      have j8 : (k : Int) ≤ (ys.length : Int) := by omega
      have j9 : (xs.length : Int) ≤ (ca : Int) := by omega
      have j10 : (ys.length : Int) ≤ (cb : Int) := by omega
      go_upto_region 9 with (fail)
      go_region_held3 (fun _ => True) (trivial) (first | (go_at_call 18; (with_reducible refine (HC1.out _ HS3.out.drew.frm.below).mono ?_); rintro e w4 ⟨v4, rfl, hS4⟩; have HS4 := Lib.hid (HS3.out.drew.gains hS4); clear hS4) | (go_at_call 18; (with_reducible refine (HC2.out _ HS4.out.frm.below).mono ?_); rintro e w5 ⟨v5, rfl, hS5⟩; obtain ⟨a5, c5, rfl, hn5, hr5⟩ := sum_slice (hS5.get 0 rfl); have HS5 := Lib.hid (HS4.out.gains hS5); have HR5 := Lib.hid (And.intro hn5 hr5); clear hS5 hn5 hr5) | (rw [if_pos (by rfl)]; refine wp_append_said _ _ 25 rfl 1 5 inf (.int .u8 0) 1 Try.underlying25 hi hz0 hz1 hz2 rfl .u8 v4 A.length (A.map (Value.int .u8)) rfl HS5.out rfl a5 c5 B.length B rfl rfl HR5.out.1 HR5.out.2 _ HAB.out.1 _ HAB.out.2 (by unfold maxLen; omega) (by omega) ?_; intro v6 w6 hS6; have HS6 := Lib.hid hS6; clear hS6))
      obtain ⟨a6, c6, rfl, _, r6⟩ := sum_slice (HS6.out.get 1 rfl)
      have HSm := Lib.hid (same_yes a6 a3 c6 c3 (xo xs ys).length (xo xs ys).length (xo xs ys) (xo xs ys) w6 r6 (by
        obtain ⟨a7, c7, hv, _, r7⟩ := sum_slice (HS6.out.get 2 rfl)
        injection hv with h1 _ _
        rw [h1]
        exact r7) (by omega) rfl rfl rfl)
      have HS7 := Lib.hid (HS6.out.only 2 rfl)
      clear r6 HS6
      go_wp2_with fail
      refine HSm.out.mono ?_
      rintro e w7 ⟨rfl, hf⟩
      have HS8 := Lib.hid (HS7.out.keep hf)
      clear hf HSm HS7
      go_wp2_with fail
      go_meet
      exact HS8.out
    · have d4 : decide (0 < (xs.length : Int)) = false := by rw [decide_eq_false_iff_not]; omega
      go_wp2_with fail
      go_meet
      exact HS3.out
  case rest =>
    have HS4 := Lib.hid hcut
    clear hcut HS3
    have y0 : (0 : Int) ≤ (y : Int) := by omega
    have y1 : (y : Int) ≤ 1023 := by omega
    go_wp2_with fail
    refine (fitn_c a ca xs ((y : Int) + 7) (y + 7) rfl (by omega) _ (HR.out.below HS4.out.frm.below) (by omega) HNa.out).mono ?_
    rintro e w5 ⟨v5, rfl, hS5⟩
    obtain ⟨a5, c5, rfl, hn5, r5⟩ := sum_slice (hS5.get 0 rfl)
    have HS5 := Lib.hid (HS4.out.gains hS5)
    have HF := Lib.hid (fitn_c a5 c5 (fitL xs (y + 7)) (y : Int) y rfl (by omega) w5 r5 (by rw [fitL_length]; omega) hn5)
    rw [fit_fit xs y (y + 7) (by omega), fitL_length] at HF
    rw [fitL_length]
    clear hS5 hn5 r5 HS4
    go_wp2_with fail
    refine HF.out.mono ?_
    rintro e w6 ⟨v6, rfl, hS6⟩
    obtain ⟨a6, c6, rfl, hn6, r6⟩ := sum_slice (hS6.get 0 rfl)
    have HS6 := Lib.hid (HS5.out.gains hS6)
    rw [fitL_length]
    clear hS6 hn6 r6 HF HS5
    go_wp2_with fail
    refine (fitn_c a ca xs (y : Int) y rfl (by omega) _ (HR.out.below HS6.out.frm.below) (by omega) HNa.out).mono ?_
    rintro e w7 ⟨v7, rfl, hS7⟩
    obtain ⟨a7, c7, rfl, hn7, r7⟩ := sum_slice (hS7.get 0 rfl)
    have hg := HS6.out.gains hS7
    have HS7 := Lib.hid hg
    obtain ⟨a8, c8, hv, _, r8⟩ := sum_slice (hg.get 1 rfl)
    injection hv with hv1 _ hv2
    have HSm := Lib.hid (same_yes a6 a7 c6 c7 y y (fitL xs y) (fitL xs y) w7 (hv1 ▸ r8) r7 (by rw [fitL_length]; omega) (fitL_length _ _) (fitL_length _ _) rfl)
    rw [fitL_length]
    clear hS7 hn7 r7 hg r8 hv1 hv2 HS6
    have e1 : ((y : Int) != (y : Int)) = false := by simp
    go_wp2_with fail
    refine HSm.out.mono ?_
    rintro e w8 ⟨rfl, hf⟩
    have HS8 := Lib.hid (HS7.out.keep hf)
    clear hf HSm HS7
    have hwl : (xo xs ys).length = xs.length := by rw [xo_length]; have := HL.out; omega
    have e2 : (((xo xs ys).length : Int) == (xs.length : Int)) = true := by simp [hwl]
    have hyl : ys.length ≤ 1000000 := by have := HL.out; omega
    obtain ⟨a9, c9, hv, _, r9⟩ := sum_slice (HS8.out.get 3 rfl)
    injection hv with hv1 _ hv2
    subst hv1 hv2
    have HW := Lib.hid hwl
    have HZ := Lib.hid (zero_c ⟨a3, c3, xo xs ys⟩ w8 ⟨r9, xo_byt HBx.out HBy.out, by show (xo xs ys).length ≤ _; omega⟩)
    rw [show decide (gapOf (xo xs ys) [] < 0) = decide (xs = ys) from decide_eq_decide.2 (zero_same HBx.out HBy.out HL.out)] at HZ
    have HG := Lib.hid (show ∀ wx, Below w.heap.size w wx → _ from fun wx hb => gap_c ⟨a, ca, xs⟩ ⟨b, cb, ys⟩ wx ⟨HR.out.below hb, HBx.out, by show xs.length ≤ _; omega⟩ ⟨HQ.out.below hb, HBy.out, hyl⟩)
    have HSx := Lib.hid (show ∀ wx, Below w.heap.size w wx → _ from fun wx hb => frm_of (bsame_c a b ca cb xs ys wx (HR.out.below hb) (HQ.out.below hb) (by omega) hyl))
    obtain ⟨D, hD⟩ : ∃ D, D = decide (xs = ys) := ⟨_, rfl⟩
    have hgd : decide (gapOf xs ys < 0) = D := by rw [hD]; exact decide_eq_decide.2 (gap_same HBx.out HBy.out HL.out)
    rw [← hD] at HZ HSx
    have e3 : (D == D) = true := by simp
    unfold Bs.val at HG
    dsimp only at HG
    clear hwl hyl r9 hD
    have HZ2 := HZ
    unfold Bs.val at HZ2
    dsimp only at HZ2
    go_wp2_with fail
    refine HZ2.out.mono ?_
    rintro e w9 ⟨rfl, hf⟩
    have HS9 := Lib.hid (HS8.out.keep hf)
    clear hf HZ HZ2 HS8
    go_wp2_with fail
    refine (HSx.out _ HS9.out.frm.below).mono ?_
    rintro e w10 ⟨rfl, hf⟩
    have HS10 := Lib.hid (HS9.out.keep hf)
    clear hf HS9
    go_wp2_with fail
    refine (HG.out _ HS10.out.frm.below).mono ?_
    rintro e w11 ⟨rfl, hf⟩
    have HS11 := Lib.hid (HS10.out.keep hf)
    clear hf HS10
    go_wp2_with fail
    refine (HSx.out _ HS11.out.frm.below).mono ?_
    rintro e w12 ⟨rfl, hf⟩
    have HS12 := Lib.hid (HS11.out.keep hf)
    clear hf HS11
    go_wp2_with fail
    go_ret
    exact ⟨rfl, HS12.out.frm.below⟩

set_option maxRecDepth 100000 in
set_option maxHeartbeats 4000000 in
theorem cutsB_w (w : World) (a b : Option Addr) (ca cb n m : Nat) (t k : Int) (h : 500 < n ∨ ¬ 500 < n ∧ 500 < m ∨ ¬ 500 < n ∧ ¬ 500 < m ∧ n ≠ m) :
    Calls Try.prog 6 #[.slice a n ca, .slice b m cb, .int .i64 t, .int .i64 k] w fun e w' => e = .returned (.bool true) ∧ Below w.heap.size w w' := by
  have hd : decide (500 < (n : Int)) = true ∨ decide (500 < (n : Int)) = false ∧ decide (500 < (m : Int)) = true ∨ decide (500 < (n : Int)) = false ∧ decide (500 < (m : Int)) = false ∧ ((n : Int) != (m : Int)) = true := by
    rcases h with h | ⟨h1, h2⟩ | ⟨h1, h2, h3⟩
    · exact .inl (by rw [decide_eq_true_iff]; omega)
    · exact .inr (.inl ⟨by rw [decide_eq_false_iff_not]; omega, by rw [decide_eq_true_iff]; omega⟩)
    · exact .inr (.inr ⟨by rw [decide_eq_false_iff_not]; omega, by rw [decide_eq_false_iff_not]; omega, by rw [bne_iff_ne]; omega⟩)
  clear h
  rcases hd with d1 | ⟨d1, d2⟩ | ⟨d1, d2, d3⟩
  all_goals
    go_enter Try.func6, Try.ntmps6
    go_wp2_with fail
    refine (alive_c _).mono ?_
    rintro e w1 ⟨rfl, hf⟩
    have HF := Lib.hid hf
    clear hf
    go_wp2_with fail
    go_ret
    exact ⟨rfl, HF.out.below⟩

theorem stripeCuts_w (w : World) (a : Option Addr) (ca : Nat) (xs : List Int) (lca : xs.length ≤ ca) (mca : ca ≤ maxLen) (nca : a = none → ca = 0) (rda : RdI .u8 w a xs) (wsa : ∀ x ∈ xs, (Lit.int .u8 x).wf = true)
    (b : Option Addr) (cb : Nat) (ys : List Int) (lcb : ys.length ≤ cb) (mcb : cb ≤ maxLen) (ncb : b = none → cb = 0) (rdb : RdI .u8 w b ys) (wsb : ∀ x ∈ ys, (Lit.int .u8 x).wf = true) (t : Int) (wt : (Lit.int .i64 t).wf = true) (n : Int) (wn : (Lit.int .i64 n).wf = true) :
    Calls Try.prog 6 #[.slice a xs.length ca, .slice b ys.length cb, .int .i64 t, .int .i64 n] w fun e w' => e = .returned (.bool true) ∧ Below w.heap.size w w' := by
  unfold maxLen at mca mcb
  by_cases h : xs.length ≤ 500 ∧ xs.length = ys.length
  · exact cutsA_w w a b ca xs rda cb ys rdb nca lca mca lcb mcb (fun x hx => u8_wf (wsa x hx)) (fun x hx => u8_wf (wsb x hx)) h.1 h.2 t n
  · exact cutsB_w w a b ca cb xs.length ys.length t n (by omega)

end Go.Proofs.Ytmdjdhbnigppcaa
