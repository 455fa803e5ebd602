/-
  THE WALK of the law's example, alive. Printed by gen_uly.py.
-/
import Derived.Test.YtjflcijiaennkaaDoorUlQ
import Derived.Test.YtjflcijiaennkaaDoorUlE
import Derived.Lib.SlBytesConst
set_option linter.unusedVariables false
set_option linter.unusedSimpArgs false
namespace Go.Proofs.YtjflcijiaennkaaDoor
open Go.RowKit

def uexP : Ul := ⟨0, 0, 0, 0, 0, 0, 0, 0, 5, false, [⟨11529215046068469760, 0, []⟩]⟩
def uexW : List Int := [0, 0, 0, 5, 0, 0, 0, 0, 0, 0, 0, 0, 160, 0]
def uexR : Rp := ⟨0, 0, 0, 0, 0, 0, 0, 0, 5, 11529215046068469760, 0, []⟩
def uexA : Rp := ⟨0, 0, 0, 0, 0, 0, 0, 0, 5, 11529215046068469760, 0, [97, 98, 99]⟩
def uexT : Ul := ⟨0, 0, 0, 0, 0, 0, 0, 0, 5, false, [⟨11529215046068469760, 0, [97]⟩, ⟨11529215046068469760, 0, [98, 99]⟩]⟩
theorem uexP_e : uweX uexP = 0 := by decide +kernel
theorem uexP_o : uwoX uexP = uexW := by decide +kernel
theorem uexW_x : upaX uexW = uexP := by kernel_rfl
theorem uexW_e : upaE uexW = 0 := by kernel_rfl
theorem uexE_x : upaX [128] = Ul.none := by kernel_rfl
theorem uexE_e : upaE [128] = 21 := by kernel_rfl
theorem uexN_e : uweX Ul.none = 4 := by decide +kernel
theorem uexN_o : uwoX Ul.none = [] := by decide +kernel
theorem uexP_f : ufX uexP = uexR := by kernel_rfl
theorem uexP_fe : ufE uexP = 0 := by decide +kernel
theorem uexA_x : uofX uexA 1 = uexT := by kernel_rfl
theorem uexA_e : uofE uexA 1 = 0 := by decide +kernel
theorem uexT_f : ufX uexT = uexA := by kernel_rfl
theorem uexT_fe : ufE uexT = 0 := by decide +kernel
theorem uexS : usame uexP uexP = true := by decide +kernel
theorem uex_ofH : ofH [0, 2] = 11529215046068469760 := by decide +kernel
theorem uex_ofL : ofL [0, 2] = 0 := by decide +kernel
theorem uexP_ok : uexP.Ok := ⟨by decide, by decide, by decide, by decide, by decide, by decide, by decide, by decide, by decide, fun L hL => by simp [uexP] at hL; subst hL; exact ⟨by decide, by decide, fun x hx => by cases hx⟩⟩
theorem uexN_ok : Ul.none.Ok := ⟨by decide, by decide, by decide, by decide, by decide, by decide, by decide, by decide, by decide, fun L hL => by simp [Ul.none] at hL⟩
theorem uexT_ok : uexT.Ok := ⟨by decide, by decide, by decide, by decide, by decide, by decide, by decide, by decide, by decide, fun L hL => by
  simp [uexT] at hL
  rcases hL with rfl | rfl <;> exact ⟨by decide, by decide, fun x hx => by simp at hx; omega⟩⟩
theorem uexA_ok : uexA.Ok := ⟨by decide, by decide, by decide, by decide, by decide, by decide, by decide, by decide, by decide, by decide, by decide, fun x hx => by simp [uexA] at hx; omega⟩
theorem uexW_byt : Byt uexW := fun x hx => by unfold uexW at hx; simp at hx; omega
theorem uRdV_blk {w : World} {b : Nat} {t : TypeId} {vs : List Value} (h : Blk w b t vs.toArray) : RdV w (some ⟨b, 0, none⟩) vs := fun i v hv => ⟨b, 0, rfl, h.lt, by
  rw [Nat.zero_add]
  exact h.cell i (by simpa using hv)⟩
theorem uown_zero {w : World} {e : TypeId} {a : Option Addr} {n c : Nat} {xs : List Value} (h : w.ownsRow 0 e 1 (.slice a n c) n xs) : a = none → c = 0 := by
  obtain ⟨a', c', hv, _, hn⟩ := own_shape h
  injection hv with h1 h2 h3
  subst h1 h3
  exact hn
/-- The example's one level in its block. -/
theorem uex_rd {w : World} {b : Nat} (h : Blk w b 44 #[.int .u64 11529215046068469760, .int .u64 0, .slice none 0 0]) : RdLs w (some ⟨b, 0, none⟩) [⟨11529215046068469760, 0, .slice none 0 0, []⟩] :=
  ⟨urdS_lit h, fun q hq => by simp at hq; subst hq; exact ⟨none, 0, rfl, RdI.nil _ _ _, fun _ => rfl, by decide, by decide⟩⟩
set_option maxRecDepth 100000 in
set_option maxHeartbeats 16000000 in
theorem ualive_c (w : World) (hT : Tabs w) :
    Calls Tryd.prog 8 #[] w fun e w' => e = .returned (.bool true) ∧ Frm [] w w' := by
  have HT := Lib.hid (fun X (hX : Frm [] w X) => hT.frm hX (by simp))
  clear hT
  have HOf : Hid (Calls Tryd.prog 24 #[.slice (some ⟨w.heap.size, 0, none⟩) 2 2] (w.alloc (.cells #[.int .i64 0, .int .i64 2] 3)) fun e w' => e = .returned (.agg #[.int .u64 11529215046068469760, .int .u64 0]) ∧ Frm [] (w.alloc (.cells #[.int .i64 0, .int .i64 2] 3)) w') := Lib.hid (by
    have h := of_c (some ⟨w.heap.size, 0, none⟩) 2 [0, 2] (w.alloc (.cells #[.int .i64 0, .int .i64 2] 3)) (uRdV_blk (vs := [.int .i64 0, .int .i64 2]) (Blk.made _ _ _)) (by decide) (by decide)
    rw [uex_ofH, uex_ofL] at h
    exact h)
  go_enter Tryd.func8, Tryd.ntmps8
  go_wp2_with fail
  refine HOf.out.mono ?_
  rintro e w1 ⟨rfl, hf⟩
  have HF1 := Lib.hid (((Frm.refl [] w).alloc _).trans hf)
  clear hf HOf
  go_upto_region 2 with fail
  obtain ⟨x2, hx2⟩ : ∃ x2, x2 = w1.alloc (.cells #[.int .u64 11529215046068469760, .int .u64 0, .slice none 0 0] 44) := ⟨_, rfl⟩
  obtain ⟨lb, hlb⟩ : ∃ p, p = w1.heap.size := ⟨_, rfl⟩
  have HS1 := Lib.hid (show Sep [] w x2 [blkR lb 44 #[.int .u64 11529215046068469760, .int .u64 0, .slice none 0 0]] from by rw [hx2, hlb]; exact (((Sep.init w).keep HF1.out).alloc #[.int .u64 11529215046068469760, .int .u64 0, .slice none 0 0] 44))
  have hx3 : x2.heap.size = lb + 1 := by rw [hx2, hlb]; simp
  rw [← hx2, ← hlb]
  clear hx2 hlb HF1
  obtain ⟨w2, hw2⟩ : ∃ w2, w2 = x2.alloc (.cells #[.int .u8 0, .int .u8 0, .int .u8 0, .int .u8 0, .int .u8 0, .int .u8 0, .int .u8 0, .int .u8 0, .int .u16 5, .bool false, .slice (some ⟨lb, 0, none⟩) 1 1] 29) := ⟨_, rfl⟩
  obtain ⟨p, hp⟩ : ∃ p, p = lb + 1 := ⟨_, rfl⟩
  have HS2 := Lib.hid (show Sep [] w w2 [blkR p 29 #[.int .u8 0, .int .u8 0, .int .u8 0, .int .u8 0, .int .u8 0, .int .u8 0, .int .u8 0, .int .u8 0, .int .u16 5, .bool false, .slice (some ⟨lb, 0, none⟩) 1 1], blkR lb 44 #[.int .u64 11529215046068469760, .int .u64 0, .slice none 0 0]] from by rw [hw2, hp, ← hx3]; exact HS1.out.alloc #[.int .u8 0, .int .u8 0, .int .u8 0, .int .u8 0, .int .u8 0, .int .u8 0, .int .u8 0, .int .u8 0, .int .u16 5, .bool false, .slice (some ⟨lb, 0, none⟩) 1 1] 29)
  rw [← hw2, ← hp]
  clear hw2 hp hx3
  go_cut [2, 3] (fun u e wx => ∃ a c, u = .slice a 14 c ∧ e = .int .i64 0 ∧ Sep [] w2 wx [sumR (.slice a 14 c) uexW])
  case first =>
    have k0 := (HS2.out.blk 0 rfl).cell 0 rfl
    have k1 := (HS2.out.blk 0 rfl).cell 1 rfl
    have k2 := (HS2.out.blk 0 rfl).cell 2 rfl
    have k3 := (HS2.out.blk 0 rfl).cell 3 rfl
    have k4 := (HS2.out.blk 0 rfl).cell 4 rfl
    have k5 := (HS2.out.blk 0 rfl).cell 5 rfl
    have k6 := (HS2.out.blk 0 rfl).cell 6 rfl
    have k7 := (HS2.out.blk 0 rfl).cell 7 rfl
    have k8 := (HS2.out.blk 0 rfl).cell 8 rfl
    have k9 := (HS2.out.blk 0 rfl).cell 9 rfl
    have k10 := (HS2.out.blk 0 rfl).cell 10 rfl
    have HW : Hid (Calls Tryd.prog 16 #[.agg #[.int .u8 0, .int .u8 0, .int .u8 0, .int .u8 0, .int .u8 0, .int .u8 0, .int .u8 0, .int .u8 0, .int .u16 5, .bool false, .slice (some ⟨lb, 0, none⟩) 1 1]] w2 (UWrP w2 uexW 0)) := Lib.hid (by
      have h := uWrite_c uexP (some ⟨lb, 0, none⟩) 1 [⟨11529215046068469760, 0, .slice none 0 0, []⟩] w2 rfl uexP_ok (uex_rd (HS2.out.blk 1 rfl)) (HT.out _ HS2.out.frm) (by decide)
      rw [uexP_o, uexP_e] at h
      exact h)
    go_wp2_with fail
    clear k0 k1 k2 k3 k4 k5 k6 k7 k8 k9 k10
    refine HW.out.mono ?_
    rintro e w3 ⟨v3, rfl, hS⟩
    obtain ⟨a3, c3, rfl, _⟩ := own_shape (hS.own 0 rfl)
    have HS := Lib.hid hS
    clear hS HW
    simp only [uexW, List.length_cons, List.length_nil, Nat.zero_add, Nat.reduceAdd]
    go_wp2_with fail
    go_meet
    exact ⟨a3, c3, rfl, rfl, HS.out⟩
  obtain ⟨a3, c3, rfl, rfl, hS⟩ := hcut
  obtain ⟨w3, rfl⟩ : ∃ w3, w3 = wc := ⟨_, rfl⟩
  obtain ⟨a', c', hv, hl3, rd3⟩ := RdI.of_own (k := .u8) (hS.own 0 rfl)
  have hz3 := uown_zero (hS.own 0 rfl)
  have hm3 : c3 ≤ 9223372036854775807 := by
    rcases (hS.own 0 rfl).2 with ⟨h1, _⟩ | ⟨g, cp, cur, h1, h2, h3, h4, h5, _⟩
    · injection h1 with h1 _ h3; subst h3; decide
    · injection h1 with h1 _ h3; subst h3; unfold maxLen at *; omega
  obtain ⟨e1, e2⟩ : a3 = a' ∧ c3 = c' := by
    injection hv with h1 _ h3
    exact ⟨h1, h3⟩
  subst e1 e2
  have HR3 := Lib.hid rd3
  have H3 := Lib.hid (And.intro hz3 (And.intro hm3 (show uexW.length ≤ c3 from hl3)))
  have HS3 := Lib.hid (show Sep [] w w3 [sumR (.slice a3 14 c3) uexW, blkR p 29 #[.int .u8 0, .int .u8 0, .int .u8 0, .int .u8 0, .int .u8 0, .int .u8 0, .int .u8 0, .int .u8 0, .int .u16 5, .bool false, .slice (some ⟨lb, 0, none⟩) 1 1], blkR lb 44 #[.int .u64 11529215046068469760, .int .u64 0, .slice none 0 0]] from (HS2.out.more hS))
  clear hS hv hz3 hm3 hl3 rd3
  go_upto_region 3 with fail
  go_cut [4, 5] (fun u e wx => ∃ g a c qs, u = .pointer (some ⟨g, 0, none⟩) ∧ e = .int .i64 0 ∧ qs.map LvV.lv = uexP.Ls ∧ Sep [] w3 wx [blkR g 29 #[.int .u8 0, .int .u8 0, .int .u8 0, .int .u8 0, .int .u8 0, .int .u8 0, .int .u8 0, .int .u8 0, .int .u16 5, .bool false, .slice a 1 c], lbR 44 (.slice a 1 c) qs])
  case first => as_aux_lemma =>
    have HC : Hid (Calls Tryd.prog 10 #[.slice a3 14 c3] w3 (UParseP w3 uexP 0)) := Lib.hid (by
      have h := uParse_c (c := c3) HR3.out uexW_byt H3.out.2.2 H3.out.2.1 H3.out.1
      rw [uexW_x, uexW_e] at h
      exact h)
    go_wp2_with fail
    refine HC.out.mono ?_
    intro e wx hx
    obtain ⟨va, vn, vc, qs, hq, rfl, hS⟩ := hx
    obtain rfl : vn = 1 := by
      obtain ⟨_, _, hv, _⟩ := lb_rd (hS.get 0 rfl)
      simp only [Value.slice.injEq] at hv
      refine hv.2.1.trans ?_
      have := congrArg List.length hq
      simpa [uexP] using this
    have HQ := Lib.hid hq
    have HS := Lib.hid (show Sep [] w3 wx [lbR 44 (.slice va 1 vc) qs] from hS)
    clear hS HC hq
    simp only [Ul.val, Ul.cells, uexP]
    go_wp2_with fail
    go_meet
    exact ⟨_, va, vc, qs, rfl, rfl, HQ.out, HS.out.alloc #[.int .u8 0, .int .u8 0, .int .u8 0, .int .u8 0, .int .u8 0, .int .u8 0, .int .u8 0, .int .u8 0, .int .u16 5, .bool false, .slice va 1 vc] 29⟩
  obtain ⟨q, va, vc, qq, rfl, rfl, hqqq, hS⟩ := hcut
  have HQqq := Lib.hid hqqq
  clear hqqq
  obtain ⟨w5, rfl⟩ : ∃ x, x = wc := ⟨_, rfl⟩
  have HS4 := Lib.hid (show Sep [] w w5 [blkR q 29 #[.int .u8 0, .int .u8 0, .int .u8 0, .int .u8 0, .int .u8 0, .int .u8 0, .int .u8 0, .int .u8 0, .int .u16 5, .bool false, .slice va 1 vc], lbR 44 (.slice va 1 vc) qq, sumR (.slice a3 14 c3) uexW, blkR p 29 #[.int .u8 0, .int .u8 0, .int .u8 0, .int .u8 0, .int .u8 0, .int .u8 0, .int .u8 0, .int .u8 0, .int .u16 5, .bool false, .slice (some ⟨lb, 0, none⟩) 1 1], blkR lb 44 #[.int .u64 11529215046068469760, .int .u64 0, .slice none 0 0]] from (HS3.out.more hS))
  clear hS
  go_upto_region 4 with fail
  go_cut [6, 7] (fun u e wx => ∃ g a c qs, u = .pointer (some ⟨g, 0, none⟩) ∧ e = .int .i64 21 ∧ qs.map LvV.lv = Ul.none.Ls ∧ Sep [] w5 wx [blkR g 29 #[.int .u8 0, .int .u8 0, .int .u8 0, .int .u8 0, .int .u8 0, .int .u8 0, .int .u8 0, .int .u8 0, .int .u16 0, .bool false, .slice a 0 c], lbR 44 (.slice a 0 c) qs])
  case first => as_aux_lemma =>
    have HC : Hid (Calls Tryd.prog 10 #[.slice (some ⟨w5.heap.size, 0, none⟩) 1 1] (w5.alloc (.cells #[.int .u8 128] 5)) (UParseP (w5.alloc (.cells #[.int .u8 128] 5)) Ul.none 21)) := Lib.hid (by
      have h := uParse_c (c := 1) (zs := [128]) (RdI.of_blk (zs := [128]) (Blk.made w5 5 #[.int .u8 128]) rfl) (fun x hx => by simp at hx; omega) (by decide) (by decide) (fun h => by cases h)
      rw [uexE_x, uexE_e] at h
      exact h)
    go_wp2_with fail
    refine HC.out.mono ?_
    intro e wx hx
    obtain ⟨va, vn, vc, qs, hq, rfl, hS⟩ := hx
    obtain rfl : vn = 0 := by
      obtain ⟨_, _, hv, _⟩ := lb_rd (hS.get 0 rfl)
      simp only [Value.slice.injEq] at hv
      refine hv.2.1.trans ?_
      have := congrArg List.length hq
      simpa [Ul.none] using this
    have HQ := Lib.hid hq
    have HS := Lib.hid (show Sep [] w5 wx [lbR 44 (.slice va 0 vc) qs] from ((Sep.init w5).skip _).more hS)
    clear hS HC hq
    simp only [Ul.val, Ul.cells, Ul.none]
    go_wp2_with fail
    go_meet
    exact ⟨_, va, vc, qs, rfl, rfl, HQ.out, HS.out.alloc #[.int .u8 0, .int .u8 0, .int .u8 0, .int .u8 0, .int .u8 0, .int .u8 0, .int .u8 0, .int .u8 0, .int .u16 0, .bool false, .slice va 0 vc] 29⟩
  obtain ⟨pe, vae, vce, qe, rfl, rfl, hqqe, hS⟩ := hcut
  have HQqe := Lib.hid hqqe
  clear hqqe
  obtain ⟨w7, rfl⟩ : ∃ x, x = wc := ⟨_, rfl⟩
  have HS5 := Lib.hid (show Sep [] w w7 [blkR pe 29 #[.int .u8 0, .int .u8 0, .int .u8 0, .int .u8 0, .int .u8 0, .int .u8 0, .int .u8 0, .int .u8 0, .int .u16 0, .bool false, .slice vae 0 vce], lbR 44 (.slice vae 0 vce) qe, blkR q 29 #[.int .u8 0, .int .u8 0, .int .u8 0, .int .u8 0, .int .u8 0, .int .u8 0, .int .u8 0, .int .u8 0, .int .u16 5, .bool false, .slice va 1 vc], lbR 44 (.slice va 1 vc) qq, sumR (.slice a3 14 c3) uexW, blkR p 29 #[.int .u8 0, .int .u8 0, .int .u8 0, .int .u8 0, .int .u8 0, .int .u8 0, .int .u8 0, .int .u8 0, .int .u16 5, .bool false, .slice (some ⟨lb, 0, none⟩) 1 1], blkR lb 44 #[.int .u64 11529215046068469760, .int .u64 0, .slice none 0 0]] from (HS4.out.more hS))
  clear hS
  go_upto_region 5 with fail
  go_cut [8, 9] (fun u e wx => e = .int .i64 4 ∧ Frm [] w7 wx)
  case first => as_aux_lemma =>
    have HW : Hid (Calls Tryd.prog 16 #[.agg #[.int .u8 0, .int .u8 0, .int .u8 0, .int .u8 0, .int .u8 0, .int .u8 0, .int .u8 0, .int .u8 0, .int .u16 0, .bool false, .slice none 0 0]] w7 (UWrP w7 [] 4)) := Lib.hid (by
      have h := uWrite_c Ul.none none 0 [] w7 rfl uexN_ok (RdLs.nil _ _) (HT.out _ HS5.out.frm) (by decide)
      rw [uexN_o, uexN_e] at h
      exact h)
    go_wp2_with fail
    refine HW.out.mono ?_
    rintro e w8 ⟨v8, rfl, hS⟩
    have HF := Lib.hid hS.frm
    clear hS
    go_wp2_with fail
    go_meet
    exact ⟨rfl, HF.out⟩
  obtain ⟨rfl, hf⟩ := hcut
  obtain ⟨w8, rfl⟩ : ∃ x, x = wc := ⟨_, rfl⟩
  have HS6 := Lib.hid (show Sep [] w w8 [blkR pe 29 #[.int .u8 0, .int .u8 0, .int .u8 0, .int .u8 0, .int .u8 0, .int .u8 0, .int .u8 0, .int .u8 0, .int .u16 0, .bool false, .slice vae 0 vce], lbR 44 (.slice vae 0 vce) qe, blkR q 29 #[.int .u8 0, .int .u8 0, .int .u8 0, .int .u8 0, .int .u8 0, .int .u8 0, .int .u8 0, .int .u8 0, .int .u16 5, .bool false, .slice va 1 vc], lbR 44 (.slice va 1 vc) qq, sumR (.slice a3 14 c3) uexW, blkR p 29 #[.int .u8 0, .int .u8 0, .int .u8 0, .int .u8 0, .int .u8 0, .int .u8 0, .int .u8 0, .int .u8 0, .int .u16 5, .bool false, .slice (some ⟨lb, 0, none⟩) 1 1], blkR lb 44 #[.int .u64 11529215046068469760, .int .u64 0, .slice none 0 0]] from (HS5.out.keep hf))
  clear hf
  go_upto_region 6 with fail
  go_cut [10, 11] (fun u e wx => ∃ g a c, u = .pointer (some ⟨g, 0, none⟩) ∧ e = .int .i64 0 ∧ Sep [] w8 wx [blkR g 53 #[.int .u8 0, .int .u8 0, .int .u8 0, .int .u8 0, .int .u8 0, .int .u8 0, .int .u8 0, .int .u8 0, .int .u16 5, .int .u64 11529215046068469760, .int .u64 0, .slice a 0 c], sumR (.slice a 0 c) []])
  case first => as_aux_lemma =>
    have k0 := (HS6.out.blk 2 rfl).cell 0 rfl
    have k1 := (HS6.out.blk 2 rfl).cell 1 rfl
    have k2 := (HS6.out.blk 2 rfl).cell 2 rfl
    have k3 := (HS6.out.blk 2 rfl).cell 3 rfl
    have k4 := (HS6.out.blk 2 rfl).cell 4 rfl
    have k5 := (HS6.out.blk 2 rfl).cell 5 rfl
    have k6 := (HS6.out.blk 2 rfl).cell 6 rfl
    have k7 := (HS6.out.blk 2 rfl).cell 7 rfl
    have k8 := (HS6.out.blk 2 rfl).cell 8 rfl
    have k9 := (HS6.out.blk 2 rfl).cell 9 rfl
    have k10 := (HS6.out.blk 2 rfl).cell 10 rfl
    have HC : Hid (Calls Tryd.prog 18 #[.agg #[.int .u8 0, .int .u8 0, .int .u8 0, .int .u8 0, .int .u8 0, .int .u8 0, .int .u8 0, .int .u8 0, .int .u16 5, .bool false, .slice va 1 vc]] w8 (RprP w8 uexR 0)) := Lib.hid (by
      obtain ⟨a', c', hv, _, _, _, hr⟩ := lb_rd (HS6.out.get 3 rfl)
      simp only [Value.slice.injEq] at hv
      rw [← hv.1] at hr
      have h := uflat_c uexP va vc qq w8 HQqq.out uexP_ok hr (HT.out _ HS6.out.frm) (by rw [← hv.2.1]; decide)
      rw [← hv.2.1, uexP_f, uexP_fe] at h
      exact h)
    go_wp2_with fail
    refine HC.out.mono ?_
    intro e wx hx
    obtain ⟨va, vn, vc, rfl, hS⟩ := hx
    obtain rfl : vn = 0 := by
      obtain ⟨_, _, hv, _⟩ := own_shape (hS.own 0 rfl)
      injection hv
    have HS := Lib.hid (show Sep [] w8 wx [sumR (.slice va 0 vc) []] from hS)
    clear hS HC
    simp only [Rp.val, Rp.cells, uexR]
    go_wp2_with fail
    go_meet
    exact ⟨_, va, vc, rfl, rfl, HS.out.alloc #[.int .u8 0, .int .u8 0, .int .u8 0, .int .u8 0, .int .u8 0, .int .u8 0, .int .u8 0, .int .u8 0, .int .u16 5, .int .u64 11529215046068469760, .int .u64 0, .slice va 0 vc] 53⟩
  obtain ⟨r, vaf, vcf, rfl, rfl, hS⟩ := hcut
  obtain ⟨w10, rfl⟩ : ∃ x, x = wc := ⟨_, rfl⟩
  have HS7 := Lib.hid (show Sep [] w w10 [blkR r 53 #[.int .u8 0, .int .u8 0, .int .u8 0, .int .u8 0, .int .u8 0, .int .u8 0, .int .u8 0, .int .u8 0, .int .u16 5, .int .u64 11529215046068469760, .int .u64 0, .slice vaf 0 vcf], sumR (.slice vaf 0 vcf) [], blkR pe 29 #[.int .u8 0, .int .u8 0, .int .u8 0, .int .u8 0, .int .u8 0, .int .u8 0, .int .u8 0, .int .u8 0, .int .u16 0, .bool false, .slice vae 0 vce], lbR 44 (.slice vae 0 vce) qe, blkR q 29 #[.int .u8 0, .int .u8 0, .int .u8 0, .int .u8 0, .int .u8 0, .int .u8 0, .int .u8 0, .int .u8 0, .int .u16 5, .bool false, .slice va 1 vc], lbR 44 (.slice va 1 vc) qq, sumR (.slice a3 14 c3) uexW, blkR p 29 #[.int .u8 0, .int .u8 0, .int .u8 0, .int .u8 0, .int .u8 0, .int .u8 0, .int .u8 0, .int .u8 0, .int .u16 5, .bool false, .slice (some ⟨lb, 0, none⟩) 1 1], blkR lb 44 #[.int .u64 11529215046068469760, .int .u64 0, .slice none 0 0]] from (HS6.out.more hS))
  clear hS
  have HSx := Lib.hid (HS7.out.skip (.cells #[.int .u8 97, .int .u8 98, .int .u8 99] 5 (3, 4)))
  have r11 := (HSx.out.blk 0 rfl).cell 11 rfl
  have g11 := (HSx.out.blk 0 rfl).free 11
  have s7 := Lib.run_convert_bytes_const (P := Tryd.prog) w10 22 5 #[.int .u8 97, .int .u8 98, .int .u8 99] 3 3 Tryd.underlying22 Tryd.underlying5
  go_upto_region 8 with fail
  clear r11 g11 s7
  have hrl : r < w10.heap.size := (HS7.out.blk 0 rfl).lt
  have hrb : RdI .u8 (w10.alloc (.cells #[.int .u8 97, .int .u8 98, .int .u8 99] 5 (3, 4))) (some ⟨w10.heap.size, 0, none⟩) [97, 98, 99] := fun i x hx => ⟨w10.heap.size, 0, rfl, by simp, by
    rw [Nat.zero_add, World.cell?_alloc_mark]
    match i, hx with
    | 0, hx => simp at hx; subst hx; rfl
    | 1, hx => simp at hx; subst hx; rfl
    | 2, hx => simp at hx; subst hx; rfl
    | i + 3, hx => simp at hx⟩
  obtain ⟨bb, hbb⟩ : ∃ x, x = w10.heap.size := ⟨_, rfl⟩
  obtain ⟨y11, hy11⟩ : ∃ x, x = w10.alloc (.cells #[.int .u8 97, .int .u8 98, .int .u8 99] 5 (3, 4)) := ⟨_, rfl⟩
  rw [← hy11] at HSx
  rw [← hbb, ← hy11] at hrb
  rw [← hbb] at hrl
  rw [← hbb, ← hy11]
  obtain ⟨w11, hw11⟩ : ∃ x, x = y11.setCell ⟨r, 11, none⟩ (.slice (some ⟨bb, 0, none⟩) 3 3) := ⟨_, rfl⟩
  have HRb := Lib.hid (show RdI .u8 w11 (some ⟨bb, 0, none⟩) [97, 98, 99] from hw11 ▸ hrb.frm ((Frm.refl [r] y11).put (.inl (by simp)) 11 none _) (fun p hp => by injection hp with hp; subst hp; simp; omega))
  rw [← hw11]
  have HS8 := Lib.hid (show Sep [] w w11 [blkR r 53 #[.int .u8 0, .int .u8 0, .int .u8 0, .int .u8 0, .int .u8 0, .int .u8 0, .int .u8 0, .int .u8 0, .int .u16 5, .int .u64 11529215046068469760, .int .u64 0, .slice (some ⟨bb, 0, none⟩) 3 3], sumR (.slice vaf 0 vcf) [], blkR pe 29 #[.int .u8 0, .int .u8 0, .int .u8 0, .int .u8 0, .int .u8 0, .int .u8 0, .int .u8 0, .int .u8 0, .int .u16 0, .bool false, .slice vae 0 vce], lbR 44 (.slice vae 0 vce) qe, blkR q 29 #[.int .u8 0, .int .u8 0, .int .u8 0, .int .u8 0, .int .u8 0, .int .u8 0, .int .u8 0, .int .u8 0, .int .u16 5, .bool false, .slice va 1 vc], lbR 44 (.slice va 1 vc) qq, sumR (.slice a3 14 c3) uexW, blkR p 29 #[.int .u8 0, .int .u8 0, .int .u8 0, .int .u8 0, .int .u8 0, .int .u8 0, .int .u8 0, .int .u8 0, .int .u16 5, .bool false, .slice (some ⟨lb, 0, none⟩) 1 1], blkR lb 44 #[.int .u64 11529215046068469760, .int .u64 0, .slice none 0 0]] from hw11 ▸ HSx.out.put 0 rfl 11 (.slice (some ⟨bb, 0, none⟩) 3 3))
  clear hw11 hy11 hbb HSx hrb hrl
  go_upto_region 8 with fail
  go_cut [12, 13] (fun u e wx => ∃ g a c qs, u = .pointer (some ⟨g, 0, none⟩) ∧ e = .int .i64 0 ∧ qs.map LvV.lv = uexT.Ls ∧ Sep [] w11 wx [blkR g 29 #[.int .u8 0, .int .u8 0, .int .u8 0, .int .u8 0, .int .u8 0, .int .u8 0, .int .u8 0, .int .u8 0, .int .u16 5, .bool false, .slice a 2 c], lbR 44 (.slice a 2 c) qs])
  case first => as_aux_lemma =>
    have k0 := (HS8.out.blk 0 rfl).cell 0 rfl
    have k1 := (HS8.out.blk 0 rfl).cell 1 rfl
    have k2 := (HS8.out.blk 0 rfl).cell 2 rfl
    have k3 := (HS8.out.blk 0 rfl).cell 3 rfl
    have k4 := (HS8.out.blk 0 rfl).cell 4 rfl
    have k5 := (HS8.out.blk 0 rfl).cell 5 rfl
    have k6 := (HS8.out.blk 0 rfl).cell 6 rfl
    have k7 := (HS8.out.blk 0 rfl).cell 7 rfl
    have k8 := (HS8.out.blk 0 rfl).cell 8 rfl
    have k9 := (HS8.out.blk 0 rfl).cell 9 rfl
    have k10 := (HS8.out.blk 0 rfl).cell 10 rfl
    have k11 := (HS8.out.blk 0 rfl).cell 11 rfl
    have HC : Hid (Calls Tryd.prog 22 #[.agg #[.int .u8 0, .int .u8 0, .int .u8 0, .int .u8 0, .int .u8 0, .int .u8 0, .int .u8 0, .int .u8 0, .int .u16 5, .int .u64 11529215046068469760, .int .u64 0, .slice (some ⟨bb, 0, none⟩) 3 3], .int .i64 1] w11 (UParseP w11 uexT 0)) := Lib.hid (by
      have h := uof_c uexA 1 (some ⟨bb, 0, none⟩) 3 w11 uexA_ok HRb.out (fun h => by cases h) (by decide) (by decide) (HT.out _ HS8.out.frm) (by decide)
      rw [uexA_x, uexA_e] at h
      exact h)
    go_wp2_with fail
    refine HC.out.mono ?_
    intro e wx hx
    obtain ⟨va, vn, vc, qs, hq, rfl, hS⟩ := hx
    obtain rfl : vn = 2 := by
      obtain ⟨_, _, hv, _⟩ := lb_rd (hS.get 0 rfl)
      simp only [Value.slice.injEq] at hv
      refine hv.2.1.trans ?_
      have := congrArg List.length hq
      simpa [uexT] using this
    have HQ := Lib.hid hq
    have HS := Lib.hid (show Sep [] w11 wx [lbR 44 (.slice va 2 vc) qs] from hS)
    clear hS HC hq
    simp only [Ul.val, Ul.cells, uexT]
    go_wp2_with fail
    go_meet
    exact ⟨_, va, vc, qs, rfl, rfl, HQ.out, HS.out.alloc #[.int .u8 0, .int .u8 0, .int .u8 0, .int .u8 0, .int .u8 0, .int .u8 0, .int .u8 0, .int .u8 0, .int .u16 5, .bool false, .slice va 2 vc] 29⟩
  obtain ⟨s, vas, vcs, qt, rfl, rfl, hqqt, hS⟩ := hcut
  have HQqt := Lib.hid hqqt
  clear hqqt
  obtain ⟨w13, rfl⟩ : ∃ x, x = wc := ⟨_, rfl⟩
  have HS9 := Lib.hid (show Sep [] w w13 [blkR s 29 #[.int .u8 0, .int .u8 0, .int .u8 0, .int .u8 0, .int .u8 0, .int .u8 0, .int .u8 0, .int .u8 0, .int .u16 5, .bool false, .slice vas 2 vcs], lbR 44 (.slice vas 2 vcs) qt, blkR r 53 #[.int .u8 0, .int .u8 0, .int .u8 0, .int .u8 0, .int .u8 0, .int .u8 0, .int .u8 0, .int .u8 0, .int .u16 5, .int .u64 11529215046068469760, .int .u64 0, .slice (some ⟨bb, 0, none⟩) 3 3], sumR (.slice vaf 0 vcf) [], blkR pe 29 #[.int .u8 0, .int .u8 0, .int .u8 0, .int .u8 0, .int .u8 0, .int .u8 0, .int .u8 0, .int .u8 0, .int .u16 0, .bool false, .slice vae 0 vce], lbR 44 (.slice vae 0 vce) qe, blkR q 29 #[.int .u8 0, .int .u8 0, .int .u8 0, .int .u8 0, .int .u8 0, .int .u8 0, .int .u8 0, .int .u8 0, .int .u16 5, .bool false, .slice va 1 vc], lbR 44 (.slice va 1 vc) qq, sumR (.slice a3 14 c3) uexW, blkR p 29 #[.int .u8 0, .int .u8 0, .int .u8 0, .int .u8 0, .int .u8 0, .int .u8 0, .int .u8 0, .int .u8 0, .int .u16 5, .bool false, .slice (some ⟨lb, 0, none⟩) 1 1], blkR lb 44 #[.int .u64 11529215046068469760, .int .u64 0, .slice none 0 0]] from (HS8.out.more hS))
  clear hS
  go_upto_region 9 with fail
  go_cut [14, 15] (fun u e wx => ∃ g a c, u = .pointer (some ⟨g, 0, none⟩) ∧ e = .int .i64 0 ∧ Sep [] w13 wx [blkR g 53 #[.int .u8 0, .int .u8 0, .int .u8 0, .int .u8 0, .int .u8 0, .int .u8 0, .int .u8 0, .int .u8 0, .int .u16 5, .int .u64 11529215046068469760, .int .u64 0, .slice a 3 c], sumR (.slice a 3 c) [97, 98, 99]])
  case first => as_aux_lemma =>
    have k0 := (HS9.out.blk 0 rfl).cell 0 rfl
    have k1 := (HS9.out.blk 0 rfl).cell 1 rfl
    have k2 := (HS9.out.blk 0 rfl).cell 2 rfl
    have k3 := (HS9.out.blk 0 rfl).cell 3 rfl
    have k4 := (HS9.out.blk 0 rfl).cell 4 rfl
    have k5 := (HS9.out.blk 0 rfl).cell 5 rfl
    have k6 := (HS9.out.blk 0 rfl).cell 6 rfl
    have k7 := (HS9.out.blk 0 rfl).cell 7 rfl
    have k8 := (HS9.out.blk 0 rfl).cell 8 rfl
    have k9 := (HS9.out.blk 0 rfl).cell 9 rfl
    have k10 := (HS9.out.blk 0 rfl).cell 10 rfl
    have HC : Hid (Calls Tryd.prog 18 #[.agg #[.int .u8 0, .int .u8 0, .int .u8 0, .int .u8 0, .int .u8 0, .int .u8 0, .int .u8 0, .int .u8 0, .int .u16 5, .bool false, .slice vas 2 vcs]] w13 (RprP w13 uexA 0)) := Lib.hid (by
      obtain ⟨a', c', hv, _, _, _, hr⟩ := lb_rd (HS9.out.get 1 rfl)
      simp only [Value.slice.injEq] at hv
      rw [← hv.1] at hr
      have h := uflat_c uexT vas vcs qt w13 HQqt.out uexT_ok hr (HT.out _ HS9.out.frm) (by rw [← hv.2.1]; decide)
      rw [← hv.2.1, uexT_f, uexT_fe] at h
      exact h)
    go_wp2_with fail
    refine HC.out.mono ?_
    intro e wx hx
    obtain ⟨va, vn, vc, rfl, hS⟩ := hx
    obtain rfl : vn = 3 := by
      obtain ⟨_, _, hv, _⟩ := own_shape (hS.own 0 rfl)
      injection hv
    have HS := Lib.hid (show Sep [] w13 wx [sumR (.slice va 3 vc) [97, 98, 99]] from hS)
    clear hS HC
    simp only [Rp.val, Rp.cells, uexA]
    go_wp2_with fail
    go_meet
    exact ⟨_, va, vc, rfl, rfl, HS.out.alloc #[.int .u8 0, .int .u8 0, .int .u8 0, .int .u8 0, .int .u8 0, .int .u8 0, .int .u8 0, .int .u8 0, .int .u16 5, .int .u64 11529215046068469760, .int .u64 0, .slice va 3 vc] 53⟩
  obtain ⟨rg, vag, vcg, rfl, rfl, hS⟩ := hcut
  obtain ⟨w15, rfl⟩ : ∃ x, x = wc := ⟨_, rfl⟩
  have HS10 := Lib.hid (show Sep [] w w15 [blkR rg 53 #[.int .u8 0, .int .u8 0, .int .u8 0, .int .u8 0, .int .u8 0, .int .u8 0, .int .u8 0, .int .u8 0, .int .u16 5, .int .u64 11529215046068469760, .int .u64 0, .slice vag 3 vcg], sumR (.slice vag 3 vcg) [97, 98, 99], blkR s 29 #[.int .u8 0, .int .u8 0, .int .u8 0, .int .u8 0, .int .u8 0, .int .u8 0, .int .u8 0, .int .u8 0, .int .u16 5, .bool false, .slice vas 2 vcs], lbR 44 (.slice vas 2 vcs) qt, blkR r 53 #[.int .u8 0, .int .u8 0, .int .u8 0, .int .u8 0, .int .u8 0, .int .u8 0, .int .u8 0, .int .u8 0, .int .u16 5, .int .u64 11529215046068469760, .int .u64 0, .slice (some ⟨bb, 0, none⟩) 3 3], sumR (.slice vaf 0 vcf) [], blkR pe 29 #[.int .u8 0, .int .u8 0, .int .u8 0, .int .u8 0, .int .u8 0, .int .u8 0, .int .u8 0, .int .u8 0, .int .u16 0, .bool false, .slice vae 0 vce], lbR 44 (.slice vae 0 vce) qe, blkR q 29 #[.int .u8 0, .int .u8 0, .int .u8 0, .int .u8 0, .int .u8 0, .int .u8 0, .int .u8 0, .int .u8 0, .int .u16 5, .bool false, .slice va 1 vc], lbR 44 (.slice va 1 vc) qq, sumR (.slice a3 14 c3) uexW, blkR p 29 #[.int .u8 0, .int .u8 0, .int .u8 0, .int .u8 0, .int .u8 0, .int .u8 0, .int .u8 0, .int .u8 0, .int .u16 5, .bool false, .slice (some ⟨lb, 0, none⟩) 1 1], blkR lb 44 #[.int .u64 11529215046068469760, .int .u64 0, .slice none 0 0]] from (HS9.out.more hS))
  clear hS
  obtain ⟨q0, qr, hqt⟩ : ∃ q0 qr, qt = q0 :: qr := by
    have h := HQqt.out
    cases qt with
    | nil => cases h
    | cons q0 qr => exact ⟨q0, qr, rfl⟩
  have hB0 : q0.B = [97] := by
    have h := HQqt.out
    rw [hqt] at h
    have h2 := List.head_eq_of_cons_eq h
    exact congrArg Lv.B h2
  obtain ⟨a', c', hv, _, _, _, hrl⟩ := lb_rd (HS10.out.get 3 rfl)
  simp only [Value.slice.injEq] at hv
  rw [← hv.1] at hrl
  obtain ⟨bl, ol, hva, hbl, -, -, hc2⟩ := hrl.at_ (i := 0) (q := q0) (by rw [hqt]; rfl)
  obtain ⟨ab, cb, hbv, -⟩ := hrl.bod q0 (by rw [hqt]; simp)
  rw [hbv, hB0] at hc2
  simp only [Nat.zero_mul, Nat.add_zero, List.length_cons, List.length_nil, Nat.zero_add] at hc2
  subst hva
  have HL2 := Lib.hid (fun X (hX : Frm [] w15 X) => (hX.cell (i := ol + 2) hbl (by simp)).trans hc2)
  clear hqt hB0 hv hrl hbl hc2 hbv
  go_upto_region 10 with fail
  have k0 := (HS10.out.blk 11 rfl).cell 0 rfl
  have k1 := (HS10.out.blk 11 rfl).cell 1 rfl
  have k2 := (HS10.out.blk 11 rfl).cell 2 rfl
  have k3 := (HS10.out.blk 11 rfl).cell 3 rfl
  have k4 := (HS10.out.blk 11 rfl).cell 4 rfl
  have k5 := (HS10.out.blk 11 rfl).cell 5 rfl
  have k6 := (HS10.out.blk 11 rfl).cell 6 rfl
  have k7 := (HS10.out.blk 11 rfl).cell 7 rfl
  have k8 := (HS10.out.blk 11 rfl).cell 8 rfl
  have k9 := (HS10.out.blk 11 rfl).cell 9 rfl
  have k10 := (HS10.out.blk 11 rfl).cell 10 rfl
  have j0 := (HS10.out.blk 8 rfl).cell 0 rfl
  have j1 := (HS10.out.blk 8 rfl).cell 1 rfl
  have j2 := (HS10.out.blk 8 rfl).cell 2 rfl
  have j3 := (HS10.out.blk 8 rfl).cell 3 rfl
  have j4 := (HS10.out.blk 8 rfl).cell 4 rfl
  have j5 := (HS10.out.blk 8 rfl).cell 5 rfl
  have j6 := (HS10.out.blk 8 rfl).cell 6 rfl
  have j7 := (HS10.out.blk 8 rfl).cell 7 rfl
  have j8 := (HS10.out.blk 8 rfl).cell 8 rfl
  have j9 := (HS10.out.blk 8 rfl).cell 9 rfl
  have j10 := (HS10.out.blk 8 rfl).cell 10 rfl
  have s1 : (convert 22 9 (.slice a3 14 c3)).run Tryd.prog w15 = .ok (.string ⟨#[0, 0, 0, 5, 0, 0, 0, 0, 0, 0, 0, 0, 160, 0]⟩) w15 := by
    have hr : RdI .u8 w15 a3 uexW := by
      obtain ⟨_, _, hv, _, hr⟩ := RdI.of_own (k := .u8) (HS10.out.own 10 rfl)
      injection hv with h1 _ _
      subst h1
      exact hr
    have h := str_rd (c := c3) hr
    rw [show strOfNums uexW = ⟨#[0, 0, 0, 5, 0, 0, 0, 0, 0, 0, 0, 0, 160, 0]⟩ from by kernel_rfl] at h
    exact h
  have HSm : Hid (Calls Tryd.prog 21 #[.agg #[.int .u8 0, .int .u8 0, .int .u8 0, .int .u8 0, .int .u8 0, .int .u8 0, .int .u8 0, .int .u8 0, .int .u16 5, .bool false, .slice (some ⟨lb, 0, none⟩) 1 1], .agg #[.int .u8 0, .int .u8 0, .int .u8 0, .int .u8 0, .int .u8 0, .int .u8 0, .int .u8 0, .int .u8 0, .int .u16 5, .bool false, .slice va 1 vc]] w15 fun e w' => e = .returned (.bool true) ∧ Frm [] w15 w') := Lib.hid (by
    obtain ⟨a', c', hv, _, _, _, hr⟩ := lb_rd (HS10.out.get 9 rfl)
    simp only [Value.slice.injEq] at hv
    rw [← hv.1] at hr
    have hb : ∀ q ∈ qq, q.B.length ≤ 1000000 := fun q hq => by
      have h1 : q.lv ∈ uexP.Ls := HQqq.out ▸ List.mem_map_of_mem hq
      simp [uexP] at h1
      have h2 := congrArg Lv.B h1
      rw [show q.B = [] from h2]; decide
    have h := usame_c uexP uexP (some ⟨lb, 0, none⟩) va 1 vc [⟨11529215046068469760, 0, .slice none 0 0, []⟩] qq w15 rfl HQqq.out uexP_ok uexP_ok (uex_rd (HS10.out.blk 12 rfl)) hr (by decide) (by rw [← hv.2.1]; decide) (fun q hq => by simp at hq; subst hq; decide) hb
    rw [← hv.2.1, uexS] at h
    exact h)
  go_wp2_with fail
  clear s1 k0 k1 k2 k3 k4 k5 k6 k7 k8 k9 k10 j0 j1 j2 j3 j4 j5 j6 j7 j8 j9 j10
  refine HSm.out.mono ?_
  rintro e w16 ⟨rfl, hf⟩
  have l2 := HL2.out w16 hf
  have HS11 := Lib.hid (show Sep [] w w16 [blkR rg 53 #[.int .u8 0, .int .u8 0, .int .u8 0, .int .u8 0, .int .u8 0, .int .u8 0, .int .u8 0, .int .u8 0, .int .u16 5, .int .u64 11529215046068469760, .int .u64 0, .slice vag 3 vcg], sumR (.slice vag 3 vcg) [97, 98, 99], blkR s 29 #[.int .u8 0, .int .u8 0, .int .u8 0, .int .u8 0, .int .u8 0, .int .u8 0, .int .u8 0, .int .u8 0, .int .u16 5, .bool false, .slice (some ⟨bl, ol, none⟩) 2 vcs], lbR 44 (.slice (some ⟨bl, ol, none⟩) 2 vcs) qt, blkR r 53 #[.int .u8 0, .int .u8 0, .int .u8 0, .int .u8 0, .int .u8 0, .int .u8 0, .int .u8 0, .int .u8 0, .int .u16 5, .int .u64 11529215046068469760, .int .u64 0, .slice (some ⟨bb, 0, none⟩) 3 3], sumR (.slice vaf 0 vcf) [], blkR pe 29 #[.int .u8 0, .int .u8 0, .int .u8 0, .int .u8 0, .int .u8 0, .int .u8 0, .int .u8 0, .int .u8 0, .int .u16 0, .bool false, .slice vae 0 vce], lbR 44 (.slice vae 0 vce) qe, blkR q 29 #[.int .u8 0, .int .u8 0, .int .u8 0, .int .u8 0, .int .u8 0, .int .u8 0, .int .u8 0, .int .u8 0, .int .u16 5, .bool false, .slice va 1 vc], lbR 44 (.slice va 1 vc) qq, sumR (.slice a3 14 c3) uexW, blkR p 29 #[.int .u8 0, .int .u8 0, .int .u8 0, .int .u8 0, .int .u8 0, .int .u8 0, .int .u8 0, .int .u8 0, .int .u16 5, .bool false, .slice (some ⟨lb, 0, none⟩) 1 1], blkR lb 44 #[.int .u64 11529215046068469760, .int .u64 0, .slice none 0 0]] from (HS10.out.keep hf))
  clear hf HSm HL2
  have r8 := (HS11.out.blk 4 rfl).cell 8 rfl
  have r9 := (HS11.out.blk 4 rfl).cell 9 rfl
  have t10 := (HS11.out.blk 2 rfl).cell 10 rfl
  have u11 := (HS11.out.blk 0 rfl).cell 11 rfl
  have s2 : (convert 22 9 (.slice vag 3 vcg)).run Tryd.prog w16 = .ok (.string ⟨#[97, 98, 99]⟩) w16 := by
    have hr : RdI .u8 w16 vag [97, 98, 99] := by
      obtain ⟨_, _, hv, _, hr⟩ := RdI.of_own (k := .u8) (HS11.out.own 1 rfl)
      injection hv with h1 _ _
      subst h1
      exact hr
    have h := str_rd (c := vcg) hr
    rw [show strOfNums [97, 98, 99] = ⟨#[97, 98, 99]⟩ from by kernel_rfl] at h
    exact h
  have HF := Lib.hid HS11.out.frm
  go_wp2_with fail
  go_ret
  exact ⟨rfl, HF.out⟩

end Go.Proofs.YtjflcijiaennkaaDoor
