/-
  THE WALK of the law's example, alive. Printed by gen_fxw.py.
-/
import Derived.Test.YtnloabpdjedanaaDoorFxV
import Derived.Test.YtnloabpdjedanaaDoorFxT
set_option linter.unusedVariables false
set_option linter.unusedSimpArgs false
namespace Go.Proofs.YtnloabpdjedanaaDoor
open Go.RowKit
def exP : Fx := ⟨0, 0, 0, 0, 0, 0, 0, 0, 5, 11529215046068469760, 0, false, 0, 0, []⟩
def exW : List Int := [0, 0, 0, 0, 0, 0, 0, 0, 0, 5, 208, 0]
def exR : Rp := ⟨0, 0, 0, 0, 0, 0, 0, 0, 5, 11529215046068469760, 0, []⟩
theorem exP_e : weX exP = 0 := by decide +kernel
theorem exP_o : woX exP = exW := by decide +kernel
theorem exW_x : paX exW = exP := by kernel_rfl
theorem exW_e : paE exW = 0 := by kernel_rfl
theorem ex_ofH : ofH [0, 2] = 11529215046068469760 := by decide +kernel
theorem ex_ofL : ofL [0, 2] = 0 := by decide +kernel
theorem exE_x : paX [128] = Fx.none := by kernel_rfl
theorem exE_e : paE [128] = 21 := by kernel_rfl
theorem exN_e : weX Fx.none = 30 := by decide +kernel
theorem exN_o : woX Fx.none = [] := by decide +kernel
def exF : Fx := ⟨0, 0, 0, 0, 0, 0, 0, 0, 0, 0, 0, true, 2, 0, []⟩
theorem exF_e : flE exF = 30 := by decide +kernel
theorem exF_x : flX exF = Rp.none := by kernel_rfl
theorem exP_f : flX exP = exR := by kernel_rfl
theorem exP_fe : flE exP = 0 := by decide +kernel
theorem exR_x : ofX exR = exP := by kernel_rfl
theorem exR_e : ofE exR = 0 := by decide +kernel
theorem exS : sameX exP exP = true := by decide +kernel
theorem exG1 : gridL 65535 2 3 = [65535, 1, 3] := by decide +kernel
theorem exG2 : (gridL 5 4 0).length = 4 := by decide +kernel
theorem exP_ok : exP.Ok := ⟨by decide, by decide, by decide, by decide, by decide, by decide, by decide, by decide, by decide, by decide, by decide, by decide, by decide, fun x hx => by simp [exP] at hx⟩
theorem exF_ok : exF.Ok := ⟨by decide, by decide, by decide, by decide, by decide, by decide, by decide, by decide, by decide, by decide, by decide, by decide, by decide, fun x hx => by simp [exF] at hx⟩
theorem exN_ok : Fx.none.Ok := ⟨by decide, by decide, by decide, by decide, by decide, by decide, by decide, by decide, by decide, by decide, by decide, by decide, by decide, fun x hx => by simp [Fx.none] at hx⟩
theorem exR_ok : exR.Ok := ⟨by decide, by decide, by decide, by decide, by decide, by decide, by decide, by decide, by decide, by decide, by decide, fun x hx => by simp [exR] at hx⟩
theorem exW_byt : Byt exW := fun x hx => by unfold exW at hx; simp at hx; omega
theorem RdV_blk {w : World} {b : Nat} {t : TypeId} {vs : List Value} (h : Blk w b t vs.toArray) : RdV w (some ⟨b, 0, none⟩) vs := fun i v hv => ⟨b, 0, rfl, h.lt, by
  rw [Nat.zero_add]
  exact h.cell i (by simpa using hv)⟩
theorem own_zero {w : World} {e : TypeId} {a : Option Addr} {n c : Nat} {xs : List Value} (h : w.ownsRow 0 e 1 (.slice a n c) n xs) : a = none → c = 0 := by
  obtain ⟨a', c', hv, _, hn⟩ := own_shape h
  injection hv with h1 h2 h3
  subst h1 h3
  exact hn
set_option maxRecDepth 100000 in
set_option maxHeartbeats 16000000 in
theorem alive_c (w : World) (hT : Tabs w) :
    Calls Tryd.prog 8 #[] w fun e w' => e = .returned (.bool true) ∧ Frm [] w w' := by
  have HT := Lib.hid (fun X (hX : Frm [] w X) => hT.frm hX (by simp))
  clear hT
  have HOf : Hid (Calls Tryd.prog 27 #[.slice (some ⟨w.heap.size, 0, none⟩) 2 2] (w.alloc (.cells #[.int .i64 0, .int .i64 2] 3)) fun e w' => e = .returned (.agg #[.int .u64 11529215046068469760, .int .u64 0]) ∧ Frm [] (w.alloc (.cells #[.int .i64 0, .int .i64 2] 3)) w') := Lib.hid (by
    have h := of_c (some ⟨w.heap.size, 0, none⟩) 2 [0, 2] (w.alloc (.cells #[.int .i64 0, .int .i64 2] 3)) (RdV_blk (vs := [.int .i64 0, .int .i64 2]) (Blk.made _ _ _)) (by decide) (by decide)
    rw [ex_ofH, ex_ofL] at h
    exact h)
  go_enter Tryd.func8, Tryd.ntmps8
  go_wp2_with fail
  refine HOf.out.mono ?_
  rintro e w1 ⟨rfl, hf⟩
  have HF1 := Lib.hid (((Frm.refl [] w).alloc _).trans hf)
  clear hf HOf
  go_upto_region 2 with fail
  obtain ⟨w2, hw2⟩ : ∃ w2, w2 = w1.alloc (.cells #[.int .u8 0, .int .u8 0, .int .u8 0, .int .u8 0, .int .u8 0, .int .u8 0, .int .u8 0, .int .u8 0, .int .u16 5, .int .u64 11529215046068469760, .int .u64 0, .bool false, .int .i64 0, .int .i64 0, .slice none 0 0] 31) := ⟨_, rfl⟩
  obtain ⟨p, hp⟩ : ∃ p, p = w1.heap.size := ⟨_, rfl⟩
  have HS1 := Lib.hid (show Sep [] w w2 [blkR p 31 #[.int .u8 0, .int .u8 0, .int .u8 0, .int .u8 0, .int .u8 0, .int .u8 0, .int .u8 0, .int .u8 0, .int .u16 5, .int .u64 11529215046068469760, .int .u64 0, .bool false, .int .i64 0, .int .i64 0, .slice none 0 0]] from by rw [hw2, hp]; exact (((Sep.init w).keep HF1.out).alloc #[.int .u8 0, .int .u8 0, .int .u8 0, .int .u8 0, .int .u8 0, .int .u8 0, .int .u8 0, .int .u8 0, .int .u16 5, .int .u64 11529215046068469760, .int .u64 0, .bool false, .int .i64 0, .int .i64 0, .slice none 0 0] 31))
  rw [← hw2, ← hp]
  clear hw2 hp HF1
  go_cut [2, 3] (fun u e wx => ∃ a c, u = .slice a 12 c ∧ e = .int .i64 0 ∧ Sep [] w2 wx [sumR (.slice a 12 c) exW])
  case first => as_aux_lemma =>
    have k0 := (HS1.out.blk 0 rfl).cell 0 rfl
    have k1 := (HS1.out.blk 0 rfl).cell 1 rfl
    have k2 := (HS1.out.blk 0 rfl).cell 2 rfl
    have k3 := (HS1.out.blk 0 rfl).cell 3 rfl
    have k4 := (HS1.out.blk 0 rfl).cell 4 rfl
    have k5 := (HS1.out.blk 0 rfl).cell 5 rfl
    have k6 := (HS1.out.blk 0 rfl).cell 6 rfl
    have k7 := (HS1.out.blk 0 rfl).cell 7 rfl
    have k8 := (HS1.out.blk 0 rfl).cell 8 rfl
    have k9 := (HS1.out.blk 0 rfl).cell 9 rfl
    have k10 := (HS1.out.blk 0 rfl).cell 10 rfl
    have k11 := (HS1.out.blk 0 rfl).cell 11 rfl
    have k12 := (HS1.out.blk 0 rfl).cell 12 rfl
    have k13 := (HS1.out.blk 0 rfl).cell 13 rfl
    have k14 := (HS1.out.blk 0 rfl).cell 14 rfl
    have HW : Hid (Calls Tryd.prog 15 #[.agg #[.int .u8 0, .int .u8 0, .int .u8 0, .int .u8 0, .int .u8 0, .int .u8 0, .int .u8 0, .int .u8 0, .int .u16 5, .int .u64 11529215046068469760, .int .u64 0, .bool false, .int .i64 0, .int .i64 0, .slice none 0 0]] w2 (WrP w2 exW 0)) := Lib.hid (by
      have h := write_c exP none 0 w2 exP_ok (RdI.nil _ _ _) (fun _ => rfl) (HT.out _ HS1.out.frm) (by decide)
      rw [exP_o, exP_e] at h
      exact h)
    go_wp2_with fail
    clear k0 k1 k2 k3 k4 k5 k6 k7 k8 k9 k10 k11 k12 k13 k14
    refine HW.out.mono ?_
    rintro e w3 ⟨v3, rfl, hS⟩
    obtain ⟨a3, c3, rfl, _⟩ := own_shape (hS.own 0 rfl)
    have HS := Lib.hid hS
    clear hS HW
    simp only [exW, List.length_cons, List.length_nil, Nat.zero_add, Nat.reduceAdd]
    go_wp2_with fail
    go_meet
    exact ⟨a3, c3, rfl, rfl, HS.out⟩
  obtain ⟨a3, c3, rfl, rfl, hS⟩ := hcut
  obtain ⟨w3, rfl⟩ : ∃ w3, w3 = wc := ⟨_, rfl⟩
  obtain ⟨a', c', hv, hl3, rd3⟩ := RdI.of_own (k := .u8) (hS.own 0 rfl)
  have hz3 := own_zero (hS.own 0 rfl)
  have hm3 : c3 ≤ 9223372036854775807 := by
    rcases (hS.own 0 rfl).2 with ⟨h1, _⟩ | ⟨g, cp, cur, h1, h2, h3, h4, h5, _⟩
    · injection h1 with h1 _ h3; subst h3; decide
    · injection h1 with h1 _ h3; subst h3; unfold maxLen at *; omega
  obtain ⟨e1, e2⟩ : a3 = a' ∧ c3 = c' := by
    injection hv with h1 _ h3
    exact ⟨h1, h3⟩
  subst e1 e2
  have HR3 := Lib.hid rd3
  have H3 := Lib.hid (And.intro hz3 (And.intro hm3 (show exW.length ≤ c3 from hl3)))
  have HS2 := Lib.hid (show Sep [] w w3 [sumR (.slice a3 12 c3) exW, blkR p 31 #[.int .u8 0, .int .u8 0, .int .u8 0, .int .u8 0, .int .u8 0, .int .u8 0, .int .u8 0, .int .u8 0, .int .u16 5, .int .u64 11529215046068469760, .int .u64 0, .bool false, .int .i64 0, .int .i64 0, .slice none 0 0]] from (HS1.out.more hS))
  clear hS hv hz3 hm3 hl3 rd3
  go_upto_region 3 with fail
  go_cut [4, 5] (fun u e wx => ∃ g a c, u = .pointer (some ⟨g, 0, none⟩) ∧ e = .int .i64 0 ∧ Sep [] w3 wx [blkR g 31 #[.int .u8 0, .int .u8 0, .int .u8 0, .int .u8 0, .int .u8 0, .int .u8 0, .int .u8 0, .int .u8 0, .int .u16 5, .int .u64 11529215046068469760, .int .u64 0, .bool false, .int .i64 0, .int .i64 0, .slice a 0 c], sumR (.slice a 0 c) []])
  case first => as_aux_lemma =>
    have HC : Hid (Calls Tryd.prog 10 #[.slice a3 12 c3] w3 (ParseP w3 exP 0)) := Lib.hid (by
      have h := Parse_c (c := c3) HR3.out exW_byt H3.out.2.2 H3.out.2.1 H3.out.1
      rw [exW_x, exW_e] at h
      exact h)
    go_wp2_with fail
    refine HC.out.mono ?_
    intro e wx hx
    obtain ⟨va, vn, vc, rfl, hS⟩ := hx
    obtain rfl : vn = 0 := by
      obtain ⟨_, _, hv, _⟩ := own_shape (hS.own 0 rfl)
      injection hv
    have HS := Lib.hid (show Sep [] w3 wx [sumR (.slice va 0 vc) []] from hS)
    clear hS HC
    simp only [Fx.val, Fx.cells, exP]
    go_wp2_with fail
    go_meet
    exact ⟨_, va, vc, rfl, rfl, HS.out.alloc #[.int .u8 0, .int .u8 0, .int .u8 0, .int .u8 0, .int .u8 0, .int .u8 0, .int .u8 0, .int .u8 0, .int .u16 5, .int .u64 11529215046068469760, .int .u64 0, .bool false, .int .i64 0, .int .i64 0, .slice va 0 vc] 31⟩
  obtain ⟨q, va, vc, rfl, rfl, hS⟩ := hcut
  obtain ⟨w5, rfl⟩ : ∃ x, x = wc := ⟨_, rfl⟩
  have HS3 := Lib.hid (show Sep [] w w5 [blkR q 31 #[.int .u8 0, .int .u8 0, .int .u8 0, .int .u8 0, .int .u8 0, .int .u8 0, .int .u8 0, .int .u8 0, .int .u16 5, .int .u64 11529215046068469760, .int .u64 0, .bool false, .int .i64 0, .int .i64 0, .slice va 0 vc], sumR (.slice va 0 vc) [], sumR (.slice a3 12 c3) exW, blkR p 31 #[.int .u8 0, .int .u8 0, .int .u8 0, .int .u8 0, .int .u8 0, .int .u8 0, .int .u8 0, .int .u8 0, .int .u16 5, .int .u64 11529215046068469760, .int .u64 0, .bool false, .int .i64 0, .int .i64 0, .slice none 0 0]] from (HS2.out.more hS))
  clear hS
  go_upto_region 4 with fail
  go_cut [6, 7] (fun u e wx => ∃ g a c, u = .pointer (some ⟨g, 0, none⟩) ∧ e = .int .i64 21 ∧ Sep [] w5 wx [blkR g 31 #[.int .u8 0, .int .u8 0, .int .u8 0, .int .u8 0, .int .u8 0, .int .u8 0, .int .u8 0, .int .u8 0, .int .u16 0, .int .u64 0, .int .u64 0, .bool false, .int .i64 0, .int .i64 0, .slice a 0 c], sumR (.slice a 0 c) []])
  case first => as_aux_lemma =>
    have HC : Hid (Calls Tryd.prog 10 #[.slice (some ⟨w5.heap.size, 0, none⟩) 1 1] (w5.alloc (.cells #[.int .u8 128] 5)) (ParseP (w5.alloc (.cells #[.int .u8 128] 5)) Fx.none 21)) := Lib.hid (by
      have h := Parse_c (c := 1) (zs := [128]) (RdI.of_blk (zs := [128]) (Blk.made w5 5 #[.int .u8 128]) rfl) (fun x hx => by simp at hx; omega) (by decide) (by decide) (fun h => by cases h)
      rw [exE_x, exE_e] at h
      exact h)
    go_wp2_with fail
    refine HC.out.mono ?_
    intro e wx hx
    obtain ⟨va, vn, vc, rfl, hS⟩ := hx
    obtain rfl : vn = 0 := by
      obtain ⟨_, _, hv, _⟩ := own_shape (hS.own 0 rfl)
      injection hv
    have HS := Lib.hid (show Sep [] w5 wx [sumR (.slice va 0 vc) []] from ((Sep.init w5).skip _).more hS)
    clear hS HC
    simp only [Fx.val, Fx.cells, Fx.none]
    go_wp2_with fail
    go_meet
    exact ⟨_, va, vc, rfl, rfl, HS.out.alloc #[.int .u8 0, .int .u8 0, .int .u8 0, .int .u8 0, .int .u8 0, .int .u8 0, .int .u8 0, .int .u8 0, .int .u16 0, .int .u64 0, .int .u64 0, .bool false, .int .i64 0, .int .i64 0, .slice va 0 vc] 31⟩
  obtain ⟨pe, vae, vce, rfl, rfl, hS⟩ := hcut
  obtain ⟨w7, rfl⟩ : ∃ x, x = wc := ⟨_, rfl⟩
  have HS4 := Lib.hid (show Sep [] w w7 [blkR pe 31 #[.int .u8 0, .int .u8 0, .int .u8 0, .int .u8 0, .int .u8 0, .int .u8 0, .int .u8 0, .int .u8 0, .int .u16 0, .int .u64 0, .int .u64 0, .bool false, .int .i64 0, .int .i64 0, .slice vae 0 vce], sumR (.slice vae 0 vce) [], blkR q 31 #[.int .u8 0, .int .u8 0, .int .u8 0, .int .u8 0, .int .u8 0, .int .u8 0, .int .u8 0, .int .u8 0, .int .u16 5, .int .u64 11529215046068469760, .int .u64 0, .bool false, .int .i64 0, .int .i64 0, .slice va 0 vc], sumR (.slice va 0 vc) [], sumR (.slice a3 12 c3) exW, blkR p 31 #[.int .u8 0, .int .u8 0, .int .u8 0, .int .u8 0, .int .u8 0, .int .u8 0, .int .u8 0, .int .u8 0, .int .u16 5, .int .u64 11529215046068469760, .int .u64 0, .bool false, .int .i64 0, .int .i64 0, .slice none 0 0]] from (HS3.out.more hS))
  clear hS
  go_upto_region 5 with fail
  go_cut [8, 9] (fun u e wx => e = .int .i64 30 ∧ Frm [] w7 wx)
  case first => as_aux_lemma =>
    have HW : Hid (Calls Tryd.prog 15 #[.agg #[.int .u8 0, .int .u8 0, .int .u8 0, .int .u8 0, .int .u8 0, .int .u8 0, .int .u8 0, .int .u8 0, .int .u16 0, .int .u64 0, .int .u64 0, .bool false, .int .i64 0, .int .i64 0, .slice none 0 0]] w7 (WrP w7 [] 30)) := Lib.hid (by
      have h := write_c Fx.none none 0 w7 exN_ok (RdI.nil _ _ _) (fun _ => rfl) (HT.out _ HS4.out.frm) (by decide)
      rw [exN_o, exN_e] at h
      exact h)
    go_wp2_with fail
    refine HW.out.mono ?_
    rintro e w8 ⟨v8, rfl, hS⟩
    have HF := Lib.hid hS.frm
    clear hS
    go_wp2_with fail
    go_meet
    exact ⟨rfl, HF.out⟩
  obtain ⟨rfl, hf⟩ := hcut
  obtain ⟨w8, rfl⟩ : ∃ x, x = wc := ⟨_, rfl⟩
  have HS5 := Lib.hid (show Sep [] w w8 [blkR pe 31 #[.int .u8 0, .int .u8 0, .int .u8 0, .int .u8 0, .int .u8 0, .int .u8 0, .int .u8 0, .int .u8 0, .int .u16 0, .int .u64 0, .int .u64 0, .bool false, .int .i64 0, .int .i64 0, .slice vae 0 vce], sumR (.slice vae 0 vce) [], blkR q 31 #[.int .u8 0, .int .u8 0, .int .u8 0, .int .u8 0, .int .u8 0, .int .u8 0, .int .u8 0, .int .u8 0, .int .u16 5, .int .u64 11529215046068469760, .int .u64 0, .bool false, .int .i64 0, .int .i64 0, .slice va 0 vc], sumR (.slice va 0 vc) [], sumR (.slice a3 12 c3) exW, blkR p 31 #[.int .u8 0, .int .u8 0, .int .u8 0, .int .u8 0, .int .u8 0, .int .u8 0, .int .u8 0, .int .u8 0, .int .u16 5, .int .u64 11529215046068469760, .int .u64 0, .bool false, .int .i64 0, .int .i64 0, .slice none 0 0]] from (HS4.out.keep hf))
  clear hf
  go_upto_region 6 with fail
  go_cut [10, 11] (fun u e wx => ∃ g a c, u = .pointer (some ⟨g, 0, none⟩) ∧ e = .int .i64 0 ∧ Sep [] w8 wx [blkR g 48 #[.int .u8 0, .int .u8 0, .int .u8 0, .int .u8 0, .int .u8 0, .int .u8 0, .int .u8 0, .int .u8 0, .int .u16 5, .int .u64 11529215046068469760, .int .u64 0, .slice a 0 c], sumR (.slice a 0 c) []])
  case first => as_aux_lemma =>
    have k0 := (HS5.out.blk 2 rfl).cell 0 rfl
    have k1 := (HS5.out.blk 2 rfl).cell 1 rfl
    have k2 := (HS5.out.blk 2 rfl).cell 2 rfl
    have k3 := (HS5.out.blk 2 rfl).cell 3 rfl
    have k4 := (HS5.out.blk 2 rfl).cell 4 rfl
    have k5 := (HS5.out.blk 2 rfl).cell 5 rfl
    have k6 := (HS5.out.blk 2 rfl).cell 6 rfl
    have k7 := (HS5.out.blk 2 rfl).cell 7 rfl
    have k8 := (HS5.out.blk 2 rfl).cell 8 rfl
    have k9 := (HS5.out.blk 2 rfl).cell 9 rfl
    have k10 := (HS5.out.blk 2 rfl).cell 10 rfl
    have k11 := (HS5.out.blk 2 rfl).cell 11 rfl
    have k12 := (HS5.out.blk 2 rfl).cell 12 rfl
    have k13 := (HS5.out.blk 2 rfl).cell 13 rfl
    have k14 := (HS5.out.blk 2 rfl).cell 14 rfl
    have HC : Hid (Calls Tryd.prog 17 #[.agg #[.int .u8 0, .int .u8 0, .int .u8 0, .int .u8 0, .int .u8 0, .int .u8 0, .int .u8 0, .int .u8 0, .int .u16 5, .int .u64 11529215046068469760, .int .u64 0, .bool false, .int .i64 0, .int .i64 0, .slice va 0 vc]] w8 (FlatP w8 exR 0)) := Lib.hid (by
      have h := fflat_c exP va vc w8 exP_ok (RdI.nil _ _ _) (own_zero (HS5.out.own 3 rfl)) (HT.out _ HS5.out.frm) (by decide)
      rw [exP_f, exP_fe] at h
      exact h)
    go_wp2_with fail
    refine HC.out.mono ?_
    intro e wx hx
    obtain ⟨va, vn, vc, rfl, hS⟩ := hx
    obtain rfl : vn = 0 := by
      obtain ⟨_, _, hv, _⟩ := own_shape (hS.own 0 rfl)
      injection hv
    have HS := Lib.hid (show Sep [] w8 wx [sumR (.slice va 0 vc) []] from hS)
    clear hS HC
    simp only [Rp.val, Rp.cells, exR]
    go_wp2_with fail
    go_meet
    exact ⟨_, va, vc, rfl, rfl, HS.out.alloc #[.int .u8 0, .int .u8 0, .int .u8 0, .int .u8 0, .int .u8 0, .int .u8 0, .int .u8 0, .int .u8 0, .int .u16 5, .int .u64 11529215046068469760, .int .u64 0, .slice va 0 vc] 48⟩
  obtain ⟨r, vaf, vcf, rfl, rfl, hS⟩ := hcut
  obtain ⟨w10, rfl⟩ : ∃ x, x = wc := ⟨_, rfl⟩
  have HS6 := Lib.hid (show Sep [] w w10 [blkR r 48 #[.int .u8 0, .int .u8 0, .int .u8 0, .int .u8 0, .int .u8 0, .int .u8 0, .int .u8 0, .int .u8 0, .int .u16 5, .int .u64 11529215046068469760, .int .u64 0, .slice vaf 0 vcf], sumR (.slice vaf 0 vcf) [], blkR pe 31 #[.int .u8 0, .int .u8 0, .int .u8 0, .int .u8 0, .int .u8 0, .int .u8 0, .int .u8 0, .int .u8 0, .int .u16 0, .int .u64 0, .int .u64 0, .bool false, .int .i64 0, .int .i64 0, .slice vae 0 vce], sumR (.slice vae 0 vce) [], blkR q 31 #[.int .u8 0, .int .u8 0, .int .u8 0, .int .u8 0, .int .u8 0, .int .u8 0, .int .u8 0, .int .u8 0, .int .u16 5, .int .u64 11529215046068469760, .int .u64 0, .bool false, .int .i64 0, .int .i64 0, .slice va 0 vc], sumR (.slice va 0 vc) [], sumR (.slice a3 12 c3) exW, blkR p 31 #[.int .u8 0, .int .u8 0, .int .u8 0, .int .u8 0, .int .u8 0, .int .u8 0, .int .u8 0, .int .u8 0, .int .u16 5, .int .u64 11529215046068469760, .int .u64 0, .bool false, .int .i64 0, .int .i64 0, .slice none 0 0]] from (HS5.out.more hS))
  clear hS
  go_upto_region 7 with fail
  go_cut [12, 13] (fun u e wx => ∃ g a c, u = .pointer (some ⟨g, 0, none⟩) ∧ e = .int .i64 0 ∧ Sep [] w10 wx [blkR g 31 #[.int .u8 0, .int .u8 0, .int .u8 0, .int .u8 0, .int .u8 0, .int .u8 0, .int .u8 0, .int .u8 0, .int .u16 5, .int .u64 11529215046068469760, .int .u64 0, .bool false, .int .i64 0, .int .i64 0, .slice a 0 c], sumR (.slice a 0 c) []])
  case first => as_aux_lemma =>
    have k0 := (HS6.out.blk 0 rfl).cell 0 rfl
    have k1 := (HS6.out.blk 0 rfl).cell 1 rfl
    have k2 := (HS6.out.blk 0 rfl).cell 2 rfl
    have k3 := (HS6.out.blk 0 rfl).cell 3 rfl
    have k4 := (HS6.out.blk 0 rfl).cell 4 rfl
    have k5 := (HS6.out.blk 0 rfl).cell 5 rfl
    have k6 := (HS6.out.blk 0 rfl).cell 6 rfl
    have k7 := (HS6.out.blk 0 rfl).cell 7 rfl
    have k8 := (HS6.out.blk 0 rfl).cell 8 rfl
    have k9 := (HS6.out.blk 0 rfl).cell 9 rfl
    have k10 := (HS6.out.blk 0 rfl).cell 10 rfl
    have k11 := (HS6.out.blk 0 rfl).cell 11 rfl
    have HC : Hid (Calls Tryd.prog 21 #[.agg #[.int .u8 0, .int .u8 0, .int .u8 0, .int .u8 0, .int .u8 0, .int .u8 0, .int .u8 0, .int .u8 0, .int .u16 5, .int .u64 11529215046068469760, .int .u64 0, .slice vaf 0 vcf]] w10 (ParseP w10 exP 0)) := Lib.hid (by
      have h := fof_c exR vaf vcf w10 exR_ok (RdI.nil _ _ _) (own_zero (HS6.out.own 1 rfl)) (HT.out _ HS6.out.frm) (by decide)
      rw [exR_x, exR_e] at h
      exact h)
    go_wp2_with fail
    refine HC.out.mono ?_
    intro e wx hx
    obtain ⟨va, vn, vc, rfl, hS⟩ := hx
    obtain rfl : vn = 0 := by
      obtain ⟨_, _, hv, _⟩ := own_shape (hS.own 0 rfl)
      injection hv
    have HS := Lib.hid (show Sep [] w10 wx [sumR (.slice va 0 vc) []] from hS)
    clear hS HC
    simp only [Fx.val, Fx.cells, exP]
    go_wp2_with fail
    go_meet
    exact ⟨_, va, vc, rfl, rfl, HS.out.alloc #[.int .u8 0, .int .u8 0, .int .u8 0, .int .u8 0, .int .u8 0, .int .u8 0, .int .u8 0, .int .u8 0, .int .u16 5, .int .u64 11529215046068469760, .int .u64 0, .bool false, .int .i64 0, .int .i64 0, .slice va 0 vc] 31⟩
  obtain ⟨s, vas, vcs, rfl, rfl, hS⟩ := hcut
  obtain ⟨w12, rfl⟩ : ∃ x, x = wc := ⟨_, rfl⟩
  have HS7 := Lib.hid (show Sep [] w w12 [blkR s 31 #[.int .u8 0, .int .u8 0, .int .u8 0, .int .u8 0, .int .u8 0, .int .u8 0, .int .u8 0, .int .u8 0, .int .u16 5, .int .u64 11529215046068469760, .int .u64 0, .bool false, .int .i64 0, .int .i64 0, .slice vas 0 vcs], sumR (.slice vas 0 vcs) [], blkR r 48 #[.int .u8 0, .int .u8 0, .int .u8 0, .int .u8 0, .int .u8 0, .int .u8 0, .int .u8 0, .int .u8 0, .int .u16 5, .int .u64 11529215046068469760, .int .u64 0, .slice vaf 0 vcf], sumR (.slice vaf 0 vcf) [], blkR pe 31 #[.int .u8 0, .int .u8 0, .int .u8 0, .int .u8 0, .int .u8 0, .int .u8 0, .int .u8 0, .int .u8 0, .int .u16 0, .int .u64 0, .int .u64 0, .bool false, .int .i64 0, .int .i64 0, .slice vae 0 vce], sumR (.slice vae 0 vce) [], blkR q 31 #[.int .u8 0, .int .u8 0, .int .u8 0, .int .u8 0, .int .u8 0, .int .u8 0, .int .u8 0, .int .u8 0, .int .u16 5, .int .u64 11529215046068469760, .int .u64 0, .bool false, .int .i64 0, .int .i64 0, .slice va 0 vc], sumR (.slice va 0 vc) [], sumR (.slice a3 12 c3) exW, blkR p 31 #[.int .u8 0, .int .u8 0, .int .u8 0, .int .u8 0, .int .u8 0, .int .u8 0, .int .u8 0, .int .u8 0, .int .u16 5, .int .u64 11529215046068469760, .int .u64 0, .bool false, .int .i64 0, .int .i64 0, .slice none 0 0]] from (HS6.out.more hS))
  clear hS
  go_upto_region 8 with fail
  go_cut [14, 15] (fun u e wx => ∃ g a c, u = .pointer (some ⟨g, 0, none⟩) ∧ e = .int .i64 30 ∧ Sep [] w12 wx [blkR g 48 #[.int .u8 0, .int .u8 0, .int .u8 0, .int .u8 0, .int .u8 0, .int .u8 0, .int .u8 0, .int .u8 0, .int .u16 0, .int .u64 0, .int .u64 0, .slice a 0 c], sumR (.slice a 0 c) []])
  case first => as_aux_lemma =>
    have HC : Hid (Calls Tryd.prog 17 #[.agg #[.int .u8 0, .int .u8 0, .int .u8 0, .int .u8 0, .int .u8 0, .int .u8 0, .int .u8 0, .int .u8 0, .int .u16 0, .int .u64 0, .int .u64 0, .bool true, .int .i64 2, .int .i64 0, .slice none 0 0]] w12 (FlatP w12 Rp.none 30)) := Lib.hid (by
      have h := fflat_c exF none 0 w12 exF_ok (RdI.nil _ _ _) (fun _ => rfl) (HT.out _ HS7.out.frm) (by decide)
      rw [exF_x, exF_e] at h
      exact h)
    go_wp2_with fail
    refine HC.out.mono ?_
    intro e wx hx
    obtain ⟨va, vn, vc, rfl, hS⟩ := hx
    obtain rfl : vn = 0 := by
      obtain ⟨_, _, hv, _⟩ := own_shape (hS.own 0 rfl)
      injection hv
    have HS := Lib.hid (show Sep [] w12 wx [sumR (.slice va 0 vc) []] from hS)
    clear hS HC
    simp only [Rp.val, Rp.cells, Rp.none]
    go_wp2_with fail
    go_meet
    exact ⟨_, va, vc, rfl, rfl, HS.out.alloc #[.int .u8 0, .int .u8 0, .int .u8 0, .int .u8 0, .int .u8 0, .int .u8 0, .int .u8 0, .int .u8 0, .int .u16 0, .int .u64 0, .int .u64 0, .slice va 0 vc] 48⟩
  obtain ⟨rg, vag, vcg, rfl, rfl, hS⟩ := hcut
  obtain ⟨w14, rfl⟩ : ∃ x, x = wc := ⟨_, rfl⟩
  have HS8 := Lib.hid (show Sep [] w w14 [blkR rg 48 #[.int .u8 0, .int .u8 0, .int .u8 0, .int .u8 0, .int .u8 0, .int .u8 0, .int .u8 0, .int .u8 0, .int .u16 0, .int .u64 0, .int .u64 0, .slice vag 0 vcg], sumR (.slice vag 0 vcg) [], blkR s 31 #[.int .u8 0, .int .u8 0, .int .u8 0, .int .u8 0, .int .u8 0, .int .u8 0, .int .u8 0, .int .u8 0, .int .u16 5, .int .u64 11529215046068469760, .int .u64 0, .bool false, .int .i64 0, .int .i64 0, .slice vas 0 vcs], sumR (.slice vas 0 vcs) [], blkR r 48 #[.int .u8 0, .int .u8 0, .int .u8 0, .int .u8 0, .int .u8 0, .int .u8 0, .int .u8 0, .int .u8 0, .int .u16 5, .int .u64 11529215046068469760, .int .u64 0, .slice vaf 0 vcf], sumR (.slice vaf 0 vcf) [], blkR pe 31 #[.int .u8 0, .int .u8 0, .int .u8 0, .int .u8 0, .int .u8 0, .int .u8 0, .int .u8 0, .int .u8 0, .int .u16 0, .int .u64 0, .int .u64 0, .bool false, .int .i64 0, .int .i64 0, .slice vae 0 vce], sumR (.slice vae 0 vce) [], blkR q 31 #[.int .u8 0, .int .u8 0, .int .u8 0, .int .u8 0, .int .u8 0, .int .u8 0, .int .u8 0, .int .u8 0, .int .u16 5, .int .u64 11529215046068469760, .int .u64 0, .bool false, .int .i64 0, .int .i64 0, .slice va 0 vc], sumR (.slice va 0 vc) [], sumR (.slice a3 12 c3) exW, blkR p 31 #[.int .u8 0, .int .u8 0, .int .u8 0, .int .u8 0, .int .u8 0, .int .u8 0, .int .u8 0, .int .u8 0, .int .u16 5, .int .u64 11529215046068469760, .int .u64 0, .bool false, .int .i64 0, .int .i64 0, .slice none 0 0]] from (HS7.out.more hS))
  clear hS
  go_upto_region 9 with fail
  have HGr : Hid (Calls Tryd.prog 24 #[.int .u16 65535, .int .i64 2, .int .i64 3] w14 fun e w' => ∃ v, e = .returned v ∧ Sep [] w14 w' [nuR v [65535, 1, 3]]) := Lib.hid (by
    have h := fgrid_c 65535 2 3 w14 (by decide) (by decide)
    rw [exG1] at h
    exact h)
  go_wp2_with fail
  refine HGr.out.mono ?_
  rintro e w15 ⟨v15, rfl, hS⟩
  as_aux_lemma =>
    obtain ⟨a15, c15, rfl, hl15, rd15⟩ := RdI.of_own (hS.own 0 rfl)
    obtain ⟨b15, f15, rfl, hb15, x1⟩ := rd15 1 1 rfl
    obtain ⟨b', f', ha, _, x2⟩ := rd15 2 3 rfl
    obtain ⟨e1, e2⟩ : b15 = b' ∧ f15 = f' := by
      injection ha with ha
      injection ha with e1 e2
      exact ⟨e1, e2⟩
    subst e1 e2
    have HX := Lib.hid (fun X (hX : Frm [] w15 X) => And.intro ((hX.cell hb15 (by simp)).trans x1) ((hX.cell hb15 (by simp)).trans x2))
    have hc15 : 3 ≤ c15 := hl15
    have HS9 := Lib.hid (show Sep [] w w15 [blkR rg 48 #[.int .u8 0, .int .u8 0, .int .u8 0, .int .u8 0, .int .u8 0, .int .u8 0, .int .u8 0, .int .u8 0, .int .u16 0, .int .u64 0, .int .u64 0, .slice vag 0 vcg], sumR (.slice vag 0 vcg) [], blkR s 31 #[.int .u8 0, .int .u8 0, .int .u8 0, .int .u8 0, .int .u8 0, .int .u8 0, .int .u8 0, .int .u8 0, .int .u16 5, .int .u64 11529215046068469760, .int .u64 0, .bool false, .int .i64 0, .int .i64 0, .slice vas 0 vcs], sumR (.slice vas 0 vcs) [], blkR r 48 #[.int .u8 0, .int .u8 0, .int .u8 0, .int .u8 0, .int .u8 0, .int .u8 0, .int .u8 0, .int .u8 0, .int .u16 5, .int .u64 11529215046068469760, .int .u64 0, .slice vaf 0 vcf], sumR (.slice vaf 0 vcf) [], blkR pe 31 #[.int .u8 0, .int .u8 0, .int .u8 0, .int .u8 0, .int .u8 0, .int .u8 0, .int .u8 0, .int .u8 0, .int .u16 0, .int .u64 0, .int .u64 0, .bool false, .int .i64 0, .int .i64 0, .slice vae 0 vce], sumR (.slice vae 0 vce) [], blkR q 31 #[.int .u8 0, .int .u8 0, .int .u8 0, .int .u8 0, .int .u8 0, .int .u8 0, .int .u8 0, .int .u8 0, .int .u16 5, .int .u64 11529215046068469760, .int .u64 0, .bool false, .int .i64 0, .int .i64 0, .slice va 0 vc], sumR (.slice va 0 vc) [], sumR (.slice a3 12 c3) exW, blkR p 31 #[.int .u8 0, .int .u8 0, .int .u8 0, .int .u8 0, .int .u8 0, .int .u8 0, .int .u8 0, .int .u8 0, .int .u16 5, .int .u64 11529215046068469760, .int .u64 0, .bool false, .int .i64 0, .int .i64 0, .slice none 0 0]] from (HS8.out.keep hS.frm))
    clear hS ha x1 x2 rd15 HGr hb15 hl15
    simp only [List.length_cons, List.length_nil, Nat.zero_add, Nat.reduceAdd]
    have k0 := (HS9.out.blk 11 rfl).cell 0 rfl
    have k1 := (HS9.out.blk 11 rfl).cell 1 rfl
    have k2 := (HS9.out.blk 11 rfl).cell 2 rfl
    have k3 := (HS9.out.blk 11 rfl).cell 3 rfl
    have k4 := (HS9.out.blk 11 rfl).cell 4 rfl
    have k5 := (HS9.out.blk 11 rfl).cell 5 rfl
    have k6 := (HS9.out.blk 11 rfl).cell 6 rfl
    have k7 := (HS9.out.blk 11 rfl).cell 7 rfl
    have k8 := (HS9.out.blk 11 rfl).cell 8 rfl
    have k9 := (HS9.out.blk 11 rfl).cell 9 rfl
    have k10 := (HS9.out.blk 11 rfl).cell 10 rfl
    have k11 := (HS9.out.blk 11 rfl).cell 11 rfl
    have k12 := (HS9.out.blk 11 rfl).cell 12 rfl
    have k13 := (HS9.out.blk 11 rfl).cell 13 rfl
    have k14 := (HS9.out.blk 11 rfl).cell 14 rfl
    have j0 := (HS9.out.blk 8 rfl).cell 0 rfl
    have j1 := (HS9.out.blk 8 rfl).cell 1 rfl
    have j2 := (HS9.out.blk 8 rfl).cell 2 rfl
    have j3 := (HS9.out.blk 8 rfl).cell 3 rfl
    have j4 := (HS9.out.blk 8 rfl).cell 4 rfl
    have j5 := (HS9.out.blk 8 rfl).cell 5 rfl
    have j6 := (HS9.out.blk 8 rfl).cell 6 rfl
    have j7 := (HS9.out.blk 8 rfl).cell 7 rfl
    have j8 := (HS9.out.blk 8 rfl).cell 8 rfl
    have j9 := (HS9.out.blk 8 rfl).cell 9 rfl
    have j10 := (HS9.out.blk 8 rfl).cell 10 rfl
    have j11 := (HS9.out.blk 8 rfl).cell 11 rfl
    have j12 := (HS9.out.blk 8 rfl).cell 12 rfl
    have j13 := (HS9.out.blk 8 rfl).cell 13 rfl
    have j14 := (HS9.out.blk 8 rfl).cell 14 rfl
    have s1 : (convert 22 9 (.slice a3 12 c3)).run Tryd.prog w15 = .ok (.string ⟨#[0, 0, 0, 0, 0, 0, 0, 0, 0, 5, 208, 0]⟩) w15 := by
      have hr : RdI .u8 w15 a3 exW := by
        obtain ⟨_, _, hv, _, hr⟩ := RdI.of_own (k := .u8) (HS9.out.own 10 rfl)
        injection hv with h1 _ _
        subst h1
        exact hr
      have h := str_rd (c := c3) hr
      rw [show strOfNums exW = ⟨#[0, 0, 0, 0, 0, 0, 0, 0, 0, 5, 208, 0]⟩ from by kernel_rfl] at h
      exact h
    have HSm : Hid (Calls Tryd.prog 20 #[.agg #[.int .u8 0, .int .u8 0, .int .u8 0, .int .u8 0, .int .u8 0, .int .u8 0, .int .u8 0, .int .u8 0, .int .u16 5, .int .u64 11529215046068469760, .int .u64 0, .bool false, .int .i64 0, .int .i64 0, .slice none 0 0], .agg #[.int .u8 0, .int .u8 0, .int .u8 0, .int .u8 0, .int .u8 0, .int .u8 0, .int .u8 0, .int .u8 0, .int .u16 5, .int .u64 11529215046068469760, .int .u64 0, .bool false, .int .i64 0, .int .i64 0, .slice va 0 vc]] w15 fun e w' => e = .returned (.bool true) ∧ Frm [] w15 w') := Lib.hid (by
      have h := same_c exP exP none va 0 vc w15 exP_ok exP_ok (RdI.nil _ _ _) (RdI.nil _ _ _) (by decide) (by decide)
      rw [exS] at h
      exact h)
    go_wp2_with fail
    clear s1 k0 k1 k2 k3 k4 k5 k6 k7 k8 k9 k10 k11 k12 k13 k14 j0 j1 j2 j3 j4 j5 j6 j7 j8 j9 j10 j11 j12 j13 j14
    refine HSm.out.mono ?_
    rintro e w16 ⟨rfl, hf⟩
    as_aux_lemma =>
      have HF16 := Lib.hid hf
      have HS10 := Lib.hid (show Sep [] w w16 [blkR rg 48 #[.int .u8 0, .int .u8 0, .int .u8 0, .int .u8 0, .int .u8 0, .int .u8 0, .int .u8 0, .int .u8 0, .int .u16 0, .int .u64 0, .int .u64 0, .slice vag 0 vcg], sumR (.slice vag 0 vcg) [], blkR s 31 #[.int .u8 0, .int .u8 0, .int .u8 0, .int .u8 0, .int .u8 0, .int .u8 0, .int .u8 0, .int .u8 0, .int .u16 5, .int .u64 11529215046068469760, .int .u64 0, .bool false, .int .i64 0, .int .i64 0, .slice vas 0 vcs], sumR (.slice vas 0 vcs) [], blkR r 48 #[.int .u8 0, .int .u8 0, .int .u8 0, .int .u8 0, .int .u8 0, .int .u8 0, .int .u8 0, .int .u8 0, .int .u16 5, .int .u64 11529215046068469760, .int .u64 0, .slice vaf 0 vcf], sumR (.slice vaf 0 vcf) [], blkR pe 31 #[.int .u8 0, .int .u8 0, .int .u8 0, .int .u8 0, .int .u8 0, .int .u8 0, .int .u8 0, .int .u8 0, .int .u16 0, .int .u64 0, .int .u64 0, .bool false, .int .i64 0, .int .i64 0, .slice vae 0 vce], sumR (.slice vae 0 vce) [], blkR q 31 #[.int .u8 0, .int .u8 0, .int .u8 0, .int .u8 0, .int .u8 0, .int .u8 0, .int .u8 0, .int .u8 0, .int .u16 5, .int .u64 11529215046068469760, .int .u64 0, .bool false, .int .i64 0, .int .i64 0, .slice va 0 vc], sumR (.slice va 0 vc) [], sumR (.slice a3 12 c3) exW, blkR p 31 #[.int .u8 0, .int .u8 0, .int .u8 0, .int .u8 0, .int .u8 0, .int .u8 0, .int .u8 0, .int .u8 0, .int .u16 5, .int .u64 11529215046068469760, .int .u64 0, .bool false, .int .i64 0, .int .i64 0, .slice none 0 0]] from (HS9.out.keep hf))
      clear hf HSm
      have k0 := (HS10.out.blk 11 rfl).cell 0 rfl
      have k1 := (HS10.out.blk 11 rfl).cell 1 rfl
      have k2 := (HS10.out.blk 11 rfl).cell 2 rfl
      have k3 := (HS10.out.blk 11 rfl).cell 3 rfl
      have k4 := (HS10.out.blk 11 rfl).cell 4 rfl
      have k5 := (HS10.out.blk 11 rfl).cell 5 rfl
      have k6 := (HS10.out.blk 11 rfl).cell 6 rfl
      have k7 := (HS10.out.blk 11 rfl).cell 7 rfl
      have k8 := (HS10.out.blk 11 rfl).cell 8 rfl
      have k9 := (HS10.out.blk 11 rfl).cell 9 rfl
      have k10 := (HS10.out.blk 11 rfl).cell 10 rfl
      have k11 := (HS10.out.blk 11 rfl).cell 11 rfl
      have k12 := (HS10.out.blk 11 rfl).cell 12 rfl
      have k13 := (HS10.out.blk 11 rfl).cell 13 rfl
      have k14 := (HS10.out.blk 11 rfl).cell 14 rfl
      have j0 := (HS10.out.blk 2 rfl).cell 0 rfl
      have j1 := (HS10.out.blk 2 rfl).cell 1 rfl
      have j2 := (HS10.out.blk 2 rfl).cell 2 rfl
      have j3 := (HS10.out.blk 2 rfl).cell 3 rfl
      have j4 := (HS10.out.blk 2 rfl).cell 4 rfl
      have j5 := (HS10.out.blk 2 rfl).cell 5 rfl
      have j6 := (HS10.out.blk 2 rfl).cell 6 rfl
      have j7 := (HS10.out.blk 2 rfl).cell 7 rfl
      have j8 := (HS10.out.blk 2 rfl).cell 8 rfl
      have j9 := (HS10.out.blk 2 rfl).cell 9 rfl
      have j10 := (HS10.out.blk 2 rfl).cell 10 rfl
      have j11 := (HS10.out.blk 2 rfl).cell 11 rfl
      have j12 := (HS10.out.blk 2 rfl).cell 12 rfl
      have j13 := (HS10.out.blk 2 rfl).cell 13 rfl
      have j14 := (HS10.out.blk 2 rfl).cell 14 rfl
      have rb := (HS10.out.blk 4 rfl).cell 8 rfl
      have HSm : Hid (Calls Tryd.prog 20 #[.agg #[.int .u8 0, .int .u8 0, .int .u8 0, .int .u8 0, .int .u8 0, .int .u8 0, .int .u8 0, .int .u8 0, .int .u16 5, .int .u64 11529215046068469760, .int .u64 0, .bool false, .int .i64 0, .int .i64 0, .slice none 0 0], .agg #[.int .u8 0, .int .u8 0, .int .u8 0, .int .u8 0, .int .u8 0, .int .u8 0, .int .u8 0, .int .u8 0, .int .u16 5, .int .u64 11529215046068469760, .int .u64 0, .bool false, .int .i64 0, .int .i64 0, .slice vas 0 vcs]] w16 fun e w' => e = .returned (.bool true) ∧ Frm [] w16 w') := Lib.hid (by
        have h := same_c exP exP none vas 0 vcs w16 exP_ok exP_ok (RdI.nil _ _ _) (RdI.nil _ _ _) (by decide) (by decide)
        rw [exS] at h
        exact h)
      go_wp2_with fail
      clear k0 k1 k2 k3 k4 k5 k6 k7 k8 k9 k10 k11 k12 k13 k14 j0 j1 j2 j3 j4 j5 j6 j7 j8 j9 j10 j11 j12 j13 j14 rb
      refine HSm.out.mono ?_
      rintro e w17 ⟨rfl, hf⟩
      as_aux_lemma =>
        have HF17 := Lib.hid (HF16.out.trans hf)
        have HS11 := Lib.hid (show Sep [] w w17 [blkR rg 48 #[.int .u8 0, .int .u8 0, .int .u8 0, .int .u8 0, .int .u8 0, .int .u8 0, .int .u8 0, .int .u8 0, .int .u16 0, .int .u64 0, .int .u64 0, .slice vag 0 vcg], sumR (.slice vag 0 vcg) [], blkR s 31 #[.int .u8 0, .int .u8 0, .int .u8 0, .int .u8 0, .int .u8 0, .int .u8 0, .int .u8 0, .int .u8 0, .int .u16 5, .int .u64 11529215046068469760, .int .u64 0, .bool false, .int .i64 0, .int .i64 0, .slice vas 0 vcs], sumR (.slice vas 0 vcs) [], blkR r 48 #[.int .u8 0, .int .u8 0, .int .u8 0, .int .u8 0, .int .u8 0, .int .u8 0, .int .u8 0, .int .u8 0, .int .u16 5, .int .u64 11529215046068469760, .int .u64 0, .slice vaf 0 vcf], sumR (.slice vaf 0 vcf) [], blkR pe 31 #[.int .u8 0, .int .u8 0, .int .u8 0, .int .u8 0, .int .u8 0, .int .u8 0, .int .u8 0, .int .u8 0, .int .u16 0, .int .u64 0, .int .u64 0, .bool false, .int .i64 0, .int .i64 0, .slice vae 0 vce], sumR (.slice vae 0 vce) [], blkR q 31 #[.int .u8 0, .int .u8 0, .int .u8 0, .int .u8 0, .int .u8 0, .int .u8 0, .int .u8 0, .int .u8 0, .int .u16 5, .int .u64 11529215046068469760, .int .u64 0, .bool false, .int .i64 0, .int .i64 0, .slice va 0 vc], sumR (.slice va 0 vc) [], sumR (.slice a3 12 c3) exW, blkR p 31 #[.int .u8 0, .int .u8 0, .int .u8 0, .int .u8 0, .int .u8 0, .int .u8 0, .int .u8 0, .int .u8 0, .int .u16 5, .int .u64 11529215046068469760, .int .u64 0, .bool false, .int .i64 0, .int .i64 0, .slice none 0 0]] from (HS10.out.keep hf))
        clear hf HSm
        obtain ⟨x1, x2⟩ := HX.out w17 HF17.out
        have HGr : Hid (Calls Tryd.prog 24 #[.int .u16 5, .int .i64 4, .int .i64 0] w17 fun e w' => ∃ a c, e = .returned (.slice a 4 c) ∧ Frm [] w17 w') := Lib.hid (by
          refine (fgrid_c 5 4 0 w17 (by decide) (by decide)).mono ?_
          rintro e w' ⟨v, rfl, hS⟩
          have ho := hS.own 0 rfl
          rw [exG2] at ho
          obtain ⟨a, c, rfl, _⟩ := own_shape ho
          exact ⟨a, c, rfl, hS.frm⟩)
        go_wp2_with fail
        refine HGr.out.mono ?_
        rintro e w18 ⟨a18, c18, rfl, hf⟩
        as_aux_lemma =>
          have HF18 := Lib.hid (HS11.out.frm.trans hf)
          clear hf
          go_wp2_with fail
          go_ret
          exact ⟨rfl, HF18.out⟩

end Go.Proofs.YtnloabpdjedanaaDoor
