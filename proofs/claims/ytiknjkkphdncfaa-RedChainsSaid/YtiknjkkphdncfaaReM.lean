/-
  THE WALK of confluxlaw06.alive: the document's example.
-/
import Derived.Test.YtiknjkkphdncfaaReL
import Derived.Test.YtiknjkkphdncfaaReK
import Derived.Laws.BytesArg
import Derived.Deep.DeepMust
import Derived.Lib.SlBytesConst
set_option linter.unusedVariables false
set_option linter.unusedSimpArgs false
namespace Go.Proofs.Ytiknjkkphdncfaa
open Go.RowKit

theorem str_sla {w : World} {v : Value} {xs : List Int} (h : Sla .u8 w v xs) (h0 : 0 < xs.length) : (convert 25 9 v).run Try.prog w = .ok (.string (strOfNums xs)) w := by
  obtain ⟨a, c, rfl, hr, _⟩ := h
  obtain ⟨b, off, ha, _, _⟩ := hr 0 xs[0] (List.getElem?_eq_getElem h0)
  subst ha
  exact run_convert_bytes_arg w 25 5 Try.underlying25 Try.underlying5 b off xs.length c xs rfl (fun i hi => by
    obtain ⟨b', off', ha, _, hc⟩ := hr i xs[i] (List.getElem?_eq_getElem hi)
    injection ha with ha
    injection ha with h1 h2 _
    subst h1 h2
    rw [List.getD_eq_getElem?_getD, List.getElem?_eq_getElem hi]
    exact hc) 9 Try.underlying9
def exZ : List Int := [225, 0, 8, 2, 96, 65, 66, 67]
theorem exZ_byt : Byt exZ := fun x hx => by unfold exZ at hx; simp at hx; omega
theorem exZ_ch : chO exZ = [⟨97, 2, [65, 66]⟩, ⟨96, 0, [67]⟩] := by kernel_rfl
theorem exZ_e : chE exZ = 0 := by kernel_rfl
theorem ex0_ch : chO [] = [] := by kernel_rfl
theorem ex0_e : chE [] = 20 := by kernel_rfl
def exB : List BkV := [⟨97, 2, .slice none 0 0, [65, 66]⟩, ⟨96, 0, .slice none 0 0, [67]⟩]
theorem exB_w : wrongE exB = 0 := by decide +kernel
theorem exB_o : outB exB = exZ := by decide +kernel
theorem ex0_w : wrongE [] = 4 := by decide +kernel
theorem ex0_o : outB [] = [] := by decide +kernel
def exP : Pp := ⟨false, 100, 5, 10, 3, [], false, 0, [], exZ, []⟩
theorem exP_sm : PpSm exP := ⟨by decide, by decide, by decide, by decide⟩
theorem exP_rd {X : World} {b0 : Nat} (h : RdI .u8 X (some ⟨b0, 0, none⟩) exZ) : RdPk X ⟨exP, .slice none 0 0, .slice none 0 0, .slice (some ⟨b0, 0, none⟩) 8 8, .slice none 0 0⟩ :=
  ⟨Sla.nil _ _, Sla.nil _ _, ⟨some ⟨b0, 0, none⟩, 8, rfl, h, (fun h => by cases h), Nat.le_refl 8, by omega⟩, Sla.nil _ _⟩
def exQ : Pp := ⟨false, 96, 5, 10, 3, [], false, 0, [], [67], []⟩
theorem exQ_sm : PpSm exQ := ⟨by decide, by decide, by decide, by decide⟩
theorem exP_l : primL exP = exQ := by kernel_rfl
theorem exQ_e : wrapE exQ 100 = 0 := by decide +kernel
theorem exQ_b : bytesB (wrapB exQ) = [96, 67] := by decide +kernel
theorem exQ_l : wrapL exQ 100 = ⟨false, 100, 5, 10, 3, [], false, 0, [], [96, 67], []⟩ := by
  unfold wrapL
  rw [if_pos exQ_e, exQ_b]
  rfl
theorem ex_old : add32 10 (IntKind.i64.wrap (-2)) = 8 := by decide +kernel

set_option maxRecDepth 100000 in
set_option maxHeartbeats 16000000 in
theorem alive_c (w : World) :
    Calls Try.prog 6 #[] w fun e w' => e = .returned (.bool true) ∧ Frm [] w w' := by
  have kc := fun (w : World) (C : Array Value) (n c : Nat) => Lib.run_convert_bytes_const (P := Try.prog) w 25 5 C n c Try.underlying25 Try.underlying5
  obtain ⟨w1, hw1⟩ : ∃ w1, w1 = w.alloc (.cells #[.int .u8 225, .int .u8 0, .int .u8 8, .int .u8 2, .int .u8 96, .int .u8 65, .int .u8 66, .int .u8 67] 5 (8, 9)) := ⟨_, rfl⟩
  obtain ⟨b0, hb0⟩ : ∃ b0, b0 = w.heap.size := ⟨_, rfl⟩
  have HF1 := Lib.hid (show Frm [] w w1 by rw [hw1]; exact (Frm.refl _ _).alloc _)
  have HZ := Lib.hid (show RdI .u8 w1 (some ⟨b0, 0, none⟩) exZ from fun i x hx => by
    refine ⟨b0, 0, rfl, by rw [hw1, hb0]; simp, ?_⟩
    rw [hw1, hb0, Nat.zero_add]
    unfold World.cell?
    simp only []
    rw [heap_alloc_new w]
    have hi : i < 8 := (List.getElem?_eq_some_iff.1 hx).1
    match i, hi, hx with
    | 0, _, hx | 1, _, hx | 2, _, hx | 3, _, hx | 4, _, hx | 5, _, hx | 6, _, hx | 7, _, hx => simp [exZ] at hx; subst hx; rfl)
  have HW1 := Lib.hid (And.intro hw1 hb0)
  clear hw1 hb0
  have HBy := Lib.hid (fun X (hX : Frm [] w1 X) => show Bytes X (some ⟨b0, 0, none⟩) 8 exZ from ⟨HZ.out.below hX.below, exZ_byt, by decide, by decide, (fun h => by cases h), by decide⟩)
  have HPar := Lib.hid (fun X (hX : Frm [] w1 X) => Parse_c (HBy.out X hX))
  rw [exZ_ch, exZ_e] at HPar
  have HPa0 := Lib.hid (fun X => Parse_c (w := X) (a := none) (c := 0) (zs := []) ⟨RdI.nil _ _ _, fun x hx => by simp at hx, by decide, by decide, fun _ => rfl, by decide⟩)
  rw [ex0_ch, ex0_e] at HPa0
  have HWr0 := Lib.hid (fun X => write_c X none 0 [] ⟨fun i row h => by simp at h, by simp⟩ (by simp) (by simp))
  rw [ex0_w, ex0_o] at HWr0
  have HPr := Lib.hid (fun X (hX : Frm [] w1 X) => primary_c ⟨exP, .slice none 0 0, .slice none 0 0, .slice (some ⟨b0, 0, none⟩) 8 8, .slice none 0 0⟩ X (exP_rd (HBy.out X hX).rd) exP_sm exZ_byt)
  have HOl := Lib.hid (fun X (hX : Frm [] w1 X) => older_c ⟨exP, .slice none 0 0, .slice none 0 0, .slice (some ⟨b0, 0, none⟩) 8 8, .slice none 0 0⟩ X (exP_rd (HBy.out X hX).rd) exP_sm exZ_byt)
  simp only [exP_l, show exP.P = exZ from rfl, exZ_e] at HPr HOl
  simp only [Pk.cells, exP] at HPr HOl
  simp only [List.length_nil] at HPa0 HWr0
  go_enter Try.func6, Try.ntmps6
  go_wp2_with fail
  rw [← HW1.out.2] 
  rw [← HW1.out.1]
  refine (HPar.out _ (Frm.refl _ _)).mono ?_
  rintro e w2 ⟨v, bs, hbs, rfl, hsm, hS⟩
  obtain ⟨x, y, rfl⟩ : ∃ x y, bs = [x, y] := by
    have hl : bs.length = 2 := by have := congrArg List.length hbs; simpa using this
    match bs, hl with
    | [x, y], _ => exact ⟨x, y, rfl⟩
  obtain ⟨xp, xo, xv, xB⟩ := x
  obtain ⟨yp, yo, yv, yB⟩ := y
  simp only [List.map_cons, List.map_nil, BkV.bk, List.cons.injEq, Bk.mk.injEq, and_true] at hbs
  obtain ⟨⟨rfl, rfl, rfl⟩, rfl, rfl, rfl⟩ := hbs
  obtain ⟨av, cv, rfl, _, _, hrd⟩ := blks_rd (hS.get 0 rfl)
  have hx := data_rd (hS.get 1 rfl) (b := ⟨97, 2, xv, [65, 66]⟩) (by simp)
  have hy := data_rd (hS.get 1 rfl) (b := ⟨96, 0, yv, [67]⟩) (by simp)
  simp only at hx hy
  obtain ⟨ba, bo, rfl, _, hc0⟩ := hrd 0 _ rfl
  have hbl : ba < w2.heap.size := by
    obtain ⟨b', o', h1, h2, _⟩ := hrd 0 _ rfl
    have h3 : ba = b' := by injection h1 with h1; injection h1
    rw [h3]
    exact h2
  obtain ⟨b', o', h1, _, hc1⟩ := hrd 1 _ rfl
  injection h1 with h1
  injection h1 with h1 h2 _
  subst h1 h2
  have HRd := Lib.hid (fun X (hX : Frm [] w2 X) => hrd.low hX (by simp))
  have HXy := Lib.hid (fun X (hX : Frm [] w2 X) => And.intro (hx.frm hX) (hy.frm hX))
  have HCl := Lib.hid (fun X (hX : Frm [] w2 X) => show X.cell? ⟨ba, bo, none⟩ = some (.int .i64 97) ∧ X.cell? ⟨ba, bo + 1, none⟩ = some (.int .i64 2) ∧ X.cell? ⟨ba, bo + 2, none⟩ = some xv ∧ X.cell? ⟨ba, bo + 3, none⟩ = some (.int .i64 96) ∧ X.cell? ⟨ba, bo + 5, none⟩ = some yv from by
    refine ⟨?_, ?_, ?_, ?_, ?_⟩
    · exact (hX.cell hbl (by simp)).trans (hc0 0 _ rfl)
    · exact (hX.cell hbl (by simp)).trans (hc0 1 _ rfl)
    · exact (hX.cell hbl (by simp)).trans (hc0 2 _ rfl)
    · exact (hX.cell hbl (by simp)).trans (hc1 0 _ rfl)
    · exact (hX.cell hbl (by simp)).trans (hc1 2 _ rfl))
  have HF2 := Lib.hid hS.frm
  have HWr := Lib.hid (fun X (hX : Frm [] w2 X) => write_c X (some ⟨ba, bo, none⟩) cv [⟨97, 2, xv, [65, 66]⟩, ⟨96, 0, yv, [67]⟩] ⟨HRd.out X hX, fun b hb => by
    simp at hb
    rcases hb with rfl | rfl
    · obtain ⟨a, c, h1, h2, h3, _⟩ := (HXy.out X hX).1; exact ⟨a, c, h1, h2, h3⟩
    · obtain ⟨a, c, h1, h2, h3, _⟩ := (HXy.out X hX).2; exact ⟨a, c, h1, h2, h3⟩⟩ (by simp) (fun b hb => by
    simp at hb
    rcases hb with rfl | rfl <;> simp))
  have e1 : wrongE [⟨97, 2, xv, [65, 66]⟩, ⟨96, 0, yv, [67]⟩] = 0 := (wrongE_map (cs := exB) rfl).trans exB_w
  have e2 : outB [⟨97, 2, xv, [65, 66]⟩, ⟨96, 0, yv, [67]⟩] = exZ := (outB_map (cs := exB) rfl).trans exB_o
  rw [e1, e2] at HWr
  clear e1 e2
  simp only [List.length_cons, List.length_nil, Nat.zero_add, Nat.reduceAdd] at HWr ⊢
  clear hS hsm hrd hx hy hc0 hc1 hbl HPar
  go_wp2_with fail
  refine (HWr.out _ (Frm.refl _ _)).mono ?_
  rintro e w3 ⟨v3, rfl, hS3⟩
  have HO3 := Lib.hid hS3
  obtain ⟨a3, c3, rfl, _, _⟩ := RdI.of_own (k := .u8) (hS3.own 0 rfl)
  have HF3 := Lib.hid hS3.frm
  clear hS3 HWr
  go_wp2_with fail
  refine (HPa0.out _).mono ?_
  rintro e w4 ⟨v4, bs4, _, rfl, _, hS4⟩
  have HF4 := Lib.hid (HF3.out.trans hS4.frm)
  have HO4 := Lib.hid (HO3.out.keep hS4.frm)
  clear hS4 HO3
  go_wp2_with fail
  refine (HWr0.out _).mono ?_
  rintro e w5 ⟨v5, rfl, hS5⟩
  have HF5 := Lib.hid (HF4.out.trans hS5.frm)
  have HO5 := Lib.hid (HO4.out.keep hS5.frm)
  clear hS5 HO4
  go_wp2_with fail
  obtain ⟨wp, hwp⟩ : ∃ wp, wp = w5.alloc (.cells #[.bool false, .int .i64 100, .int .u16 5, .int .u32 10, .int .u32 3, .slice none 0 0, .bool false, .int .u16 0, .slice none 0 0, .slice (some ⟨b0, 0, none⟩) 8 8, .slice none 0 0] 36) := ⟨_, rfl⟩
  obtain ⟨bp, hbp⟩ : ∃ bp, bp = w5.heap.size := ⟨_, rfl⟩
  rw [← hwp, ← hbp]
  have HBp := Lib.hid (fun X (hX : Frm [] wp X) => show Blk X bp 36 #[.bool false, .int .i64 100, .int .u16 5, .int .u32 10, .int .u32 3, .slice none 0 0, .bool false, .int .u16 0, .slice none 0 0, .slice (some ⟨b0, 0, none⟩) 8 8, .slice none 0 0] from hX.blk (by rw [hwp, hbp]; exact Blk.made _ _ _) (by simp))
  have HFp := Lib.hid (show Frm [] w2 wp from HF5.out.trans (by rw [hwp]; exact (Frm.refl _ _).alloc _))
  have HOp := Lib.hid (HO5.out.keep (show Frm [] w5 wp by rw [hwp]; exact (Frm.refl _ _).alloc _))
  clear hwp hbp HO5 HF5 HF4 HF3 HWr0 HPa0
  refine (HPr.out wp (HF2.out.trans HFp.out)).mono ?_
  rintro e w6 ⟨⟨ql, qc, qe, qp, qd⟩, rfl, hql, hq, hF6⟩
  simp only at hql
  subst hql
  obtain ⟨q1, qc1, f1, _⟩ := hq.c
  obtain ⟨q2, qc2, f2, _⟩ := hq.e
  obtain ⟨q3, qc3, f3, _⟩ := hq.p
  obtain ⟨q4, qc4, f4, _⟩ := hq.d
  simp only [exQ, List.length_nil, List.length_cons, Nat.zero_add] at f1 f2 f3 f4
  subst f1 f2 f3 f4
  have HFq := Lib.hid hF6
  have HQ6 := Lib.hid hq
  have HWp := Lib.hid (fun X (hX : Frm [] w6 X) => wrap_c ⟨exQ, .slice q1 0 qc1, .slice q2 0 qc2, .slice q3 1 qc3, .slice q4 0 qc4⟩ 100 X (hq.frm hX) exQ_sm (by show ([67] : List Int).length ≤ 2000; decide))
  simp only [exQ_l, exQ_e] at HWp
  simp only [Pk.cells, exQ] at HWp ⊢
  clear hF6 hq HPr
  go_wp2_with fail
  obtain ⟨w7, hw7⟩ : ∃ w7, w7 = w6.alloc (.cells #[.bool false, .int .i64 96, .int .u16 5, .int .u32 10, .int .u32 3, .slice q1 0 qc1, .bool false, .int .u16 0, .slice q2 0 qc2, .slice q3 1 qc3, .slice q4 0 qc4] 36) := ⟨_, rfl⟩
  obtain ⟨b7, hb7⟩ : ∃ b7, b7 = w6.heap.size := ⟨_, rfl⟩
  rw [← hw7, ← hb7]
  have HB7 := Lib.hid (fun X (hX : Frm [] w7 X) => show Blk X b7 36 #[.bool false, .int .i64 96, .int .u16 5, .int .u32 10, .int .u32 3, .slice q1 0 qc1, .bool false, .int .u16 0, .slice q2 0 qc2, .slice q3 1 qc3, .slice q4 0 qc4] from hX.blk (by rw [hw7, hb7]; exact Blk.made _ _ _) (by simp))
  have HF67 := Lib.hid (show Frm [] w6 w7 by rw [hw7]; exact (Frm.refl _ _).alloc _)
  clear hw7 hb7
  refine (HWp.out w7 HF67.out).mono ?_
  rintro e w8 ⟨⟨rl, rc, re, rp, rd⟩, rfl, hrl, hr, hF8⟩
  simp only at hrl
  subst hrl
  obtain ⟨r1, rc1, f1, _⟩ := hr.c
  obtain ⟨r2, rc2, f2, _⟩ := hr.e
  obtain ⟨r3, rc3, f3, _⟩ := hr.p
  obtain ⟨r4, rc4, f4, _⟩ := hr.d
  simp only [List.length_nil, List.length_cons, Nat.zero_add, Nat.reduceAdd] at f1 f2 f3 f4
  subst f1 f2 f3 f4
  have HF78 := Lib.hid hF8
  have HR8 := Lib.hid hr
  simp only [Pk.cells]
  clear hF8 hr HWp
  go_upto_region 9 with fail
  obtain ⟨w9, hw9⟩ : ∃ w9, w9 = w8.alloc (.cells #[.bool false, .int .i64 100, .int .u16 5, .int .u32 10, .int .u32 3, .slice r1 0 rc1, .bool false, .int .u16 0, .slice r2 0 rc2, .slice r3 2 rc3, .slice r4 0 rc4] 36) := ⟨_, rfl⟩
  obtain ⟨b9, hb9⟩ : ∃ b9, b9 = w8.heap.size := ⟨_, rfl⟩
  rw [← hw9, ← hb9]
  have HB9 := Lib.hid (fun X (hX : Frm [] w9 X) => show Blk X b9 36 #[.bool false, .int .i64 100, .int .u16 5, .int .u32 10, .int .u32 3, .slice r1 0 rc1, .bool false, .int .u16 0, .slice r2 0 rc2, .slice r3 2 rc3, .slice r4 0 rc4] from hX.blk (by rw [hw9, hb9]; exact Blk.made _ _ _) (by simp))
  have HF89 := Lib.hid (show Frm [] w8 w9 by rw [hw9]; exact (Frm.refl _ _).alloc _)
  clear hw9 hb9
  have HF69 := Lib.hid (HF67.out.trans (HF78.out.trans HF89.out))
  have HFp9 := Lib.hid (HFq.out.trans HF69.out)
  have hbp9 := HBp.out w9 HFp9.out
  have k0 := hbp9.cell 0 rfl
  have k1 := hbp9.cell 1 rfl
  have k2 := hbp9.cell 2 rfl
  have k3 := hbp9.cell 3 rfl
  have k4 := hbp9.cell 4 rfl
  have k5 := hbp9.cell 5 rfl
  have k6 := hbp9.cell 6 rfl
  have k7 := hbp9.cell 7 rfl
  have k8 := hbp9.cell 8 rfl
  have k9 := hbp9.cell 9 rfl
  have k10 := hbp9.cell 10 rfl
  clear hbp9
  go_wp2_with fail
  refine (HOl.out w9 (HF2.out.trans (HFp.out.trans HFp9.out))).mono ?_
  rintro e w10 ⟨v10, bs10, hb10, rfl, _, hS10⟩
  have hb10' : bs10.map BkV.bk = [⟨97, 2, [65, 66]⟩] := by rw [hb10]; show (chO exZ).dropLast = _; rw [exZ_ch]; rfl
  obtain ⟨z, rfl⟩ : ∃ z, bs10 = [z] := by
    have hl : bs10.length = 1 := by have := congrArg List.length hb10'; simpa using this
    match bs10, hl with
    | [z], _ => exact ⟨z, rfl⟩
  obtain ⟨zp, zo, zv, zB⟩ := z
  simp only [List.map_cons, List.map_nil, BkV.bk, List.cons.injEq, Bk.mk.injEq, and_true] at hb10'
  obtain ⟨rfl, rfl, rfl⟩ := hb10'
  obtain ⟨av, ac, hv, _, _, _, hrd, _⟩ := RdS.of_own (n := 1) (rows := [pkRow (oldK exP ⟨97, 2, zv, [65, 66]⟩)]) (hS10.own 0 rfl) (fun r hr => by simp at hr; subst hr; rfl) (by decide) rfl
  simp only [List.length_cons, List.length_nil, Nat.zero_add] at hv
  subst hv
  obtain ⟨bz, oz, rfl, _, hcz⟩ := hrd 0 _ rfl
  rw [Nat.zero_mul, Nat.add_zero] at hcz
  have z1 : w10.cell? ⟨bz, oz + 1, none⟩ = some (.int .i64 97) := hcz 1 _ rfl
  have z3 : w10.cell? ⟨bz, oz + 3, none⟩ = some (.int .u32 8) := by rw [← ex_old]; exact hcz 3 _ rfl
  have HF910 := Lib.hid hS10.frm
  have HF610 := Lib.hid (HF69.out.trans HF910.out)
  have HFp10 := Lib.hid (HFq.out.trans HF610.out)
  have HF210 := Lib.hid (HFp.out.trans HFp10.out)
  obtain ⟨c0, c1, c2, c3', c5⟩ := HCl.out w10 HF210.out
  have s1 := str_sla (HXy.out w10 HF210.out).1 (by decide)
  have s2 := str_sla (HXy.out w10 HF210.out).2 (by decide)
  have s3 := str_sla (Sla.of_own ((HOp.out.keep HFp10.out).own 0 rfl) : Sla .u8 w10 _ exZ) (by decide)
  have s4 := str_sla (v := .slice (some ⟨b0, 0, none⟩) 8 8) (⟨some ⟨b0, 0, none⟩, 8, rfl, (HBy.out w10 (HF2.out.trans HF210.out)).rd, (fun h => by cases h), by decide, by decide⟩ : Sla .u8 w10 _ exZ) (by decide)
  have s5 := str_sla (HQ6.out.frm HF610.out).p (by show 0 < ([67] : List Int).length; decide)
  have s6 := str_sla (HR8.out.frm (HF89.out.trans HF910.out)).p (by show 0 < ([96, 67] : List Int).length; decide)
  simp only [exQ] at s5
  rw [show strOfNums [65, 66] = ⟨#[65, 66]⟩ from by kernel_rfl] at s1
  rw [show strOfNums [67] = ⟨#[67]⟩ from by kernel_rfl] at s2 s5
  rw [show strOfNums [96, 67] = ⟨#[96, 67]⟩ from by kernel_rfl] at s6
  have hb7 := HB7.out w10 (HF78.out.trans (HF89.out.trans HF910.out))
  have x1 := hb7.cell 1 rfl
  have x2 := hb7.cell 2 rfl
  have x9 := hb7.cell 9 rfl
  have hb9 := HB9.out w10 HF910.out
  have y1 := hb9.cell 1 rfl
  have y9 := hb9.cell 9 rfl
  have HFin := Lib.hid (HF1.out.trans (HF2.out.trans HF210.out))
  clear hS10 hrd hcz hb7 hb9 hb10 HOl k0 k1 k2 k3 k4 k5 k6 k7 k8 k9 k10
  go_wp2_with fail
  go_ret
  exact ⟨rfl, HFin.out⟩


end Go.Proofs.Ytiknjkkphdncfaa
