/-
  THE WALK of confluxref10.Parse: a pack with a mask. Printed by gen_fxr.py.
-/
import Derived.Test.YtnloabpdjedanaaDoorFxR
set_option linter.unusedVariables false
set_option linter.unusedSimpArgs false
namespace Go.Proofs.YtnloabpdjedanaaDoor
open Go.RowKit

theorem pow256_le {Z : Nat} (h : Z ≤ 8) : (256 : Int) ^ Z ≤ 18446744073709551616 := by
  have : Z = 0 ∨ Z = 1 ∨ Z = 2 ∨ Z = 3 ∨ Z = 4 ∨ Z = 5 ∨ Z = 6 ∨ Z = 7 ∨ Z = 8 := by omega
  rcases this with rfl | rfl | rfl | rfl | rfl | rfl | rfl | rfl | rfl <;> decide
/-- The first j of u taken together with those of v. -/
def orK (u v : List Bool) (j : Nat) : List Bool := (List.range 128).map fun i => u.getD i false || (decide (i < j) && v.getD i false)
theorem orK_at (u v : List Bool) {j : Nat} (h : j < 128) : (orK u v j)[j]? = some (u.getD j false) := by simp [orK, h]
theorem orK_set (u v : List Bool) {j : Nat} (h : j < 128) : orK u v (j + 1) = (orK u v j).set j (u.getD j false || v.getD j false) := by
  apply List.ext_getElem?
  intro i
  rw [List.getElem?_set]
  by_cases hi : i < 128
  · by_cases hij : j = i
    · subst hij; simp [orK, h]
    · rw [if_neg hij]
      simp only [orK, List.getElem?_map, List.getElem?_range hi, Option.map_some]
      congr 2
      rw [show decide (i < j + 1) = decide (i < j) by simp; omega]
  · have hn : ∀ m, (orK u v m)[i]? = none := fun m => by simp [orK]; omega
    rw [hn, hn, if_neg (by omega)]
theorem orK_zero (h l : Nat) (v : List Bool) : orK (bools h l) v 0 = bools h l := by
  apply List.ext_getElem?
  intro i
  by_cases hi : i < 128
  · rw [bools_at hi]
    simp [orK, hi, bools_at hi]
  · rw [List.getElem?_eq_none (by simp [orK]; omega), List.getElem?_eq_none (by simp [bools]; omega)]
theorem orK_all (h l h' l' : Nat) : orK (bools h l) (bools h' l') 128 = bools (h ||| h') (l ||| l') := by
  apply List.ext_getElem?
  intro i
  by_cases hi : i < 128
  · rw [bools_at hi, bt_or]
    simp [orK, hi, bools_at hi]
  · rw [List.getElem?_eq_none (by simp [orK]; omega), List.getElem?_eq_none (by simp [bools]; omega)]

/-- The code of a region, and the code behind it. -/
def segAt (n : Nat) : Code → Option (Code × Code)
  | .seq a b => match a with
    | .region m ops d => if m = n then some (.region m ops d, b) else segAt n b
    | .cond t x y => match segAt n x with
      | some c => some c
      | none => match segAt n y with
        | some c => some c
        | none => segAt n b
    | .block i x => match segAt n x with
      | some c => some c
      | none => segAt n b
    | .loop x => match segAt n x with
      | some c => some c
      | none => segAt n b
    | .scope x => match segAt n x with
      | some c => some c
      | none => segAt n b
    | .seq x y => match segAt n x with
      | some c => some c
      | none => match segAt n y with
        | some c => some c
        | none => segAt n b
    | _ => segAt n b
  | .block _ c => segAt n c
  | .scope c => segAt n c
  | .loop c => segAt n c
  | .cond _ a b => match segAt n a with
    | some c => some c
    | none => segAt n b
  | _ => none
noncomputable def m14 : Code × Code := (Tryd.f11.body.bind (segAt 14)).getD (.skip, .skip)


noncomputable def m33 : Code × Code := (Tryd.f11.body.bind (segAt 33)).getD (.skip, .skip)

set_option maxRecDepth 1000000 in
set_option maxHeartbeats 16000000 in
theorem rParse_o {W wr : World} {b off c : Nat} {zs : List Int} {X0 : Fx} {e y0 y1 y2 y3 y4 y5 y6 y7 B : Int} {o p g7 c7 g11 c11 hq lq Hx Lx s : Nat} {K : Act → World → Prop} (hc : zs.length ≤ c) (hcm : c ≤ 9223372036854775807) (hl : ¬ 1500 < zs.length) (HXE : Hid (X0 = paX zs ∧ e = paE zs)) (HIn : Hid (paX zs = paR (rdX zs) ∧ paE zs = paV (rdX zs)))
    (HR0 : Hid (RdI .u8 W (some ⟨b, off, none⟩) zs)) (A0 : Hid (at_ zs 0 = y0)) (A1 : Hid (at_ zs 1 = y1)) (A2 : Hid (at_ zs 2 = y2)) (A3 : Hid (at_ zs 3 = y3)) (A4 : Hid (at_ zs 4 = y4)) (A5 : Hid (at_ zs 5 = y5)) (A6 : Hid (at_ zs 6 = y6)) (A7 : Hid (at_ zs 7 = y7)) (HBB : Hid (B = bigN (cut zs 8 2))) (p8 : s ≤ zs.length) (HX64 : Hid (Hx < 18446744073709551616 ∧ Lx < 18446744073709551616))
    (HMz : Hid (∀ n : Nat, mkF zs 3 0 10 0 0 = .ok (0, 0, n) → rdX zs = .error 30)) (HMo : Hid (∀ (h l n : Nat), mkF zs 3 0 10 0 0 = .ok (h, l, n) → ¬ (h = 0 ∧ l = 0) → rdX zs = .ok ⟨at_ zs 0 % 64, at_ zs 1, at_ zs 4, at_ zs 5, at_ zs 6, at_ zs 7, at_ zs 2, at_ zs 3, bigN (cut zs 8 2), h, l, false, 0, 0, zs.drop n⟩))
    (HM : Hid (mkF zs 3 0 10 0 0 = .ok (Hx, Lx, s))) (HS7 : Hid (Sep [] W wr [ownR 4 1 (.slice (some ⟨g11, 0, none⟩) 128 c11) 128 ((bools hq lq).map Value.bool), ownR 4 1 (.slice (some ⟨g7, 0, none⟩) 128 c7) 128 ((bools Hx Lx).map Value.bool), blkR p 36 #[.int .u8 (y0 % 64), .int .u8 y1, .int .u8 y4, .int .u8 y5, .int .u8 y6, .int .u8 y7, .int .u8 y2, .int .u8 y3, .int .u16 B, .int .u64 0, .int .u64 0, .bool false, .int .i64 0, .int .i64 0, .slice none 0 0], blkR o 36 #[.int .u8 0, .int .u8 0, .int .u8 0, .int .u8 0, .int .u8 0, .int .u8 0, .int .u8 0, .int .u8 0, .int .u16 0, .int .u64 0, .int .u64 0, .bool false, .int .i64 0, .int .i64 0, .slice none 0 0]])) (u1 u3 u6 u8 u9 u10 u11 u12 u13 u14 u15 u16 u17 u18 u19 u20 u21 u22 u23 u24 u25 u26 u27 u28 u29 u30 u31 u32 u33 u34 u35 u36 u37 u38 u39 u40 u41 u42 u43 u44 u45 u46 u47 u48 u49 u50 u51 u52 u53 u54 u55 u56 u57 u58 u59 u60 u61 u62 u63 u64 u65 u66 u67 u68 u69 u70 u71 u72 u73 u74 u75 u76 u77 u78 u79 u80 u81 u82 u83 u84 u85 u86 u87 u88 u89 u90 u91 u92 u93 u94 u95 u96 u97 u98 u99 u100 u101 u102 u103 u104 u105 u106 u107 u108 u109 u110 u111 u112 u113 u114 u115 u116 u117 u118 u119 u120 u121 u122 u123 u124 u125 u126 u127 u128 u129 u130 u131 u132 u133 u134 u135 u136 u137 u138 u139 u140 u141 u142 u143 u144 u145 u146 u147 u148 u149 u150 u151 u152 u153 u154 u155 u156 u157 u158 u159 u160 u161 u162 u163 u164 u165 u166 u167 u168 : Value)
    (hK : ∀ a w, Code.wp Tryd.prog m33.2 (bodyPost Tryd.prog Tryd.f11 (ParseP W X0 e)) a w → K a w) :
    Code.wp Tryd.prog m33.1 (Exit.then K (bodyPost Tryd.prog Tryd.f11 (ParseP W X0 e))) ⟨List.toArray ((.slice (some ⟨b, off, none⟩) zs.length c) :: u1 :: (.pointer (some ⟨o, 0, none⟩)) :: u3 :: (.pointer (some ⟨p, 0, none⟩)) :: (.int .i64 (s : Int)) :: u6 :: (.slice (some ⟨g7, 0, none⟩) 128 c7) :: u8 :: u9 :: u10 :: u11 :: u12 :: u13 :: u14 :: u15 :: u16 :: u17 :: u18 :: u19 :: u20 :: u21 :: u22 :: u23 :: u24 :: u25 :: u26 :: u27 :: u28 :: u29 :: u30 :: u31 :: u32 :: u33 :: u34 :: u35 :: u36 :: u37 :: u38 :: u39 :: u40 :: u41 :: u42 :: u43 :: u44 :: u45 :: u46 :: u47 :: u48 :: u49 :: u50 :: u51 :: u52 :: u53 :: u54 :: u55 :: u56 :: u57 :: u58 :: u59 :: u60 :: u61 :: u62 :: u63 :: u64 :: u65 :: u66 :: u67 :: u68 :: u69 :: u70 :: u71 :: u72 :: u73 :: u74 :: u75 :: u76 :: u77 :: u78 :: u79 :: u80 :: u81 :: u82 :: u83 :: u84 :: u85 :: u86 :: u87 :: u88 :: u89 :: u90 :: u91 :: u92 :: u93 :: u94 :: u95 :: u96 :: u97 :: u98 :: u99 :: u100 :: u101 :: u102 :: u103 :: u104 :: u105 :: u106 :: u107 :: u108 :: u109 :: u110 :: u111 :: u112 :: u113 :: u114 :: u115 :: u116 :: u117 :: u118 :: u119 :: u120 :: u121 :: u122 :: u123 :: u124 :: u125 :: u126 :: u127 :: u128 :: u129 :: u130 :: u131 :: u132 :: u133 :: u134 :: u135 :: u136 :: u137 :: u138 :: u139 :: u140 :: u141 :: u142 :: u143 :: u144 :: u145 :: u146 :: u147 :: u148 :: u149 :: u150 :: u151 :: u152 :: u153 :: u154 :: u155 :: u156 :: u157 :: u158 :: u159 :: u160 :: u161 :: u162 :: u163 :: u164 :: u165 :: u166 :: u167 :: u168 :: []), []⟩ wr := by
  conv => arg 2; whnf
  conv at hK => enter [a, w]; arg 1; arg 2; whnf
  have hnb := rnums_c (some ⟨g7, 0, none⟩) c7 (bools Hx Lx) wr (by
    obtain ⟨_, _, hv, _, _, rd⟩ := rdB_own (HS7.out.own 1 rfl)
    injection hv with h1 _ _
    rw [h1]; exact rd) (bools_len128 _ _)
  rw [nb_hi HX64.out.1, nb_lo HX64.out.2] at hnb
  have HNb := Lib.hid hnb
  clear hnb
  go_wp2_with fail
  refine HNb.out.mono ?_
  rintro ex w7 ⟨rfl, rfl⟩
  have z9 := (HS7.out.blk 2 rfl).cell 9 rfl
  have f9 := (HS7.out.blk 2 rfl).free 9
  have z10 := (HS7.out.blk 2 rfl).cell 10 rfl
  have f10 := (HS7.out.blk 2 rfl).free 10
  go_upto_region 34 with fail
  obtain ⟨w8, hw8⟩ : ∃ q, q = (wr.setCell ⟨p, 9, none⟩ (.int .u64 (Hx : Int))).setCell ⟨p, 10, none⟩ (.int .u64 (Lx : Int)) := ⟨_, rfl⟩
  have HS8 := Lib.hid (show Sep [] W w8 [ownR 4 1 (.slice (some ⟨g11, 0, none⟩) 128 c11) 128 ((bools hq lq).map Value.bool), ownR 4 1 (.slice (some ⟨g7, 0, none⟩) 128 c7) 128 ((bools Hx Lx).map Value.bool), blkR p 36 #[.int .u8 (y0 % 64), .int .u8 y1, .int .u8 y4, .int .u8 y5, .int .u8 y6, .int .u8 y7, .int .u8 y2, .int .u8 y3, .int .u16 B, .int .u64 (Hx : Int), .int .u64 (Lx : Int), .bool false, .int .i64 0, .int .i64 0, .slice none 0 0], blkR o 36 #[.int .u8 0, .int .u8 0, .int .u8 0, .int .u8 0, .int .u8 0, .int .u8 0, .int .u8 0, .int .u8 0, .int .u16 0, .int .u64 0, .int .u64 0, .bool false, .int .i64 0, .int .i64 0, .slice none 0 0]] from hw8 ▸ (HS7.out.put 2 rfl 9 (.int .u64 (Hx : Int))).put 2 rfl 10 (.int .u64 (Lx : Int)))
  rw [← hw8]
  clear hw8 z9 f9 z10 f10 HNb HS7
  by_cases hzz : Hx = 0 ∧ Lx = 0
  · obtain ⟨hz1, hz2⟩ := hzz
    subst hz1 hz2
    have HP := Lib.hid (HMz.out s HM.out)
    have y9 := (HS8.out.blk 2 rfl).cell 9 rfl
    have y10 := (HS8.out.blk 2 rfl).cell 10 rfl
    skip
    have hXe : paX zs = Fx.none ∧ paE zs = 30 := by rw [HIn.out.1, HIn.out.2, HP.out]; exact ⟨rfl, rfl⟩
    have hX : X0 = Fx.none := HXE.out.1.trans hXe.1
    have hE : e = 30 := HXE.out.2.trans hXe.2
    clear hXe
    subst hX hE
    have hz := HS8.out.blk 3 rfl
    have z0 := hz.cell 0 rfl
    have z1 := hz.cell 1 rfl
    have z2 := hz.cell 2 rfl
    have z3 := hz.cell 3 rfl
    have z4 := hz.cell 4 rfl
    have z5 := hz.cell 5 rfl
    have z6 := hz.cell 6 rfl
    have z7 := hz.cell 7 rfl
    have z8 := hz.cell 8 rfl
    have z9 := hz.cell 9 rfl
    have z10 := hz.cell 10 rfl
    have z11 := hz.cell 11 rfl
    have z12 := hz.cell 12 rfl
    have z13 := hz.cell 13 rfl
    have z14 := hz.cell 14 rfl
    have f0 := hz.free 0
    have f1 := hz.free 1
    have f2 := hz.free 2
    have f3 := hz.free 3
    have f4 := hz.free 4
    have f5 := hz.free 5
    have f6 := hz.free 6
    have f7 := hz.free 7
    have f8 := hz.free 8
    have f9 := hz.free 9
    have f10 := hz.free 10
    have f11 := hz.free 11
    have f12 := hz.free 12
    have f13 := hz.free 13
    have f14 := hz.free 14
    go_wp2_with fail
    obtain ⟨w4, hw4⟩ : ∃ w4, w4 = (((((((((((((((w8.setCell ⟨o, 0, none⟩ (.int .u8 0)).setCell ⟨o, 1, none⟩ (.int .u8 0)).setCell ⟨o, 2, none⟩ (.int .u8 0)).setCell ⟨o, 3, none⟩ (.int .u8 0)).setCell ⟨o, 4, none⟩ (.int .u8 0)).setCell ⟨o, 5, none⟩ (.int .u8 0)).setCell ⟨o, 6, none⟩ (.int .u8 0)).setCell ⟨o, 7, none⟩ (.int .u8 0)).setCell ⟨o, 8, none⟩ (.int .u16 0)).setCell ⟨o, 9, none⟩ (.int .u64 0)).setCell ⟨o, 10, none⟩ (.int .u64 0)).setCell ⟨o, 11, none⟩ (.bool false)).setCell ⟨o, 12, none⟩ (.int .i64 0)).setCell ⟨o, 13, none⟩ (.int .i64 0)).setCell ⟨o, 14, none⟩ (.slice none 0 0)) := ⟨_, rfl⟩
    have HS2 := Lib.hid (show Sep [] W w4 [ownR 4 1 (.slice (some ⟨g11, 0, none⟩) 128 c11) 128 ((bools hq lq).map Value.bool), ownR 4 1 (.slice (some ⟨g7, 0, none⟩) 128 c7) 128 ((bools 0 0).map Value.bool), blkR p 36 #[.int .u8 (y0 % 64), .int .u8 y1, .int .u8 y4, .int .u8 y5, .int .u8 y6, .int .u8 y7, .int .u8 y2, .int .u8 y3, .int .u16 B, .int .u64 ((0 : Nat) : Int), .int .u64 ((0 : Nat) : Int), .bool false, .int .i64 0, .int .i64 0, .slice none 0 0], blkR o 36 #[.int .u8 0, .int .u8 0, .int .u8 0, .int .u8 0, .int .u8 0, .int .u8 0, .int .u8 0, .int .u8 0, .int .u16 0, .int .u64 0, .int .u64 0, .bool false, .int .i64 0, .int .i64 0, .slice none 0 0]] from hw4 ▸ HS8.out.puts 3 rfl [.int .u8 0, .int .u8 0, .int .u8 0, .int .u8 0, .int .u8 0, .int .u8 0, .int .u8 0, .int .u8 0, .int .u16 0, .int .u64 0, .int .u64 0, .bool false, .int .i64 0, .int .i64 0, .slice none 0 0] rfl)
    rw [← hw4]
    clear hw4 HS8 hz z0 z1 z2 z3 z4 z5 z6 z7 z8 z9 z10 z11 z12 z13 z14 f0 f1 f2 f3 f4 f5 f6 f7 f8 f9 f10 f11 f12 f13 f14
    have hz := HS2.out.blk 3 rfl
    have z0 := hz.cell 0 rfl
    have z1 := hz.cell 1 rfl
    have z2 := hz.cell 2 rfl
    have z3 := hz.cell 3 rfl
    have z4 := hz.cell 4 rfl
    have z5 := hz.cell 5 rfl
    have z6 := hz.cell 6 rfl
    have z7 := hz.cell 7 rfl
    have z8 := hz.cell 8 rfl
    have z9 := hz.cell 9 rfl
    have z10 := hz.cell 10 rfl
    have z11 := hz.cell 11 rfl
    have z12 := hz.cell 12 rfl
    have z13 := hz.cell 13 rfl
    have z14 := hz.cell 14 rfl
    refine bodyPost_ret (v := .tuple #[.agg #[.int .u8 0, .int .u8 0, .int .u8 0, .int .u8 0, .int .u8 0, .int .u8 0, .int .u8 0, .int .u8 0, .int .u16 0, .int .u64 0, .int .u64 0, .bool false, .int .i64 0, .int .i64 0, .slice none 0 0], .int .i64 30]) ?_ rfl ⟨none, 0, 0, rfl, ((HS2.out.nil _ _).at_ [0] (by decide) rfl)⟩
    simp [results, Tryd.results11, go_sem, z0, z1, z2, z3, z4, z5, z6, z7, z8, z9, z10, z11, z12, z13, z14]
  have HP := Lib.hid (HMo.out Hx Lx s HM.out hzz)
  go_cut [161] (fun v wx => v = .bool false ∧ wx = w8)
  case first =>
    have y9 := (HS8.out.blk 2 rfl).cell 9 rfl
    have y10 := (HS8.out.blk 2 rfl).cell 10 rfl
    by_cases hh : Hx = 0
    · have hll : ¬ Lx = 0 := fun h => hzz ⟨hh, h⟩
      subst hh
      have t3 : ((Lx : Int) == 0) = false := by simp [hll]
      have t4 : decide ((Lx : Int) = 0) = false := by simp [hll]
      clear hzz hll
      go_wp2_with fail
      go_meet
      exact ⟨rfl, rfl⟩
    · have t3 : ((Hx : Int) == 0) = false := by simp [hh]
      have t4 : decide ((Hx : Int) = 0) = false := by simp [hh]
      clear hzz hh
      go_wp2_with fail
      go_meet
      exact ⟨rfl, rfl⟩
  obtain ⟨rfl, hwc⟩ := hcut
  rw [hwc]
  clear hwc hzz HM HMz HMo
  obtain ⟨q, hq1, hq2⟩ := sl_from (some ⟨b, off, none⟩) zs.length c s (s : Int) rfl (by omega) hc hcm
  have HRq := Lib.hid (hq2 w8 zs rfl (HR0.out.frm HS8.out.frm (by simp)))
  have hcp := bcopy_c q (c - s) (zs.drop s) w8 HRq.out (by rw [List.length_drop]; omega)
  simp only [List.length_drop] at hcp
  have HCp := Lib.hid hcp
  clear hcp hq2
  go_wp2_with fail
  refine HCp.out.mono ?_
  rintro ex w9 ⟨gc, cc, rfl, hS⟩
  obtain ⟨nn, hnn⟩ : ∃ nn, nn = zs.length - s := ⟨_, rfl⟩
  rw [← hnn] at hS ⊢
  have HS9 := Lib.hid (show Sep [] W w9 [sumR (.slice (some ⟨gc, 0, none⟩) nn cc) (zs.drop s), ownR 4 1 (.slice (some ⟨g11, 0, none⟩) 128 c11) 128 ((bools hq lq).map Value.bool), ownR 4 1 (.slice (some ⟨g7, 0, none⟩) 128 c7) 128 ((bools Hx Lx).map Value.bool), blkR p 36 #[.int .u8 (y0 % 64), .int .u8 y1, .int .u8 y4, .int .u8 y5, .int .u8 y6, .int .u8 y7, .int .u8 y2, .int .u8 y3, .int .u16 B, .int .u64 (Hx : Int), .int .u64 (Lx : Int), .bool false, .int .i64 0, .int .i64 0, .slice none 0 0], blkR o 36 #[.int .u8 0, .int .u8 0, .int .u8 0, .int .u8 0, .int .u8 0, .int .u8 0, .int .u8 0, .int .u8 0, .int .u16 0, .int .u64 0, .int .u64 0, .bool false, .int .i64 0, .int .i64 0, .slice none 0 0]] from HS8.out.more hS)
  clear hS HS8 HCp HRq hq1 hnn
  have z14 := (HS9.out.blk 3 rfl).cell 14 rfl
  have f14 := (HS9.out.blk 3 rfl).free 14
  go_upto_region 37 with fail
  obtain ⟨w10, hw10⟩ : ∃ q, q = w9.setCell ⟨p, 14, none⟩ (.slice (some ⟨gc, 0, none⟩) nn cc) := ⟨_, rfl⟩
  have HS10 := Lib.hid (show Sep [] W w10 [sumR (.slice (some ⟨gc, 0, none⟩) nn cc) (zs.drop s), ownR 4 1 (.slice (some ⟨g11, 0, none⟩) 128 c11) 128 ((bools hq lq).map Value.bool), ownR 4 1 (.slice (some ⟨g7, 0, none⟩) 128 c7) 128 ((bools Hx Lx).map Value.bool), blkR p 36 #[.int .u8 (y0 % 64), .int .u8 y1, .int .u8 y4, .int .u8 y5, .int .u8 y6, .int .u8 y7, .int .u8 y2, .int .u8 y3, .int .u16 B, .int .u64 (Hx : Int), .int .u64 (Lx : Int), .bool false, .int .i64 0, .int .i64 0, .slice (some ⟨gc, 0, none⟩) nn cc], blkR o 36 #[.int .u8 0, .int .u8 0, .int .u8 0, .int .u8 0, .int .u8 0, .int .u8 0, .int .u8 0, .int .u8 0, .int .u16 0, .int .u64 0, .int .u64 0, .bool false, .int .i64 0, .int .i64 0, .slice none 0 0]] from hw10 ▸ HS9.out.put 3 rfl 14 (.slice (some ⟨gc, 0, none⟩) nn cc))
  rw [← hw10]
  clear hw10 HS9 z14 f14
  have k0 := (HS10.out.blk 3 rfl).cell 0 rfl
  have k1 := (HS10.out.blk 3 rfl).cell 1 rfl
  have k2 := (HS10.out.blk 3 rfl).cell 2 rfl
  have k3 := (HS10.out.blk 3 rfl).cell 3 rfl
  have k4 := (HS10.out.blk 3 rfl).cell 4 rfl
  have k5 := (HS10.out.blk 3 rfl).cell 5 rfl
  have k6 := (HS10.out.blk 3 rfl).cell 6 rfl
  have k7 := (HS10.out.blk 3 rfl).cell 7 rfl
  have k8 := (HS10.out.blk 3 rfl).cell 8 rfl
  have k9 := (HS10.out.blk 3 rfl).cell 9 rfl
  have k10 := (HS10.out.blk 3 rfl).cell 10 rfl
  have k11 := (HS10.out.blk 3 rfl).cell 11 rfl
  have k12 := (HS10.out.blk 3 rfl).cell 12 rfl
  have k13 := (HS10.out.blk 3 rfl).cell 13 rfl
  have k14 := (HS10.out.blk 3 rfl).cell 14 rfl
  have z0 := (HS10.out.blk 4 rfl).cell 0 rfl
  have z1 := (HS10.out.blk 4 rfl).cell 1 rfl
  have z2 := (HS10.out.blk 4 rfl).cell 2 rfl
  have z3 := (HS10.out.blk 4 rfl).cell 3 rfl
  have z4 := (HS10.out.blk 4 rfl).cell 4 rfl
  have z5 := (HS10.out.blk 4 rfl).cell 5 rfl
  have z6 := (HS10.out.blk 4 rfl).cell 6 rfl
  have z7 := (HS10.out.blk 4 rfl).cell 7 rfl
  have z8 := (HS10.out.blk 4 rfl).cell 8 rfl
  have z9 := (HS10.out.blk 4 rfl).cell 9 rfl
  have z10 := (HS10.out.blk 4 rfl).cell 10 rfl
  have z11 := (HS10.out.blk 4 rfl).cell 11 rfl
  have z12 := (HS10.out.blk 4 rfl).cell 12 rfl
  have z13 := (HS10.out.blk 4 rfl).cell 13 rfl
  have z14 := (HS10.out.blk 4 rfl).cell 14 rfl
  have f0 := (HS10.out.blk 4 rfl).free 0
  have f1 := (HS10.out.blk 4 rfl).free 1
  have f2 := (HS10.out.blk 4 rfl).free 2
  have f3 := (HS10.out.blk 4 rfl).free 3
  have f4 := (HS10.out.blk 4 rfl).free 4
  have f5 := (HS10.out.blk 4 rfl).free 5
  have f6 := (HS10.out.blk 4 rfl).free 6
  have f7 := (HS10.out.blk 4 rfl).free 7
  have f8 := (HS10.out.blk 4 rfl).free 8
  have f9 := (HS10.out.blk 4 rfl).free 9
  have f10 := (HS10.out.blk 4 rfl).free 10
  have f11 := (HS10.out.blk 4 rfl).free 11
  have f12 := (HS10.out.blk 4 rfl).free 12
  have f13 := (HS10.out.blk 4 rfl).free 13
  have f14 := (HS10.out.blk 4 rfl).free 14
  go_wp2_with fail
  obtain ⟨w11, hw11⟩ : ∃ x, x = (((((((((((((((w10.setCell ⟨o, 0, none⟩ (.int .u8 (y0 % 64))).setCell ⟨o, 1, none⟩ (.int .u8 y1)).setCell ⟨o, 2, none⟩ (.int .u8 y4)).setCell ⟨o, 3, none⟩ (.int .u8 y5)).setCell ⟨o, 4, none⟩ (.int .u8 y6)).setCell ⟨o, 5, none⟩ (.int .u8 y7)).setCell ⟨o, 6, none⟩ (.int .u8 y2)).setCell ⟨o, 7, none⟩ (.int .u8 y3)).setCell ⟨o, 8, none⟩ (.int .u16 B)).setCell ⟨o, 9, none⟩ (.int .u64 (Hx : Int))).setCell ⟨o, 10, none⟩ (.int .u64 (Lx : Int))).setCell ⟨o, 11, none⟩ (.bool false)).setCell ⟨o, 12, none⟩ (.int .i64 0)).setCell ⟨o, 13, none⟩ (.int .i64 0)).setCell ⟨o, 14, none⟩ (.slice (some ⟨gc, 0, none⟩) nn cc)) := ⟨_, rfl⟩
  have HS11 := Lib.hid (show Sep [] W w11 [sumR (.slice (some ⟨gc, 0, none⟩) nn cc) (zs.drop s), ownR 4 1 (.slice (some ⟨g11, 0, none⟩) 128 c11) 128 ((bools hq lq).map Value.bool), ownR 4 1 (.slice (some ⟨g7, 0, none⟩) 128 c7) 128 ((bools Hx Lx).map Value.bool), blkR p 36 #[.int .u8 (y0 % 64), .int .u8 y1, .int .u8 y4, .int .u8 y5, .int .u8 y6, .int .u8 y7, .int .u8 y2, .int .u8 y3, .int .u16 B, .int .u64 (Hx : Int), .int .u64 (Lx : Int), .bool false, .int .i64 0, .int .i64 0, .slice (some ⟨gc, 0, none⟩) nn cc], blkR o 36 #[.int .u8 (y0 % 64), .int .u8 y1, .int .u8 y4, .int .u8 y5, .int .u8 y6, .int .u8 y7, .int .u8 y2, .int .u8 y3, .int .u16 B, .int .u64 (Hx : Int), .int .u64 (Lx : Int), .bool false, .int .i64 0, .int .i64 0, .slice (some ⟨gc, 0, none⟩) nn cc]] from hw11 ▸ HS10.out.puts 4 rfl [.int .u8 (y0 % 64), .int .u8 y1, .int .u8 y4, .int .u8 y5, .int .u8 y6, .int .u8 y7, .int .u8 y2, .int .u8 y3, .int .u16 B, .int .u64 (Hx : Int), .int .u64 (Lx : Int), .bool false, .int .i64 0, .int .i64 0, .slice (some ⟨gc, 0, none⟩) nn cc] rfl)
  rw [← hw11]
  clear hw11 k0 k1 k2 k3 k4 k5 k6 k7 k8 k9 k10 k11 k12 k13 k14 z0 z1 z2 z3 z4 z5 z6 z7 z8 z9 z10 z11 z12 z13 z14 f0 f1 f2 f3 f4 f5 f6 f7 f8 f9 f10 f11 f12 f13 f14 HS10
  have z0 := (HS11.out.blk 4 rfl).cell 0 rfl
  have z1 := (HS11.out.blk 4 rfl).cell 1 rfl
  have z2 := (HS11.out.blk 4 rfl).cell 2 rfl
  have z3 := (HS11.out.blk 4 rfl).cell 3 rfl
  have z4 := (HS11.out.blk 4 rfl).cell 4 rfl
  have z5 := (HS11.out.blk 4 rfl).cell 5 rfl
  have z6 := (HS11.out.blk 4 rfl).cell 6 rfl
  have z7 := (HS11.out.blk 4 rfl).cell 7 rfl
  have z8 := (HS11.out.blk 4 rfl).cell 8 rfl
  have z9 := (HS11.out.blk 4 rfl).cell 9 rfl
  have z10 := (HS11.out.blk 4 rfl).cell 10 rfl
  have z11 := (HS11.out.blk 4 rfl).cell 11 rfl
  have z12 := (HS11.out.blk 4 rfl).cell 12 rfl
  have z13 := (HS11.out.blk 4 rfl).cell 13 rfl
  have z14 := (HS11.out.blk 4 rfl).cell 14 rfl
  have hX : X0 = paX zs := HXE.out.1
  have hE : e = 0 := HXE.out.2.trans (by rw [HIn.out.2, HP.out]; rfl)
  rw [HIn.out.1, HP.out] at hX
  subst hX hE
  have hb8 : bigN (cut zs 8 2) = B := HBB.out.symm
  refine bodyPost_ret (v := .tuple #[.agg #[.int .u8 (y0 % 64), .int .u8 y1, .int .u8 y4, .int .u8 y5, .int .u8 y6, .int .u8 y7, .int .u8 y2, .int .u8 y3, .int .u16 B, .int .u64 (Hx : Int), .int .u64 (Lx : Int), .bool false, .int .i64 0, .int .i64 0, .slice (some ⟨gc, 0, none⟩) nn cc], .int .i64 0]) ?_ rfl ⟨some ⟨gc, 0, none⟩, nn, cc, ?_, HS11.out.at_ [0] (by decide) rfl⟩
  · simp [results, Tryd.results11, go_sem, z0, z1, z2, z3, z4, z5, z6, z7, z8, z9, z10, z11, z12, z13, z14]
  · simp only [paR, Fx.val, Fx.cells, A0.out, A1.out, A2.out, A3.out, A4.out, A5.out, A6.out, A7.out, hb8]

set_option maxRecDepth 1000000 in
set_option maxHeartbeats 16000000 in
theorem rParse_n {W w3 : World} {b off c : Nat} {zs : List Int} {X0 : Fx} {e y0 y1 y2 y3 y4 y5 y6 y7 B : Int} {o p : Nat} {K : Act → World → Prop} (hc : zs.length ≤ c) (hcm : c ≤ 9223372036854775807) (hl : ¬ 1500 < zs.length) (hs : ¬ zs.length < 12) (HXE : Hid (X0 = paX zs ∧ e = paE zs)) (HBt : Hid (Byt zs)) (HIn : Hid (paX zs = paR (rdX zs) ∧ paE zs = paV (rdX zs))) (h0 : 0 < zs.length)
    (HR0 : Hid (RdI .u8 W (some ⟨b, off, none⟩) zs)) (hodd : ¬ 128 ≤ y0) (HHf : Hid (¬ 64 ≤ y0)) (A0 : Hid (at_ zs 0 = y0)) (A1 : Hid (at_ zs 1 = y1)) (A2 : Hid (at_ zs 2 = y2)) (A3 : Hid (at_ zs 3 = y3)) (A4 : Hid (at_ zs 4 = y4)) (A5 : Hid (at_ zs 5 = y5)) (A6 : Hid (at_ zs 6 = y6)) (A7 : Hid (at_ zs 7 = y7)) (HBB : Hid (B = bigN (cut zs 8 2)))
    (HC0 : Hid (∀ X : World, Frm [] W X → ∀ (k : Nat) (y : Int), zs[k]? = some y → X.cell? ⟨b, off + k, none⟩ = some (.int .u8 y)))
    (HS3 : Hid (Sep [] W w3 [blkR p 36 #[.int .u8 (y0 % 64), .int .u8 y1, .int .u8 y4, .int .u8 y5, .int .u8 y6, .int .u8 y7, .int .u8 y2, .int .u8 y3, .int .u16 B, .int .u64 0, .int .u64 0, .bool false, .int .i64 0, .int .i64 0, .slice none 0 0], blkR o 36 #[.int .u8 0, .int .u8 0, .int .u8 0, .int .u8 0, .int .u8 0, .int .u8 0, .int .u8 0, .int .u8 0, .int .u16 0, .int .u64 0, .int .u64 0, .bool false, .int .i64 0, .int .i64 0, .slice none 0 0]])) (u1 u3 u7 u8 u9 u10 u11 u12 u13 u14 u15 u16 u17 u18 u19 u20 u21 u22 u23 u24 u25 u26 u27 u28 u29 u30 u31 u32 u33 u34 u35 u36 u37 u38 u39 u40 u41 u42 u43 u44 u45 u46 u47 u48 u49 u50 u51 u52 u53 u54 u55 u56 u57 u58 u59 u60 u61 u62 u63 u64 u65 u66 u67 u68 u69 u70 u71 u72 u73 u74 u75 u76 u77 u78 u79 u80 u81 u82 u83 u84 u85 u86 u87 u88 u89 u90 u91 u92 u93 u94 u95 u96 u97 u98 u99 u100 u101 u102 u103 u104 u105 u106 u107 u108 u109 u110 u111 u112 u113 u114 u115 u116 u117 u118 u119 u120 u121 u122 u123 u124 u125 u126 u127 u128 u129 u130 u131 u132 u133 u134 u135 u136 u137 u138 u139 u140 u141 u142 u143 u144 u145 u146 u147 u148 u149 u150 u151 u152 u153 u154 u155 u156 u157 u158 u159 u160 u161 u162 u163 u164 u165 u166 u167 u168 : Value)
    (hK : ∀ a w, Code.wp Tryd.prog m14.2 (bodyPost Tryd.prog Tryd.f11 (ParseP W X0 e)) a w → K a w) :
    Code.wp Tryd.prog m14.1 (Exit.then K (bodyPost Tryd.prog Tryd.f11 (ParseP W X0 e))) ⟨List.toArray ((.slice (some ⟨b, off, none⟩) zs.length c) :: u1 :: (.pointer (some ⟨o, 0, none⟩)) :: u3 :: (.pointer (some ⟨p, 0, none⟩)) :: (.int .i64 10) :: (.int .i64 0) :: u7 :: u8 :: u9 :: u10 :: u11 :: u12 :: u13 :: u14 :: u15 :: u16 :: u17 :: u18 :: u19 :: u20 :: u21 :: u22 :: u23 :: u24 :: u25 :: u26 :: u27 :: u28 :: u29 :: u30 :: u31 :: u32 :: u33 :: u34 :: u35 :: u36 :: u37 :: u38 :: u39 :: u40 :: u41 :: u42 :: u43 :: u44 :: u45 :: u46 :: u47 :: u48 :: u49 :: u50 :: u51 :: u52 :: u53 :: u54 :: u55 :: u56 :: u57 :: u58 :: u59 :: u60 :: u61 :: u62 :: u63 :: u64 :: u65 :: u66 :: u67 :: u68 :: u69 :: u70 :: u71 :: u72 :: u73 :: u74 :: u75 :: u76 :: u77 :: u78 :: u79 :: u80 :: u81 :: u82 :: u83 :: u84 :: u85 :: u86 :: u87 :: u88 :: u89 :: u90 :: u91 :: u92 :: u93 :: u94 :: u95 :: u96 :: u97 :: u98 :: u99 :: u100 :: u101 :: u102 :: u103 :: u104 :: u105 :: u106 :: u107 :: u108 :: u109 :: u110 :: u111 :: u112 :: u113 :: u114 :: u115 :: u116 :: u117 :: u118 :: u119 :: u120 :: u121 :: u122 :: u123 :: u124 :: u125 :: u126 :: u127 :: u128 :: u129 :: u130 :: u131 :: u132 :: u133 :: u134 :: u135 :: u136 :: u137 :: u138 :: u139 :: u140 :: u141 :: u142 :: u143 :: u144 :: u145 :: u146 :: u147 :: u148 :: u149 :: u150 :: u151 :: u152 :: u153 :: u154 :: u155 :: u156 :: u157 :: u158 :: u159 :: u160 :: u161 :: u162 :: u163 :: u164 :: u165 :: u166 :: u167 :: u168 :: []), []⟩ w3 := by
  have hf := HHf.out
  conv => arg 2; whnf
  conv at hK => enter [a, w]; arg 1; arg 2; whnf
  have HFm := Lib.hid (fun X => rfrom_c none 0 [] X (RdV.nil _ _) (by simp))

  go_wp2_with fail
  refine (HFm.out w3).mono ?_
  rintro e w4 ⟨a7, c7, rfl, hS⟩
  rw [frB_nil] at hS
  obtain ⟨g7, hg7⟩ := own_addr2 (hS.own 0 rfl) (by decide)
  subst hg7
  have HS4 := Lib.hid (show Sep [] W w4 [ownR 4 1 (.slice (some ⟨g7, 0, none⟩) 128 c7) 128 ((bools 0 0).map Value.bool), blkR p 36 #[.int .u8 (y0 % 64), .int .u8 y1, .int .u8 y4, .int .u8 y5, .int .u8 y6, .int .u8 y7, .int .u8 y2, .int .u8 y3, .int .u16 B, .int .u64 0, .int .u64 0, .bool false, .int .i64 0, .int .i64 0, .slice none 0 0], blkR o 36 #[.int .u8 0, .int .u8 0, .int .u8 0, .int .u8 0, .int .u8 0, .int .u8 0, .int .u8 0, .int .u8 0, .int .u16 0, .int .u64 0, .int .u64 0, .bool false, .int .i64 0, .int .i64 0, .slice none 0 0]] from by rw [bools_zero]; exact HS3.out.more hS)
  clear hS HS3 HFm
  have hodd' : ¬ (1 ≤ zs.length ∧ 128 ≤ at_ zs 0) := by rw [A0.out]; omega
  have hfx' : ¬ 64 ≤ at_ zs 0 := by rw [A0.out]; omega
  have HMe := Lib.hid (fun (e : Int) (h : mkF zs 3 0 10 0 0 = .error e) => rd_mske hodd' hs hfx' h)
  have HMz := Lib.hid (fun (n : Nat) (h : mkF zs 3 0 10 0 0 = .ok (0, 0, n)) => rd_mskz hodd' hs hfx' h)
  have HMo := Lib.hid (fun (h l n : Nat) (hm : mkF zs 3 0 10 0 0 = .ok (h, l, n)) (hz : ¬ (h = 0 ∧ l = 0)) => rd_msk hodd' hs hfx' hm hz)
  have hz12 : 12 ≤ zs.length := by omega
  clear hodd' hfx' hf hs
  go_wp2_with fail
  go_loopw [5, 6, 8] (fun at_ fr kk wx => ∃ (k H L P : Nat), k < 3 ∧ H < 18446744073709551616 ∧ L < 18446744073709551616 ∧ at_ = .int .i64 (P : Int) ∧ fr = .int .i64 (mkA k : Int) ∧ kk = .int .i64 (k : Int) ∧ P ≤ 10 + 8 * k ∧ mkF zs (3 - k) k P H L = mkF zs 3 0 10 0 0 ∧ Sep [] W wx [ownR 4 1 (.slice (some ⟨g7, 0, none⟩) 128 c7) 128 ((bools H L).map Value.bool), blkR p 36 #[.int .u8 (y0 % 64), .int .u8 y1, .int .u8 y4, .int .u8 y5, .int .u8 y6, .int .u8 y7, .int .u8 y2, .int .u8 y3, .int .u16 B, .int .u64 0, .int .u64 0, .bool false, .int .i64 0, .int .i64 0, .slice none 0 0], blkR o 36 #[.int .u8 0, .int .u8 0, .int .u8 0, .int .u8 0, .int .u8 0, .int .u8 0, .int .u8 0, .int .u8 0, .int .u16 0, .int .u64 0, .int .u64 0, .bool false, .int .i64 0, .int .i64 0, .slice none 0 0]]) (fun _ _ kk _ => 3 - (intOf kk).toNat)
  case atStart => exact ⟨0, 0, 0, 10, by decide, by decide, by decide, rfl, rfl, rfl, by decide, rfl, HS4.out⟩
  case round =>
    obtain ⟨k, H, L, P, hk, hH, hL, rfl, rfl, rfl, hP, hmk, hS⟩ := hrel
    have HS := Lib.hid hS
    have HHL := Lib.hid (And.intro hH hL)
    clear hS HS4 hH hL
    have He1 := Lib.hid (show wrap64 (2 * 2 ^ k) = (mkS k : Int) by
      have : k = 0 ∨ k = 1 ∨ k = 2 := by omega
      rcases this with rfl | rfl | rfl <;> decide +kernel)
    have hNZ : 8 * mkS k = mkN k + 1 ∧ 2 ≤ mkS k ∧ mkS k ≤ 8 := by
      have : k = 0 ∨ k = 1 ∨ k = 2 := by omega
      rcases this with rfl | rfl | rfl <;> decide
    have hA : mkA k ≤ 46 ∧ (k < 2 → mkA (k + 1) = mkA k + mkN k) := by
      have : k = 0 ∨ k = 1 ∨ k = 2 := by omega
      rcases this with rfl | rfl | rfl <;> decide
    have HAn := Lib.hid hA.2
    have hA1 := hA.1
    have HMs := Lib.hid (fun (h : zs.length < P + mkS k) => (show mkF zs 3 0 10 0 0 = .error 20 from by rw [← hmk, show 3 - k = (2 - k) + 1 by omega]; exact mkF_short h))
    have HMl := Lib.hid (fun (h : ¬ zs.length < P + mkS k) (h2 : 2 ^ mkN k ≤ (bigN (cut zs P (mkS k))).toNat) => (show mkF zs 3 0 10 0 0 = .ok (H ||| lyH (mkA k) (mkN k) (bigN (cut zs P (mkS k))).toNat, L ||| lyL (mkA k) (mkN k) (bigN (cut zs P (mkS k))).toNat, P + mkS k) from by rw [← hmk, show 3 - k = (2 - k) + 1 by omega]; exact mkF_last h h2))
    have HMm := Lib.hid (fun (h : ¬ zs.length < P + mkS k) (h2 : ¬ 2 ^ mkN k ≤ (bigN (cut zs P (mkS k))).toNat) => (show mkF zs 3 0 10 0 0 = mkF zs (2 - k) (k + 1) (P + mkS k) (H ||| lyH (mkA k) (mkN k) (bigN (cut zs P (mkS k))).toNat) (L ||| lyL (mkA k) (mkN k) (bigN (cut zs P (mkS k))).toNat) from by rw [← hmk, show 3 - k = (2 - k) + 1 by omega]; exact mkF_more h h2))
    have HLr := Lib.hid (fun x : Nat => lay_mid (mkA k) (mkN k) x (by omega) (by omega))
    clear hmk hA
    obtain ⟨A, hAe⟩ : ∃ A, A = mkA k := ⟨_, rfl⟩
    obtain ⟨N, hNe⟩ : ∃ N, N = mkN k := ⟨_, rfl⟩
    obtain ⟨Z, hZe⟩ : ∃ Z, Z = mkS k := ⟨_, rfl⟩
    rw [← hAe, ← hNe] at HMl HMm HLr HAn
    rw [← hZe] at HMs HMl HMm He1 hNZ
    rw [← hAe] at hA1 ⊢
    rw [← hNe] at hNZ
    obtain ⟨s, hse⟩ : ∃ s, s = P + Z := ⟨_, rfl⟩
    rw [← hse] at HMs HMl HMm
    have p0 : (P : Int) + (Z : Int) = (s : Int) := by omega
    have p1 : 8 * (Z : Int) - 1 = (N : Int) := by omega
    have p2 : s ≤ 100 := by omega
    have p3 : P < s := by omega
    have p4 : s - P = Z := by omega
    have p5 : Z ≤ 8 := by omega
    have p6 : 2 ≤ Z := by omega
    have p7 : N ≤ 63 := by omega
    have HNZ := Lib.hid hNZ
    have HSe := Lib.hid hse
    have HSb := Lib.hid (show s ≤ 10 + 8 * (k + 1) by omega)
    clear hAe hNe hZe hNZ hse hP
    go_upto_region 19 with fail
    rw [He1.out]
    by_cases hsh : zs.length < s
    · have t1 : decide ((zs.length : Int) < (s : Int)) = true := decide_eq_true (by omega)
      have t2 : decide (zs.length < s) = true := decide_eq_true hsh
      have hrd := HMe.out 20 (HMs.out hsh)
      have HP := Lib.hid hrd
      clear hrd hsh p3 p4
      have hXe : paX zs = Fx.none ∧ paE zs = 20 := by rw [HIn.out.1, HIn.out.2, HP.out]; exact ⟨rfl, rfl⟩
      have hX : X0 = Fx.none := HXE.out.1.trans hXe.1
      have hE : e = 20 := HXE.out.2.trans hXe.2
      clear hXe
      subst hX hE
      have hz := HS.out.blk 2 rfl
      have z0 := hz.cell 0 rfl
      have z1 := hz.cell 1 rfl
      have z2 := hz.cell 2 rfl
      have z3 := hz.cell 3 rfl
      have z4 := hz.cell 4 rfl
      have z5 := hz.cell 5 rfl
      have z6 := hz.cell 6 rfl
      have z7 := hz.cell 7 rfl
      have z8 := hz.cell 8 rfl
      have z9 := hz.cell 9 rfl
      have z10 := hz.cell 10 rfl
      have z11 := hz.cell 11 rfl
      have z12 := hz.cell 12 rfl
      have z13 := hz.cell 13 rfl
      have z14 := hz.cell 14 rfl
      have f0 := hz.free 0
      have f1 := hz.free 1
      have f2 := hz.free 2
      have f3 := hz.free 3
      have f4 := hz.free 4
      have f5 := hz.free 5
      have f6 := hz.free 6
      have f7 := hz.free 7
      have f8 := hz.free 8
      have f9 := hz.free 9
      have f10 := hz.free 10
      have f11 := hz.free 11
      have f12 := hz.free 12
      have f13 := hz.free 13
      have f14 := hz.free 14
      go_wp2_with fail
      obtain ⟨w4, hw4⟩ : ∃ w4, w4 = (((((((((((((((wr.setCell ⟨o, 0, none⟩ (.int .u8 0)).setCell ⟨o, 1, none⟩ (.int .u8 0)).setCell ⟨o, 2, none⟩ (.int .u8 0)).setCell ⟨o, 3, none⟩ (.int .u8 0)).setCell ⟨o, 4, none⟩ (.int .u8 0)).setCell ⟨o, 5, none⟩ (.int .u8 0)).setCell ⟨o, 6, none⟩ (.int .u8 0)).setCell ⟨o, 7, none⟩ (.int .u8 0)).setCell ⟨o, 8, none⟩ (.int .u16 0)).setCell ⟨o, 9, none⟩ (.int .u64 0)).setCell ⟨o, 10, none⟩ (.int .u64 0)).setCell ⟨o, 11, none⟩ (.bool false)).setCell ⟨o, 12, none⟩ (.int .i64 0)).setCell ⟨o, 13, none⟩ (.int .i64 0)).setCell ⟨o, 14, none⟩ (.slice none 0 0)) := ⟨_, rfl⟩
      have HS2 := Lib.hid (show Sep [] W w4 [ownR 4 1 (.slice (some ⟨g7, 0, none⟩) 128 c7) 128 ((bools H L).map Value.bool), blkR p 36 #[.int .u8 (y0 % 64), .int .u8 y1, .int .u8 y4, .int .u8 y5, .int .u8 y6, .int .u8 y7, .int .u8 y2, .int .u8 y3, .int .u16 B, .int .u64 0, .int .u64 0, .bool false, .int .i64 0, .int .i64 0, .slice none 0 0], blkR o 36 #[.int .u8 0, .int .u8 0, .int .u8 0, .int .u8 0, .int .u8 0, .int .u8 0, .int .u8 0, .int .u8 0, .int .u16 0, .int .u64 0, .int .u64 0, .bool false, .int .i64 0, .int .i64 0, .slice none 0 0]] from hw4 ▸ HS.out.puts 2 rfl [.int .u8 0, .int .u8 0, .int .u8 0, .int .u8 0, .int .u8 0, .int .u8 0, .int .u8 0, .int .u8 0, .int .u16 0, .int .u64 0, .int .u64 0, .bool false, .int .i64 0, .int .i64 0, .slice none 0 0] rfl)
      rw [← hw4]
      clear hw4 HS hz z0 z1 z2 z3 z4 z5 z6 z7 z8 z9 z10 z11 z12 z13 z14 f0 f1 f2 f3 f4 f5 f6 f7 f8 f9 f10 f11 f12 f13 f14
      have hz := HS2.out.blk 2 rfl
      have z0 := hz.cell 0 rfl
      have z1 := hz.cell 1 rfl
      have z2 := hz.cell 2 rfl
      have z3 := hz.cell 3 rfl
      have z4 := hz.cell 4 rfl
      have z5 := hz.cell 5 rfl
      have z6 := hz.cell 6 rfl
      have z7 := hz.cell 7 rfl
      have z8 := hz.cell 8 rfl
      have z9 := hz.cell 9 rfl
      have z10 := hz.cell 10 rfl
      have z11 := hz.cell 11 rfl
      have z12 := hz.cell 12 rfl
      have z13 := hz.cell 13 rfl
      have z14 := hz.cell 14 rfl
      refine bodyPost_ret (v := .tuple #[.agg #[.int .u8 0, .int .u8 0, .int .u8 0, .int .u8 0, .int .u8 0, .int .u8 0, .int .u8 0, .int .u8 0, .int .u16 0, .int .u64 0, .int .u64 0, .bool false, .int .i64 0, .int .i64 0, .slice none 0 0], .int .i64 20]) ?_ rfl ⟨none, 0, 0, rfl, ((HS2.out.nil _ _).at_ [0] (by decide) rfl)⟩
      simp [results, Tryd.results11, go_sem, z0, z1, z2, z3, z4, z5, z6, z7, z8, z9, z10, z11, z12, z13, z14]
    have t1 : decide ((zs.length : Int) < (s : Int)) = false := decide_eq_false (by omega)
    have t2 : decide (zs.length < s) = false := decide_eq_false hsh
    have p8 : s ≤ zs.length := by omega
    have p9 : P < c := by omega
    obtain ⟨y, cy, ly, uy, z2, gy⟩ := cut_byte HBt.out (p := P) (by omega)
    have HGy := Lib.hid gy
    have HFb := Lib.hid (first_byte HBt.out (P := P) (Z := Z) (N := N) gy (by omega) (by omega) HNZ.out.1)
    have hcl : (cut zs P Z).length = Z := cut_len (by omega)
    have hV := bigN_lt (HBt.out.cut P Z)
    obtain ⟨X, hX⟩ : ∃ X : Nat, X = (bigN (cut zs P Z)).toNat := ⟨_, rfl⟩
    have hVX : bigN (cut zs P Z) = (X : Int) := by omega
    have hXl : X < 18446744073709551616 := by
      have h256 := pow256_le (Z := (cut zs P Z).length) (by omega)
      omega
    have HCn := Lib.hid (fun (Y : World) (hf : Frm [] W Y) => (by
      have h := rnumber_c (some ⟨b, off + P, none⟩) (c - P) Z (cut zs P Z) hcl Y (((HR0.out.frm hf (by simp)).offs P).firsts Z) (HBt.out.cut _ _) (by omega)
      rw [hVX] at h
      exact h : Calls Tryd.prog 30 #[.slice (some ⟨b, off + P, none⟩) Z (c - P)] Y fun e w' => e = .returned (.int .u64 (X : Int)) ∧ Y = w'))
    have HCl := Lib.hid (fun (Y : World) => rlay_c A N X Y (by omega) (by omega) hXl)
    rw [← hX] at HMl HMm
    have HLx := Lib.hid (HLr.out X)
    rw [← hX] at HFb
    have HXl := Lib.hid hXl
    clear cy z2 gy hcl hV hX hVX hXl hsh HLr HMs
    obtain ⟨hq, hhq⟩ : ∃ q, q = lyH (A : Int) (N : Int) X := ⟨_, rfl⟩
    obtain ⟨lq, hlq⟩ : ∃ q, q = lyL (A : Int) (N : Int) X := ⟨_, rfl⟩
    have hq64 : hq < 18446744073709551616 ∧ lq < 18446744073709551616 := by rw [hhq, hlq]; exact ⟨lyH_lt _ _ _, lyL_lt _ _ _⟩
    have HQ64 := Lib.hid hq64
    rw [← hhq, ← hlq] at HMl HMm HLx
    clear hhq hlq hq64
    go_wp2_with fail
    refine (HCn.out wr HS.out.frm).mono ?_
    rintro ex w5 ⟨rfl, rfl⟩
    go_wp2_with fail
    refine (HCl.out _).mono ?_
    rintro ex w6 ⟨a11, c11, rfl, hS⟩
    rw [HLx.out] at hS
    obtain ⟨g11, hg11⟩ := own_addr2 (hS.own 0 rfl) (by decide)
    subst hg11
    have HS5 := Lib.hid (show Sep [] W w6 [ownR 4 1 (.slice (some ⟨g11, 0, none⟩) 128 c11) 128 ((bools hq lq).map Value.bool), ownR 4 1 (.slice (some ⟨g7, 0, none⟩) 128 c7) 128 ((orK (bools H L) (bools hq lq) 0).map Value.bool), blkR p 36 #[.int .u8 (y0 % 64), .int .u8 y1, .int .u8 y4, .int .u8 y5, .int .u8 y6, .int .u8 y7, .int .u8 y2, .int .u8 y3, .int .u16 B, .int .u64 0, .int .u64 0, .bool false, .int .i64 0, .int .i64 0, .slice none 0 0], blkR o 36 #[.int .u8 0, .int .u8 0, .int .u8 0, .int .u8 0, .int .u8 0, .int .u8 0, .int .u8 0, .int .u8 0, .int .u16 0, .int .u64 0, .int .u64 0, .bool false, .int .i64 0, .int .i64 0, .slice none 0 0]] from by rw [orK_zero]; exact HS.out.more hS)
    clear hS HS HCn HCl HLx
    go_wp2_with fail
    go_loopw [12] (fun i wi => ∃ j : Nat, j ≤ 128 ∧ i = .int .i64 (j : Int) ∧ Sep [] W wi [ownR 4 1 (.slice (some ⟨g11, 0, none⟩) 128 c11) 128 ((bools hq lq).map Value.bool), ownR 4 1 (.slice (some ⟨g7, 0, none⟩) 128 c7) 128 ((orK (bools H L) (bools hq lq) j).map Value.bool), blkR p 36 #[.int .u8 (y0 % 64), .int .u8 y1, .int .u8 y4, .int .u8 y5, .int .u8 y6, .int .u8 y7, .int .u8 y2, .int .u8 y3, .int .u16 B, .int .u64 0, .int .u64 0, .bool false, .int .i64 0, .int .i64 0, .slice none 0 0], blkR o 36 #[.int .u8 0, .int .u8 0, .int .u8 0, .int .u8 0, .int .u8 0, .int .u8 0, .int .u8 0, .int .u8 0, .int .u16 0, .int .u64 0, .int .u64 0, .bool false, .int .i64 0, .int .i64 0, .slice none 0 0]]) (fun i _ => 128 - (intOf i).toNat)
    case atStart => exact ⟨0, by decide, rfl, HS5.out⟩
    case round =>
      obtain ⟨j, hj, rfl, hS⟩ := hrel
      have HS6 := Lib.hid hS
      clear hS HS5
      by_cases hlt : j < 128
      · have k0 : (0 : Int) ≤ (j : Int) := by omega
        have k1 : (j : Int) < 128 := by omega
        obtain ⟨x, hx⟩ : ∃ x, x = (bools H L).getD j false := ⟨_, rfl⟩
        obtain ⟨z, hz⟩ : ∃ z, z = (bools hq lq).getD j false := ⟨_, rfl⟩
        have c0 := own_cell2 (HS6.out.own 1 rfl) (j := j) (v := .bool x) (by rw [List.getElem?_map, orK_at _ _ hlt, hx]; rfl)
        have f0 := own_free (HS6.out.own 1 rfl) j
        have c1 := own_cell2 (HS6.out.own 0 rfl) (j := j) (v := .bool z) (by rw [List.getElem?_map, bools_at hlt, hz, bools_getD hlt]; rfl)
        have hst := own_set (HS6.out.own 1 rfl) j (.bool (x || z)) hlt
        rw [← List.map_set, hx, hz, ← orK_set _ _ hlt, ← hx, ← hz] at hst
        have HS7 := Lib.hid (HS6.out.grow 1 rfl (grown_put (grown_refl wr _) j (.bool (x || z))) hst (.inl rfl))
        clear hst hx hz HS6 p0 p1 p2 p3 p4 p5 p6 p7 p8 p9 HMe HMz HMo HMl HMm
        cases x
        all_goals
          simp only [Bool.false_or, Bool.true_or] at HS7
          go_wp2_with fail
          go_roundw
          case rel => exact ⟨j + 1, by omega, by go_num, HS7.out⟩
          case measure => simp [intOf]; omega
      · obtain rfl : j = 128 := by omega
        have HS7 := Lib.hid (show Sep [] W wr [ownR 4 1 (.slice (some ⟨g11, 0, none⟩) 128 c11) 128 ((bools hq lq).map Value.bool), ownR 4 1 (.slice (some ⟨g7, 0, none⟩) 128 c7) 128 ((bools (H ||| hq) (L ||| lq)).map Value.bool), blkR p 36 #[.int .u8 (y0 % 64), .int .u8 y1, .int .u8 y4, .int .u8 y5, .int .u8 y6, .int .u8 y7, .int .u8 y2, .int .u8 y3, .int .u16 B, .int .u64 0, .int .u64 0, .bool false, .int .i64 0, .int .i64 0, .slice none 0 0], blkR o 36 #[.int .u8 0, .int .u8 0, .int .u8 0, .int .u8 0, .int .u8 0, .int .u8 0, .int .u8 0, .int .u8 0, .int .u16 0, .int .u64 0, .int .u64 0, .bool false, .int .i64 0, .int .i64 0, .slice none 0 0]] from by rw [← orK_all]; exact HS6.out)
        clear HS6 hlt
        have hcy := HC0.out wr HS7.out.frm P y HGy.out
        have i1 : (P : Int) < (zs.length : Int) := by omega
        have i2 : P < zs.length := by omega
        obtain ⟨Hx, hHx⟩ : ∃ q, q = H ||| hq := ⟨_, rfl⟩
        obtain ⟨Lx, hLx⟩ : ∃ q, q = L ||| lq := ⟨_, rfl⟩
        have hx64 : Hx < 18446744073709551616 ∧ Lx < 18446744073709551616 := by rw [hHx, hLx]; exact ⟨or_lt HHL.out.1 HQ64.out.1, or_lt HHL.out.2 HQ64.out.2⟩
        have HX64 := Lib.hid hx64
        rw [← hHx, ← hLx] at HMl HMm HS7
        clear hHx hLx hx64
        obtain ⟨r, hr⟩ : ∃ r, r = A + N := ⟨_, rfl⟩
        have i3 : (A : Int) + (N : Int) = (r : Int) := by omega
        have HRr := Lib.hid hr
        clear hr
        by_cases hlast : 128 ≤ y
        · have hM := HMl.out (by omega) (HFb.out.2 hlast)
          have HM := Lib.hid hM
          clear hM
          go_upto_region 33 with fail
          exact rParse_o hc hcm hl HXE HIn HR0 A0 A1 A2 A3 A4 A5 A6 A7 HBB p8 HX64 HMz HMo HM HS7 _ _ _ _ _ _ _ _ _ _ _ _ _ _ _ _ _ _ _ _ _ _ _ _ _ _ _ _ _ _ _ _ _ _ _ _ _ _ _ _ _ _ _ _ _ _ _ _ _ _ _ _ _ _ _ _ _ _ _ _ _ _ _ _ _ _ _ _ _ _ _ _ _ _ _ _ _ _ _ _ _ _ _ _ _ _ _ _ _ _ _ _ _ _ _ _ _ _ _ _ _ _ _ _ _ _ _ _ _ _ _ _ _ _ _ _ _ _ _ _ _ _ _ _ _ _ _ _ _ _ _ _ _ _ _ _ _ _ _ _ _ _ _ _ _ _ _ _ _ _ _ _ _ _ _ _ _ _ _ _ _ _ _ _ (by assumption)
        · have hM := HMm.out (by omega) (fun h => hlast (HFb.out.1 h))
          have HM := Lib.hid hM
          clear hM
          by_cases hk2 : k = 2
          · have t3 : ((k : Int) == 2) = true := by simp [hk2]
            have HP := Lib.hid (HMe.out 21 (by rw [HM.out, hk2]; rfl))
            clear hk2 HMe HMz HMo HMl HMm p0 p1 p2 p3 p4 p5 p6 p7 p8 p9
            have hXe : paX zs = Fx.none ∧ paE zs = 21 := by rw [HIn.out.1, HIn.out.2, HP.out]; exact ⟨rfl, rfl⟩
            have hX : X0 = Fx.none := HXE.out.1.trans hXe.1
            have hE : e = 21 := HXE.out.2.trans hXe.2
            clear hXe
            subst hX hE
            have hz := HS7.out.blk 3 rfl
            have z0 := hz.cell 0 rfl
            have z1 := hz.cell 1 rfl
            have z2 := hz.cell 2 rfl
            have z3 := hz.cell 3 rfl
            have z4 := hz.cell 4 rfl
            have z5 := hz.cell 5 rfl
            have z6 := hz.cell 6 rfl
            have z7 := hz.cell 7 rfl
            have z8 := hz.cell 8 rfl
            have z9 := hz.cell 9 rfl
            have z10 := hz.cell 10 rfl
            have z11 := hz.cell 11 rfl
            have z12 := hz.cell 12 rfl
            have z13 := hz.cell 13 rfl
            have z14 := hz.cell 14 rfl
            have f0 := hz.free 0
            have f1 := hz.free 1
            have f2 := hz.free 2
            have f3 := hz.free 3
            have f4 := hz.free 4
            have f5 := hz.free 5
            have f6 := hz.free 6
            have f7 := hz.free 7
            have f8 := hz.free 8
            have f9 := hz.free 9
            have f10 := hz.free 10
            have f11 := hz.free 11
            have f12 := hz.free 12
            have f13 := hz.free 13
            have f14 := hz.free 14
            go_wp2_with fail
            obtain ⟨w4, hw4⟩ : ∃ w4, w4 = (((((((((((((((wr.setCell ⟨o, 0, none⟩ (.int .u8 0)).setCell ⟨o, 1, none⟩ (.int .u8 0)).setCell ⟨o, 2, none⟩ (.int .u8 0)).setCell ⟨o, 3, none⟩ (.int .u8 0)).setCell ⟨o, 4, none⟩ (.int .u8 0)).setCell ⟨o, 5, none⟩ (.int .u8 0)).setCell ⟨o, 6, none⟩ (.int .u8 0)).setCell ⟨o, 7, none⟩ (.int .u8 0)).setCell ⟨o, 8, none⟩ (.int .u16 0)).setCell ⟨o, 9, none⟩ (.int .u64 0)).setCell ⟨o, 10, none⟩ (.int .u64 0)).setCell ⟨o, 11, none⟩ (.bool false)).setCell ⟨o, 12, none⟩ (.int .i64 0)).setCell ⟨o, 13, none⟩ (.int .i64 0)).setCell ⟨o, 14, none⟩ (.slice none 0 0)) := ⟨_, rfl⟩
            have HS2 := Lib.hid (show Sep [] W w4 [ownR 4 1 (.slice (some ⟨g11, 0, none⟩) 128 c11) 128 ((bools hq lq).map Value.bool), ownR 4 1 (.slice (some ⟨g7, 0, none⟩) 128 c7) 128 ((bools Hx Lx).map Value.bool), blkR p 36 #[.int .u8 (y0 % 64), .int .u8 y1, .int .u8 y4, .int .u8 y5, .int .u8 y6, .int .u8 y7, .int .u8 y2, .int .u8 y3, .int .u16 B, .int .u64 0, .int .u64 0, .bool false, .int .i64 0, .int .i64 0, .slice none 0 0], blkR o 36 #[.int .u8 0, .int .u8 0, .int .u8 0, .int .u8 0, .int .u8 0, .int .u8 0, .int .u8 0, .int .u8 0, .int .u16 0, .int .u64 0, .int .u64 0, .bool false, .int .i64 0, .int .i64 0, .slice none 0 0]] from hw4 ▸ HS7.out.puts 3 rfl [.int .u8 0, .int .u8 0, .int .u8 0, .int .u8 0, .int .u8 0, .int .u8 0, .int .u8 0, .int .u8 0, .int .u16 0, .int .u64 0, .int .u64 0, .bool false, .int .i64 0, .int .i64 0, .slice none 0 0] rfl)
            rw [← hw4]
            clear hw4 HS7 hz z0 z1 z2 z3 z4 z5 z6 z7 z8 z9 z10 z11 z12 z13 z14 f0 f1 f2 f3 f4 f5 f6 f7 f8 f9 f10 f11 f12 f13 f14
            have hz := HS2.out.blk 3 rfl
            have z0 := hz.cell 0 rfl
            have z1 := hz.cell 1 rfl
            have z2 := hz.cell 2 rfl
            have z3 := hz.cell 3 rfl
            have z4 := hz.cell 4 rfl
            have z5 := hz.cell 5 rfl
            have z6 := hz.cell 6 rfl
            have z7 := hz.cell 7 rfl
            have z8 := hz.cell 8 rfl
            have z9 := hz.cell 9 rfl
            have z10 := hz.cell 10 rfl
            have z11 := hz.cell 11 rfl
            have z12 := hz.cell 12 rfl
            have z13 := hz.cell 13 rfl
            have z14 := hz.cell 14 rfl
            refine bodyPost_ret (v := .tuple #[.agg #[.int .u8 0, .int .u8 0, .int .u8 0, .int .u8 0, .int .u8 0, .int .u8 0, .int .u8 0, .int .u8 0, .int .u16 0, .int .u64 0, .int .u64 0, .bool false, .int .i64 0, .int .i64 0, .slice none 0 0], .int .i64 21]) ?_ rfl ⟨none, 0, 0, rfl, ((HS2.out.nil _ _).at_ [0] (by decide) rfl)⟩
            simp [results, Tryd.results11, go_sem, z0, z1, z2, z3, z4, z5, z6, z7, z8, z9, z10, z11, z12, z13, z14]
          have t3 : ((k : Int) == 2) = false := by simp; omega
          clear HMe HMz HMo HMl HMm
          go_wp2_with fail
          go_roundw
          case rel => exact ⟨k + 1, Hx, Lx, s, by omega, HX64.out.1, HX64.out.2, rfl, by rw [HAn.out (by omega), ← HRr.out], by go_num, HSb.out, by rw [HM.out, show 3 - (k + 1) = 2 - k by omega], HS7.out.at_ [1, 2, 3] (by decide) rfl⟩
          case measure => simp [intOf]; omega

set_option maxRecDepth 100000 in
set_option maxHeartbeats 16000000 in
theorem rParse_m {W : World} {a : Option Addr} {c : Nat} {zs : List Int} (hr : RdI .u8 W a zs) (hb : Byt zs) (hc : zs.length ≤ c) (hcm : c ≤ 9223372036854775807) (hn : a = none → c = 0) (hl : ¬ 1500 < zs.length) (hs : ¬ zs.length < 12) (hodd : at_ zs 0 < 128) (hf : ¬ 64 ≤ at_ zs 0) :
    Calls Tryd.prog 11 #[.slice a zs.length c] W (ParseP W (paX zs) (paE zs)) := by
  have HS0 := Lib.hid ((Sep.init W).alloc #[.int .u8 0, .int .u8 0, .int .u8 0, .int .u8 0, .int .u8 0, .int .u8 0, .int .u8 0, .int .u8 0, .int .u16 0, .int .u64 0, .int .u64 0, .bool false, .int .i64 0, .int .i64 0, .slice none 0 0] 36)
  obtain ⟨X0, hX⟩ : ∃ X0, X0 = paX zs := ⟨_, rfl⟩
  obtain ⟨e, hE⟩ : ∃ e, e = paE zs := ⟨_, rfl⟩
  have HXE := Lib.hid (And.intro hX hE)
  have HRd := Lib.hid (hr.alloc (.cells #[.int .u8 0, .int .u8 0, .int .u8 0, .int .u8 0, .int .u8 0, .int .u8 0, .int .u8 0, .int .u8 0, .int .u16 0, .int .u64 0, .int .u64 0, .bool false, .int .i64 0, .int .i64 0, .slice none 0 0] 36))
  have HR0 := Lib.hid hr
  have HBt := Lib.hid hb
  rw [← hX, ← hE]
  clear hX hE hr hb
  go_enter Tryd.func11, Tryd.ntmps11
  go_upto_region 1 with fail
  obtain ⟨w1, hw1⟩ : ∃ w1, w1 = W.alloc (.cells #[.int .u8 0, .int .u8 0, .int .u8 0, .int .u8 0, .int .u8 0, .int .u8 0, .int .u8 0, .int .u8 0, .int .u16 0, .int .u64 0, .int .u64 0, .bool false, .int .i64 0, .int .i64 0, .slice none 0 0] 36) := ⟨_, rfl⟩
  obtain ⟨o, ho⟩ : ∃ o, o = W.heap.size := ⟨_, rfl⟩
  rw [← hw1, ← ho] at HS0
  rw [← hw1] at HRd
  rw [← hw1, ← ho]
  clear hw1 ho
  have d : decide (1500 < (zs.length : Int)) = false := decide_eq_false (by omega)
  have HIn := Lib.hid (And.intro (paX_in hl) (paE_in hl))
  have h0 : 0 < zs.length := by omega
  obtain ⟨b, off, ha⟩ : ∃ b off, a = some ⟨b, off, none⟩ := by
    obtain ⟨b, off, ha, _⟩ := HRd.out 0 _ (List.getElem?_eq_getElem h0)
    exact ⟨b, off, ha⟩
  subst ha
  have HC := Lib.hid (fun (k : Nat) (y : Int) (h : zs[k]? = some y) => rd_cell HRd.out h)
  obtain ⟨y0, c0, l0, u0, z2, g0⟩ := cut_byte HBt.out (p := 0) (by omega)
  have q0 : w1.cell? ⟨b, off, none⟩ = some (.int .u8 y0) := HC.out 0 y0 g0
  have A0 := Lib.hid (at_of g0)
  clear z2 c0 g0
  rw [A0.out] at hodd hf
  have hodd : ¬ 128 ≤ y0 := by omega
  have HHf := Lib.hid hf
  clear hf
  go_upto_region 7 with fail
  clear q0
  obtain ⟨y1, c1, l1, u1, z2, g1⟩ := cut_byte HBt.out (p := 1) (by omega)
  have A1 := Lib.hid (at_of g1)
  have G1 := Lib.hid g1
  clear z2 c1 g1
  obtain ⟨y4, c4, l4, u4, z2, g4⟩ := cut_byte HBt.out (p := 4) (by omega)
  have A4 := Lib.hid (at_of g4)
  have G4 := Lib.hid g4
  clear z2 c4 g4
  obtain ⟨y5, c5, l5, u5, z2, g5⟩ := cut_byte HBt.out (p := 5) (by omega)
  have A5 := Lib.hid (at_of g5)
  have G5 := Lib.hid g5
  clear z2 c5 g5
  obtain ⟨y6, c6, l6, u6, z2, g6⟩ := cut_byte HBt.out (p := 6) (by omega)
  have A6 := Lib.hid (at_of g6)
  have G6 := Lib.hid g6
  clear z2 c6 g6
  obtain ⟨y7, c7, l7, u7, z2, g7⟩ := cut_byte HBt.out (p := 7) (by omega)
  have A7 := Lib.hid (at_of g7)
  have G7 := Lib.hid g7
  clear z2 c7 g7
  obtain ⟨y2, c2, l2, u2, z2, g2⟩ := cut_byte HBt.out (p := 2) (by omega)
  have A2 := Lib.hid (at_of g2)
  have G2 := Lib.hid g2
  clear z2 c2 g2
  obtain ⟨y3, c3, l3, u3, z2, g3⟩ := cut_byte HBt.out (p := 3) (by omega)
  have A3 := Lib.hid (at_of g3)
  have G3 := Lib.hid g3
  clear z2 c3 g3
  have G0 := Lib.hid (show zs[0]? = some y0 by
    rw [List.getElem?_eq_getElem h0]
    have := A0.out
    unfold at_ at this
    rw [List.getD_eq_getElem?_getD, List.getElem?_eq_getElem h0] at this
    exact congrArg some this)
  obtain ⟨B, hB⟩ : ∃ B, B = bigN (cut zs 8 2) := ⟨_, rfl⟩
  have hBr : 0 ≤ B ∧ B ≤ 65535 := by
    rw [hB]; exact big_cut2 HBt.out 8 (by omega)
  have HNu := Lib.hid (fun (X : World) (hf : Frm [] W X) => hB ▸ rnumber_c (some ⟨b, off + 8, none⟩) (c - 8) 2 (cut zs 8 2) (cut_len (by omega)) X (((HR0.out.frm hf (by simp)).offs 8).firsts 2) (HBt.out.cut _ _) (by omega))
  have HC0 := Lib.hid (fun (X : World) (hf : Frm [] W X) (k : Nat) (y : Int) (h : zs[k]? = some y) => rd_cell (HR0.out.frm hf (by simp)) h)
  have HBB := Lib.hid hB
  obtain ⟨F, hF0⟩ : ∃ F, F = decide (64 ≤ y0) := ⟨_, rfl⟩
  have HF := Lib.hid hF0
  have hw16 : IntKind.u16.wrap B = B := by
    simp [IntKind.wrap, IntKind.bits, IntKind.signed]; omega
  clear hB HC HRd
  refine region_sep_free 35 (ty := 36) (z := #[.int .u8 0, .int .u8 0, .int .u8 0, .int .u8 0, .int .u8 0, .int .u8 0, .int .u8 0, .int .u8 0, .int .u16 0, .int .u64 0, .int .u64 0, .bool false, .int .i64 0, .int .i64 0, .slice none 0 0]) HS0.out (by kernel_rfl) (by kernel_rfl) (by kernel_rfl) rfl (fun _ _ => by kernel_rfl) ?_
  simp only [List.take_succ_cons, List.take_zero, List.drop_succ_cons, List.drop_zero]
  apply Exists.intro
  refine ⟨fun M n1 => ?_, ?_⟩
  · have q0 := fun x : Cls (fun v => Sep [] W v (M ++ [blkR o 36 #[.int .u8 0, .int .u8 0, .int .u8 0, .int .u8 0, .int .u8 0, .int .u8 0, .int .u8 0, .int .u8 0, .int .u16 0, .int .u64 0, .int .u64 0, .bool false, .int .i64 0, .int .i64 0, .slice none 0 0]])) => (show x.world.cell? ⟨b, off, none⟩ = some (.int .u8 y0) from HC0.out x.world x.ok.frm 0 y0 G0.out)
    have q1 := fun x : Cls (fun v => Sep [] W v (M ++ [blkR o 36 #[.int .u8 0, .int .u8 0, .int .u8 0, .int .u8 0, .int .u8 0, .int .u8 0, .int .u8 0, .int .u8 0, .int .u16 0, .int .u64 0, .int .u64 0, .bool false, .int .i64 0, .int .i64 0, .slice none 0 0]])) => HC0.out x.world x.ok.frm 1 y1 G1.out
    have q4 := fun x : Cls (fun v => Sep [] W v (M ++ [blkR o 36 #[.int .u8 0, .int .u8 0, .int .u8 0, .int .u8 0, .int .u8 0, .int .u8 0, .int .u8 0, .int .u8 0, .int .u16 0, .int .u64 0, .int .u64 0, .bool false, .int .i64 0, .int .i64 0, .slice none 0 0]])) => HC0.out x.world x.ok.frm 4 y4 G4.out
    have q5 := fun x : Cls (fun v => Sep [] W v (M ++ [blkR o 36 #[.int .u8 0, .int .u8 0, .int .u8 0, .int .u8 0, .int .u8 0, .int .u8 0, .int .u8 0, .int .u8 0, .int .u16 0, .int .u64 0, .int .u64 0, .bool false, .int .i64 0, .int .i64 0, .slice none 0 0]])) => HC0.out x.world x.ok.frm 5 y5 G5.out
    have q6 := fun x : Cls (fun v => Sep [] W v (M ++ [blkR o 36 #[.int .u8 0, .int .u8 0, .int .u8 0, .int .u8 0, .int .u8 0, .int .u8 0, .int .u8 0, .int .u8 0, .int .u16 0, .int .u64 0, .int .u64 0, .bool false, .int .i64 0, .int .i64 0, .slice none 0 0]])) => HC0.out x.world x.ok.frm 6 y6 G6.out
    have q7 := fun x : Cls (fun v => Sep [] W v (M ++ [blkR o 36 #[.int .u8 0, .int .u8 0, .int .u8 0, .int .u8 0, .int .u8 0, .int .u8 0, .int .u8 0, .int .u8 0, .int .u16 0, .int .u64 0, .int .u64 0, .bool false, .int .i64 0, .int .i64 0, .slice none 0 0]])) => HC0.out x.world x.ok.frm 7 y7 G7.out
    have q2 := fun x : Cls (fun v => Sep [] W v (M ++ [blkR o 36 #[.int .u8 0, .int .u8 0, .int .u8 0, .int .u8 0, .int .u8 0, .int .u8 0, .int .u8 0, .int .u8 0, .int .u16 0, .int .u64 0, .int .u64 0, .bool false, .int .i64 0, .int .i64 0, .slice none 0 0]])) => HC0.out x.world x.ok.frm 2 y2 G2.out
    have q3 := fun x : Cls (fun v => Sep [] W v (M ++ [blkR o 36 #[.int .u8 0, .int .u8 0, .int .u8 0, .int .u8 0, .int .u8 0, .int .u8 0, .int .u8 0, .int .u8 0, .int .u16 0, .int .u64 0, .int .u64 0, .bool false, .int .i64 0, .int .i64 0, .slice none 0 0]])) => HC0.out x.world x.ok.frm 3 y3 G3.out
    repeat (go_big_quiet_step (fail))
    go_big_quiet_step ((rename_i x; exact call_same x.ok (HNu.out _ x.ok.frm)))
    repeat (go_big_quiet_step (fail))
    refine wpQuiet_nil ?_
    rfl
  · intro p w2 hS2
    have HS2 := Lib.hid (show Sep [] W w2 [blkR p 36 #[.int .u8 0, .int .u8 0, .int .u8 0, .int .u8 0, .int .u8 0, .int .u8 0, .int .u8 0, .int .u8 0, .int .u16 0, .int .u64 0, .int .u64 0, .bool false, .int .i64 0, .int .i64 0, .slice none 0 0], blkR o 36 #[.int .u8 0, .int .u8 0, .int .u8 0, .int .u8 0, .int .u8 0, .int .u8 0, .int .u8 0, .int .u8 0, .int .u16 0, .int .u64 0, .int .u64 0, .bool false, .int .i64 0, .int .i64 0, .slice none 0 0]] from hS2)
    have hz := hS2.blk 0 rfl
    have z0 := hz.cell 0 rfl
    have z1 := hz.cell 1 rfl
    have z2 := hz.cell 2 rfl
    have z3 := hz.cell 3 rfl
    have z4 := hz.cell 4 rfl
    have z5 := hz.cell 5 rfl
    have z6 := hz.cell 6 rfl
    have z7 := hz.cell 7 rfl
    have z8 := hz.cell 8 rfl
    have z9 := hz.cell 9 rfl
    have z10 := hz.cell 10 rfl
    have z11 := hz.cell 11 rfl
    have z12 := hz.cell 12 rfl
    have z13 := hz.cell 13 rfl
    have z14 := hz.cell 14 rfl
    have f0 := hz.free 0
    have f1 := hz.free 1
    have f2 := hz.free 2
    have f3 := hz.free 3
    have f4 := hz.free 4
    have f5 := hz.free 5
    have f6 := hz.free 6
    have f7 := hz.free 7
    have f8 := hz.free 8
    have f9 := hz.free 9
    have f10 := hz.free 10
    have f11 := hz.free 11
    have f12 := hz.free 12
    have f13 := hz.free 13
    have f14 := hz.free 14
    clear hS2 hz HS0
    go_upto_region 8 with fail
    obtain ⟨w3, hw3⟩ : ∃ w3, w3 = (((((((((((((((w2.setCell ⟨p, 0, none⟩ (.int .u8 (y0 % 64))).setCell ⟨p, 1, none⟩ (.int .u8 y1)).setCell ⟨p, 2, none⟩ (.int .u8 y4)).setCell ⟨p, 3, none⟩ (.int .u8 y5)).setCell ⟨p, 4, none⟩ (.int .u8 y6)).setCell ⟨p, 5, none⟩ (.int .u8 y7)).setCell ⟨p, 6, none⟩ (.int .u8 y2)).setCell ⟨p, 7, none⟩ (.int .u8 y3)).setCell ⟨p, 8, none⟩ (.int .u16 B)).setCell ⟨p, 9, none⟩ (.int .u64 0)).setCell ⟨p, 10, none⟩ (.int .u64 0)).setCell ⟨p, 11, none⟩ (.bool (decide (64 ≤ y0)))).setCell ⟨p, 12, none⟩ (.int .i64 0)).setCell ⟨p, 13, none⟩ (.int .i64 0)).setCell ⟨p, 14, none⟩ (.slice none 0 0)) := ⟨_, rfl⟩
    have HS3 := Lib.hid (show Sep [] W w3 [blkR p 36 #[.int .u8 (y0 % 64), .int .u8 y1, .int .u8 y4, .int .u8 y5, .int .u8 y6, .int .u8 y7, .int .u8 y2, .int .u8 y3, .int .u16 B, .int .u64 0, .int .u64 0, .bool (decide (64 ≤ y0)), .int .i64 0, .int .i64 0, .slice none 0 0], blkR o 36 #[.int .u8 0, .int .u8 0, .int .u8 0, .int .u8 0, .int .u8 0, .int .u8 0, .int .u8 0, .int .u8 0, .int .u16 0, .int .u64 0, .int .u64 0, .bool false, .int .i64 0, .int .i64 0, .slice none 0 0]] from hw3 ▸ HS2.out.puts 0 rfl [.int .u8 (y0 % 64), .int .u8 y1, .int .u8 y4, .int .u8 y5, .int .u8 y6, .int .u8 y7, .int .u8 y2, .int .u8 y3, .int .u16 B, .int .u64 0, .int .u64 0, .bool (decide (64 ≤ y0)), .int .i64 0, .int .i64 0, .slice none 0 0] rfl)
    rw [← hw3]
    clear hw3 HS2 z0 z1 z2 z3 z4 z5 z6 z7 z8 z9 z10 z11 z12 z13 z14 f0 f1 f2 f3 f4 f5 f6 f7 f8 f9 f10 f11 f12 f13 f14 hw16 HNu
    have k11 := (HS3.out.blk 0 rfl).cell 11 rfl
    have hf := HHf.out
    have df : decide (64 ≤ y0) = false := decide_eq_false hf
    rw [df] at HS3
    simp only [df] at k11 ⊢
    go_upto_region 14 with fail
    clear k11
    exact rParse_n hc hcm hl hs HXE HBt HIn h0 HR0 hodd HHf A0 A1 A2 A3 A4 A5 A6 A7 HBB HC0 HS3 _ _ _ _ _ _ _ _ _ _ _ _ _ _ _ _ _ _ _ _ _ _ _ _ _ _ _ _ _ _ _ _ _ _ _ _ _ _ _ _ _ _ _ _ _ _ _ _ _ _ _ _ _ _ _ _ _ _ _ _ _ _ _ _ _ _ _ _ _ _ _ _ _ _ _ _ _ _ _ _ _ _ _ _ _ _ _ _ _ _ _ _ _ _ _ _ _ _ _ _ _ _ _ _ _ _ _ _ _ _ _ _ _ _ _ _ _ _ _ _ _ _ _ _ _ _ _ _ _ _ _ _ _ _ _ _ _ _ _ _ _ _ _ _ _ _ _ _ _ _ _ _ _ _ _ _ _ _ _ _ _ _ _ _ (by assumption)

theorem rParse_c {W : World} {a : Option Addr} {c : Nat} {zs : List Int} (hr : RdI .u8 W a zs) (hb : Byt zs) (hc : zs.length ≤ c) (hcm : c ≤ 9223372036854775807) (hn : a = none → c = 0) :
    Calls Tryd.prog 11 #[.slice a zs.length c] W (ParseP W (paX zs) (paE zs)) := by
  by_cases h : 1500 < zs.length ∨ zs.length < 12 ∨ 128 ≤ at_ zs 0
  · exact rParse_e hr hb hc hcm hn h
  · by_cases hf : 64 ≤ at_ zs 0
    · exact rParse_f hr hb hc hcm hn (by omega) (by omega) (by omega) hf
    · exact rParse_m hr hb hc hcm hn (by omega) (by omega) (by omega) hf

end Go.Proofs.YtnloabpdjedanaaDoor
