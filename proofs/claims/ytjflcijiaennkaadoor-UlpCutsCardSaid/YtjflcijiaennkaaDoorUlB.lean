/-
  THE WALK of ulp.parse. Printed by gen_ulb.py.
-/
import Derived.Test.YtjflcijiaennkaaDoorUlA
import Derived.Test.YtjflcijiaennkaaDoorPut
import Derived.Test.YtjflcijiaennkaaDoorArr
import Derived.Test.YtjflcijiaennkaaDoorBb
import Derived.Laws.CopyOwn
set_option linter.unusedVariables false
set_option linter.unusedSimpArgs false
namespace Go.Proofs.YtjflcijiaennkaaDoor
open Go.RowKit

theorem uat_of {zs : List Int} {i : Nat} {y : Int} (h : zs[i]? = some y) : uat zs i = y := by unfold uat; rw [List.getD_eq_getElem?_getD, h]; rfl
theorem ucut_byte {zs : List Int} (hb : Byt zs) {p : Nat} (h : p + 1 ≤ zs.length) : ∃ y, cut zs p 1 = [y] ∧ 0 ≤ y ∧ y ≤ 255 ∧ bigN (cut zs p 1) = y ∧ zs[p]? = some y := by
  have hlt : p < zs.length := by omega
  have e : cut zs p 1 = [zs[p]] := by unfold cut; rw [List.drop_eq_getElem_cons hlt]; rfl
  exact ⟨zs[p], e, (hb _ (List.getElem_mem hlt)).1, (hb _ (List.getElem_mem hlt)).2, by rw [e]; simp [bigN], List.getElem?_eq_getElem hlt⟩
theorem ucut_snoc {zs : List Int} {p j : Nat} {y : Int} (h : cut zs (p + j) 1 = [y]) : cut zs p (j + 1) = cut zs p j ++ [y] := by rw [ucut_add, h]
/-- What comes of the levels. -/
def mkU (X : List Lv → Ul) : Except Int (List Lv) → Except Int Ul
  | .error e => .error e
  | .ok Ls => if (Ls.head?.map isNil).getD true = true then .error 30 else .ok (X Ls)
theorem urd_mk {zs : List Int} (h1 : ¬ (1 ≤ zs.length ∧ 128 ≤ uat zs 0)) (h2 : ¬ zs.length < 10) : urdX zs = mkU (uhdX zs) (lvF zs (lgB zs) 2 10 []) := by
  rw [urd_lev h1 h2]
  cases lvF zs (lgB zs) 2 10 [] <;> rfl
/-- Levels as a slice of the call's own; e is the type of a level. -/
def lvsR (e : TypeId) (v : Value) (qs : List LvV) : Res := ownR e 3 v qs.length (qs.map LvV.row).flatten
theorem lvsR_snoc (e : TypeId) (v : Value) (qs : List LvV) (x : LvV) : ownR e 3 v (qs.length + 1) ((qs.map LvV.row).flatten ++ #[.int .u64 (x.h : Int), .int .u64 (x.l : Int), x.bv].toList) = lvsR e v (qs ++ [x]) := by simp [lvsR, LvV.row]
theorem bodR_snoc (qs : List LvV) (x : LvV) : bodR (qs ++ [x]) = eachR (qs.map (fun q => sumR q.bv q.B) ++ [sumR x.bv x.B]) := by simp [bodR]
/-- Levels with their bodies. -/
def lbR (e : TypeId) (v : Value) (qs : List LvV) : Res := eachR (lvsR e v qs :: qs.map fun q => sumR q.bv q.B)
theorem lb_shape {e : TypeId} {v : Value} {qs : List LvV} {w : World} (h : (lbR e v qs).P w) : ∃ a c, v = .slice a qs.length c ∧ qs.length ≤ c ∧ (a = none → c = 0) := own_shape (show w.ownsRow 0 e 3 v qs.length _ from h.1 (lvsR e v qs) (by simp))
theorem own_cellN {w : World} {e size : TypeId} {g n m c : Nat} {xs : List Value} (h : w.ownsRow 0 e size (.slice (some ⟨g, 0, none⟩) m c) n xs) {j : Nat} {v : Value} (hv : xs[j]? = some v) : w.cell? ⟨g, j, none⟩ = some v := by
  have := h.cells (g := g) rfl j v hv
  have hadd : (⟨g, 0, none⟩ : Addr).add j = ⟨g, j, none⟩ := by unfold Addr.add; split <;> simp_all
  rwa [hadd] at this
theorem info_level : (Tryd.prog.info? 44).map (fun i => (i.zero, i.size, i.bytes)) = some (some (.agg #[.int .u64 0, .int .u64 0, .slice none 0 0]), 3, 40) := by kernel_rfl
/-- What parse gives. -/
def UPackP (w : World) (g : Nat) (a : Option Addr) (c : Nat) (zs : List Int) (r : Except Int Ul) (x : Ending) (w' : World) : Prop :=
  match r with
  | .error e => x = .panicked (faultV e) ∧ Frm [g] w w'
  | .ok X => ∃ v qs, qs.map LvV.lv = X.Ls ∧ x = .returned (X.val v) ∧ Sep [g] w w' [blkR g 114 #[.slice a zs.length c, .int .i64 (zs.length : Int)], lbR 44 v qs]
set_option maxRecDepth 100000 in
set_option maxHeartbeats 16000000 in
theorem uparse_c {w : World} {g : Nat} {a : Option Addr} {c : Nat} {zs : List Int} (hR : Rdr w g a c zs 0) :
    Calls Tryd.prog 26 #[.pointer (some ⟨g, 0, none⟩)] w (UPackP w g a c zs (urdX zs)) := by
  obtain ⟨i0, hi, hz0, hz1, hz2⟩ := info_parts info_u8
  have hsz8 : (Tryd.prog.info? 5).map (·.size) = some 1 := by rw [hi]; exact congrArg some hz1
  obtain ⟨iL, hLi, hLz0, hLz1, hLz2⟩ := info_parts info_level
  obtain ⟨R, hRX⟩ : ∃ R, R = urdX zs := ⟨_, rfl⟩
  rw [← hRX]
  have HS0 := Lib.hid ((Sep.enter (r := blkR g 114 #[.slice a zs.length c, .int .i64 (((0 : Nat) : Int) : Int)]) hR.blk).alloc #[.int .u8 0, .int .u8 0, .int .u8 0, .int .u8 0, .int .u8 0, .int .u8 0, .int .u8 0, .int .u8 0, .int .u16 0, .bool false, .slice none 0 0] 29)
  have HR0 := Lib.hid hR
  have HRX := Lib.hid hRX
  have hbt := hR.byt
  have hsmz := hR.sm
  have HBt := Lib.hid hbt
  clear hR hRX hbt
  go_enter Tryd.func26, Tryd.ntmps26
  go_upto_region 1 with fail
  obtain ⟨w1, hw1⟩ : ∃ w1, w1 = w.alloc (.cells #[.int .u8 0, .int .u8 0, .int .u8 0, .int .u8 0, .int .u8 0, .int .u8 0, .int .u8 0, .int .u8 0, .int .u16 0, .bool false, .slice none 0 0] 29) := ⟨_, rfl⟩
  obtain ⟨o, ho⟩ : ∃ o, o = w.heap.size := ⟨_, rfl⟩
  rw [← hw1, ← ho] at HS0
  rw [← hw1, ← ho]
  clear hw1 ho
  have hRd := HR0.out.to HS0.out.frm (HS0.out.blk 1 rfl) (by omega)
  by_cases hsh : zs.length < 0 + 1
  · have HB := Lib.hid (byte_short hRd hsh)
    have hr : R = .error 20 := by rw [HRX.out]; exact urd_short (by omega) (by omega)
    subst hr
    clear hsh hRd
    go_wp2_with fail
    refine HB.out.mono ?_
    rintro x w9 ⟨rfl, hF⟩
    exact ⟨rfl, by simp, HS0.out.frm.trans hF.more⟩
  obtain ⟨y0, hy0, l0, u0, b0, g0⟩ := ucut_byte HBt.out (p := 0) (by omega)
  have hby := byte_ok hRd (by omega)
  rw [b0] at hby
  have HB := Lib.hid hby
  have a0 := uat_of g0
  have e1 := and128_i l0 u0
  have e63 := and63_i l0 u0
  have hlen : 0 + 1 ≤ zs.length := by omega
  clear hRd hby hy0 b0 g0
  by_cases hodd : ¬ y0 < 128
  · rw [if_neg hodd] at e1
    have hr : R = .error 21 := by rw [HRX.out]; exact urd_odd (by omega) (by omega)
    subst hr
    clear hodd hsh a0 e63
    go_wp2_with fail
    refine HB.out.mono ?_
    rintro x w2 ⟨rfl, hR2, hF⟩
    have HF := Lib.hid (HS0.out.frm.trans hF)
    clear hR2 hF HB
    go_wp2_with fail
    refine (fail_c _ _ _).mono ?_
    rintro x w3 ⟨rfl, rfl⟩
    exact ⟨rfl, by simp, HF.out⟩
  have hodd := Decidable.not_not.1 hodd
  rw [if_pos hodd] at e1
  have e64 := and64_i l0 hodd
  obtain ⟨F, hF0⟩ : ∃ F, F = lgB zs := ⟨_, rfl⟩
  have e64b : (bits .and .i64 y0 64 != 0) = F := by
    rw [e64, hF0]
    unfold lgB
    rw [a0]
    by_cases h : y0 < 64
    · rw [if_pos h, decide_eq_false (by omega)]; rfl
    · rw [if_neg h, decide_eq_true (by omega)]; rfl
  have HA0 := Lib.hid (And.intro a0 (And.intro hodd (And.intro l0 hF0)))
  have e8 : IntKind.u8.wrap (y0 % 64) = y0 % 64 := u8_wrap (by omega) (by omega)
  clear hodd hsh a0 e64 hF0
  go_wp2_with fail
  refine HB.out.mono ?_
  rintro x w2 ⟨rfl, hR2, hF⟩
  have HS1 := Lib.hid ((HS0.out.call 1 rfl hF hR2.blk).alloc #[.int .u8 0, .int .u8 0, .int .u8 0, .int .u8 0, .int .u8 0, .int .u8 0, .int .u8 0, .int .u8 0, .int .u16 0, .bool F, .slice none 0 0] 29)
  clear hR2 hF HB HS0
  go_upto_region 5 with fail
  obtain ⟨w3, hw3⟩ : ∃ w3, w3 = w2.alloc (.cells #[.int .u8 0, .int .u8 0, .int .u8 0, .int .u8 0, .int .u8 0, .int .u8 0, .int .u8 0, .int .u8 0, .int .u16 0, .bool F, .slice none 0 0] 29) := ⟨_, rfl⟩
  obtain ⟨p, hp⟩ : ∃ p, p = w2.heap.size := ⟨_, rfl⟩
  rw [← hw3, ← hp] at HS1
  rw [← hw3, ← hp]
  clear hw3 hp e1 e64b
  have hRd := HR0.out.to HS1.out.frm (HS1.out.blk 2 rfl) (by omega)
  by_cases hsh : zs.length < 0 + 1 + 1
  · have HB := Lib.hid (byte_short hRd hsh)
    have hr : R = .error 20 := by rw [HRX.out]; exact urd_short (by have := HA0.out; omega) (by omega)
    subst hr
    clear hsh hRd
    go_wp2_with fail
    refine HB.out.mono ?_
    rintro x w9 ⟨rfl, hF⟩
    exact ⟨rfl, by simp, HS1.out.frm.trans hF.more⟩
  obtain ⟨y1, hy1, l1, u1, b1, g1⟩ := ucut_byte HBt.out (p := 0 + 1) (by omega)
  have hby := byte_ok hRd (by omega)
  rw [b1] at hby
  have HB := Lib.hid hby
  have A1 := Lib.hid (uat_of g1)
  have e9 : IntKind.u8.wrap y1 = y1 := u8_wrap l1 u1
  replace hlen : 0 + 1 + 1 ≤ zs.length := by omega
  clear hRd hby hy1 b1 g1 hsh
  go_wp2_with fail
  refine HB.out.mono ?_
  rintro x w4 ⟨rfl, hR4, hF⟩
  have HS2 := Lib.hid (HS1.out.call 2 rfl hF hR4.blk)
  clear hR4 hF HB HS1
  have k0 := (HS2.out.blk 0 rfl).cell 0 rfl
  have k1 := (HS2.out.blk 0 rfl).cell 1 rfl
  have f0 := (HS2.out.blk 0 rfl).free 0
  have f1 := (HS2.out.blk 0 rfl).free 1
  go_upto_region 6 with fail
  clear e8 e9 e63
  have HS3 := Lib.hid ((HS2.out.put 0 rfl 0 (.int .u8 (y0 % 64))).put 0 rfl 1 (.int .u8 y1))
  obtain ⟨w5, hw5⟩ : ∃ w5, w5 = (w4.setCell ⟨p, 0, none⟩ (.int .u8 (y0 % 64))).setCell ⟨p, 1, none⟩ (.int .u8 y1) := ⟨_, rfl⟩
  rw [← hw5] at HS3
  rw [← hw5]
  clear hw5 k0 k1 f0 f1 HS2
  have hRd := HR0.out.to HS3.out.frm (HS3.out.blk 2 rfl) (by omega)
  by_cases hsh : zs.length < 0 + 1 + 1 + 2
  · have HB := Lib.hid (word_short hRd hsh)
    have hr : R = .error 20 := by rw [HRX.out]; exact urd_short (by have := HA0.out; omega) (by omega)
    subst hr
    clear hsh hRd
    go_wp2_with fail
    refine HB.out.mono ?_
    rintro x w9 ⟨rfl, hF⟩
    exact ⟨rfl, by simp, HS3.out.frm.trans hF.more⟩
  obtain ⟨B, hB⟩ : ∃ B, B = bigN (cut zs (0 + 1 + 1) 2) := ⟨_, rfl⟩
  have hby := word_ok hRd (by omega)
  rw [← hB] at hby
  have HB := Lib.hid hby
  have HBB := Lib.hid hB
  replace hlen : 0 + 1 + 1 + 2 ≤ zs.length := by omega
  clear hRd hby hB hsh
  go_wp2_with fail
  refine HB.out.mono ?_
  rintro x w6 ⟨rfl, hR4, hF⟩
  have HS4 := Lib.hid (HS3.out.call 2 rfl hF hR4.blk)
  clear hR4 hF HB HS3
  have k8 := (HS4.out.blk 0 rfl).cell 8 rfl
  have f8 := (HS4.out.blk 0 rfl).free 8
  go_upto_region 7 with fail
  have HS5 := Lib.hid (HS4.out.put 0 rfl 8 (.int .u16 B))
  obtain ⟨w7, hw7⟩ : ∃ w7, w7 = w6.setCell ⟨p, 8, none⟩ (.int .u16 B) := ⟨_, rfl⟩
  rw [← hw7] at HS5
  rw [← hw7]
  clear hw7 k8 f8 HS4
  have hRd := HR0.out.to HS5.out.frm (HS5.out.blk 2 rfl) (by omega)
  refine region_segsQ (G := [g, p]) [0, 1, 2, 3, 4] [3, 0] put_panic (by decide) (by kernel_rfl) (by kernel_rfl) (by kernel_rfl) (by kernel_rfl) (by kernel_rfl) (by kernel_rfl) (by kernel_rfl) ?_
  simp only [remOf, List.filterMap_cons, List.filterMap_nil, List.getElem?_cons_zero, List.getElem?_cons_succ]
  have HS5d := Lib.hid HS5.out.drew
  replace hRd := Lib.hid (show Rdr w7.drew g a c zs (0 + 1 + 1 + 2) from HR0.out.to HS5d.out.frm (HS5d.out.blk 2 rfl) (by omega))
  obtain ⟨w7d, hw7d⟩ : ∃ w7d, w7d = w7.drew := ⟨_, rfl⟩
  rw [← hw7d] at hRd HS5d
  rw [← hw7d]
  clear hw7d HS5
  unfold wpSegs
  simp only [List.take_succ_cons, List.take_zero, List.drop_succ_cons, List.drop_zero]
  have n1 : Nonempty (Cls (fun v => Frm [g, p] w7d v)) := ⟨⟨_, Frm.refl _ _⟩⟩
  repeat (go_big_quiet_step (fail))
  refine wpQuiet_nil ?_
  refine only_step (fun K' hK => ?_)
  clear n1
  by_cases hsh : zs.length < 0 + 1 + 1 + 2 + 6
  · have HB := Lib.hid (take_short hRd.out 6 hsh)
    have hr : R = .error 20 := by rw [HRX.out]; exact urd_short (by have := HA0.out; omega) (by omega)
    subst hr
    clear hsh hRd
    go_wp2_with fail
    refine HB.out.mono ?_
    rintro x w9 ⟨rfl, hF⟩
    exact ⟨rfl, by simp, HS5d.out.frm.trans hF.more⟩
  have HB := Lib.hid (take_ok hRd.out 6 6 rfl (by omega))
  replace hlen : 0 + 1 + 1 + 2 + 6 ≤ zs.length := by omega
  clear hRd hsh
  go_wp2_with fail
  refine HB.out.mono ?_
  rintro x w7t ⟨v, rfl, hR4, hS⟩
  obtain ⟨va, vc, rfl⟩ : ∃ va vc, v = .slice va 6 vc := by
    obtain ⟨va, vc, hv, _⟩ := own_shape (hS.own 1 rfl)
    exact ⟨va, vc, by rw [hv, cut_len (by omega)]⟩
  obtain ⟨gt, rfl⟩ : ∃ gt, va = some ⟨gt, 0, none⟩ := by
    obtain ⟨gt, vc', hv⟩ := own_slice1 (hS.own 1 rfl) (by rw [cut_len (by omega)]; omega)
    injection hv with hv
    exact ⟨gt, hv⟩
  have HS6a := Lib.hid (HS5d.out.call 2 rfl hS.frm hR4.blk)
  have HV := Lib.hid hS

  obtain ⟨y4, cy4, ly4, uy4, z2, gy4⟩ := ucut_byte HBt.out (p := 0 + 1 + 1 + 2 + 0) (by omega)
  have Ay4 := Lib.hid (uat_of gy4)
  clear z2 ly4 uy4 gy4
  obtain ⟨y5, cy5, ly5, uy5, z2, gy5⟩ := ucut_byte HBt.out (p := 0 + 1 + 1 + 2 + 1) (by omega)
  have Ay5 := Lib.hid (uat_of gy5)
  clear z2 ly5 uy5 gy5
  obtain ⟨y6, cy6, ly6, uy6, z2, gy6⟩ := ucut_byte HBt.out (p := 0 + 1 + 1 + 2 + 2) (by omega)
  have Ay6 := Lib.hid (uat_of gy6)
  clear z2 ly6 uy6 gy6
  obtain ⟨y7, cy7, ly7, uy7, z2, gy7⟩ := ucut_byte HBt.out (p := 0 + 1 + 1 + 2 + 3) (by omega)
  have Ay7 := Lib.hid (uat_of gy7)
  clear z2 ly7 uy7 gy7
  obtain ⟨y8, cy8, ly8, uy8, z2, gy8⟩ := ucut_byte HBt.out (p := 0 + 1 + 1 + 2 + 4) (by omega)
  have Ay8 := Lib.hid (uat_of gy8)
  clear z2 ly8 uy8 gy8
  obtain ⟨y9, cy9, ly9, uy9, z2, gy9⟩ := ucut_byte HBt.out (p := 0 + 1 + 1 + 2 + 5) (by omega)
  have Ay9 := Lib.hid (uat_of gy9)
  clear z2 ly9 uy9 gy9
  have hvl : (cut zs (0 + 1 + 1 + 2) 1) = [y4] := cy4
  replace hvl : (cut zs (0 + 1 + 1 + 2) 2) = [y4, y5] := by rw [ucut_snoc (j := 1) cy5, hvl]; rfl
  replace hvl : (cut zs (0 + 1 + 1 + 2) 3) = [y4, y5, y6] := by rw [ucut_snoc (j := 2) cy6, hvl]; rfl
  replace hvl : (cut zs (0 + 1 + 1 + 2) 4) = [y4, y5, y6, y7] := by rw [ucut_snoc (j := 3) cy7, hvl]; rfl
  replace hvl : (cut zs (0 + 1 + 1 + 2) 5) = [y4, y5, y6, y7, y8] := by rw [ucut_snoc (j := 4) cy8, hvl]; rfl
  replace hvl : (cut zs (0 + 1 + 1 + 2) 6) = [y4, y5, y6, y7, y8, y9] := by rw [ucut_snoc (j := 5) cy9, hvl]; rfl
  have HVl := Lib.hid hvl
  have HF1 := Lib.hid (hS.frm.mono (T := [g, p]) (by simp))
  clear hvl hR4 hS HB cy4 cy5 cy6 cy7 cy8 cy9 HS5d
  go_wp2_with fail
  refine hK.out _ _ ⟨HF1.out, ?_⟩
  clear hK HF1
  unfold wpSegs
  simp only [List.take_succ_cons, List.take_zero, List.drop_succ_cons, List.drop_zero]
  refine wpQuiet_nil ?_
  refine only_step (fun K' hK => ?_)
  refine wpList_copy_own rfl (.tmp 31) (.tmp 33) 22 22 rfl 5 Tryd.underlying22 hsz8 p 2 6 6 ⟨gt, 0, none⟩ 6 vc rfl rfl #[.int .u8 (y0 % 64), .int .u8 y1, .int .u8 0, .int .u8 0, .int .u8 0, .int .u8 0, .int .u8 0, .int .u8 0, .int .u16 B, .bool F, .slice none 0 0] 29 (HS6a.out.blk 0 rfl) [.int .u8 y4, .int .u8 y5, .int .u8 y6, .int .u8 y7, .int .u8 y8, .int .u8 y9] rfl (fun j v hj => ?_) (by simp) (by simp [Value.oneCell']) ?_
  · have h2 := (HV.out.own 1 rfl).cells (g := gt) rfl j v (by rw [HVl.out]; exact hj)
    exact h2
  have HS6 := Lib.hid (HS6a.out.row 0 rfl #[.int .u8 (y0 % 64), .int .u8 y1, .int .u8 y4, .int .u8 y5, .int .u8 y6, .int .u8 y7, .int .u8 y8, .int .u8 y9, .int .u16 B, .bool F, .slice none 0 0])
  refine hK.out _ (w7t.setRow p #[.int .u8 (y0 % 64), .int .u8 y1, .int .u8 y4, .int .u8 y5, .int .u8 y6, .int .u8 y7, .int .u8 y8, .int .u8 y9, .int .u16 B, .bool F, .slice none 0 0]) ⟨(frm_setRow _ _ _).mono (by simp), ?_⟩
  obtain ⟨w8, hw8⟩ : ∃ w8, w8 = w7t.setRow p #[.int .u8 (y0 % 64), .int .u8 y1, .int .u8 y4, .int .u8 y5, .int .u8 y6, .int .u8 y7, .int .u8 y8, .int .u8 y9, .int .u16 B, .bool F, .slice none 0 0] := ⟨_, rfl⟩
  rw [← hw8] at HS6
  rw [← hw8]
  clear hK hw8 HV HVl HS6a
  unfold wpSegs
  simp only [List.length_cons, List.length_nil, Act.put, List.setIfInBounds_toArray, List.set_cons_succ, List.set_cons_zero]
  refine wpQuiet_nil ?_
  obtain ⟨M, hM⟩ : ∃ M, M = lvF zs F 2 10 [] := ⟨_, rfl⟩
  have hlev : R = mkU (fun Ls => ⟨y0 % 64, y1, y4, y5, y6, y7, y8, y9, B, F, Ls⟩) M := by
    have e0 : uat zs 0 = y0 := HA0.out.1
    have e1 : uat zs 1 = y1 := A1.out
    have e4 : uat zs 4 = y4 := Ay4.out
    have e5 : uat zs 5 = y5 := Ay5.out
    have e6 : uat zs 6 = y6 := Ay6.out
    have e7 : uat zs 7 = y7 := Ay7.out
    have e8 : uat zs 8 = y8 := Ay8.out
    have e9 : uat zs 9 = y9 := Ay9.out
    have eB : bigN (cut zs 2 2) = B := HBB.out.symm
    have eF : lgB zs = F := HA0.out.2.2.2.symm
    rw [HRX.out, urd_mk (by have := HA0.out; omega) (by omega), eF, ← hM]
    congr 1
    funext Ls
    simp only [uhdX, e0, e1, e4, e5, e6, e7, e8, e9, eB, eF]
  have HLev := Lib.hid hlev
  have HM := Lib.hid hM
  clear hlev hM HRX HBB A1 Ay4 Ay5 Ay6 Ay7 Ay8 Ay9
  have HS7 := Lib.hid (show Sep [g] w w8 [lvsR 44 (.slice none 0 0) [], bodR [], blkR p 29 #[.int .u8 (y0 % 64), .int .u8 y1, .int .u8 y4, .int .u8 y5, .int .u8 y6, .int .u8 y7, .int .u8 y8, .int .u8 y9, .int .u16 B, .bool F, .slice none 0 0], blkR o 29 #[.int .u8 0, .int .u8 0, .int .u8 0, .int .u8 0, .int .u8 0, .int .u8 0, .int .u8 0, .int .u8 0, .int .u16 0, .bool false, .slice none 0 0], blkR g 114 #[.slice a zs.length c, .int .i64 (((10 : Nat) : Int) : Int)]] from HS6.out.enone.nil 44 3)
  clear HS6
  go_wp2_with fail
  go_loopg [5] 2 (fun gk u wr => ∃ (f Q : Nat) (qs : List LvV) (ad : Option Addr) (cd n : Nat), gk = f ∧ n + f = 2 ∧ qs.length = n ∧ Q ≤ zs.length ∧ lvF zs F f Q (qs.map LvV.lv) = M ∧ (∀ q ∈ qs, q.h < 18446744073709551616 ∧ q.l < 18446744073709551616) ∧
      Sep [g] w wr [lvsR 44 (.slice ad n cd) qs, bodR qs, blkR p 29 #[.int .u8 (y0 % 64), .int .u8 y1, .int .u8 y4, .int .u8 y5, .int .u8 y6, .int .u8 y7, .int .u8 y8, .int .u8 y9, .int .u16 B, .bool F, .slice ad n cd], blkR o 29 #[.int .u8 0, .int .u8 0, .int .u8 0, .int .u8 0, .int .u8 0, .int .u8 0, .int .u8 0, .int .u8 0, .int .u16 0, .bool false, .slice none 0 0], blkR g 114 #[.slice a zs.length c, .int .i64 ((Q : Int) : Int)]])
  case atStart => exact ⟨2, 10, [], none, 0, 0, rfl, rfl, rfl, by omega, HM.out.symm, by simp, HS7.out⟩
  case round =>
    obtain ⟨f, Q, qs, ad, cd, n, hgk, hnf, hqn, hQ, hlv, hlt, hS⟩ := hrel
    have HGk := Lib.hid hgk
    clear hgk
    have HT := Lib.hid hS
    have HQn := Lib.hid hqn
    have HLv := Lib.hid hlv
    have HLt := Lib.hid hlt
    clear hS hqn hlv hlt HS7 HM
    obtain ⟨wa, hwa⟩ : ∃ wa, wa = wr := ⟨_, rfl⟩
    rw [← hwa] at HT ⊢
    clear hwa
    have k10 := (HT.out.blk 2 rfl).cell 10 rfl
    have hRd := HR0.out.to HT.out.frm (HT.out.blk 4 rfl) hQ
    by_cases hdone : n ≠ 0 ∧ zs.length ≤ Q
    · obtain ⟨hn0, hq9⟩ := hdone
      have q0 : ((n : Int) == 0) = false := by simp; exact hn0
      have hlf := left_c hRd
      rw [show zs.length - Q = 0 by omega] at hlf
      have HLf := Lib.hid hlf
      have hMo : M = .ok (qs.map LvV.lv) := by rw [← HLv.out]; exact lvF_done ⟨by intro h; have h2 := congrArg List.length h; simp [HQn.out] at h2; exact hn0 h2, hq9⟩
      have hQe : Q = zs.length := by omega
      have HMo := Lib.hid hMo
      have i1 : (0 : Int) < (n : Int) := by omega
      obtain ⟨gv, cv, hv⟩ := own_slice1 (HT.out.own 0 rfl) (by rw [HQn.out]; omega)
      injection hv with hv1 hv2 hv3
      clear hv2 hv3 hlf hMo hRd hq9 hn0
      subst hv1 hQe
      obtain ⟨q, qs', hqs⟩ : ∃ q qs', qs = q :: qs' := by
        cases qs with
        | nil => have := HQn.out; simp at this; omega
        | cons q qs' => exact ⟨q, qs', rfl⟩
      have HQs := Lib.hid hqs
      clear hqs
      go_wp2_with fail
      refine HLf.out.mono ?_
      rintro x wb ⟨rfl, m, rfl⟩
      have HT2 := Lib.hid (HT.out.drewN m)
      obtain ⟨wb, hwb⟩ : ∃ wb, wb = wa.drewN m := ⟨_, rfl⟩
      rw [← hwb] at HT2
      rw [← hwb]
      clear hwb HT HLf k10
      have k10 := (HT2.out.blk 2 rfl).cell 10 rfl
      have c0 : wb.cell? ⟨gv, 0, none⟩ = some (.int .u64 (q.h : Int)) := own_cellN (HT2.out.own 0 rfl) (by rw [HQs.out]; rfl)
      have c1 : wb.cell? ⟨gv, 1, none⟩ = some (.int .u64 (q.l : Int)) := own_cellN (HT2.out.own 0 rfl) (by rw [HQs.out]; rfl)
      have hq := HLt.out q (by rw [HQs.out]; simp)
      have HCt := Lib.hid (fun X : World => count_c q.h q.l X hq.1 hq.2)
      have HQ2 := Lib.hid hq
      obtain ⟨qh, ql, qb, qB⟩ := q
      simp only at HCt HQ2 c0 c1
      clear hq
      by_cases hz : qh = 0 ∧ ql = 0
      · have hr : R = .error 30 := by rw [HLev.out, HMo.out, HQs.out]; simp [mkU, LvV.lv, isNil, hz.1, hz.2]
        subst hr
        have hcz : decide (((cnt qh 64 + cnt ql 64 : Nat) : Int) = 0) = true := decide_eq_true (by rw [hz.1, hz.2]; decide +kernel)
        obtain ⟨C, hC⟩ : ∃ C : Int, C = ((cnt qh 64 + cnt ql 64 : Nat) : Int) := ⟨_, rfl⟩
        rw [← hC] at HCt hcz
        have hcb : (C == 0) = true := beq_iff_eq.2 (of_decide_eq_true hcz)
        clear hz hC
        go_wp2_with fail
        refine (HCt.out _).mono ?_
        rintro x w13 ⟨rfl, hF⟩
        have HF := Lib.hid (HT2.out.frm.trans hF.more)
        clear hF HT2
        go_wp2_with fail
        refine (fail_c _ _ _).mono ?_
        rintro x w14 ⟨rfl, rfl⟩
        exact ⟨rfl, by simp, HF.out⟩
      · have hr : R = .ok ⟨y0 % 64, y1, y4, y5, y6, y7, y8, y9, B, F, qs.map LvV.lv⟩ := by
          rw [HLev.out, HMo.out]
          show (if _ then _ else _) = _
          rw [if_neg]
          rw [HQs.out]
          simp [LvV.lv, isNil]
          exact fun h => fun h2 => hz ⟨h, h2⟩
        have hcz : decide (((cnt qh 64 + cnt ql 64 : Nat) : Int) = 0) = false := decide_eq_false (fun h => hz ⟨(cnt_nil HQ2.out.1).1 (by omega), (cnt_nil HQ2.out.2).1 (by omega)⟩)
        obtain ⟨C, hC⟩ : ∃ C : Int, C = ((cnt qh 64 + cnt ql 64 : Nat) : Int) := ⟨_, rfl⟩
        rw [← hC] at HCt hcz
        have hcb : (C == 0) = false := beq_eq_false_iff_ne.2 (of_decide_eq_false hcz)
        clear hz hC
        go_wp2_with fail
        refine (HCt.out _).mono ?_
        rintro x w13 ⟨rfl, hF⟩
        have HT3 := Lib.hid (HT2.out.keep hF)
        clear hF HT2 c0 c1 k10
        subst hr
        have hb := HT3.out.blk 2 rfl
        have ho := HT3.out.blk 3 rfl
        have q0 := hb.cell 0 rfl
        have q1 := hb.cell 1 rfl
        have q2 := hb.cell 2 rfl
        have q3 := hb.cell 3 rfl
        have q4 := hb.cell 4 rfl
        have q5 := hb.cell 5 rfl
        have q6 := hb.cell 6 rfl
        have q7 := hb.cell 7 rfl
        have q8 := hb.cell 8 rfl
        have q9 := hb.cell 9 rfl
        have q10 := hb.cell 10 rfl
        have z0 := ho.cell 0 rfl
        have z1 := ho.cell 1 rfl
        have z2 := ho.cell 2 rfl
        have z3 := ho.cell 3 rfl
        have z4 := ho.cell 4 rfl
        have z5 := ho.cell 5 rfl
        have z6 := ho.cell 6 rfl
        have z7 := ho.cell 7 rfl
        have z8 := ho.cell 8 rfl
        have z9 := ho.cell 9 rfl
        have z10 := ho.cell 10 rfl
        have f0 := ho.free 0
        have f1 := ho.free 1
        have f2 := ho.free 2
        have f3 := ho.free 3
        have f4 := ho.free 4
        have f5 := ho.free 5
        have f6 := ho.free 6
        have f7 := ho.free 7
        have f8 := ho.free 8
        have f9 := ho.free 9
        have f10 := ho.free 10
        go_wp2_with fail
        obtain ⟨w22, hw22⟩ : ∃ w22, w22 = (((((((((((w13.setCell ⟨o, 0, none⟩ (.int .u8 (y0 % 64))).setCell ⟨o, 1, none⟩ (.int .u8 y1)).setCell ⟨o, 2, none⟩ (.int .u8 y4)).setCell ⟨o, 3, none⟩ (.int .u8 y5)).setCell ⟨o, 4, none⟩ (.int .u8 y6)).setCell ⟨o, 5, none⟩ (.int .u8 y7)).setCell ⟨o, 6, none⟩ (.int .u8 y8)).setCell ⟨o, 7, none⟩ (.int .u8 y9)).setCell ⟨o, 8, none⟩ (.int .u16 B)).setCell ⟨o, 9, none⟩ (.bool F)).setCell ⟨o, 10, none⟩ (.slice (some ⟨gv, 0, none⟩) n cd)) := ⟨_, rfl⟩
        have HT4 := Lib.hid (show Sep [g] w w22 [lvsR 44 (.slice (some ⟨gv, 0, none⟩) n cd) qs, bodR qs, blkR p 29 #[.int .u8 (y0 % 64), .int .u8 y1, .int .u8 y4, .int .u8 y5, .int .u8 y6, .int .u8 y7, .int .u8 y8, .int .u8 y9, .int .u16 B, .bool F, .slice (some ⟨gv, 0, none⟩) n cd], blkR o 29 #[.int .u8 (y0 % 64), .int .u8 y1, .int .u8 y4, .int .u8 y5, .int .u8 y6, .int .u8 y7, .int .u8 y8, .int .u8 y9, .int .u16 B, .bool F, .slice (some ⟨gv, 0, none⟩) n cd], blkR g 114 #[.slice a zs.length c, .int .i64 ((zs.length : Int) : Int)]] from hw22 ▸ HT3.out.puts 3 rfl [.int .u8 (y0 % 64), .int .u8 y1, .int .u8 y4, .int .u8 y5, .int .u8 y6, .int .u8 y7, .int .u8 y8, .int .u8 y9, .int .u16 B, .bool F, .slice (some ⟨gv, 0, none⟩) n cd] rfl)
        rw [← hw22]
        clear hw22 HT3 hb ho q0 q1 q2 q3 q4 q5 q6 q7 q8 q9 q10 z0 z1 z2 z3 z4 z5 z6 z7 z8 z9 z10 f0 f1 f2 f3 f4 f5 f6 f7 f8 f9 f10
        have ho := HT4.out.blk 3 rfl
        have e0 := ho.cell 0 rfl
        have e1 := ho.cell 1 rfl
        have e2 := ho.cell 2 rfl
        have e3 := ho.cell 3 rfl
        have e4 := ho.cell 4 rfl
        have e5 := ho.cell 5 rfl
        have e6 := ho.cell 6 rfl
        have e7 := ho.cell 7 rfl
        have e8 := ho.cell 8 rfl
        have e9 := ho.cell 9 rfl
        have e10 := ho.cell 10 rfl
        refine bodyPost_ret (v := .agg #[.int .u8 (y0 % 64), .int .u8 y1, .int .u8 y4, .int .u8 y5, .int .u8 y6, .int .u8 y7, .int .u8 y8, .int .u8 y9, .int .u16 B, .bool F, .slice (some ⟨gv, 0, none⟩) n cd]) ?_ rfl ⟨_, qs, rfl, rfl, (Sep.ejoin (HT4.out.at_ [0, 1, 4] (by decide) rfl)).swap2⟩
        simp [results, Tryd.results26, go_sem, e0, e1, e2, e3, e4, e5, e6, e7, e8, e9, e10]
    · go_upto_region 8 with fail
      go_cut [43] (fun v wx => v = .bool true ∧ Frm [] wa wx)
      case first =>
        by_cases hn0 : n = 0
        · have q0 : ((n : Int) == 0) = true := by simp [hn0]
          clear hn0 hdone
          go_wp2_with fail
          go_meet
          exact ⟨rfl, Frm.refl _ _⟩
        · have q0 : ((n : Int) == 0) = false := by simp; exact hn0
          have q1 : decide ((0 : Int) < ((zs.length - Q : Nat) : Int)) = true := decide_eq_true (by omega)
          have q2 : decide (0 < zs.length - Q) = true := decide_eq_true (by omega)
          have HLf := Lib.hid (left_c hRd)
          clear hn0 hdone
          obtain ⟨D, hD⟩ : ∃ D, D = zs.length - Q := ⟨_, rfl⟩
          rw [← hD] at q1 q2 HLf
          clear hD
          go_wp2_with fail
          refine HLf.out.mono ?_
          rintro x wb ⟨rfl, m, rfl⟩
          go_wp2_with fail
          go_meet
          exact ⟨rfl, (Frm.refl _ _).drewN m⟩
      obtain ⟨rfl, hf⟩ := hcut
      obtain ⟨wb, hwb⟩ : ∃ w5, w5 = wc := ⟨_, rfl⟩
      rw [← hwb] at hf ⊢
      have HT1 := Lib.hid (HT.out.keep hf)
      clear hf hwb HT k10 hRd
      have k9 := (HT1.out.blk 2 rfl).cell 9 rfl
      have hRd := HR0.out.to HT1.out.frm (HT1.out.blk 4 rfl) hQ
      have HRl := Lib.hid (readLevel_c F hRd (by omega))
      have hnd : ¬ (qs.map LvV.lv ≠ [] ∧ zs.length ≤ Q) := fun h => hdone ⟨fun h0 => h.1 (by rw [List.eq_nil_of_length_eq_zero (HQn.out.trans h0)]; rfl), h.2⟩
      have HNd := Lib.hid hnd
      clear hRd hdone hnd
      go_wp2_with fail
      refine HRl.out.mono ?_
      intro x w9 hx
      clear HRl k9
      unfold LevP at hx
      by_cases hsh : zs.length < Q + 2 + siz F ∨ zs.length < lvE zs F Q
      · rw [if_pos hsh] at hx
        obtain ⟨rfl, hF⟩ := hx
        have hr : R = .error 20 := by rw [HLev.out, ← HLv.out, lvF_short HNd.out hsh]; rfl
        subst hr
        exact ⟨rfl, by simp, HT1.out.frm.trans hF⟩
      rw [if_neg hsh] at hx
      obtain ⟨bv, rfl, hS⟩ := hx
      obtain ⟨av, nv, cv, rfl⟩ : ∃ av nv cv, bv = .slice av nv cv := by
        obtain ⟨a1, c1, hv, _⟩ := own_shape (hS.own 1 rfl)
        exact ⟨a1, _, c1, hv⟩
      have hEz : lvE zs F Q ≤ zs.length := by omega
      have HLw := Lib.hid (show (lvAt zs F Q).h < 18446744073709551616 ∧ (lvAt zs F Q).l < 18446744073709551616 from ⟨by simp only [lvAt]; exact lyH_lt _ _ _, by simp only [lvAt]; exact lyL_lt _ _ _⟩)
      have HSh := Lib.hid hsh
      obtain ⟨E, hE⟩ : ∃ E, E = lvE zs F Q := ⟨_, rfl⟩
      have HEe := Lib.hid hE
      rw [← hE] at hS hEz
      obtain ⟨L, hL⟩ : ∃ L, L = lvAt zs F Q := ⟨_, rfl⟩
      rw [← hL] at hS HLw ⊢
      have HLe := Lib.hid hL
      obtain ⟨lh, ll, lB⟩ := L
      simp only at hS HLw ⊢
      have HT2 := Lib.hid (show Sep [g] w (w9.alloc (.cells #[.int .u64 (lh : Int), .int .u64 (ll : Int), .slice av nv cv] 44)) [blkR w9.heap.size 44 #[.int .u64 (lh : Int), .int .u64 (ll : Int), .slice av nv cv], blkR g 114 #[.slice a zs.length c, .int .i64 ((E : Int) : Int)], sumR (.slice av nv cv) lB, lvsR 44 (.slice ad n cd) qs, bodR qs, blkR p 29 #[.int .u8 (y0 % 64), .int .u8 y1, .int .u8 y4, .int .u8 y5, .int .u8 y6, .int .u8 y7, .int .u8 y8, .int .u8 y9, .int .u16 B, .bool F, .slice ad n cd], blkR o 29 #[.int .u8 0, .int .u8 0, .int .u8 0, .int .u8 0, .int .u8 0, .int .u8 0, .int .u8 0, .int .u8 0, .int .u16 0, .bool false, .slice none 0 0]] from ((HT1.out.at_ [4, 0, 1, 2, 3] (by decide) rfl).callMany hS (by simp [blkR])).alloc #[.int .u64 (lh : Int), .int .u64 (ll : Int), .slice av nv cv] 44)
      clear hS hsh hE hL HT1
      go_upto_region 10 with fail
      obtain ⟨wd, hwd⟩ : ∃ x, x = w9.alloc (.cells #[.int .u64 (lh : Int), .int .u64 (ll : Int), .slice av nv cv] 44) := ⟨_, rfl⟩
      obtain ⟨q, hq⟩ : ∃ x, x = w9.heap.size := ⟨_, rfl⟩
      rw [← hwd, ← hq] at HT2
      rw [← hwd, ← hq]
      clear hwd hq
      have k10 := (HT2.out.blk 5 rfl).cell 10 rfl
      by_cases hn2 : n = 2
      · have q2 : ((n : Int) == 2) = true := by simp; omega
        have hr : R = .error 3 := by
          have h := HLv.out
          rw [show f = 0 by omega, lvF_many HNd.out HSh.out] at h
          rw [HLev.out, ← h]
          rfl
        subst hr
        clear hn2
        go_wp2_with fail
        refine (fail_c _ _ _).mono ?_
        rintro x w14 ⟨rfl, rfl⟩
        exact ⟨rfl, by simp, HT2.out.frm⟩
      · have q2 : ((n : Int) == 2) = false := by simp; omega
        obtain ⟨f', rfl⟩ : ∃ f', f = f' + 1 := ⟨f - 1, by omega⟩
        have hlv2 : lvF zs F f' E ((qs ++ [LvV.mk lh ll (.slice av nv cv) lB]).map LvV.lv) = M := by
          rw [List.map_append, ← HLv.out, lvF_more HNd.out HSh.out, HEe.out, ← HLe.out]
          rfl
        have HLv2 := Lib.hid hlv2
        clear hn2 hlv2
        have c0 := (HT2.out.blk 0 rfl).cell 0 rfl
        have c1 := (HT2.out.blk 0 rfl).cell 1 rfl
        have c2 := (HT2.out.blk 0 rfl).cell 2 rfl
        go_wp2_with (at_builtin; (refine wpList_append_arr rfl (.tmp 55) (.tmp 57) 27 rfl 4 44 iL (.agg #[.int .u64 0, .int .u64 0, .slice none 0 0]) 3 40 Tryd.underlying27 hLi hLz0 hLz1 hLz2 rfl (by decide) (.slice ad n cd) qs.length _ rfl (HT2.out.alloc #[.int .u64 (lh : Int), .int .u64 (ll : Int), .slice av nv cv] 44) rfl wd.heap.size #[.int .u64 (lh : Int), .int .u64 (ll : Int), .slice av nv cv] rfl rfl (Blk.made wd 44 #[.int .u64 (lh : Int), .int .u64 (ll : Int), .slice av nv cv]) (fun u hu => by simp at hu; rcases hu with rfl | rfl | rfl <;> rfl) (by unfold maxLen; have := HQn.out; omega) (by have := HQn.out; omega) ?_); intro v9 w10 hS9; obtain ⟨a9, c9, rfl, x1, x2⟩ := own_shape (hS9.own 4 rfl); have HS9 := Lib.hid hS9; have f10 := (hS9.blk 6 rfl).free 10; have l10 := (hS9.blk 6 rfl).cell 10 rfl; clear hS9 x1 x2 c0 c1 c2)
        rw [HQn.out] at HS9 ⊢
        have hS := HS9.out.put 6 rfl 10 (.slice a9 (n + 1) c9)
        have hS2 := (hS.at_ [3, 4, 5, 6, 7, 2] (by decide) rfl)
        have hS3 : Sep [g] w (w10.setCell ⟨p, 10, none⟩ (.slice a9 (n + 1) c9)) [lvsR 44 (.slice a9 (n + 1) c9) (qs ++ [LvV.mk lh ll (.slice av nv cv) lB]), bodR (qs ++ [LvV.mk lh ll (.slice av nv cv) lB]), blkR p 29 #[.int .u8 (y0 % 64), .int .u8 y1, .int .u8 y4, .int .u8 y5, .int .u8 y6, .int .u8 y7, .int .u8 y8, .int .u8 y9, .int .u16 B, .bool F, .slice a9 (n + 1) c9], blkR o 29 #[.int .u8 0, .int .u8 0, .int .u8 0, .int .u8 0, .int .u8 0, .int .u8 0, .int .u8 0, .int .u8 0, .int .u16 0, .bool false, .slice none 0 0], blkR g 114 #[.slice a zs.length c, .int .i64 ((E : Int) : Int)]] := by
          rw [bodR_snoc, ← lvsR_snoc, HQn.out]
          exact Sep.einto hS2
        have HS10 := Lib.hid hS3
        clear hS hS2 hS3 f10 l10 HS9
        go_roundg f'
        case rel => exact ⟨f', E, qs ++ [LvV.mk lh ll (.slice av nv cv) lB], a9, c9, n + 1, rfl, by omega, by rw [List.length_append, HQn.out]; rfl, hEz, HLv2.out, fun q hq => by
          rcases List.mem_append.1 hq with h | h
          · exact HLt.out q h
          · simp at h; subst h; exact HLw.out, HS10.out⟩
        case measure => have := HGk.out; omega

end Go.Proofs.YtjflcijiaennkaaDoor
