/-
  THE WALK of confluxref09.Parse. Printed by gen_ulx.py.
-/
import Derived.Test.YtjflcijiaennkaaDoorUlR
import Derived.Test.YtjflcijiaennkaaDoorUlW
set_option linter.unusedVariables false
set_option linter.unusedSimpArgs false
namespace Go.Proofs.YtjflcijiaennkaaDoor
open Go.RowKit

def uSl : Value → Nat
  | .slice _ n _ => n
  | _ => 0
set_option maxRecDepth 100000 in
set_option maxHeartbeats 16000000 in
theorem urparse_e {W : World} {a : Option Addr} {c : Nat} {zs : List Int} (hr : RdI .u8 W a zs) (hb : Byt zs) (hc : zs.length ≤ c) (hcm : c ≤ 9223372036854775807) (hn : a = none → c = 0) (hbad : 1500 < zs.length ∨ zs.length < 10 ∨ 128 ≤ uat zs 0) :
    Calls Tryd.prog 11 #[.slice a zs.length c] W (URfP W (upaX zs) (upaE zs)) := by
  obtain ⟨iL, hLi, hLz0, hLz1, hLz2⟩ := info_parts info_rlevel
  have HS0 := Lib.hid ((Sep.init W).alloc #[.int .u8 0, .int .u8 0, .int .u8 0, .int .u8 0, .int .u8 0, .int .u8 0, .int .u8 0, .int .u8 0, .int .u16 0, .bool false, .slice none 0 0] 35)
  obtain ⟨X0, hX⟩ : ∃ X0, X0 = upaX zs := ⟨_, rfl⟩
  obtain ⟨e, hE⟩ : ∃ e, e = upaE zs := ⟨_, rfl⟩
  have HXE := Lib.hid (And.intro hX hE)
  have HRd := Lib.hid (hr.alloc (.cells #[.int .u8 0, .int .u8 0, .int .u8 0, .int .u8 0, .int .u8 0, .int .u8 0, .int .u8 0, .int .u8 0, .int .u16 0, .bool false, .slice none 0 0] 35))
  have HR0 := Lib.hid hr
  have HBt := Lib.hid hb
  rw [← hX, ← hE]
  clear hX hE hr hb
  go_enter Tryd.func11, Tryd.ntmps11
  go_upto_region 1 with fail
  obtain ⟨w1, hw1⟩ : ∃ w1, w1 = W.alloc (.cells #[.int .u8 0, .int .u8 0, .int .u8 0, .int .u8 0, .int .u8 0, .int .u8 0, .int .u8 0, .int .u8 0, .int .u16 0, .bool false, .slice none 0 0] 35) := ⟨_, rfl⟩
  obtain ⟨o, ho⟩ : ∃ o, o = W.heap.size := ⟨_, rfl⟩
  rw [← hw1, ← ho] at HS0
  rw [← hw1] at HRd
  rw [← hw1, ← ho]
  clear hw1 ho
  by_cases hl : 1500 < zs.length
  · have d : decide (1500 < (zs.length : Int)) = true := decide_eq_true (by omega)
    have hXe : upaX zs = Ul.none ∧ upaE zs = 2 := And.intro (if_pos hl) (if_pos hl)
    have hX : X0 = Ul.none := HXE.out.1.trans hXe.1
    have hE : e = 2 := HXE.out.2.trans hXe.2
    clear hXe
    subst hX hE
    have hz := HS0.out.blk 0 rfl
    have z0 := hz.cell 0 rfl
    have z1 := hz.cell 1 rfl
    have z2 := hz.cell 2 rfl
    have z3 := hz.cell 3 rfl
    have z4 := hz.cell 4 rfl
    have z5 := hz.cell 5 rfl
    have z6 := hz.cell 6 rfl
    have z7 := hz.cell 7 rfl
    have z8 := hz.cell 8 rfl
    have z9 := hz.cell 9 rfl
    have z10 := hz.cell 10 rfl
    have f0 := hz.free 0
    have f1 := hz.free 1
    have f2 := hz.free 2
    have f3 := hz.free 3
    have f4 := hz.free 4
    have f5 := hz.free 5
    have f6 := hz.free 6
    have f7 := hz.free 7
    have f8 := hz.free 8
    have f9 := hz.free 9
    have f10 := hz.free 10
    go_wp2_with fail
    obtain ⟨we, hwe⟩ : ∃ x, x = (((((((((((w1.setCell ⟨o, 0, none⟩ (.int .u8 0)).setCell ⟨o, 1, none⟩ (.int .u8 0)).setCell ⟨o, 2, none⟩ (.int .u8 0)).setCell ⟨o, 3, none⟩ (.int .u8 0)).setCell ⟨o, 4, none⟩ (.int .u8 0)).setCell ⟨o, 5, none⟩ (.int .u8 0)).setCell ⟨o, 6, none⟩ (.int .u8 0)).setCell ⟨o, 7, none⟩ (.int .u8 0)).setCell ⟨o, 8, none⟩ (.int .u16 0)).setCell ⟨o, 9, none⟩ (.bool false)).setCell ⟨o, 10, none⟩ (.slice none 0 0)) := ⟨_, rfl⟩
    have HSe := Lib.hid (show Sep [] W we [blkR o 35 #[.int .u8 0, .int .u8 0, .int .u8 0, .int .u8 0, .int .u8 0, .int .u8 0, .int .u8 0, .int .u8 0, .int .u16 0, .bool false, .slice none 0 0]] from hwe ▸ HS0.out.puts 0 rfl [.int .u8 0, .int .u8 0, .int .u8 0, .int .u8 0, .int .u8 0, .int .u8 0, .int .u8 0, .int .u8 0, .int .u16 0, .bool false, .slice none 0 0] rfl)
    rw [← hwe]
    clear hwe HS0 hz z0 z1 z2 z3 z4 z5 z6 z7 z8 z9 z10 f0 f1 f2 f3 f4 f5 f6 f7 f8 f9 f10
    have hz := HSe.out.blk 0 rfl
    have z0 := hz.cell 0 rfl
    have z1 := hz.cell 1 rfl
    have z2 := hz.cell 2 rfl
    have z3 := hz.cell 3 rfl
    have z4 := hz.cell 4 rfl
    have z5 := hz.cell 5 rfl
    have z6 := hz.cell 6 rfl
    have z7 := hz.cell 7 rfl
    have z8 := hz.cell 8 rfl
    have z9 := hz.cell 9 rfl
    have z10 := hz.cell 10 rfl
    refine bodyPost_ret (v := .tuple #[.agg #[.int .u8 0, .int .u8 0, .int .u8 0, .int .u8 0, .int .u8 0, .int .u8 0, .int .u8 0, .int .u8 0, .int .u16 0, .bool false, .slice none 0 0], .int .i64 2]) ?_ rfl ⟨none, 0, [], rfl, rfl, RdLs.nil _ _, HSe.out.frm⟩
    simp [results, Tryd.results11, go_sem, z0, z1, z2, z3, z4, z5, z6, z7, z8, z9, z10]
  have d : decide (1500 < (zs.length : Int)) = false := decide_eq_false (by omega)
  have HIn := Lib.hid (And.intro (upaX_in hl) (upaE_in hl))
  rcases Nat.eq_zero_or_pos zs.length with h0 | h0
  · have d2 : (zs.length : Int) = 0 := by omega
    have HP := Lib.hid (urd_short (zs := zs) (by omega) (by omega))
    have hXe : upaX zs = Ul.none ∧ upaE zs = 20 := by rw [HIn.out.1, HIn.out.2, HP.out]; exact ⟨rfl, rfl⟩
    have hX : X0 = Ul.none := HXE.out.1.trans hXe.1
    have hE : e = 20 := HXE.out.2.trans hXe.2
    clear hXe
    subst hX hE
    have hz := HS0.out.blk 0 rfl
    have z0 := hz.cell 0 rfl
    have z1 := hz.cell 1 rfl
    have z2 := hz.cell 2 rfl
    have z3 := hz.cell 3 rfl
    have z4 := hz.cell 4 rfl
    have z5 := hz.cell 5 rfl
    have z6 := hz.cell 6 rfl
    have z7 := hz.cell 7 rfl
    have z8 := hz.cell 8 rfl
    have z9 := hz.cell 9 rfl
    have z10 := hz.cell 10 rfl
    have f0 := hz.free 0
    have f1 := hz.free 1
    have f2 := hz.free 2
    have f3 := hz.free 3
    have f4 := hz.free 4
    have f5 := hz.free 5
    have f6 := hz.free 6
    have f7 := hz.free 7
    have f8 := hz.free 8
    have f9 := hz.free 9
    have f10 := hz.free 10
    go_wp2_with fail
    obtain ⟨we, hwe⟩ : ∃ x, x = (((((((((((w1.setCell ⟨o, 0, none⟩ (.int .u8 0)).setCell ⟨o, 1, none⟩ (.int .u8 0)).setCell ⟨o, 2, none⟩ (.int .u8 0)).setCell ⟨o, 3, none⟩ (.int .u8 0)).setCell ⟨o, 4, none⟩ (.int .u8 0)).setCell ⟨o, 5, none⟩ (.int .u8 0)).setCell ⟨o, 6, none⟩ (.int .u8 0)).setCell ⟨o, 7, none⟩ (.int .u8 0)).setCell ⟨o, 8, none⟩ (.int .u16 0)).setCell ⟨o, 9, none⟩ (.bool false)).setCell ⟨o, 10, none⟩ (.slice none 0 0)) := ⟨_, rfl⟩
    have HSe := Lib.hid (show Sep [] W we [blkR o 35 #[.int .u8 0, .int .u8 0, .int .u8 0, .int .u8 0, .int .u8 0, .int .u8 0, .int .u8 0, .int .u8 0, .int .u16 0, .bool false, .slice none 0 0]] from hwe ▸ HS0.out.puts 0 rfl [.int .u8 0, .int .u8 0, .int .u8 0, .int .u8 0, .int .u8 0, .int .u8 0, .int .u8 0, .int .u8 0, .int .u16 0, .bool false, .slice none 0 0] rfl)
    rw [← hwe]
    clear hwe HS0 hz z0 z1 z2 z3 z4 z5 z6 z7 z8 z9 z10 f0 f1 f2 f3 f4 f5 f6 f7 f8 f9 f10
    have hz := HSe.out.blk 0 rfl
    have z0 := hz.cell 0 rfl
    have z1 := hz.cell 1 rfl
    have z2 := hz.cell 2 rfl
    have z3 := hz.cell 3 rfl
    have z4 := hz.cell 4 rfl
    have z5 := hz.cell 5 rfl
    have z6 := hz.cell 6 rfl
    have z7 := hz.cell 7 rfl
    have z8 := hz.cell 8 rfl
    have z9 := hz.cell 9 rfl
    have z10 := hz.cell 10 rfl
    refine bodyPost_ret (v := .tuple #[.agg #[.int .u8 0, .int .u8 0, .int .u8 0, .int .u8 0, .int .u8 0, .int .u8 0, .int .u8 0, .int .u8 0, .int .u16 0, .bool false, .slice none 0 0], .int .i64 20]) ?_ rfl ⟨none, 0, [], rfl, rfl, RdLs.nil _ _, HSe.out.frm⟩
    simp [results, Tryd.results11, go_sem, z0, z1, z2, z3, z4, z5, z6, z7, z8, z9, z10]
  obtain ⟨b, off, ha⟩ : ∃ b off, a = some ⟨b, off, none⟩ := by
    obtain ⟨b, off, ha, _⟩ := HRd.out 0 _ (List.getElem?_eq_getElem h0)
    exact ⟨b, off, ha⟩
  subst ha
  have HC := Lib.hid (fun (k : Nat) (y : Int) (h : zs[k]? = some y) => urd_cell HRd.out h)
  obtain ⟨y0, c0, l0, u0, z2, g0⟩ := ucut_byte HBt.out (p := 0) (by omega)
  have q0 : w1.cell? ⟨b, off, none⟩ = some (.int .u8 y0) := HC.out 0 y0 g0
  have A0 := Lib.hid (uat_of g0)
  have G0 := Lib.hid g0
  clear z2 c0 g0
  by_cases hodd : 128 ≤ y0
  · have HP := Lib.hid (urd_odd (zs := zs) (by omega) (by rw [A0.out]; exact hodd))
    have hXe : upaX zs = Ul.none ∧ upaE zs = 21 := by rw [HIn.out.1, HIn.out.2, HP.out]; exact ⟨rfl, rfl⟩
    have hX : X0 = Ul.none := HXE.out.1.trans hXe.1
    have hE : e = 21 := HXE.out.2.trans hXe.2
    clear hXe
    subst hX hE
    have hz := HS0.out.blk 0 rfl
    have z0 := hz.cell 0 rfl
    have z1 := hz.cell 1 rfl
    have z2 := hz.cell 2 rfl
    have z3 := hz.cell 3 rfl
    have z4 := hz.cell 4 rfl
    have z5 := hz.cell 5 rfl
    have z6 := hz.cell 6 rfl
    have z7 := hz.cell 7 rfl
    have z8 := hz.cell 8 rfl
    have z9 := hz.cell 9 rfl
    have z10 := hz.cell 10 rfl
    have f0 := hz.free 0
    have f1 := hz.free 1
    have f2 := hz.free 2
    have f3 := hz.free 3
    have f4 := hz.free 4
    have f5 := hz.free 5
    have f6 := hz.free 6
    have f7 := hz.free 7
    have f8 := hz.free 8
    have f9 := hz.free 9
    have f10 := hz.free 10
    go_wp2_with fail
    obtain ⟨we, hwe⟩ : ∃ x, x = (((((((((((w1.setCell ⟨o, 0, none⟩ (.int .u8 0)).setCell ⟨o, 1, none⟩ (.int .u8 0)).setCell ⟨o, 2, none⟩ (.int .u8 0)).setCell ⟨o, 3, none⟩ (.int .u8 0)).setCell ⟨o, 4, none⟩ (.int .u8 0)).setCell ⟨o, 5, none⟩ (.int .u8 0)).setCell ⟨o, 6, none⟩ (.int .u8 0)).setCell ⟨o, 7, none⟩ (.int .u8 0)).setCell ⟨o, 8, none⟩ (.int .u16 0)).setCell ⟨o, 9, none⟩ (.bool false)).setCell ⟨o, 10, none⟩ (.slice none 0 0)) := ⟨_, rfl⟩
    have HSe := Lib.hid (show Sep [] W we [blkR o 35 #[.int .u8 0, .int .u8 0, .int .u8 0, .int .u8 0, .int .u8 0, .int .u8 0, .int .u8 0, .int .u8 0, .int .u16 0, .bool false, .slice none 0 0]] from hwe ▸ HS0.out.puts 0 rfl [.int .u8 0, .int .u8 0, .int .u8 0, .int .u8 0, .int .u8 0, .int .u8 0, .int .u8 0, .int .u8 0, .int .u16 0, .bool false, .slice none 0 0] rfl)
    rw [← hwe]
    clear hwe HS0 hz z0 z1 z2 z3 z4 z5 z6 z7 z8 z9 z10 f0 f1 f2 f3 f4 f5 f6 f7 f8 f9 f10
    have hz := HSe.out.blk 0 rfl
    have z0 := hz.cell 0 rfl
    have z1 := hz.cell 1 rfl
    have z2 := hz.cell 2 rfl
    have z3 := hz.cell 3 rfl
    have z4 := hz.cell 4 rfl
    have z5 := hz.cell 5 rfl
    have z6 := hz.cell 6 rfl
    have z7 := hz.cell 7 rfl
    have z8 := hz.cell 8 rfl
    have z9 := hz.cell 9 rfl
    have z10 := hz.cell 10 rfl
    refine bodyPost_ret (v := .tuple #[.agg #[.int .u8 0, .int .u8 0, .int .u8 0, .int .u8 0, .int .u8 0, .int .u8 0, .int .u8 0, .int .u8 0, .int .u16 0, .bool false, .slice none 0 0], .int .i64 21]) ?_ rfl ⟨none, 0, [], rfl, rfl, RdLs.nil _ _, HSe.out.frm⟩
    simp [results, Tryd.results11, go_sem, z0, z1, z2, z3, z4, z5, z6, z7, z8, z9, z10]
  by_cases hs : zs.length < 10
  · have HP := Lib.hid (urd_short (zs := zs) (by have := A0.out; omega) (by omega))
    have hXe : upaX zs = Ul.none ∧ upaE zs = 20 := by rw [HIn.out.1, HIn.out.2, HP.out]; exact ⟨rfl, rfl⟩
    have hX : X0 = Ul.none := HXE.out.1.trans hXe.1
    have hE : e = 20 := HXE.out.2.trans hXe.2
    clear hXe
    subst hX hE
    have hz := HS0.out.blk 0 rfl
    have z0 := hz.cell 0 rfl
    have z1 := hz.cell 1 rfl
    have z2 := hz.cell 2 rfl
    have z3 := hz.cell 3 rfl
    have z4 := hz.cell 4 rfl
    have z5 := hz.cell 5 rfl
    have z6 := hz.cell 6 rfl
    have z7 := hz.cell 7 rfl
    have z8 := hz.cell 8 rfl
    have z9 := hz.cell 9 rfl
    have z10 := hz.cell 10 rfl
    have f0 := hz.free 0
    have f1 := hz.free 1
    have f2 := hz.free 2
    have f3 := hz.free 3
    have f4 := hz.free 4
    have f5 := hz.free 5
    have f6 := hz.free 6
    have f7 := hz.free 7
    have f8 := hz.free 8
    have f9 := hz.free 9
    have f10 := hz.free 10
    go_wp2_with fail
    obtain ⟨we, hwe⟩ : ∃ x, x = (((((((((((w1.setCell ⟨o, 0, none⟩ (.int .u8 0)).setCell ⟨o, 1, none⟩ (.int .u8 0)).setCell ⟨o, 2, none⟩ (.int .u8 0)).setCell ⟨o, 3, none⟩ (.int .u8 0)).setCell ⟨o, 4, none⟩ (.int .u8 0)).setCell ⟨o, 5, none⟩ (.int .u8 0)).setCell ⟨o, 6, none⟩ (.int .u8 0)).setCell ⟨o, 7, none⟩ (.int .u8 0)).setCell ⟨o, 8, none⟩ (.int .u16 0)).setCell ⟨o, 9, none⟩ (.bool false)).setCell ⟨o, 10, none⟩ (.slice none 0 0)) := ⟨_, rfl⟩
    have HSe := Lib.hid (show Sep [] W we [blkR o 35 #[.int .u8 0, .int .u8 0, .int .u8 0, .int .u8 0, .int .u8 0, .int .u8 0, .int .u8 0, .int .u8 0, .int .u16 0, .bool false, .slice none 0 0]] from hwe ▸ HS0.out.puts 0 rfl [.int .u8 0, .int .u8 0, .int .u8 0, .int .u8 0, .int .u8 0, .int .u8 0, .int .u8 0, .int .u8 0, .int .u16 0, .bool false, .slice none 0 0] rfl)
    rw [← hwe]
    clear hwe HS0 hz z0 z1 z2 z3 z4 z5 z6 z7 z8 z9 z10 f0 f1 f2 f3 f4 f5 f6 f7 f8 f9 f10
    have hz := HSe.out.blk 0 rfl
    have z0 := hz.cell 0 rfl
    have z1 := hz.cell 1 rfl
    have z2 := hz.cell 2 rfl
    have z3 := hz.cell 3 rfl
    have z4 := hz.cell 4 rfl
    have z5 := hz.cell 5 rfl
    have z6 := hz.cell 6 rfl
    have z7 := hz.cell 7 rfl
    have z8 := hz.cell 8 rfl
    have z9 := hz.cell 9 rfl
    have z10 := hz.cell 10 rfl
    refine bodyPost_ret (v := .tuple #[.agg #[.int .u8 0, .int .u8 0, .int .u8 0, .int .u8 0, .int .u8 0, .int .u8 0, .int .u8 0, .int .u8 0, .int .u16 0, .bool false, .slice none 0 0], .int .i64 20]) ?_ rfl ⟨none, 0, [], rfl, rfl, RdLs.nil _ _, HSe.out.frm⟩
    simp [results, Tryd.results11, go_sem, z0, z1, z2, z3, z4, z5, z6, z7, z8, z9, z10]
  exact absurd hbad (by rw [A0.out]; omega)
set_option maxRecDepth 100000 in
set_option maxHeartbeats 16000000 in
theorem urparse_m {W : World} {a : Option Addr} {c : Nat} {zs : List Int} (hr : RdI .u8 W a zs) (hb : Byt zs) (hc : zs.length ≤ c) (hcm : c ≤ 9223372036854775807) (hn : a = none → c = 0) (hl : ¬ 1500 < zs.length) (hs : ¬ zs.length < 10) (hodd : uat zs 0 < 128) :
    Calls Tryd.prog 11 #[.slice a zs.length c] W (URfP W (upaX zs) (upaE zs)) := by
  obtain ⟨iL, hLi, hLz0, hLz1, hLz2⟩ := info_parts info_rlevel
  have HS0 := Lib.hid ((Sep.init W).alloc #[.int .u8 0, .int .u8 0, .int .u8 0, .int .u8 0, .int .u8 0, .int .u8 0, .int .u8 0, .int .u8 0, .int .u16 0, .bool false, .slice none 0 0] 35)
  obtain ⟨X0, hX⟩ : ∃ X0, X0 = upaX zs := ⟨_, rfl⟩
  obtain ⟨e, hE⟩ : ∃ e, e = upaE zs := ⟨_, rfl⟩
  have HXE := Lib.hid (And.intro hX hE)
  have HRd := Lib.hid (hr.alloc (.cells #[.int .u8 0, .int .u8 0, .int .u8 0, .int .u8 0, .int .u8 0, .int .u8 0, .int .u8 0, .int .u8 0, .int .u16 0, .bool false, .slice none 0 0] 35))
  have HR0 := Lib.hid hr
  have HBt := Lib.hid hb
  rw [← hX, ← hE]
  clear hX hE hr hb
  go_enter Tryd.func11, Tryd.ntmps11
  go_upto_region 1 with fail
  obtain ⟨w1, hw1⟩ : ∃ w1, w1 = W.alloc (.cells #[.int .u8 0, .int .u8 0, .int .u8 0, .int .u8 0, .int .u8 0, .int .u8 0, .int .u8 0, .int .u8 0, .int .u16 0, .bool false, .slice none 0 0] 35) := ⟨_, rfl⟩
  obtain ⟨o, ho⟩ : ∃ o, o = W.heap.size := ⟨_, rfl⟩
  rw [← hw1, ← ho] at HS0
  rw [← hw1] at HRd
  rw [← hw1, ← ho]
  clear hw1 ho
  have d : decide (1500 < (zs.length : Int)) = false := decide_eq_false (by omega)
  have HIn := Lib.hid (And.intro (upaX_in hl) (upaE_in hl))
  have h0 : 0 < zs.length := by omega
  obtain ⟨b, off, ha⟩ : ∃ b off, a = some ⟨b, off, none⟩ := by
    obtain ⟨b, off, ha, _⟩ := HRd.out 0 _ (List.getElem?_eq_getElem h0)
    exact ⟨b, off, ha⟩
  subst ha
  have HC := Lib.hid (fun (k : Nat) (y : Int) (h : zs[k]? = some y) => urd_cell HRd.out h)
  obtain ⟨y0, c0, l0, u0, z2, g0⟩ := ucut_byte HBt.out (p := 0) (by omega)
  have q0 : w1.cell? ⟨b, off, none⟩ = some (.int .u8 y0) := HC.out 0 y0 g0
  have A0 := Lib.hid (uat_of g0)
  have G0 := Lib.hid g0
  clear z2 c0 g0
  rw [A0.out] at hodd
  have hodd : ¬ 128 ≤ y0 := by omega
  go_upto_region 7 with fail
  clear q0
  obtain ⟨y1, c1, l1, u1, z2, g1⟩ := ucut_byte HBt.out (p := 1) (by omega)
  have A1 := Lib.hid (uat_of g1)
  have G1 := Lib.hid g1
  clear z2 c1 g1 l1 u1
  obtain ⟨y4, c4, l4, u4, z2, g4⟩ := ucut_byte HBt.out (p := 4) (by omega)
  have A4 := Lib.hid (uat_of g4)
  have G4 := Lib.hid g4
  clear z2 c4 g4 l4 u4
  obtain ⟨y5, c5, l5, u5, z2, g5⟩ := ucut_byte HBt.out (p := 5) (by omega)
  have A5 := Lib.hid (uat_of g5)
  have G5 := Lib.hid g5
  clear z2 c5 g5 l5 u5
  obtain ⟨y6, c6, l6, u6, z2, g6⟩ := ucut_byte HBt.out (p := 6) (by omega)
  have A6 := Lib.hid (uat_of g6)
  have G6 := Lib.hid g6
  clear z2 c6 g6 l6 u6
  obtain ⟨y7, c7, l7, u7, z2, g7⟩ := ucut_byte HBt.out (p := 7) (by omega)
  have A7 := Lib.hid (uat_of g7)
  have G7 := Lib.hid g7
  clear z2 c7 g7 l7 u7
  obtain ⟨y8, c8, l8, u8, z2, g8⟩ := ucut_byte HBt.out (p := 8) (by omega)
  have A8 := Lib.hid (uat_of g8)
  have G8 := Lib.hid g8
  clear z2 c8 g8 l8 u8
  obtain ⟨y9, c9, l9, u9, z2, g9⟩ := ucut_byte HBt.out (p := 9) (by omega)
  have A9 := Lib.hid (uat_of g9)
  have G9 := Lib.hid g9
  clear z2 c9 g9 l9 u9
  obtain ⟨B, hB⟩ : ∃ B, B = bigN (cut zs 2 2) := ⟨_, rfl⟩
  have hBr : 0 ≤ B ∧ B ≤ 65535 := by
    rw [hB]; exact ubig_cut2 HBt.out 2 (by omega)
  have HNu := Lib.hid (fun (X : World) (hf : Frm [] W X) => hB ▸ urnumber_c (some ⟨b, off + 2, none⟩) (c - 2) 2 (cut zs 2 2) (cut_len (by omega)) X (((HR0.out.frm hf (by simp)).offs 2).firsts 2) (HBt.out.cut _ _) (by omega))
  have HC0 := Lib.hid (fun (X : World) (hf : Frm [] W X) (k : Nat) (y : Int) (h : zs[k]? = some y) => urd_cell (HR0.out.frm hf (by simp)) h)
  have HBB := Lib.hid hB
  obtain ⟨F, hF0⟩ : ∃ F, F = decide (64 ≤ y0) := ⟨_, rfl⟩
  have HF := Lib.hid hF0
  have hF2 : decide (64 ≤ y0) = F := hF0.symm
  have hw16 : IntKind.u16.wrap B = B := by
    simp [IntKind.wrap, IntKind.bits, IntKind.signed]; omega
  have hbW := (HR0.out 0 y0 G0.out)
  obtain ⟨b', off', he, hbl, -⟩ := hbW
  simp only [Option.some.injEq, Addr.mk.injEq] at he
  rw [← he.1] at hbl
  have HB := Lib.hid (show o < w1.heap.size ∧ W.heap.size ≤ w1.heap.size ∧ b < W.heap.size from ⟨(HS0.out.blk 0 rfl).lt, HS0.out.frm.size, hbl⟩)
  have HS10 := Lib.hid hs
  have HOd := Lib.hid hodd
  clear hB HC HRd hF0 he hbl hBr hs hl
  refine region_segsA (ty := 35) (z := #[.int .u8 0, .int .u8 0, .int .u8 0, .int .u8 0, .int .u8 0, .int .u8 0, .int .u8 0, .int .u8 0, .int .u16 0, .bool false, .slice none 0 0]) [0, 1, 4, 5, 6, 7, 2, 3, 8] [6] 9 [10] [0] (by kernel_rfl) (by kernel_rfl) rfl rfl rfl rfl (fun _ _ => by kernel_rfl) (by kernel_rfl) ?_
  simp only [remOf, List.filterMap_cons, List.filterMap_nil, List.getElem?_cons_zero, List.getElem?_cons_succ]
  have HS2 := Lib.hid HS0.out.drew
  obtain ⟨w2, hw2⟩ : ∃ w2, w2 = w1.drew := ⟨_, rfl⟩
  obtain ⟨B0, hB0⟩ : ∃ B0, B0 = w1.heap.size := ⟨_, rfl⟩
  rw [← hw2] at HS2
  rw [← hB0] at HB
  rw [← hw2, ← hB0]
  clear hw2 hB0 HS0
  unfold wpSegsU
  simp only [List.take_succ_cons, List.take_zero, List.drop_succ_cons, List.drop_zero]
  have n1 : Nonempty (Cls (fun v => FrB B0 [] w2 v)) := ⟨⟨_, FrB.refl _ _ _⟩⟩
  have q0 := fun x : Cls (fun v => FrB B0 [] w2 v) => (x.ok.cell (g := b) (i := off) (Nat.lt_of_lt_of_le HB.out.2.2 HS2.out.frm.size) (Nat.lt_of_lt_of_le HB.out.2.2 HB.out.2.1) (by simp)).trans (HC0.out w2 HS2.out.frm 0 y0 G0.out)
  repeat (go_big_quiet_step (fail))
  refine wpQuiet_nil ?_
  intro X hX
  refine only_step (fun K' hK => ?_)
  clear n1 q0 hF2
  go_wp2_with fail
  refine (HNu.out X (HS2.out.frm.trans hX)).mono ?_
  rintro ex w3 ⟨rfl, rfl⟩
  have HS3 := Lib.hid (show Sep [] W X [blkR o 35 #[.int .u8 0, .int .u8 0, .int .u8 0, .int .u8 0, .int .u8 0, .int .u8 0, .int .u8 0, .int .u8 0, .int .u16 0, .bool false, .slice none 0 0]] from HS2.out.keep hX)
  go_wp2_with fail
  refine hK.out _ _ ⟨Frm.refl _ _, ?_⟩
  clear hK hX HS2 HNu
  unfold wpSegsU
  have n1 : Nonempty (Cls (fun v => FrB B0 [] X v)) := ⟨⟨_, FrB.refl _ _ _⟩⟩
  show wpQuiet _ _ _ _ [_, _] _
  repeat (go_big_quiet_step (fail))
  refine wpQuiet_nil ?_
  intro X2 hX2 g2 hb hg
  clear n1 hw16
  have HS4 := Lib.hid (show Sep [] W X2 [blkR g2 35 #[.int .u8 0, .int .u8 0, .int .u8 0, .int .u8 0, .int .u8 0, .int .u8 0, .int .u8 0, .int .u8 0, .int .u16 0, .bool false, .slice none 0 0], blkR o 35 #[.int .u8 0, .int .u8 0, .int .u8 0, .int .u8 0, .int .u8 0, .int .u8 0, .int .u8 0, .int .u8 0, .int .u16 0, .bool false, .slice none 0 0]] from (HS3.out.keep hX2).adopt hb (by have := HB.out; omega) (by
    intro r hr
    rcases List.mem_cons.1 hr with rfl | hr
    · simp [blkR]; have := HB.out; omega
    · cases hr))
  clear HS3 hX2
  unfold wpSegsR
  simp only [List.take_succ_cons, List.take_zero, List.drop_succ_cons, List.drop_zero]
  refine wpQuiet_nil ?_
  refine only_step (fun K' hK => ?_)
  have hz := HS4.out.blk 0 rfl
  have z0 := hz.cell 0 rfl
  have z1 := hz.cell 1 rfl
  have z2 := hz.cell 2 rfl
  have z3 := hz.cell 3 rfl
  have z4 := hz.cell 4 rfl
  have z5 := hz.cell 5 rfl
  have z6 := hz.cell 6 rfl
  have z7 := hz.cell 7 rfl
  have z8 := hz.cell 8 rfl
  have z9 := hz.cell 9 rfl
  have z10 := hz.cell 10 rfl
  have f0 := hz.free 0
  have f1 := hz.free 1
  have f2 := hz.free 2
  have f3 := hz.free 3
  have f4 := hz.free 4
  have f5 := hz.free 5
  have f6 := hz.free 6
  have f7 := hz.free 7
  have f8 := hz.free 8
  have f9 := hz.free 9
  have f10 := hz.free 10
  go_wp2_with fail
  obtain ⟨w4, hw4⟩ : ∃ w4, w4 = (((((((((((X2.setCell ⟨g2, 0, none⟩ (.int .u8 0)).setCell ⟨g2, 1, none⟩ (.int .u8 0)).setCell ⟨g2, 2, none⟩ (.int .u8 0)).setCell ⟨g2, 3, none⟩ (.int .u8 0)).setCell ⟨g2, 4, none⟩ (.int .u8 0)).setCell ⟨g2, 5, none⟩ (.int .u8 0)).setCell ⟨g2, 6, none⟩ (.int .u8 0)).setCell ⟨g2, 7, none⟩ (.int .u8 0)).setCell ⟨g2, 8, none⟩ (.int .u16 B)).setCell ⟨g2, 9, none⟩ (.bool F)).setCell ⟨g2, 10, none⟩ (.slice none 0 0)) := ⟨_, rfl⟩
  have HS5 := Lib.hid (show Sep [] W w4 [blkR g2 35 #[.int .u8 0, .int .u8 0, .int .u8 0, .int .u8 0, .int .u8 0, .int .u8 0, .int .u8 0, .int .u8 0, .int .u16 B, .bool F, .slice none 0 0], blkR o 35 #[.int .u8 0, .int .u8 0, .int .u8 0, .int .u8 0, .int .u8 0, .int .u8 0, .int .u8 0, .int .u8 0, .int .u16 0, .bool false, .slice none 0 0]] from hw4 ▸ HS4.out.puts 0 rfl [.int .u8 0, .int .u8 0, .int .u8 0, .int .u8 0, .int .u8 0, .int .u8 0, .int .u8 0, .int .u8 0, .int .u16 B, .bool F, .slice none 0 0] rfl)
  have hfr : FrB B0 [] X2 w4 := hw4 ▸ ufrb_putAll g2 hg [.int .u8 0, .int .u8 0, .int .u8 0, .int .u8 0, .int .u8 0, .int .u8 0, .int .u8 0, .int .u8 0, .int .u16 B, .bool F, .slice none 0 0] 0 X2
  rw [← hw4]
  refine hK.out _ _ ⟨hfr, ?_⟩
  clear hw4 hK HS4 hz z0 z1 z2 z3 z4 z5 z6 z7 z8 z9 z10 f0 f1 f2 f3 f4 f5 f6 f7 f8 f9 f10 hfr hb
  unfold wpSegsR
  refine wpQuiet_nil ?_
  refine NoPanic.normal ?_
  obtain ⟨P0, hP0⟩ : ∃ P0, P0 = y0 % 64 := ⟨_, rfl⟩
  have e1 : Int.tmod y0 64 = P0 := (Int.tmod_eq_emod_of_nonneg l0).trans hP0.symm
  have HP0 := Lib.hid hP0
  have q0 : w4.cell? ⟨b, off, none⟩ = some (.int .u8 y0) := HC0.out w4 HS5.out.frm 0 y0 G0.out
  have k0 := (HS5.out.blk 0 rfl).cell 0 rfl
  have f0 := (HS5.out.blk 0 rfl).free 0
  clear hP0
  go_upto_region 9 with fail
  have HS6 := Lib.hid (HS5.out.put 0 rfl 0 (.int .u8 P0))
  obtain ⟨w5, hw5⟩ : ∃ x, x = w4.setCell ⟨g2, 0, none⟩ (.int .u8 P0) := ⟨_, rfl⟩
  rw [← hw5] at HS6
  rw [← hw5]
  clear hw5 HS5 k0 f0 e1 q0
  have q1 : w5.cell? ⟨b, off + 1, none⟩ = some (.int .u8 y1) := HC0.out w5 HS6.out.frm 1 y1 G1.out
  have k1 := (HS6.out.blk 0 rfl).cell 1 rfl
  have f1 := (HS6.out.blk 0 rfl).free 1
  go_upto_region 10 with fail
  have HS7 := Lib.hid (HS6.out.put 0 rfl 1 (.int .u8 y1))
  obtain ⟨w6, hw6⟩ : ∃ x, x = w5.setCell ⟨g2, 1, none⟩ (.int .u8 y1) := ⟨_, rfl⟩
  rw [← hw6] at HS7
  rw [← hw6]
  clear hw6 HS6 k1 f1 q1 hodd HB hg l0 u0 d h0
  have HS8 := Lib.hid (show Sep [] W w6 [blkR g2 35 #[.int .u8 P0, .int .u8 y1, .int .u8 0, .int .u8 0, .int .u8 0, .int .u8 0, .int .u8 0, .int .u8 0, .int .u16 B, .bool F, .slice none 0 0], blkR o 35 #[.int .u8 0, .int .u8 0, .int .u8 0, .int .u8 0, .int .u8 0, .int .u8 0, .int .u8 0, .int .u8 0, .int .u16 0, .bool false, .slice none 0 0]] from HS7.out)
  clear HS7
  go_wp2_with fail
  go_loopw [5] (fun i wr => ∃ (j : Nat) (x2 x3 x4 x5 x6 x7 : Int), j ≤ 6 ∧ i = .int .i64 (j : Int) ∧ (1 ≤ j → x2 = y4) ∧ (2 ≤ j → x3 = y5) ∧ (3 ≤ j → x4 = y6) ∧ (4 ≤ j → x5 = y7) ∧ (5 ≤ j → x6 = y8) ∧ (6 ≤ j → x7 = y9) ∧ Sep [] W wr [blkR g2 35 #[.int .u8 P0, .int .u8 y1, .int .u8 x2, .int .u8 x3, .int .u8 x4, .int .u8 x5, .int .u8 x6, .int .u8 x7, .int .u16 B, .bool F, .slice none 0 0], blkR o 35 #[.int .u8 0, .int .u8 0, .int .u8 0, .int .u8 0, .int .u8 0, .int .u8 0, .int .u8 0, .int .u8 0, .int .u16 0, .bool false, .slice none 0 0]]) (fun i _ => 6 - (intOf i).toNat)
  case atStart => exact ⟨0, 0, 0, 0, 0, 0, 0, by decide, rfl, by simp, by simp, by simp, by simp, by simp, by simp, HS8.out⟩
  case round =>
    obtain ⟨j, x2, x3, x4, x5, x6, x7, hj, rfl, i2, i3, i4, i5, i6, i7, hS⟩ := hrel
    have HT := Lib.hid hS
    clear hS HS8
    have hj6 : j = 0 ∨ j = 1 ∨ j = 2 ∨ j = 3 ∨ j = 4 ∨ j = 5 ∨ j = 6 := by omega
    rcases hj6 with rfl | rfl | rfl | rfl | rfl | rfl | rfl
    · have HI := Lib.hid (And.intro i2 (And.intro i3 (And.intro i4 (And.intro i5 (And.intro i6 i7)))))
      clear i2 i3 i4 i5 i6 i7 hj
      have q4 : wr.cell? ⟨b, off + 4, none⟩ = some (.int .u8 y4) := HC0.out wr HT.out.frm 4 y4 G4.out
      have k4 := (HT.out.blk 0 rfl).cell 2 rfl
      have f4 := (HT.out.blk 0 rfl).free 2
      go_wp2_with fail
      have HT2 := Lib.hid (HT.out.put 0 rfl 2 (.int .u8 y4))
      obtain ⟨i2, i3, i4, i5, i6, i7⟩ := HI.out
      go_roundw
      case rel => exact ⟨1, y4, x3, x4, x5, x6, x7, by decide, by go_num, fun _ => rfl, fun h => absurd h (by decide), fun h => absurd h (by decide), fun h => absurd h (by decide), fun h => absurd h (by decide), fun h => absurd h (by decide), HT2.out⟩
      case measure => simp [intOf]
    · have HI := Lib.hid (And.intro i2 (And.intro i3 (And.intro i4 (And.intro i5 (And.intro i6 i7)))))
      clear i2 i3 i4 i5 i6 i7 hj
      have q4 : wr.cell? ⟨b, off + 5, none⟩ = some (.int .u8 y5) := HC0.out wr HT.out.frm 5 y5 G5.out
      have k4 := (HT.out.blk 0 rfl).cell 3 rfl
      have f4 := (HT.out.blk 0 rfl).free 3
      go_wp2_with fail
      have HT2 := Lib.hid (HT.out.put 0 rfl 3 (.int .u8 y5))
      obtain ⟨i2, i3, i4, i5, i6, i7⟩ := HI.out
      go_roundw
      case rel => exact ⟨2, x2, y5, x4, x5, x6, x7, by decide, by go_num, fun _ => i2 (by decide), fun _ => rfl, fun h => absurd h (by decide), fun h => absurd h (by decide), fun h => absurd h (by decide), fun h => absurd h (by decide), HT2.out⟩
      case measure => simp [intOf]
    · have HI := Lib.hid (And.intro i2 (And.intro i3 (And.intro i4 (And.intro i5 (And.intro i6 i7)))))
      clear i2 i3 i4 i5 i6 i7 hj
      have q4 : wr.cell? ⟨b, off + 6, none⟩ = some (.int .u8 y6) := HC0.out wr HT.out.frm 6 y6 G6.out
      have k4 := (HT.out.blk 0 rfl).cell 4 rfl
      have f4 := (HT.out.blk 0 rfl).free 4
      go_wp2_with fail
      have HT2 := Lib.hid (HT.out.put 0 rfl 4 (.int .u8 y6))
      obtain ⟨i2, i3, i4, i5, i6, i7⟩ := HI.out
      go_roundw
      case rel => exact ⟨3, x2, x3, y6, x5, x6, x7, by decide, by go_num, fun _ => i2 (by decide), fun _ => i3 (by decide), fun _ => rfl, fun h => absurd h (by decide), fun h => absurd h (by decide), fun h => absurd h (by decide), HT2.out⟩
      case measure => simp [intOf]
    · have HI := Lib.hid (And.intro i2 (And.intro i3 (And.intro i4 (And.intro i5 (And.intro i6 i7)))))
      clear i2 i3 i4 i5 i6 i7 hj
      have q4 : wr.cell? ⟨b, off + 7, none⟩ = some (.int .u8 y7) := HC0.out wr HT.out.frm 7 y7 G7.out
      have k4 := (HT.out.blk 0 rfl).cell 5 rfl
      have f4 := (HT.out.blk 0 rfl).free 5
      go_wp2_with fail
      have HT2 := Lib.hid (HT.out.put 0 rfl 5 (.int .u8 y7))
      obtain ⟨i2, i3, i4, i5, i6, i7⟩ := HI.out
      go_roundw
      case rel => exact ⟨4, x2, x3, x4, y7, x6, x7, by decide, by go_num, fun _ => i2 (by decide), fun _ => i3 (by decide), fun _ => i4 (by decide), fun _ => rfl, fun h => absurd h (by decide), fun h => absurd h (by decide), HT2.out⟩
      case measure => simp [intOf]
    · have HI := Lib.hid (And.intro i2 (And.intro i3 (And.intro i4 (And.intro i5 (And.intro i6 i7)))))
      clear i2 i3 i4 i5 i6 i7 hj
      have q4 : wr.cell? ⟨b, off + 8, none⟩ = some (.int .u8 y8) := HC0.out wr HT.out.frm 8 y8 G8.out
      have k4 := (HT.out.blk 0 rfl).cell 6 rfl
      have f4 := (HT.out.blk 0 rfl).free 6
      go_wp2_with fail
      have HT2 := Lib.hid (HT.out.put 0 rfl 6 (.int .u8 y8))
      obtain ⟨i2, i3, i4, i5, i6, i7⟩ := HI.out
      go_roundw
      case rel => exact ⟨5, x2, x3, x4, x5, y8, x7, by decide, by go_num, fun _ => i2 (by decide), fun _ => i3 (by decide), fun _ => i4 (by decide), fun _ => i5 (by decide), fun _ => rfl, fun h => absurd h (by decide), HT2.out⟩
      case measure => simp [intOf]
    · have HI := Lib.hid (And.intro i2 (And.intro i3 (And.intro i4 (And.intro i5 (And.intro i6 i7)))))
      clear i2 i3 i4 i5 i6 i7 hj
      have q4 : wr.cell? ⟨b, off + 9, none⟩ = some (.int .u8 y9) := HC0.out wr HT.out.frm 9 y9 G9.out
      have k4 := (HT.out.blk 0 rfl).cell 7 rfl
      have f4 := (HT.out.blk 0 rfl).free 7
      go_wp2_with fail
      have HT2 := Lib.hid (HT.out.put 0 rfl 7 (.int .u8 y9))
      obtain ⟨i2, i3, i4, i5, i6, i7⟩ := HI.out
      go_roundw
      case rel => exact ⟨6, x2, x3, x4, x5, x6, y9, by decide, by go_num, fun _ => i2 (by decide), fun _ => i3 (by decide), fun _ => i4 (by decide), fun _ => i5 (by decide), fun _ => i6 (by decide), fun _ => rfl, HT2.out⟩
      case measure => simp [intOf]
    · obtain rfl := (i2 (by decide)).symm
      obtain rfl := (i3 (by decide)).symm
      obtain rfl := (i4 (by decide)).symm
      obtain rfl := (i5 (by decide)).symm
      obtain rfl := (i6 (by decide)).symm
      obtain rfl := (i7 (by decide)).symm
      clear hj i2 i3 i4 i5 i6 i7
      have hs10 : 10 ≤ zs.length := by have := HS10.out; omega
      obtain ⟨qa, hqa1, hqa2⟩ := usl_from (some ⟨b, off, none⟩) zs.length c 10 10 rfl hs10 hc hcm
      have HQa := Lib.hid (fun (X : World) (hf : Frm [] W X) => hqa2 X zs rfl (HR0.out.frm hf (by simp)))
      clear hqa2
      go_upto_region 16 with fail
      clear hqa1
      obtain ⟨M, hM⟩ : ∃ M, M = lvF zs F 2 10 [] := ⟨_, rfl⟩
      have hlev : urdX zs = mkU (fun Ls => ⟨P0, y1, y4, y5, y6, y7, y8, y9, B, F, Ls⟩) M := by
        have e0 : uat zs 0 = y0 := A0.out
        have eB : bigN (cut zs 2 2) = B := HBB.out.symm
        have eF : lgB zs = F := by unfold lgB; rw [e0]; exact HF.out.symm
        rw [urd_mk (by rw [e0]; have := HOd.out; omega) (by omega), eF, ← hM]
        congr 1
        funext Ls
        simp only [uhdX, e0, A1.out, A4.out, A5.out, A6.out, A7.out, A8.out, A9.out, eB, eF, HP0.out]
      have HLev := Lib.hid hlev
      have HM := Lib.hid hM
      obtain ⟨S, hS⟩ : ∃ S, S = siz F := ⟨_, rfl⟩
      have HSi := Lib.hid hS
      obtain ⟨m0, hm0⟩ : ∃ m, m = zs.length - 10 := ⟨_, rfl⟩
      obtain ⟨d0, hd0⟩ : ∃ d, d = c - 10 := ⟨_, rfl⟩
      rw [← hm0, ← hd0]
      have HMD := Lib.hid (show m0 + 10 = zs.length ∧ d0 + 10 = c from ⟨by omega, by omega⟩)
      clear hlev hM hS hm0 hd0 hs10 A0 HBB HF HOd HP0 A1 A4 A5 A6 A7 A8 A9 G0 G1 G4 G5 G6 G7 G8 G9 HC0 HS10
      have k9 := (HT.out.blk 0 rfl).cell 9 rfl
      go_upto_if 64 with fail
      clear k9
      go_cut [6] (fun v wx => v = .int .i64 (S : Int) ∧ wx = wr)
      case first =>
        cases F with
        | false =>
          go_wp2_with fail
          go_meet
          exact ⟨by rw [HSi.out]; rfl, rfl⟩
        | true =>
          go_wp2_with fail
          go_meet
          exact ⟨by rw [HSi.out]; rfl, rfl⟩
      obtain ⟨rfl, hwc⟩ := hcut
      rw [hwc]
      clear hwc
      have HT2 := Lib.hid (HT.out.enone.nil 74 3)
      have hS26 : 2 ≤ S ∧ S ≤ 6 := by rw [HSi.out]; cases F <;> decide
      clear HT
      go_wp2_with fail
      go_loopw [0] (fun u wr => ∃ (P k m d f : Nat) (q : Option Addr) (qs : List LvV) (ad : Option Addr) (cd : Nat), u = .slice q m d ∧ m + P = zs.length ∧ d + P = c ∧ k + f = 2 ∧ qs.length = k ∧ (∀ X, Frm [] W X → RdI .u8 X q (zs.drop P)) ∧ lvF zs F f P (qs.map LvV.lv) = M ∧ (∀ q ∈ qs, q.h < 18446744073709551616 ∧ q.l = 0) ∧ Sep [] W wr [lvsR 74 (.slice ad k cd) qs, bodR qs, blkR g2 35 #[.int .u8 P0, .int .u8 y1, .int .u8 y4, .int .u8 y5, .int .u8 y6, .int .u8 y7, .int .u8 y8, .int .u8 y9, .int .u16 B, .bool F, .slice ad k cd], blkR o 35 #[.int .u8 0, .int .u8 0, .int .u8 0, .int .u8 0, .int .u8 0, .int .u8 0, .int .u8 0, .int .u8 0, .int .u16 0, .bool false, .slice none 0 0]]) (fun u _ => uSl u)
      case atStart => exact ⟨10, 0, m0, d0, 2, qa, [], none, 0, rfl, HMD.out.1, HMD.out.2, rfl, rfl, HQa.out, HM.out.symm, by simp, HT2.out⟩
      case round =>
        obtain ⟨P, k, m, d, f, q, qs, ad, cd, rfl, hmP, hdP, hkf, hqk, hrd, hlv, hlt, hS⟩ := hrel
        have HT := Lib.hid hS
        have HRq := Lib.hid hrd
        have HLv := Lib.hid hlv
        have HLt := Lib.hid hlt
        have HQk := Lib.hid hqk
        clear hS hrd hlv hlt hqk HT2 HM HQa HMD
        have k10 := (HT.out.blk 2 rfl).cell 10 rfl
        obtain ⟨G, hG⟩ : ∃ G, G = decide (k = 0 ∨ 0 < m) := ⟨_, rfl⟩
        go_upto_region 18 with fail
        go_cut [73] (fun v wx => v = .bool G ∧ wx = wr)
        case first =>
          by_cases c0 : k = 0
          · obtain rfl : G = true := hG.trans (decide_eq_true (.inl c0))
            subst c0
            clear hG
            go_wp2_with fail
            go_meet
            exact ⟨rfl, rfl⟩
          · have t0 : ((k : Int) == 0) = false := by simp [c0]
            have t1 : decide ((k : Int) = 0) = false := by simp [c0]
            by_cases c1 : 0 < m
            · have t2 : decide (0 < (m : Int)) = true := decide_eq_true (by omega)
              have t3 : decide (0 < m) = true := decide_eq_true c1
              obtain rfl : G = true := hG.trans (decide_eq_true (.inr c1))
              clear hG c0 c1
              go_wp2_with fail
              go_meet
              exact ⟨rfl, rfl⟩
            · have t2 : decide (0 < (m : Int)) = false := decide_eq_false (by omega)
              have t3 : decide (0 < m) = false := decide_eq_false c1
              obtain rfl : G = false := hG.trans (decide_eq_false (by omega))
              clear hG c0 c1
              go_wp2_with fail
              go_meet
              exact ⟨rfl, rfl⟩
        obtain ⟨rfl, hwc⟩ := hcut
        rw [hwc]
        clear hwc k10
        have HG := Lib.hid hG
        clear hG
        cases G with
      | true =>
        have hcond : k = 0 ∨ 0 < m := of_decide_eq_true HG.out.symm
        have hnd : ¬ (qs.map LvV.lv ≠ [] ∧ zs.length ≤ P) := by
          rintro ⟨h1, h2⟩
          rcases hcond with h | h
          · have := HQk.out
            rw [h] at this
            exact h1 (by rw [List.eq_nil_of_length_eq_zero this]; rfl)
          · omega
        have HNd := Lib.hid hnd
        obtain ⟨s1, hs1⟩ : ∃ s1, s1 = 2 + S := ⟨_, rfl⟩
        have p0 : 2 + (S : Int) = (s1 : Int) := by omega
        have HS1 := Lib.hid hs1
        clear hnd hcond HG hs1
        go_upto_region 19 with fail
        by_cases hsh : m < s1
        · have t1 : decide ((m : Int) < (s1 : Int)) = true := decide_eq_true (by omega)
          have t2 : decide (m < s1) = true := decide_eq_true hsh
          have HP := Lib.hid (show M = .error 20 from HLv.out.symm.trans (lvF_short HNd.out (.inl (by have := HSi.out; have := HS1.out; omega))))
          clear hsh
          have hXe : upaX zs = Ul.none ∧ upaE zs = 20 := by rw [HIn.out.1, HIn.out.2, HLev.out, HP.out]; exact ⟨rfl, rfl⟩
          have hX : X0 = Ul.none := HXE.out.1.trans hXe.1
          have hE : e = 20 := HXE.out.2.trans hXe.2
          clear hXe
          subst hX hE
          have hz := HT.out.blk 3 rfl
          have z0 := hz.cell 0 rfl
          have z1 := hz.cell 1 rfl
          have z2 := hz.cell 2 rfl
          have z3 := hz.cell 3 rfl
          have z4 := hz.cell 4 rfl
          have z5 := hz.cell 5 rfl
          have z6 := hz.cell 6 rfl
          have z7 := hz.cell 7 rfl
          have z8 := hz.cell 8 rfl
          have z9 := hz.cell 9 rfl
          have z10 := hz.cell 10 rfl
          have f0 := hz.free 0
          have f1 := hz.free 1
          have f2 := hz.free 2
          have f3 := hz.free 3
          have f4 := hz.free 4
          have f5 := hz.free 5
          have f6 := hz.free 6
          have f7 := hz.free 7
          have f8 := hz.free 8
          have f9 := hz.free 9
          have f10 := hz.free 10
          go_wp2_with fail
          obtain ⟨we, hwe⟩ : ∃ x, x = (((((((((((wr.setCell ⟨o, 0, none⟩ (.int .u8 0)).setCell ⟨o, 1, none⟩ (.int .u8 0)).setCell ⟨o, 2, none⟩ (.int .u8 0)).setCell ⟨o, 3, none⟩ (.int .u8 0)).setCell ⟨o, 4, none⟩ (.int .u8 0)).setCell ⟨o, 5, none⟩ (.int .u8 0)).setCell ⟨o, 6, none⟩ (.int .u8 0)).setCell ⟨o, 7, none⟩ (.int .u8 0)).setCell ⟨o, 8, none⟩ (.int .u16 0)).setCell ⟨o, 9, none⟩ (.bool false)).setCell ⟨o, 10, none⟩ (.slice none 0 0)) := ⟨_, rfl⟩
          have HSe := Lib.hid (show Sep [] W we [lvsR 74 (.slice ad k cd) qs, bodR qs, blkR g2 35 #[.int .u8 P0, .int .u8 y1, .int .u8 y4, .int .u8 y5, .int .u8 y6, .int .u8 y7, .int .u8 y8, .int .u8 y9, .int .u16 B, .bool F, .slice ad k cd], blkR o 35 #[.int .u8 0, .int .u8 0, .int .u8 0, .int .u8 0, .int .u8 0, .int .u8 0, .int .u8 0, .int .u8 0, .int .u16 0, .bool false, .slice none 0 0]] from hwe ▸ HT.out.puts 3 rfl [.int .u8 0, .int .u8 0, .int .u8 0, .int .u8 0, .int .u8 0, .int .u8 0, .int .u8 0, .int .u8 0, .int .u16 0, .bool false, .slice none 0 0] rfl)
          rw [← hwe]
          clear hwe HT hz z0 z1 z2 z3 z4 z5 z6 z7 z8 z9 z10 f0 f1 f2 f3 f4 f5 f6 f7 f8 f9 f10
          have hz := HSe.out.blk 3 rfl
          have z0 := hz.cell 0 rfl
          have z1 := hz.cell 1 rfl
          have z2 := hz.cell 2 rfl
          have z3 := hz.cell 3 rfl
          have z4 := hz.cell 4 rfl
          have z5 := hz.cell 5 rfl
          have z6 := hz.cell 6 rfl
          have z7 := hz.cell 7 rfl
          have z8 := hz.cell 8 rfl
          have z9 := hz.cell 9 rfl
          have z10 := hz.cell 10 rfl
          refine bodyPost_ret (v := .tuple #[.agg #[.int .u8 0, .int .u8 0, .int .u8 0, .int .u8 0, .int .u8 0, .int .u8 0, .int .u8 0, .int .u8 0, .int .u16 0, .bool false, .slice none 0 0], .int .i64 20]) ?_ rfl ⟨none, 0, [], rfl, rfl, RdLs.nil _ _, HSe.out.frm⟩
          simp [results, Tryd.results11, go_sem, z0, z1, z2, z3, z4, z5, z6, z7, z8, z9, z10]
        have t1 : decide ((m : Int) < (s1 : Int)) = false := decide_eq_false (by omega)
        have t2 : decide (m < s1) = false := decide_eq_false hsh
        have p3 : s1 ≤ m := by omega
        have p2 : 2 ≤ s1 := by have := HS1.out; omega
        have HZ := Lib.hid (And.intro hmP hdP)
        have hPn : P + 2 ≤ zs.length := by omega
        obtain ⟨b', off', hq, -⟩ := HRq.out wr HT.out.frm 0 _ (List.getElem?_eq_getElem (by rw [List.length_drop]; omega))
        subst hq
        have hVn := ubig_cut2 HBt.out P hPn
        obtain ⟨N, hN⟩ : ∃ N : Nat, N = lvN zs P := ⟨_, rfl⟩
        have hN2 : bigN (cut zs P 2) = (N : Int) := by rw [hN]; unfold lvN; omega
        have hN3 : N ≤ 65535 := by omega
        have HNn := Lib.hid hN
        have HN3 := Lib.hid hN3
        have HCn := Lib.hid (fun (Y : World) (hf : Frm [] W Y) => (by
          have h := urnumber_c (some ⟨b', off', none⟩) d 2 (cut zs P 2) (cut_len hPn) Y ((HRq.out Y hf).firsts 2) (HBt.out.cut _ _) (by omega)
          rw [hN2] at h
          exact h : Calls Tryd.prog 27 #[.slice (some ⟨b', off', none⟩) 2 d] Y fun e w' => e = .returned (.int .u64 (N : Int)) ∧ Y = w'))
        have p6 : (2 : Int) ≤ (d : Int) := by omega
        obtain ⟨s2, hs2⟩ : ∃ s2, s2 = s1 + N := ⟨_, rfl⟩
        have p1 : (s1 : Int) + (N : Int) = (s2 : Int) := by omega
        have HS2 := Lib.hid hs2
        have He3 := Lib.hid (IntWalk.wrap64_in (N : Int) (by omega))
        clear hVn hN hN2 hsh hs2 hPn hN3
        go_wp2_with fail
        refine (HCn.out wr HT.out.frm).mono ?_
        rintro ex w5 ⟨rfl, rfl⟩
        clear HCn
        go_upto_region 22 with fail
        rw [He3.out]
        clear He3
        by_cases hsh : m < s2
        · have t3 : decide ((m : Int) < (s2 : Int)) = true := decide_eq_true (by omega)
          have t4 : decide (m < s2) = true := decide_eq_true hsh
          have p14 : (s2 : Int) ≤ 70000 := by have := HN3.out; omega
          have HP := Lib.hid (show M = .error 20 from HLv.out.symm.trans (lvF_short HNd.out (.inr (by unfold lvE; have := HSi.out; have := HS1.out; have := HS2.out; have := HNn.out; omega))))
          clear hsh
          have hXe : upaX zs = Ul.none ∧ upaE zs = 20 := by rw [HIn.out.1, HIn.out.2, HLev.out, HP.out]; exact ⟨rfl, rfl⟩
          have hX : X0 = Ul.none := HXE.out.1.trans hXe.1
          have hE : e = 20 := HXE.out.2.trans hXe.2
          clear hXe
          subst hX hE
          have hz := HT.out.blk 3 rfl
          have z0 := hz.cell 0 rfl
          have z1 := hz.cell 1 rfl
          have z2 := hz.cell 2 rfl
          have z3 := hz.cell 3 rfl
          have z4 := hz.cell 4 rfl
          have z5 := hz.cell 5 rfl
          have z6 := hz.cell 6 rfl
          have z7 := hz.cell 7 rfl
          have z8 := hz.cell 8 rfl
          have z9 := hz.cell 9 rfl
          have z10 := hz.cell 10 rfl
          have f0 := hz.free 0
          have f1 := hz.free 1
          have f2 := hz.free 2
          have f3 := hz.free 3
          have f4 := hz.free 4
          have f5 := hz.free 5
          have f6 := hz.free 6
          have f7 := hz.free 7
          have f8 := hz.free 8
          have f9 := hz.free 9
          have f10 := hz.free 10
          go_wp2_with fail
          obtain ⟨we, hwe⟩ : ∃ x, x = (((((((((((wr.setCell ⟨o, 0, none⟩ (.int .u8 0)).setCell ⟨o, 1, none⟩ (.int .u8 0)).setCell ⟨o, 2, none⟩ (.int .u8 0)).setCell ⟨o, 3, none⟩ (.int .u8 0)).setCell ⟨o, 4, none⟩ (.int .u8 0)).setCell ⟨o, 5, none⟩ (.int .u8 0)).setCell ⟨o, 6, none⟩ (.int .u8 0)).setCell ⟨o, 7, none⟩ (.int .u8 0)).setCell ⟨o, 8, none⟩ (.int .u16 0)).setCell ⟨o, 9, none⟩ (.bool false)).setCell ⟨o, 10, none⟩ (.slice none 0 0)) := ⟨_, rfl⟩
          have HSe := Lib.hid (show Sep [] W we [lvsR 74 (.slice ad k cd) qs, bodR qs, blkR g2 35 #[.int .u8 P0, .int .u8 y1, .int .u8 y4, .int .u8 y5, .int .u8 y6, .int .u8 y7, .int .u8 y8, .int .u8 y9, .int .u16 B, .bool F, .slice ad k cd], blkR o 35 #[.int .u8 0, .int .u8 0, .int .u8 0, .int .u8 0, .int .u8 0, .int .u8 0, .int .u8 0, .int .u8 0, .int .u16 0, .bool false, .slice none 0 0]] from hwe ▸ HT.out.puts 3 rfl [.int .u8 0, .int .u8 0, .int .u8 0, .int .u8 0, .int .u8 0, .int .u8 0, .int .u8 0, .int .u8 0, .int .u16 0, .bool false, .slice none 0 0] rfl)
          rw [← hwe]
          clear hwe HT hz z0 z1 z2 z3 z4 z5 z6 z7 z8 z9 z10 f0 f1 f2 f3 f4 f5 f6 f7 f8 f9 f10
          have hz := HSe.out.blk 3 rfl
          have z0 := hz.cell 0 rfl
          have z1 := hz.cell 1 rfl
          have z2 := hz.cell 2 rfl
          have z3 := hz.cell 3 rfl
          have z4 := hz.cell 4 rfl
          have z5 := hz.cell 5 rfl
          have z6 := hz.cell 6 rfl
          have z7 := hz.cell 7 rfl
          have z8 := hz.cell 8 rfl
          have z9 := hz.cell 9 rfl
          have z10 := hz.cell 10 rfl
          refine bodyPost_ret (v := .tuple #[.agg #[.int .u8 0, .int .u8 0, .int .u8 0, .int .u8 0, .int .u8 0, .int .u8 0, .int .u8 0, .int .u8 0, .int .u16 0, .bool false, .slice none 0 0], .int .i64 20]) ?_ rfl ⟨none, 0, [], rfl, rfl, RdLs.nil _ _, HSe.out.frm⟩
          simp [results, Tryd.results11, go_sem, z0, z1, z2, z3, z4, z5, z6, z7, z8, z9, z10]
        have t3 : decide ((m : Int) < (s2 : Int)) = false := decide_eq_false (by omega)
        have t4 : decide (m < s2) = false := decide_eq_false hsh
        have p7 : s2 ≤ m := by omega
        clear hsh
        have k10 := (HT.out.blk 2 rfl).cell 10 rfl
        go_upto_region 24 with fail
        by_cases hk2 : k = 2
        · subst hk2
          obtain rfl : f = 0 := by omega
          have HP := Lib.hid (show M = .error 3 from HLv.out.symm.trans (lvF_many HNd.out (by unfold lvE; have := HSi.out; have := HS1.out; have := HS2.out; have := HNn.out; omega)))
          have hXe : upaX zs = Ul.none ∧ upaE zs = 3 := by rw [HIn.out.1, HIn.out.2, HLev.out, HP.out]; exact ⟨rfl, rfl⟩
          have hX : X0 = Ul.none := HXE.out.1.trans hXe.1
          have hE : e = 3 := HXE.out.2.trans hXe.2
          clear hXe
          subst hX hE
          have hz := HT.out.blk 3 rfl
          have z0 := hz.cell 0 rfl
          have z1 := hz.cell 1 rfl
          have z2 := hz.cell 2 rfl
          have z3 := hz.cell 3 rfl
          have z4 := hz.cell 4 rfl
          have z5 := hz.cell 5 rfl
          have z6 := hz.cell 6 rfl
          have z7 := hz.cell 7 rfl
          have z8 := hz.cell 8 rfl
          have z9 := hz.cell 9 rfl
          have z10 := hz.cell 10 rfl
          have f0 := hz.free 0
          have f1 := hz.free 1
          have f2 := hz.free 2
          have f3 := hz.free 3
          have f4 := hz.free 4
          have f5 := hz.free 5
          have f6 := hz.free 6
          have f7 := hz.free 7
          have f8 := hz.free 8
          have f9 := hz.free 9
          have f10 := hz.free 10
          go_wp2_with fail
          obtain ⟨we, hwe⟩ : ∃ x, x = (((((((((((wr.setCell ⟨o, 0, none⟩ (.int .u8 0)).setCell ⟨o, 1, none⟩ (.int .u8 0)).setCell ⟨o, 2, none⟩ (.int .u8 0)).setCell ⟨o, 3, none⟩ (.int .u8 0)).setCell ⟨o, 4, none⟩ (.int .u8 0)).setCell ⟨o, 5, none⟩ (.int .u8 0)).setCell ⟨o, 6, none⟩ (.int .u8 0)).setCell ⟨o, 7, none⟩ (.int .u8 0)).setCell ⟨o, 8, none⟩ (.int .u16 0)).setCell ⟨o, 9, none⟩ (.bool false)).setCell ⟨o, 10, none⟩ (.slice none 0 0)) := ⟨_, rfl⟩
          have HSe := Lib.hid (show Sep [] W we [lvsR 74 (.slice ad 2 cd) qs, bodR qs, blkR g2 35 #[.int .u8 P0, .int .u8 y1, .int .u8 y4, .int .u8 y5, .int .u8 y6, .int .u8 y7, .int .u8 y8, .int .u8 y9, .int .u16 B, .bool F, .slice ad 2 cd], blkR o 35 #[.int .u8 0, .int .u8 0, .int .u8 0, .int .u8 0, .int .u8 0, .int .u8 0, .int .u8 0, .int .u8 0, .int .u16 0, .bool false, .slice none 0 0]] from hwe ▸ HT.out.puts 3 rfl [.int .u8 0, .int .u8 0, .int .u8 0, .int .u8 0, .int .u8 0, .int .u8 0, .int .u8 0, .int .u8 0, .int .u16 0, .bool false, .slice none 0 0] rfl)
          rw [← hwe]
          clear hwe HT hz z0 z1 z2 z3 z4 z5 z6 z7 z8 z9 z10 f0 f1 f2 f3 f4 f5 f6 f7 f8 f9 f10
          have hz := HSe.out.blk 3 rfl
          have z0 := hz.cell 0 rfl
          have z1 := hz.cell 1 rfl
          have z2 := hz.cell 2 rfl
          have z3 := hz.cell 3 rfl
          have z4 := hz.cell 4 rfl
          have z5 := hz.cell 5 rfl
          have z6 := hz.cell 6 rfl
          have z7 := hz.cell 7 rfl
          have z8 := hz.cell 8 rfl
          have z9 := hz.cell 9 rfl
          have z10 := hz.cell 10 rfl
          refine bodyPost_ret (v := .tuple #[.agg #[.int .u8 0, .int .u8 0, .int .u8 0, .int .u8 0, .int .u8 0, .int .u8 0, .int .u8 0, .int .u8 0, .int .u16 0, .bool false, .slice none 0 0], .int .i64 3]) ?_ rfl ⟨none, 0, [], rfl, rfl, RdLs.nil _ _, HSe.out.frm⟩
          simp [results, Tryd.results11, go_sem, z0, z1, z2, z3, z4, z5, z6, z7, z8, z9, z10]
        have t5 : ((k : Int) == 2) = false := by simp; omega
        have t6 : decide ((k : Int) = 2) = false := by simp; omega
        obtain ⟨f', rfl⟩ : ∃ f', f = f' + 1 := ⟨f - 1, by omega⟩
        clear hk2
        have HLm := Lib.hid (show lvF zs F f' (P + s2) (qs.map LvV.lv ++ [lvAt zs F P]) = M from by
          have h := lvF_more HNd.out (f := f') (lg := F) (by unfold lvE; have := HSi.out; have := HS1.out; have := HS2.out; have := HNn.out; omega)
          rw [HLv.out] at h
          rw [h]
          congr 1
          unfold lvE
          have := HSi.out; have := HS1.out; have := HS2.out; have := HNn.out
          omega)
        clear HLv HNd
        go_upto_region 26 with fail
        clear k10 t1 t2 t3 t4 t5 t6
        have hPs : P + 2 + S ≤ zs.length := by omega
        obtain ⟨T, hT⟩ : ∃ T, T = 8 * S := ⟨_, rfl⟩
        have p8 : 8 * (S : Int) = (T : Int) := by omega
        have p9 : T ≤ 64 := by omega
        have hTw : T = wid F := by rw [hT, HSi.out]; cases F <;> rfl
        have hcl : (cut zs (P + 2) S).length = S := cut_len hPs
        have hV := bigN_lt (HBt.out.cut (P + 2) S)
        rw [hcl] at hV
        obtain ⟨X, hX⟩ : ∃ X : Nat, X = lvX zs F P := ⟨_, rfl⟩
        have hVX : bigN (cut zs (P + 2) S) = (X : Int) := by rw [hX]; unfold lvX; rw [← HSi.out]; omega
        have hXl : X < 18446744073709551616 := by
          rw [hVX] at hV
          have h256 : (256 : Int) ^ S ≤ 256 ^ 6 := by
            have h : S = 2 ∨ S = 6 := by rw [HSi.out]; cases F <;> decide
            rcases h with h | h <;> rw [h] <;> decide
          have h2 : (256 : Int) ^ 6 = 281474976710656 := by decide
          omega
        have hdd : (zs.drop P).drop 2 = zs.drop (P + 2) := by rw [List.drop_drop]
        have HCn := Lib.hid (fun (Y : World) (hf : Frm [] W Y) => (by
          have h := urnumber_c (some ⟨b', off' + 2, none⟩) (d - 2) S (cut zs (P + 2) S) hcl Y (by unfold cut; rw [← hdd]; exact ((HRq.out Y hf).offs 2).firsts S) (HBt.out.cut _ _) (by omega)
          rw [hVX] at h
          exact h : Calls Tryd.prog 27 #[.slice (some ⟨b', off' + 2, none⟩) S (d - 2)] Y fun e w' => e = .returned (.int .u64 (X : Int)) ∧ Y = w'))
        have HCl := Lib.hid (fun (Y : World) => rlay_c 0 T X Y (by decide) p9 hXl)
        have HLx := Lib.hid (show lyK 0 (T : Int) X T = bools (lyH 0 (T : Int) X) (lyL 0 (T : Int) X) from ulay_mid 0 T X (by decide) p9)
        obtain ⟨mh, hmh⟩ : ∃ q, q = lyH 0 (T : Int) X := ⟨_, rfl⟩
        obtain ⟨ml, hml⟩ : ∃ q, q = lyL 0 (T : Int) X := ⟨_, rfl⟩
        have hq64 : mh < 18446744073709551616 ∧ ml < 18446744073709551616 := by rw [hmh, hml]; exact ⟨lyH_lt _ _ _, lyL_lt _ _ _⟩
        have HQ64 := Lib.hid hq64
        have HMl := Lib.hid (show ml = 0 from hml.trans (lyL_low T X p9))
        rw [← hmh, ← hml] at HLx
        obtain ⟨xB, hxB⟩ : ∃ xB, xB = cut zs (P + s1) N := ⟨_, rfl⟩
        have HAt := Lib.hid (show lvAt zs F P = ⟨mh, ml, xB⟩ from by
          unfold lvAt
          rw [← hTw, ← hX, ← hmh, ← hml, hxB, ← HSi.out, ← HNn.out, show P + 2 + S = P + s1 by have := HS1.out; omega])
        obtain ⟨qm, hm1, hm2⟩ := usl_mid (some ⟨b', off', none⟩) m d s1 s2 (s1 : Int) (s2 : Int) rfl rfl (by omega) p7 (by omega) (by omega)
        have hN4 : s2 - s1 = N := by omega
        rw [hN4] at hm1 hm2
        have hxl : xB.length = N := by rw [hxB]; exact cut_len (by omega)
        have HCp := Lib.hid (fun (Y : World) (hf : Frm [] W Y) => (by
          have h := bcopy_c qm (d - s1) xB Y (by
            have h2 := hm2 Y (zs.drop P) (by rw [List.length_drop]; omega) (HRq.out Y hf)
            rw [List.drop_drop] at h2
            rw [hxB]
            exact h2) (by rw [hxl]; have := HN3.out; omega)
          rw [hxl] at h
          exact h : Calls Tryd.prog 9 #[.slice qm N (d - s1)] Y fun e w' => ∃ g c, e = .returned (.slice (some ⟨g, 0, none⟩) N c) ∧ Sep [] Y w' [sumR (.slice (some ⟨g, 0, none⟩) N c) xB]))
        obtain ⟨qn, hn1, hn2⟩ := usl_from (some ⟨b', off', none⟩) m d s2 (s2 : Int) rfl p7 (by omega) (by omega)
        have HRn := Lib.hid (fun (Y : World) (hf : Frm [] W Y) => (by
          have h := hn2 Y (zs.drop P) (by rw [List.length_drop]; omega) (HRq.out Y hf)
          rwa [List.drop_drop] at h : RdI .u8 Y qn (zs.drop (P + s2))))
        have HN1 := Lib.hid hn1
        have HM1 := Lib.hid hm1
        have HXl := Lib.hid hxl
        have p10 : s1 - 2 = S := by have := HS1.out; omega
        have p11 : (s1 : Int) ≤ (d : Int) := by omega
        have p12 : (2 : Int) ≤ (s1 : Int) := by omega
        have p13 : ¬ d = 2 := by omega
        clear hn1 hn2 hm1 hm2 hN4 hxl hxB hml hmh hq64 hX hVX hXl hV hcl hdd hTw hT hPs
        go_wp2_with fail
        refine (HCn.out wr HT.out.frm).mono ?_
        rintro ex w5 ⟨rfl, rfl⟩
        clear HCn
        go_wp2_with fail
        refine (HCl.out _).mono ?_
        rintro ex w6 ⟨a11, c11, rfl, hS⟩
        rw [HLx.out] at hS
        have HS5 := Lib.hid (HT.out.more hS)
        obtain ⟨g11, hg11⟩ := own_addr2 (HS5.out.own 0 rfl) (by decide)
        subst hg11
        have hnb := rnums_c (some ⟨g11, 0, none⟩) c11 (bools mh ml) w6 (by
          obtain ⟨_, _, hv, _, _, rd⟩ := rdB_own (HS5.out.own 0 rfl)
          injection hv with h1 _ _
          rw [h1]; exact rd) (bools_len128 _ _)
        rw [nb_hi HQ64.out.1, nb_lo HQ64.out.2] at hnb
        have HNb := Lib.hid hnb
        clear hS HCl HLx hnb HT
        go_wp2_with fail
        refine HNb.out.mono ?_
        rintro ex w7 ⟨rfl, rfl⟩
        have HT := Lib.hid (show Sep [] W w6 [lvsR 74 (.slice ad k cd) qs, bodR qs, blkR g2 35 #[.int .u8 P0, .int .u8 y1, .int .u8 y4, .int .u8 y5, .int .u8 y6, .int .u8 y7, .int .u8 y8, .int .u8 y9, .int .u16 B, .bool F, .slice ad k cd], blkR o 35 #[.int .u8 0, .int .u8 0, .int .u8 0, .int .u8 0, .int .u8 0, .int .u8 0, .int .u8 0, .int .u8 0, .int .u16 0, .bool false, .slice none 0 0]] from HS5.out.at_ [1, 2, 3, 4] (by decide) rfl)
        clear HNb HS5 p8 p9 p10 p12 p13 p6
        have p10 : (s1 : Int) ≤ (s2 : Int) := by omega
        have p12 : (s2 : Int) ≤ (d : Int) := by omega
        go_upto_region 27 with fail
        have hm1 := HM1.out
        refine region_pm ([g2] ++ (Value.slice ad k cd).ownBlock.toList) [0, 2, 3, 4, 5, 6, 7, 8, 9, 10, 11] [1, 12, 13, 14] [Pr.is (.slice ad k cd), Pr.sep w6.drew (fun v => [sumR v xB]), Pr.lv w6.drew mh ml xB, Pr.lvS w6.drew 74 mh ml xB] [0, 1] [15, 16, 17] (by kernel_rfl) (by kernel_rfl) (by kernel_rfl) rfl ?_
        simp only [remOf, mvs, List.zip_cons_cons, List.zip_nil_right, List.filterMap_cons, List.filterMap_nil, List.getElem?_cons_zero, List.getElem?_cons_succ, Option.map_some]
        have HTd := Lib.hid HT.out.drew
        obtain ⟨x3, hx3⟩ : ∃ x, x = w6.drew := ⟨_, rfl⟩
        rw [← hx3] at HTd
        rw [← hx3]
        clear hx3 HT
        obtain ⟨GG, hGG⟩ : ∃ GG, GG = [g2] ++ (Value.slice ad k cd).ownBlock.toList := ⟨_, rfl⟩
        rw [← hGG]
        have HGG := Lib.hid hGG
        clear hGG
        have n1 : Nonempty (Cls (fun v => Frm GG x3 v)) := ⟨⟨_, Frm.refl _ _⟩⟩
        show wpQuiet _ _ _ _ [_, _, _, _, _, _, _, _, _, _, _] _
        repeat (go_big_quiet_step (rfl))
        refine wpQuiet_nil ?_
        refine And.intro ?_ ?_
        · show slotsB _ _ = true
          kernel_rfl
        clear n1 hm1
        unfold wpMk
        refine ⟨fun X hX hk => ?_, fun v60 => ?_⟩
        · clear hk
          have k10 := ((HTd.out.keep hX).blk 2 rfl).cell 10 rfl
          refine only_step (fun K' hK => ?_)
          go_wp2_with fail
          exact hK.out _ _ ⟨Frm.refl _ _, rfl, rfl⟩
        unfold wpMk
        refine ⟨fun X hX hk => ?_, fun v63 => ?_⟩
        · clear hk
          have HC2 := Lib.hid (HCp.out X (HTd.out.frm.trans hX))
          refine only_step (fun K' hK => ?_)
          go_wp2_with fail
          refine HC2.out.mono ?_
          rintro e5 w5 ⟨gb5, cb5, rfl, hSb⟩
          go_wp2_with fail
          exact hK.out _ _ ⟨hSb.frm, rfl, ((Sep.init x3).keep hX).more hSb⟩
        unfold wpMk
        refine ⟨fun X hX hk => ?_, fun v64 => ?_⟩
        · have h63 := hk 0 _ _ rfl (by kernel_rfl)
          have H63 := Lib.hid (show Sep [] x3 X [sumR v63 xB] from h63)
          obtain ⟨a3, c3, rfl, -⟩ := own_shape (H63.out.own 0 rfl)
          clear hk h63
          refine only_step (fun K' hK => ?_)
          go_wp2_with fail
          exact hK.out _ _ ⟨Frm.refl _ _, rfl, _, rfl, H63.out⟩
        unfold wpMk
        refine ⟨fun X hX hk => ?_, fun v65 => ?_⟩
        · obtain ⟨u, rfl, h64⟩ := (show AtLv x3 mh ml xB v64 X from hk 0 _ _ rfl (by kernel_rfl))
          have H64 := Lib.hid h64
          obtain ⟨a3, c3, rfl, -⟩ := own_shape (H64.out.own 0 rfl)
          clear hk h64
          refine only_step (fun K' hK => ?_)
          go_wp2_with fail
          exact hK.out _ _ ⟨(Frm.refl _ _).alloc _, rfl, _, X.heap.size, rfl, H64.out.alloc _ _⟩
        unfold wpMk
        simp only [Act.put, List.setIfInBounds_toArray, List.set_cons_succ, List.set_cons_zero]
        intro X hX hk
        obtain ⟨u, g5, rfl, h65⟩ := (show AtLvS x3 74 mh ml xB v65 X from hk 0 _ _ rfl)
        obtain rfl := (show v60 = .slice ad k cd from hk 3 _ _ rfl)
        have HT5 := Lib.hid (show Sep [] W X [blkR g5 74 #[.int .u64 (mh : Int), .int .u64 (ml : Int), u], sumR u xB, lvsR 74 (.slice ad k cd) qs, bodR qs, blkR g2 35 #[.int .u8 P0, .int .u8 y1, .int .u8 y4, .int .u8 y5, .int .u8 y6, .int .u8 y7, .int .u8 y8, .int .u8 y9, .int .u16 B, .bool F, .slice ad k cd], blkR o 35 #[.int .u8 0, .int .u8 0, .int .u8 0, .int .u8 0, .int .u8 0, .int .u8 0, .int .u8 0, .int .u8 0, .int .u16 0, .bool false, .slice none 0 0]] from HTd.out.more h65)
        obtain ⟨a3, c3, rfl, -⟩ := own_shape (HT5.out.own 1 rfl)
        clear hk h65 HTd hX
        unfold wpSegs
        simp only [List.take_succ_cons, List.take_zero, List.drop_succ_cons, List.drop_zero]
        refine wpQuiet_nil ?_
        refine only_step (fun K' hK => ?_)
        refine wpList_plain rfl fun K2 hK2 => ?_
        have hblk := HT5.out.blk 0 rfl
        refine wp_append_rows (P := Tryd.prog) (.tmp 110) (.tmp 123) 33 rfl 74 iL (.agg #[.int .u64 0, .int .u64 0, .slice none 0 0]) 3 40 Tryd.underlying33 hLi hLz0 hLz1 hLz2 rfl (by decide) (.slice ad k cd) qs.length _ rfl (HT5.out.own 2 rfl) (some ⟨g5, 0, none⟩) 1 [[.int .u64 (mh : Int), .int .u64 (ml : Int), .slice a3 xB.length c3]] rfl (fun h => by cases h) (fun r hr => by simp at hr; subst hr; rfl) (urdS_lit hblk) (fun r hr u hu => by simp at hr; subst hr; simp at hu; rcases hu with rfl | rfl | rfl <;> rfl) (by unfold maxLen; have := HQk.out; simp; omega) (by have := HQk.out; simp; omega) ?_
        intro v9 w9 h2 h3 h4
        simp only [List.length_cons, List.length_nil, Nat.zero_add] at h2
        rw [HQk.out] at h2
        obtain ⟨a9, c9, rfl, _, _⟩ := own_shape h2
        have HT6 := Lib.hid (HT5.out.grow 2 rfl h3 h2 h4)
        have hF9 := Lib.hid (show Frm GG X w9 from (Frm.of_grown_opt h3).mono (by rw [HGG.out]; intro k hk; exact List.mem_append_right _ hk))
        clear h2 h3 h4 hblk
        refine hK2 _ _ ?_
        clear hK2
        refine hK.out _ _ ⟨hF9.out, ?_⟩
        clear hK hF9
        unfold wpSegs
        simp only [List.take_succ_cons, List.take_zero, List.drop_succ_cons, List.drop_zero, Act.put, List.setIfInBounds_toArray, List.set_cons_succ, List.set_cons_zero]
        have n1 : Nonempty (Cls (fun v => Frm GG w9 v)) := ⟨⟨_, Frm.refl _ _⟩⟩
        show wpQuiet _ _ _ _ [_] _
        repeat (go_big_quiet_step (rfl))
        refine wpQuiet_nil ?_
        refine only_step (fun K' hK => ?_)
        clear n1
        have k10 := (HT6.out.blk 4 rfl).cell 10 rfl
        have f10 := (HT6.out.blk 4 rfl).free 10
        go_wp2_with fail
        obtain ⟨w10, hw10⟩ : ∃ x, x = w9.setCell ⟨g2, 10, none⟩ (.slice a9 (k + 1) c9) := ⟨_, rfl⟩
        have HT7 := Lib.hid (hw10 ▸ HT6.out.put 4 rfl 10 (.slice a9 (k + 1) c9))
        have hF10 := Lib.hid (show Frm GG w9 w10 from hw10 ▸ (Frm.refl _ _).put (.inl (by rw [HGG.out]; simp)) 10 none _)
        rw [← hw10]
        refine hK.out _ _ ⟨hF10.out, ?_⟩
        clear hK hF10 hw10 k10 f10 HT6
        unfold wpSegs
        refine wpQuiet_nil ?_
        refine NoPanic.normal ?_
        have hS9 : Sep [] W w10 [lvsR 74 (.slice a9 (k + 1) c9) (qs ++ [LvV.mk mh ml (.slice a3 xB.length c3) xB]), bodR (qs ++ [LvV.mk mh ml (.slice a3 xB.length c3) xB]), blkR g2 35 #[.int .u8 P0, .int .u8 y1, .int .u8 y4, .int .u8 y5, .int .u8 y6, .int .u8 y7, .int .u8 y8, .int .u8 y9, .int .u16 B, .bool F, .slice a9 (k + 1) c9], blkR o 35 #[.int .u8 0, .int .u8 0, .int .u8 0, .int .u8 0, .int .u8 0, .int .u8 0, .int .u8 0, .int .u8 0, .int .u16 0, .bool false, .slice none 0 0]] := by
          rw [bodR_snoc, ← lvsR_snoc, HQk.out]
          exact Sep.einto (HT7.out.at_ [1, 2, 3, 4, 5] (by decide) rfl)
        have HT8 := Lib.hid hS9
        have hn1 := HN1.out
        clear hS9 HT7 HM1
        go_wp2_with fail
        refine ⟨⟨_, _, _, _, _, _, _, _, _, _, _, _, _, _, _, _, _, _, _, _, _, _, _, _, _, _, _, _, _, _, _, _, _, _, _, _, _, _, _, _, _, _, _, _, _, _, _, _, _, _, _, _, _, _, _, _, _, _, _, _, _, _, _, _, _, _, _, _, _, _, _, _, ?rel, rfl⟩, ?measure⟩
        case rel => exact ⟨P + s2, k + 1, m - s2, d - s2, f', qn, _, a9, c9, rfl, by have := HZ.out; omega, by have := HZ.out; omega, by omega, by rw [List.length_append, HQk.out]; rfl, HRn.out, by rw [List.map_append, ← HLm.out, HAt.out]; rfl, fun q hq => by
          rcases List.mem_append.1 hq with h | h
          · exact HLt.out q h
          · rw [List.mem_singleton.1 h]; exact ⟨HQ64.out.1, HMl.out⟩, HT8.out⟩
        case measure => show m - s2 < m; omega
      | false =>
        have hcond := of_decide_eq_false HG.out.symm
        have hk0 : 0 < k := by omega
        have hm0 : m = 0 := by omega
        obtain ⟨q0, qs', hqs⟩ : ∃ q qs', qs = q :: qs' := by
          have h := HQk.out
          cases qs with
          | nil => simp at h; omega
          | cons q qs' => exact ⟨q, qs', rfl⟩
        have hM := HLv.out.symm.trans (lvF_done (zs := zs) (lg := F) (f := f) (p := P) (acc := qs.map LvV.lv) ⟨by rw [hqs]; simp, by omega⟩)
        have hl0 : q0.l = 0 := (HLt.out q0 (by rw [hqs]; simp)).2
        have hur : urdX zs = if q0.h = 0 then .error 30 else .ok ⟨P0, y1, y4, y5, y6, y7, y8, y9, B, F, qs.map LvV.lv⟩ := by
          rw [HLev.out, hM]
          unfold mkU
          rw [hqs]
          by_cases h : q0.h = 0 <;> simp [isNil, LvV.lv, h, hl0]
        obtain ⟨a8, c8, hv, _, _, _, hrl⟩ := lb_rd ((Sep.ejoin HT.out).get 0 rfl)
        simp only [Value.slice.injEq] at hv
        rw [← hv.1] at hrl
        have HRl := Lib.hid hrl
        obtain ⟨gl, ol, had, -, hc0, -⟩ := hrl.at_ (i := 0) (q := q0) (by rw [hqs]; rfl)
        subst had
        obtain ⟨mh, hmh⟩ : ∃ x, x = q0.h := ⟨_, rfl⟩
        rw [← hmh] at hc0 hur
        have HUr := Lib.hid hur
        have hk1 : (0 : Int) < (k : Int) := by omega
        have k10 := (HT.out.blk 2 rfl).cell 10 rfl
        simp only [Nat.zero_mul, Nat.add_zero] at hc0
        clear hcond HG hm0 hqs hM hl0 hv hrl hur hmh HLv
        go_upto_region 29 with fail
        by_cases hz0 : mh = 0
        · subst hz0
          have HP := Lib.hid (show urdX zs = .error 30 from HUr.out)
          have hXe : upaX zs = Ul.none ∧ upaE zs = 30 := by rw [HIn.out.1, HIn.out.2, HP.out]; exact ⟨rfl, rfl⟩
          have hX : X0 = Ul.none := HXE.out.1.trans hXe.1
          have hE : e = 30 := HXE.out.2.trans hXe.2
          clear hXe
          subst hX hE
          have hz := HT.out.blk 3 rfl
          have z0 := hz.cell 0 rfl
          have z1 := hz.cell 1 rfl
          have z2 := hz.cell 2 rfl
          have z3 := hz.cell 3 rfl
          have z4 := hz.cell 4 rfl
          have z5 := hz.cell 5 rfl
          have z6 := hz.cell 6 rfl
          have z7 := hz.cell 7 rfl
          have z8 := hz.cell 8 rfl
          have z9 := hz.cell 9 rfl
          have z10 := hz.cell 10 rfl
          have f0 := hz.free 0
          have f1 := hz.free 1
          have f2 := hz.free 2
          have f3 := hz.free 3
          have f4 := hz.free 4
          have f5 := hz.free 5
          have f6 := hz.free 6
          have f7 := hz.free 7
          have f8 := hz.free 8
          have f9 := hz.free 9
          have f10 := hz.free 10
          go_wp2_with fail
          obtain ⟨we, hwe⟩ : ∃ x, x = (((((((((((wr.setCell ⟨o, 0, none⟩ (.int .u8 0)).setCell ⟨o, 1, none⟩ (.int .u8 0)).setCell ⟨o, 2, none⟩ (.int .u8 0)).setCell ⟨o, 3, none⟩ (.int .u8 0)).setCell ⟨o, 4, none⟩ (.int .u8 0)).setCell ⟨o, 5, none⟩ (.int .u8 0)).setCell ⟨o, 6, none⟩ (.int .u8 0)).setCell ⟨o, 7, none⟩ (.int .u8 0)).setCell ⟨o, 8, none⟩ (.int .u16 0)).setCell ⟨o, 9, none⟩ (.bool false)).setCell ⟨o, 10, none⟩ (.slice none 0 0)) := ⟨_, rfl⟩
          have HSe := Lib.hid (show Sep [] W we [lvsR 74 (.slice (some ⟨gl, ol, none⟩) k cd) qs, bodR qs, blkR g2 35 #[.int .u8 P0, .int .u8 y1, .int .u8 y4, .int .u8 y5, .int .u8 y6, .int .u8 y7, .int .u8 y8, .int .u8 y9, .int .u16 B, .bool F, .slice (some ⟨gl, ol, none⟩) k cd], blkR o 35 #[.int .u8 0, .int .u8 0, .int .u8 0, .int .u8 0, .int .u8 0, .int .u8 0, .int .u8 0, .int .u8 0, .int .u16 0, .bool false, .slice none 0 0]] from hwe ▸ HT.out.puts 3 rfl [.int .u8 0, .int .u8 0, .int .u8 0, .int .u8 0, .int .u8 0, .int .u8 0, .int .u8 0, .int .u8 0, .int .u16 0, .bool false, .slice none 0 0] rfl)
          rw [← hwe]
          clear hwe HT hz z0 z1 z2 z3 z4 z5 z6 z7 z8 z9 z10 f0 f1 f2 f3 f4 f5 f6 f7 f8 f9 f10
          have hz := HSe.out.blk 3 rfl
          have z0 := hz.cell 0 rfl
          have z1 := hz.cell 1 rfl
          have z2 := hz.cell 2 rfl
          have z3 := hz.cell 3 rfl
          have z4 := hz.cell 4 rfl
          have z5 := hz.cell 5 rfl
          have z6 := hz.cell 6 rfl
          have z7 := hz.cell 7 rfl
          have z8 := hz.cell 8 rfl
          have z9 := hz.cell 9 rfl
          have z10 := hz.cell 10 rfl
          refine bodyPost_ret (v := .tuple #[.agg #[.int .u8 0, .int .u8 0, .int .u8 0, .int .u8 0, .int .u8 0, .int .u8 0, .int .u8 0, .int .u8 0, .int .u16 0, .bool false, .slice none 0 0], .int .i64 30]) ?_ rfl ⟨none, 0, [], rfl, rfl, RdLs.nil _ _, HSe.out.frm⟩
          simp [results, Tryd.results11, go_sem, z0, z1, z2, z3, z4, z5, z6, z7, z8, z9, z10]
        have t3 : ((mh : Int) == 0) = false := by simp [hz0]
        have t4 : decide ((mh : Int) = 0) = false := by simp [hz0]
        have HP := Lib.hid (show urdX zs = .ok ⟨P0, y1, y4, y5, y6, y7, y8, y9, B, F, qs.map LvV.lv⟩ from by rw [HUr.out, if_neg hz0])
        clear hz0 HUr
        go_upto_region 31 with fail
        clear t3 t4 hc0 k10 hk1
        have q0 := (HT.out.blk 2 rfl).cell 0 rfl
        have q1 := (HT.out.blk 2 rfl).cell 1 rfl
        have q2 := (HT.out.blk 2 rfl).cell 2 rfl
        have q3 := (HT.out.blk 2 rfl).cell 3 rfl
        have q4 := (HT.out.blk 2 rfl).cell 4 rfl
        have q5 := (HT.out.blk 2 rfl).cell 5 rfl
        have q6 := (HT.out.blk 2 rfl).cell 6 rfl
        have q7 := (HT.out.blk 2 rfl).cell 7 rfl
        have q8 := (HT.out.blk 2 rfl).cell 8 rfl
        have q9 := (HT.out.blk 2 rfl).cell 9 rfl
        have q10 := (HT.out.blk 2 rfl).cell 10 rfl
        have z0 := (HT.out.blk 3 rfl).cell 0 rfl
        have z1 := (HT.out.blk 3 rfl).cell 1 rfl
        have z2 := (HT.out.blk 3 rfl).cell 2 rfl
        have z3 := (HT.out.blk 3 rfl).cell 3 rfl
        have z4 := (HT.out.blk 3 rfl).cell 4 rfl
        have z5 := (HT.out.blk 3 rfl).cell 5 rfl
        have z6 := (HT.out.blk 3 rfl).cell 6 rfl
        have z7 := (HT.out.blk 3 rfl).cell 7 rfl
        have z8 := (HT.out.blk 3 rfl).cell 8 rfl
        have z9 := (HT.out.blk 3 rfl).cell 9 rfl
        have z10 := (HT.out.blk 3 rfl).cell 10 rfl
        have f0 := (HT.out.blk 3 rfl).free 0
        have f1 := (HT.out.blk 3 rfl).free 1
        have f2 := (HT.out.blk 3 rfl).free 2
        have f3 := (HT.out.blk 3 rfl).free 3
        have f4 := (HT.out.blk 3 rfl).free 4
        have f5 := (HT.out.blk 3 rfl).free 5
        have f6 := (HT.out.blk 3 rfl).free 6
        have f7 := (HT.out.blk 3 rfl).free 7
        have f8 := (HT.out.blk 3 rfl).free 8
        have f9 := (HT.out.blk 3 rfl).free 9
        have f10 := (HT.out.blk 3 rfl).free 10
        go_wp2_with fail
        obtain ⟨w8, hw8⟩ : ∃ w8, w8 = (((((((((((wr.setCell ⟨o, 0, none⟩ (.int .u8 P0)).setCell ⟨o, 1, none⟩ (.int .u8 y1)).setCell ⟨o, 2, none⟩ (.int .u8 y4)).setCell ⟨o, 3, none⟩ (.int .u8 y5)).setCell ⟨o, 4, none⟩ (.int .u8 y6)).setCell ⟨o, 5, none⟩ (.int .u8 y7)).setCell ⟨o, 6, none⟩ (.int .u8 y8)).setCell ⟨o, 7, none⟩ (.int .u8 y9)).setCell ⟨o, 8, none⟩ (.int .u16 B)).setCell ⟨o, 9, none⟩ (.bool F)).setCell ⟨o, 10, none⟩ (.slice (some ⟨gl, ol, none⟩) k cd)) := ⟨_, rfl⟩
        have HS8 := Lib.hid (show Sep [] W w8 [lvsR 74 (.slice (some ⟨gl, ol, none⟩) k cd) qs, bodR qs, blkR g2 35 #[.int .u8 P0, .int .u8 y1, .int .u8 y4, .int .u8 y5, .int .u8 y6, .int .u8 y7, .int .u8 y8, .int .u8 y9, .int .u16 B, .bool F, .slice (some ⟨gl, ol, none⟩) k cd], blkR o 35 #[.int .u8 P0, .int .u8 y1, .int .u8 y4, .int .u8 y5, .int .u8 y6, .int .u8 y7, .int .u8 y8, .int .u8 y9, .int .u16 B, .bool F, .slice (some ⟨gl, ol, none⟩) k cd]] from hw8 ▸ HT.out.puts 3 rfl [.int .u8 P0, .int .u8 y1, .int .u8 y4, .int .u8 y5, .int .u8 y6, .int .u8 y7, .int .u8 y8, .int .u8 y9, .int .u16 B, .bool F, .slice (some ⟨gl, ol, none⟩) k cd] rfl)
        rw [← hw8]
        clear hw8 q0 q1 q2 q3 q4 q5 q6 q7 q8 q9 q10 z0 z1 z2 z3 z4 z5 z6 z7 z8 z9 z10 f0 f1 f2 f3 f4 f5 f6 f7 f8 f9 f10 HT
        have z0 := (HS8.out.blk 3 rfl).cell 0 rfl
        have z1 := (HS8.out.blk 3 rfl).cell 1 rfl
        have z2 := (HS8.out.blk 3 rfl).cell 2 rfl
        have z3 := (HS8.out.blk 3 rfl).cell 3 rfl
        have z4 := (HS8.out.blk 3 rfl).cell 4 rfl
        have z5 := (HS8.out.blk 3 rfl).cell 5 rfl
        have z6 := (HS8.out.blk 3 rfl).cell 6 rfl
        have z7 := (HS8.out.blk 3 rfl).cell 7 rfl
        have z8 := (HS8.out.blk 3 rfl).cell 8 rfl
        have z9 := (HS8.out.blk 3 rfl).cell 9 rfl
        have z10 := (HS8.out.blk 3 rfl).cell 10 rfl
        have hX : X0 = ⟨P0, y1, y4, y5, y6, y7, y8, y9, B, F, qs.map LvV.lv⟩ := by rw [HXE.out.1, HIn.out.1, HP.out]; rfl
        have hE : e = 0 := by rw [HXE.out.2, HIn.out.2, HP.out]; rfl
        subst hX hE
        obtain ⟨a8, c8, hv, _, _, _, hrl⟩ := lb_rd ((Sep.ejoin HS8.out).get 0 rfl)
        simp only [Value.slice.injEq] at hv
        rw [← hv.1] at hrl
        refine bodyPost_ret (v := .tuple #[.agg #[.int .u8 P0, .int .u8 y1, .int .u8 y4, .int .u8 y5, .int .u8 y6, .int .u8 y7, .int .u8 y8, .int .u8 y9, .int .u16 B, .bool F, .slice (some ⟨gl, ol, none⟩) k cd], .int .i64 0]) ?_ rfl ⟨some ⟨gl, ol, none⟩, cd, qs, by rw [HQk.out]; rfl, rfl, hrl, HS8.out.frm⟩
        simp [results, Tryd.results11, go_sem, z0, z1, z2, z3, z4, z5, z6, z7, z8, z9, z10]

end Go.Proofs.YtjflcijiaennkaaDoor
