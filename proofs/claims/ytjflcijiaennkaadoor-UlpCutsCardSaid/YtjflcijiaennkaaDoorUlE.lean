/-
  THE WALKS of wire.Read[ulp.Pack], ulp.Parse. Printed by gen_ulc.py.
-/
import Derived.Test.YtjflcijiaennkaaDoorUlD
set_option linter.unusedVariables false
set_option linter.unusedSimpArgs false
namespace Go.Proofs.YtjflcijiaennkaaDoor
open Go.RowKit

/-- What Read gives. -/
def UReadP (W : World) (r : Except Int Ul) (x : Ending) (W' : World) : Prop :=
  match r with
  | .error e => x = .returned (.tuple #[Ul.none.val (.slice none 0 0), .int .i64 e]) ∧ Frm [] W W'
  | .ok X => ∃ va vn vc qs, qs.map LvV.lv = X.Ls ∧ x = .returned (.tuple #[X.val (.slice va vn vc), .int .i64 0]) ∧ Sep [] W W' [lbR 44 (.slice va vn vc) qs]
set_option maxRecDepth 100000 in
set_option maxHeartbeats 16000000 in
theorem uread_c {W : World} {a : Option Addr} {c : Nat} {zs : List Int} (hr : RdI .u8 W a zs) (hb : Byt zs) (hc : zs.length ≤ c) (hcm : c ≤ 9223372036854775807) (hn : a = none → c = 0) (hs : zs.length ≤ 1000000) :
    Calls Tryd.prog 25 #[.slice a zs.length c, .func (.func 26) #[] #[]] W (UReadP W (urdX zs)) := by
  obtain ⟨R, hRX⟩ : ∃ R, R = urdX zs := ⟨_, rfl⟩
  have HG := Lib.hid (hRX ▸ upart_c (hr.alloc (.cells #[.int .u8 0, .int .u8 0, .int .u8 0, .int .u8 0, .int .u8 0, .int .u8 0, .int .u8 0, .int .u8 0, .int .u16 0, .bool false, .slice none 0 0] 29)) hb hc hcm hn hs)
  have HE := Lib.hid (fun (e : Int) (h : R = .error e) => urd_err (hRX.symm.trans h))
  rw [← hRX]
  have HS0 := Lib.hid ((Sep.init W).alloc #[.int .u8 0, .int .u8 0, .int .u8 0, .int .u8 0, .int .u8 0, .int .u8 0, .int .u8 0, .int .u8 0, .int .u16 0, .bool false, .slice none 0 0] 29)
  clear hRX hr hb hc hcm hn
  go_enter Tryd.func25, Tryd.ntmps25
  go_upto_region 1 with fail
  obtain ⟨w1, hw1⟩ : ∃ w1, w1 = W.alloc (.cells #[.int .u8 0, .int .u8 0, .int .u8 0, .int .u8 0, .int .u8 0, .int .u8 0, .int .u8 0, .int .u8 0, .int .u16 0, .bool false, .slice none 0 0] 29) := ⟨_, rfl⟩
  obtain ⟨o, ho⟩ : ∃ o, o = W.heap.size := ⟨_, rfl⟩
  rw [← hw1, ← ho] at HS0
  rw [← hw1] at HG
  rw [← hw1, ← ho]
  clear hw1 ho
  go_wp2_with fail
  refine HG.out.mono ?_
  intro x w2 hx
  clear HG
  cases R with
  | error e =>
    obtain ⟨rfl, hF⟩ := (show x = .returned (.tuple #[Ul.none.val (.slice none 0 0), .int .i64 0, .int .i64 e]) ∧ Frm [] w1 w2 from hx)
    have he : e ≠ 0 := HE.out e rfl
    have e0 : (e == 0) = false := beq_eq_false_iff_ne.2 he
    have HS1 := Lib.hid (((HS0.out.keep hF).alloc #[.int .u8 0, .int .u8 0, .int .u8 0, .int .u8 0, .int .u8 0, .int .u8 0, .int .u8 0, .int .u8 0, .int .u16 0, .bool false, .slice none 0 0] 29).alloc #[.int .u8 0, .int .u8 0, .int .u8 0, .int .u8 0, .int .u8 0, .int .u8 0, .int .u8 0, .int .u8 0, .int .u16 0, .bool false, .slice none 0 0] 29)
    simp only [World.size_alloc] at HS1
    clear hF hx he HS0 HE
    simp only [Ul.val, Ul.cells, Ul.none]
    go_upto_region 6 with fail
    obtain ⟨w3, hw3⟩ : ∃ w3, w3 = (w2.alloc (.cells #[.int .u8 0, .int .u8 0, .int .u8 0, .int .u8 0, .int .u8 0, .int .u8 0, .int .u8 0, .int .u8 0, .int .u16 0, .bool false, .slice none 0 0] 29)).alloc (.cells #[.int .u8 0, .int .u8 0, .int .u8 0, .int .u8 0, .int .u8 0, .int .u8 0, .int .u8 0, .int .u8 0, .int .u16 0, .bool false, .slice none 0 0] 29) := ⟨_, rfl⟩
    obtain ⟨p, hp⟩ : ∃ p, p = w2.heap.size := ⟨_, rfl⟩
    rw [← hw3, ← hp] at HS1
    rw [← hw3, ← hp]
    clear hw3 hp
    have hq := HS1.out.blk 0 rfl
    have hz := HS1.out.blk 2 rfl
    have q0 := hq.cell 0 rfl
    have q1 := hq.cell 1 rfl
    have q2 := hq.cell 2 rfl
    have q3 := hq.cell 3 rfl
    have q4 := hq.cell 4 rfl
    have q5 := hq.cell 5 rfl
    have q6 := hq.cell 6 rfl
    have q7 := hq.cell 7 rfl
    have q8 := hq.cell 8 rfl
    have q9 := hq.cell 9 rfl
    have q10 := hq.cell 10 rfl
    have z0 := hz.cell 0 rfl
    have z1 := hz.cell 1 rfl
    have z2 := hz.cell 2 rfl
    have z3 := hz.cell 3 rfl
    have z4 := hz.cell 4 rfl
    have z5 := hz.cell 5 rfl
    have z6 := hz.cell 6 rfl
    have z7 := hz.cell 7 rfl
    have z8 := hz.cell 8 rfl
    have z9 := hz.cell 9 rfl
    have z10 := hz.cell 10 rfl
    have f0 := hz.free 0
    have f1 := hz.free 1
    have f2 := hz.free 2
    have f3 := hz.free 3
    have f4 := hz.free 4
    have f5 := hz.free 5
    have f6 := hz.free 6
    have f7 := hz.free 7
    have f8 := hz.free 8
    have f9 := hz.free 9
    have f10 := hz.free 10
    go_wp2_with fail
    obtain ⟨w4, hw4⟩ : ∃ w4, w4 = (((((((((((w3.setCell ⟨o, 0, none⟩ (.int .u8 0)).setCell ⟨o, 1, none⟩ (.int .u8 0)).setCell ⟨o, 2, none⟩ (.int .u8 0)).setCell ⟨o, 3, none⟩ (.int .u8 0)).setCell ⟨o, 4, none⟩ (.int .u8 0)).setCell ⟨o, 5, none⟩ (.int .u8 0)).setCell ⟨o, 6, none⟩ (.int .u8 0)).setCell ⟨o, 7, none⟩ (.int .u8 0)).setCell ⟨o, 8, none⟩ (.int .u16 0)).setCell ⟨o, 9, none⟩ (.bool false)).setCell ⟨o, 10, none⟩ (.slice none 0 0)) := ⟨_, rfl⟩
    have HS2 := Lib.hid (show Sep [] W w4 [blkR (p + 1) 29 #[.int .u8 0, .int .u8 0, .int .u8 0, .int .u8 0, .int .u8 0, .int .u8 0, .int .u8 0, .int .u8 0, .int .u16 0, .bool false, .slice none 0 0], blkR p 29 #[.int .u8 0, .int .u8 0, .int .u8 0, .int .u8 0, .int .u8 0, .int .u8 0, .int .u8 0, .int .u8 0, .int .u16 0, .bool false, .slice none 0 0], blkR o 29 #[.int .u8 0, .int .u8 0, .int .u8 0, .int .u8 0, .int .u8 0, .int .u8 0, .int .u8 0, .int .u8 0, .int .u16 0, .bool false, .slice none 0 0]] from hw4 ▸ HS1.out.puts 2 rfl [.int .u8 0, .int .u8 0, .int .u8 0, .int .u8 0, .int .u8 0, .int .u8 0, .int .u8 0, .int .u8 0, .int .u16 0, .bool false, .slice none 0 0] rfl)
    rw [← hw4]
    clear hw4 HS1 hq hz z0 z1 z2 z3 z4 z5 z6 z7 z8 z9 z10 q0 q1 q2 q3 q4 q5 q6 q7 q8 q9 q10 f0 f1 f2 f3 f4 f5 f6 f7 f8 f9 f10
    have hz := HS2.out.blk 2 rfl
    have z0 := hz.cell 0 rfl
    have z1 := hz.cell 1 rfl
    have z2 := hz.cell 2 rfl
    have z3 := hz.cell 3 rfl
    have z4 := hz.cell 4 rfl
    have z5 := hz.cell 5 rfl
    have z6 := hz.cell 6 rfl
    have z7 := hz.cell 7 rfl
    have z8 := hz.cell 8 rfl
    have z9 := hz.cell 9 rfl
    have z10 := hz.cell 10 rfl
    refine bodyPost_ret (v := .tuple #[.agg #[.int .u8 0, .int .u8 0, .int .u8 0, .int .u8 0, .int .u8 0, .int .u8 0, .int .u8 0, .int .u8 0, .int .u16 0, .bool false, .slice none 0 0], .int .i64 e]) ?_ rfl ⟨rfl, HS2.out.frm⟩
    simp [results, Tryd.results25, go_sem, z0, z1, z2, z3, z4, z5, z6, z7, z8, z9, z10]
  | ok X =>
    obtain ⟨va, vn, vc, qs, hq, rfl, hS⟩ := (show ∃ va vn vc qs, qs.map LvV.lv = X.Ls ∧ x = .returned (.tuple #[X.val (.slice va vn vc), .int .i64 (zs.length : Int), .int .i64 0]) ∧ Sep [] w1 w2 [lbR 44 (.slice va vn vc) qs] from hx)
    obtain ⟨h0, h1, h2, h3, h4, h5, h6, h7, b, lg, Ls⟩ := X
    have HQ := Lib.hid hq
    clear hq
    have HS1 := Lib.hid (show Sep [] W (w2.alloc (.cells #[.int .u8 h0, .int .u8 h1, .int .u8 h2, .int .u8 h3, .int .u8 h4, .int .u8 h5, .int .u8 h6, .int .u8 h7, .int .u16 b, .bool lg, .slice va vn vc] 29)) [blkR w2.heap.size 29 #[.int .u8 h0, .int .u8 h1, .int .u8 h2, .int .u8 h3, .int .u8 h4, .int .u8 h5, .int .u8 h6, .int .u8 h7, .int .u16 b, .bool lg, .slice va vn vc], lbR 44 (.slice va vn vc) qs, blkR o 29 #[.int .u8 0, .int .u8 0, .int .u8 0, .int .u8 0, .int .u8 0, .int .u8 0, .int .u8 0, .int .u8 0, .int .u16 0, .bool false, .slice none 0 0]] from (HS0.out.gains hS).alloc #[.int .u8 h0, .int .u8 h1, .int .u8 h2, .int .u8 h3, .int .u8 h4, .int .u8 h5, .int .u8 h6, .int .u8 h7, .int .u16 b, .bool lg, .slice va vn vc] 29)
    clear hS hx HS0 HE
    simp only [Ul.val, Ul.cells]
    have dl : decide ((zs.length : Int) < (zs.length : Int)) = false := decide_eq_false (by omega)
    go_upto_region 7 with fail
    obtain ⟨w3, hw3⟩ : ∃ w3, w3 = w2.alloc (.cells #[.int .u8 h0, .int .u8 h1, .int .u8 h2, .int .u8 h3, .int .u8 h4, .int .u8 h5, .int .u8 h6, .int .u8 h7, .int .u16 b, .bool lg, .slice va vn vc] 29) := ⟨_, rfl⟩
    obtain ⟨p, hp⟩ : ∃ p, p = w2.heap.size := ⟨_, rfl⟩
    rw [← hw3, ← hp] at HS1
    rw [← hw3, ← hp]
    clear hw3 hp
    have hq := HS1.out.blk 0 rfl
    have hz := HS1.out.blk 2 rfl
    have q0 := hq.cell 0 rfl
    have q1 := hq.cell 1 rfl
    have q2 := hq.cell 2 rfl
    have q3 := hq.cell 3 rfl
    have q4 := hq.cell 4 rfl
    have q5 := hq.cell 5 rfl
    have q6 := hq.cell 6 rfl
    have q7 := hq.cell 7 rfl
    have q8 := hq.cell 8 rfl
    have q9 := hq.cell 9 rfl
    have q10 := hq.cell 10 rfl
    have z0 := hz.cell 0 rfl
    have z1 := hz.cell 1 rfl
    have z2 := hz.cell 2 rfl
    have z3 := hz.cell 3 rfl
    have z4 := hz.cell 4 rfl
    have z5 := hz.cell 5 rfl
    have z6 := hz.cell 6 rfl
    have z7 := hz.cell 7 rfl
    have z8 := hz.cell 8 rfl
    have z9 := hz.cell 9 rfl
    have z10 := hz.cell 10 rfl
    have f0 := hz.free 0
    have f1 := hz.free 1
    have f2 := hz.free 2
    have f3 := hz.free 3
    have f4 := hz.free 4
    have f5 := hz.free 5
    have f6 := hz.free 6
    have f7 := hz.free 7
    have f8 := hz.free 8
    have f9 := hz.free 9
    have f10 := hz.free 10
    go_wp2_with fail
    obtain ⟨w4, hw4⟩ : ∃ w4, w4 = (((((((((((w3.setCell ⟨o, 0, none⟩ (.int .u8 h0)).setCell ⟨o, 1, none⟩ (.int .u8 h1)).setCell ⟨o, 2, none⟩ (.int .u8 h2)).setCell ⟨o, 3, none⟩ (.int .u8 h3)).setCell ⟨o, 4, none⟩ (.int .u8 h4)).setCell ⟨o, 5, none⟩ (.int .u8 h5)).setCell ⟨o, 6, none⟩ (.int .u8 h6)).setCell ⟨o, 7, none⟩ (.int .u8 h7)).setCell ⟨o, 8, none⟩ (.int .u16 b)).setCell ⟨o, 9, none⟩ (.bool lg)).setCell ⟨o, 10, none⟩ (.slice va vn vc)) := ⟨_, rfl⟩
    have HS2 := Lib.hid (show Sep [] W w4 [blkR p 29 #[.int .u8 h0, .int .u8 h1, .int .u8 h2, .int .u8 h3, .int .u8 h4, .int .u8 h5, .int .u8 h6, .int .u8 h7, .int .u16 b, .bool lg, .slice va vn vc], lbR 44 (.slice va vn vc) qs, blkR o 29 #[.int .u8 h0, .int .u8 h1, .int .u8 h2, .int .u8 h3, .int .u8 h4, .int .u8 h5, .int .u8 h6, .int .u8 h7, .int .u16 b, .bool lg, .slice va vn vc]] from hw4 ▸ HS1.out.puts 2 rfl [.int .u8 h0, .int .u8 h1, .int .u8 h2, .int .u8 h3, .int .u8 h4, .int .u8 h5, .int .u8 h6, .int .u8 h7, .int .u16 b, .bool lg, .slice va vn vc] rfl)
    rw [← hw4]
    clear hw4 HS1 hq hz z0 z1 z2 z3 z4 z5 z6 z7 z8 z9 z10 q0 q1 q2 q3 q4 q5 q6 q7 q8 q9 q10 f0 f1 f2 f3 f4 f5 f6 f7 f8 f9 f10
    have hz := HS2.out.blk 2 rfl
    have z0 := hz.cell 0 rfl
    have z1 := hz.cell 1 rfl
    have z2 := hz.cell 2 rfl
    have z3 := hz.cell 3 rfl
    have z4 := hz.cell 4 rfl
    have z5 := hz.cell 5 rfl
    have z6 := hz.cell 6 rfl
    have z7 := hz.cell 7 rfl
    have z8 := hz.cell 8 rfl
    have z9 := hz.cell 9 rfl
    have z10 := hz.cell 10 rfl
    refine bodyPost_ret (v := .tuple #[.agg #[.int .u8 h0, .int .u8 h1, .int .u8 h2, .int .u8 h3, .int .u8 h4, .int .u8 h5, .int .u8 h6, .int .u8 h7, .int .u16 b, .bool lg, .slice va vn vc], .int .i64 0]) ?_ rfl ⟨va, vn, vc, qs, HQ.out, rfl, HS2.out.at_ [1] (by decide) rfl⟩
    simp [results, Tryd.results25, go_sem, z0, z1, z2, z3, z4, z5, z6, z7, z8, z9, z10]

def upaR : Except Int Ul → Ul
  | .error _ => Ul.none
  | .ok x => x
def upaV : Except Int Ul → Int
  | .error e => e
  | .ok _ => 0
theorem upaX_in {zs : List Int} (h : ¬ 1500 < zs.length) : upaX zs = upaR (urdX zs) := by unfold upaX; rw [if_neg h]; cases urdX zs <;> rfl
theorem upaE_in {zs : List Int} (h : ¬ 1500 < zs.length) : upaE zs = upaV (urdX zs) := by unfold upaE; rw [if_neg h]; cases urdX zs <;> rfl
theorem ureadP_as {W W' : World} {R : Except Int Ul} {x : Ending} (hx : UReadP W R x W') : ∃ va vn vc qs, qs.map LvV.lv = (upaR R).Ls ∧ x = .returned (.tuple #[(upaR R).val (.slice va vn vc), .int .i64 (upaV R)]) ∧ Sep [] W W' [lbR 44 (.slice va vn vc) qs] := by
  cases R with
  | error e => exact ⟨none, 0, 0, [], rfl, hx.1, (show Sep [] W W' [] from ⟨hx.2, by simp, List.Pairwise.nil, by simp⟩).enone.nil 44 3 |>.ejoin⟩
  | ok X => exact hx
/-- What Parse gives. -/
def UParseP (W : World) (X : Ul) (e : Int) (x : Ending) (W' : World) : Prop :=
  ∃ va vn vc qs, qs.map LvV.lv = X.Ls ∧ x = .returned (.tuple #[X.val (.slice va vn vc), .int .i64 e]) ∧ Sep [] W W' [lbR 44 (.slice va vn vc) qs]

set_option maxRecDepth 100000 in
set_option maxHeartbeats 16000000 in
theorem uParse_c {W : World} {a : Option Addr} {c : Nat} {zs : List Int} (hr : RdI .u8 W a zs) (hb : Byt zs) (hc : zs.length ≤ c) (hcm : c ≤ 9223372036854775807) (hn : a = none → c = 0) :
    Calls Tryd.prog 10 #[.slice a zs.length c] W (UParseP W (upaX zs) (upaE zs)) := by
  have HS0 := Lib.hid ((Sep.init W).alloc #[.int .u8 0, .int .u8 0, .int .u8 0, .int .u8 0, .int .u8 0, .int .u8 0, .int .u8 0, .int .u8 0, .int .u16 0, .bool false, .slice none 0 0] 29)
  by_cases hl : 1500 < zs.length
  · have hX : upaX zs = Ul.none := if_pos hl
    have hE : upaE zs = 2 := if_pos hl
    rw [hX, hE]
    have d : decide (1500 < (zs.length : Int)) = true := decide_eq_true (by omega)
    clear hr hb hc hcm hn hX hE hl
    go_enter Tryd.func10, Tryd.ntmps10
    go_upto_region 1 with fail
    obtain ⟨w1, hw1⟩ : ∃ w1, w1 = W.alloc (.cells #[.int .u8 0, .int .u8 0, .int .u8 0, .int .u8 0, .int .u8 0, .int .u8 0, .int .u8 0, .int .u8 0, .int .u16 0, .bool false, .slice none 0 0] 29) := ⟨_, rfl⟩
    obtain ⟨o, ho⟩ : ∃ o, o = W.heap.size := ⟨_, rfl⟩
    rw [← hw1, ← ho] at HS0
    rw [← hw1, ← ho]
    clear hw1 ho
    have hz := HS0.out.blk 0 rfl
    have z0 := hz.cell 0 rfl
    have z1 := hz.cell 1 rfl
    have z2 := hz.cell 2 rfl
    have z3 := hz.cell 3 rfl
    have z4 := hz.cell 4 rfl
    have z5 := hz.cell 5 rfl
    have z6 := hz.cell 6 rfl
    have z7 := hz.cell 7 rfl
    have z8 := hz.cell 8 rfl
    have z9 := hz.cell 9 rfl
    have z10 := hz.cell 10 rfl
    have f0 := hz.free 0
    have f1 := hz.free 1
    have f2 := hz.free 2
    have f3 := hz.free 3
    have f4 := hz.free 4
    have f5 := hz.free 5
    have f6 := hz.free 6
    have f7 := hz.free 7
    have f8 := hz.free 8
    have f9 := hz.free 9
    have f10 := hz.free 10
    go_wp2_with fail
    obtain ⟨w4, hw4⟩ : ∃ w4, w4 = (((((((((((w1.setCell ⟨o, 0, none⟩ (.int .u8 0)).setCell ⟨o, 1, none⟩ (.int .u8 0)).setCell ⟨o, 2, none⟩ (.int .u8 0)).setCell ⟨o, 3, none⟩ (.int .u8 0)).setCell ⟨o, 4, none⟩ (.int .u8 0)).setCell ⟨o, 5, none⟩ (.int .u8 0)).setCell ⟨o, 6, none⟩ (.int .u8 0)).setCell ⟨o, 7, none⟩ (.int .u8 0)).setCell ⟨o, 8, none⟩ (.int .u16 0)).setCell ⟨o, 9, none⟩ (.bool false)).setCell ⟨o, 10, none⟩ (.slice none 0 0)) := ⟨_, rfl⟩
    have HS2 := Lib.hid (show Sep [] W w4 [blkR o 29 #[.int .u8 0, .int .u8 0, .int .u8 0, .int .u8 0, .int .u8 0, .int .u8 0, .int .u8 0, .int .u8 0, .int .u16 0, .bool false, .slice none 0 0]] from hw4 ▸ HS0.out.puts 0 rfl [.int .u8 0, .int .u8 0, .int .u8 0, .int .u8 0, .int .u8 0, .int .u8 0, .int .u8 0, .int .u8 0, .int .u16 0, .bool false, .slice none 0 0] rfl)
    rw [← hw4]
    clear hw4 HS0 hz z0 z1 z2 z3 z4 z5 z6 z7 z8 z9 z10 f0 f1 f2 f3 f4 f5 f6 f7 f8 f9 f10
    have hz := HS2.out.blk 0 rfl
    have z0 := hz.cell 0 rfl
    have z1 := hz.cell 1 rfl
    have z2 := hz.cell 2 rfl
    have z3 := hz.cell 3 rfl
    have z4 := hz.cell 4 rfl
    have z5 := hz.cell 5 rfl
    have z6 := hz.cell 6 rfl
    have z7 := hz.cell 7 rfl
    have z8 := hz.cell 8 rfl
    have z9 := hz.cell 9 rfl
    have z10 := hz.cell 10 rfl
    refine bodyPost_ret (v := .tuple #[.agg #[.int .u8 0, .int .u8 0, .int .u8 0, .int .u8 0, .int .u8 0, .int .u8 0, .int .u8 0, .int .u8 0, .int .u16 0, .bool false, .slice none 0 0], .int .i64 2]) ?_ rfl ⟨none, 0, 0, [], rfl, rfl, Sep.ejoin ((HS2.out.enone.nil 44 3).at_ [0, 1] (by decide) rfl)⟩
    simp [results, Tryd.results10, go_sem, z0, z1, z2, z3, z4, z5, z6, z7, z8, z9, z10]
  · have hX := upaX_in hl
    have hE := upaE_in hl
    rw [hX, hE]
    have d : decide (1500 < (zs.length : Int)) = false := decide_eq_false (by omega)
    obtain ⟨R, hRX⟩ : ∃ R, R = urdX zs := ⟨_, rfl⟩
    have HG := Lib.hid (hRX ▸ uread_c (hr.alloc (.cells #[.int .u8 0, .int .u8 0, .int .u8 0, .int .u8 0, .int .u8 0, .int .u8 0, .int .u8 0, .int .u8 0, .int .u16 0, .bool false, .slice none 0 0] 29)) hb hc hcm hn (by omega))
    rw [← hRX]
    obtain ⟨X, hXX⟩ : ∃ X, X = upaR R := ⟨_, rfl⟩
    obtain ⟨e, hEE⟩ : ∃ e, e = upaV R := ⟨_, rfl⟩
    have HXE := Lib.hid (And.intro hXX hEE)
    rw [← hXX, ← hEE]
    clear hr hb hc hcm hn hX hE hl hRX hXX hEE
    go_enter Tryd.func10, Tryd.ntmps10
    go_upto_region 3 with fail
    obtain ⟨w1, hw1⟩ : ∃ w1, w1 = W.alloc (.cells #[.int .u8 0, .int .u8 0, .int .u8 0, .int .u8 0, .int .u8 0, .int .u8 0, .int .u8 0, .int .u8 0, .int .u16 0, .bool false, .slice none 0 0] 29) := ⟨_, rfl⟩
    obtain ⟨o, ho⟩ : ∃ o, o = W.heap.size := ⟨_, rfl⟩
    rw [← hw1, ← ho] at HS0
    rw [← hw1] at HG
    rw [← hw1, ← ho]
    clear hw1 ho
    go_wp2_with fail
    refine HG.out.mono ?_
    intro x w2 hx
    clear HG
    obtain ⟨va, vn, vc, qs, hq, rfl, hS⟩ := ureadP_as hx
    rw [← HXE.out.1] at hq ⊢
    rw [← HXE.out.2]
    clear hx HXE
    obtain ⟨h0, h1, h2, h3, h4, h5, h6, h7, b, lg, Ls⟩ := X
    have HQ := Lib.hid hq
    clear hq
    have HS1 := Lib.hid (show Sep [] W w2 [lbR 44 (.slice va vn vc) qs, blkR o 29 #[.int .u8 0, .int .u8 0, .int .u8 0, .int .u8 0, .int .u8 0, .int .u8 0, .int .u8 0, .int .u8 0, .int .u16 0, .bool false, .slice none 0 0]] from HS0.out.gains hS)
    clear hS HS0
    simp only [Ul.val, Ul.cells]
    have hz := HS1.out.blk 1 rfl
    have z0 := hz.cell 0 rfl
    have z1 := hz.cell 1 rfl
    have z2 := hz.cell 2 rfl
    have z3 := hz.cell 3 rfl
    have z4 := hz.cell 4 rfl
    have z5 := hz.cell 5 rfl
    have z6 := hz.cell 6 rfl
    have z7 := hz.cell 7 rfl
    have z8 := hz.cell 8 rfl
    have z9 := hz.cell 9 rfl
    have z10 := hz.cell 10 rfl
    have f0 := hz.free 0
    have f1 := hz.free 1
    have f2 := hz.free 2
    have f3 := hz.free 3
    have f4 := hz.free 4
    have f5 := hz.free 5
    have f6 := hz.free 6
    have f7 := hz.free 7
    have f8 := hz.free 8
    have f9 := hz.free 9
    have f10 := hz.free 10
    go_wp2_with fail
    obtain ⟨w4, hw4⟩ : ∃ w4, w4 = (((((((((((w2.setCell ⟨o, 0, none⟩ (.int .u8 h0)).setCell ⟨o, 1, none⟩ (.int .u8 h1)).setCell ⟨o, 2, none⟩ (.int .u8 h2)).setCell ⟨o, 3, none⟩ (.int .u8 h3)).setCell ⟨o, 4, none⟩ (.int .u8 h4)).setCell ⟨o, 5, none⟩ (.int .u8 h5)).setCell ⟨o, 6, none⟩ (.int .u8 h6)).setCell ⟨o, 7, none⟩ (.int .u8 h7)).setCell ⟨o, 8, none⟩ (.int .u16 b)).setCell ⟨o, 9, none⟩ (.bool lg)).setCell ⟨o, 10, none⟩ (.slice va vn vc)) := ⟨_, rfl⟩
    have HS2 := Lib.hid (show Sep [] W w4 [lbR 44 (.slice va vn vc) qs, blkR o 29 #[.int .u8 h0, .int .u8 h1, .int .u8 h2, .int .u8 h3, .int .u8 h4, .int .u8 h5, .int .u8 h6, .int .u8 h7, .int .u16 b, .bool lg, .slice va vn vc]] from hw4 ▸ HS1.out.puts 1 rfl [.int .u8 h0, .int .u8 h1, .int .u8 h2, .int .u8 h3, .int .u8 h4, .int .u8 h5, .int .u8 h6, .int .u8 h7, .int .u16 b, .bool lg, .slice va vn vc] rfl)
    rw [← hw4]
    clear hw4 HS1 hz z0 z1 z2 z3 z4 z5 z6 z7 z8 z9 z10 f0 f1 f2 f3 f4 f5 f6 f7 f8 f9 f10
    have hz := HS2.out.blk 1 rfl
    have z0 := hz.cell 0 rfl
    have z1 := hz.cell 1 rfl
    have z2 := hz.cell 2 rfl
    have z3 := hz.cell 3 rfl
    have z4 := hz.cell 4 rfl
    have z5 := hz.cell 5 rfl
    have z6 := hz.cell 6 rfl
    have z7 := hz.cell 7 rfl
    have z8 := hz.cell 8 rfl
    have z9 := hz.cell 9 rfl
    have z10 := hz.cell 10 rfl
    refine bodyPost_ret (v := .tuple #[.agg #[.int .u8 h0, .int .u8 h1, .int .u8 h2, .int .u8 h3, .int .u8 h4, .int .u8 h5, .int .u8 h6, .int .u8 h7, .int .u16 b, .bool lg, .slice va vn vc], .int .i64 e]) ?_ rfl ⟨va, vn, vc, qs, HQ.out, rfl, HS2.out.at_ [0] (by decide) rfl⟩
    simp [results, Tryd.results10, go_sem, z0, z1, z2, z3, z4, z5, z6, z7, z8, z9, z10]

end Go.Proofs.YtjflcijiaennkaaDoor
