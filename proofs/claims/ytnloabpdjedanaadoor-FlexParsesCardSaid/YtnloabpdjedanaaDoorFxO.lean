/-
  THE WALKS of flex.Of, flex.Flat. Printed by gen_fxo.py.
-/
import Derived.Test.YtnloabpdjedanaaDoorFxH
import Derived.Test.YtnloabpdjedanaaDoorBb
import Derived.Test.YtnloabpdjedanaaDoorBeq
set_option linter.unusedVariables false
set_option linter.unusedSimpArgs false
namespace Go.Proofs.YtnloabpdjedanaaDoor
open Go.RowKit

/-- A repair: its head, its base, its mask, its body. -/
structure Rp where
  h0 : Int
  h1 : Int
  h2 : Int
  h3 : Int
  h4 : Int
  h5 : Int
  h6 : Int
  h7 : Int
  b : Int
  h : Nat
  l : Nat
  B : List Int
def Rp.none : Rp := ⟨0, 0, 0, 0, 0, 0, 0, 0, 0, 0, 0, []⟩
def Rp.cells (x : Rp) (v : Value) : Array Value := #[.int .u8 x.h0, .int .u8 x.h1, .int .u8 x.h2, .int .u8 x.h3, .int .u8 x.h4, .int .u8 x.h5, .int .u8 x.h6, .int .u8 x.h7, .int .u16 x.b, .int .u64 (x.h : Int), .int .u64 (x.l : Int), v]
def Rp.val (x : Rp) (v : Value) : Value := .agg (x.cells v)
structure Rp.Ok (x : Rp) : Prop where
  r0 : 0 ≤ x.h0 ∧ x.h0 ≤ 255
  r1 : 0 ≤ x.h1 ∧ x.h1 ≤ 255
  r2 : 0 ≤ x.h2 ∧ x.h2 ≤ 255
  r3 : 0 ≤ x.h3 ∧ x.h3 ≤ 255
  r4 : 0 ≤ x.h4 ∧ x.h4 ≤ 255
  r5 : 0 ≤ x.h5 ∧ x.h5 ≤ 255
  r6 : 0 ≤ x.h6 ∧ x.h6 ≤ 255
  r7 : 0 ≤ x.h7 ∧ x.h7 ≤ 255
  rb : 0 ≤ x.b ∧ x.b ≤ 65535
  rh : x.h < 18446744073709551616
  rl : x.l < 18446744073709551616
  rB : Byt x.B
/-- The pack of a repair; the repair of a pack. -/
def pkOf (r : Rp) : Fx := ⟨r.h0 % 64, r.h1, r.h2, r.h3, r.h4, r.h5, r.h6, r.h7, r.b, r.h, r.l, false, 0, 0, r.B⟩
def rpOf (x : Fx) : Rp := ⟨x.h0 % 64, x.h1, x.h2, x.h3, x.h4, x.h5, x.h6, x.h7, x.b, x.h, x.l, x.B⟩
theorem pkOf_ok {r : Rp} (h : r.Ok) : (pkOf r).Ok := ⟨⟨by have := h.r0; simp only [pkOf]; omega, by have := h.r0; simp only [pkOf]; omega⟩, h.r1, h.r2, h.r3, h.r4, h.r5, h.r6, h.r7, h.rb, h.rh, h.rl, by simp [pkOf], by simp [pkOf], h.rB⟩
def ofE (r : Rp) : Int := weX (pkOf r)
def ofX (r : Rp) : Fx := if weX (pkOf r) = 0 then pkOf r else Fx.none
def flE (x : Fx) : Int := if weX x ≠ 0 then weX x else if x.fx = true then 30 else 0
def flX (x : Fx) : Rp := if flE x = 0 then rpOf x else Rp.none
/-- What Flat gives. -/
def FlatP (W : World) (X : Rp) (e : Int) (x : Ending) (W' : World) : Prop :=
  ∃ va vn vc, x = .returned (.tuple #[X.val (.slice va vn vc), .int .i64 e]) ∧ Sep [] W W' [sumR (.slice va vn vc) X.B]
theorem frb_putAll (b : Nat) {B : Nat} (hb : B ≤ b) : ∀ (vs : List Value) (k : Nat) (w : World), FrB B [] w (putAll b k vs w)
  | [], k, w => FrB.refl _ _ _
  | v :: vs, k, w => ((FrB.refl _ _ w).put (.inr hb) k v).trans (frb_putAll b hb vs (k + 1) _)
set_option maxRecDepth 100000 in
set_option maxHeartbeats 16000000 in
theorem fof_c (r : Rp) (a : Option Addr) (c : Nat) (w : World) (hok : r.Ok) (hrd : RdI .u8 w a r.B) (hn : a = none → c = 0) (hT : Tabs w) (hl : r.B.length ≤ 1000000) :
    Calls Tryd.prog 21 #[r.val (.slice a r.B.length c)] w (ParseP w (ofX r) (ofE r)) := by
  have HC := Lib.hid (fun X (hX : Frm [] w X) => bclone_c a c r.B X (hrd.below hX.below) hn hl)
  have HW := Lib.hid (fun X a' c' (hX : Frm [] w X) (rd : RdI .u8 X a' r.B) (hn' : a' = none → c' = 0) => write_c (pkOf r) a' c' X (pkOf_ok hok) rd hn' (hT.frm hX (by simp)) (show r.B.length ≤ 9223372036854775807 by omega))
  obtain ⟨E, hE⟩ : ∃ E, E = weX (pkOf r) := ⟨_, rfl⟩
  unfold ofX ofE
  rw [← hE]
  rw [← hE] at HW
  obtain ⟨O, hO⟩ : ∃ O, O = woX (pkOf r) := ⟨_, rfl⟩
  rw [← hO] at HW
  have r0 := hok.r0
  clear hE hO hrd hn hT hok
  obtain ⟨h0, h1, h2, h3, h4, h5, h6, h7, b, h, l, B⟩ := r
  simp only [Rp.val, Rp.cells, Fx.val, Fx.cells, pkOf] at *
  obtain ⟨n, hn⟩ : ∃ n, n = B.length := ⟨_, rfl⟩
  have HNn := Lib.hid hn
  rw [← hn] at HC HW hl ⊢
  clear hn
  have e1 := and63_u r0.1 r0.2
  obtain ⟨p, hp⟩ : ∃ p, p = h0 % 64 := ⟨_, rfl⟩
  rw [← hp] at e1 HW ⊢
  have HE1 := Lib.hid e1
  clear hp e1
  obtain ⟨Y, hY⟩ : ∃ Y : Fx, Y = if E = 0 then ⟨p, h1, h2, h3, h4, h5, h6, h7, b, h, l, false, 0, 0, B⟩ else Fx.none := ⟨_, rfl⟩
  rw [← hY]
  have HY := Lib.hid hY
  clear hY
  have HS0 := Lib.hid (((Sep.init w).alloc #[.int .u8 h0, .int .u8 h1, .int .u8 h2, .int .u8 h3, .int .u8 h4, .int .u8 h5, .int .u8 h6, .int .u8 h7, .int .u16 b, .int .u64 (h : Int), .int .u64 (l : Int), .slice a n c] 48).alloc #[.int .u8 0, .int .u8 0, .int .u8 0, .int .u8 0, .int .u8 0, .int .u8 0, .int .u8 0, .int .u8 0, .int .u16 0, .int .u64 0, .int .u64 0, .bool false, .int .i64 0, .int .i64 0, .slice none 0 0] 31)
  simp only [World.size_alloc] at HS0
  go_enter Tryd.func21, Tryd.ntmps21
  go_upto_region 1 with fail
  obtain ⟨w1, hw1⟩ : ∃ w1, w1 = (w.alloc (.cells #[.int .u8 h0, .int .u8 h1, .int .u8 h2, .int .u8 h3, .int .u8 h4, .int .u8 h5, .int .u8 h6, .int .u8 h7, .int .u16 b, .int .u64 (h : Int), .int .u64 (l : Int), .slice a n c] 48)).alloc (.cells #[.int .u8 0, .int .u8 0, .int .u8 0, .int .u8 0, .int .u8 0, .int .u8 0, .int .u8 0, .int .u8 0, .int .u16 0, .int .u64 0, .int .u64 0, .bool false, .int .i64 0, .int .i64 0, .slice none 0 0] 31) := ⟨_, rfl⟩
  obtain ⟨o, ho⟩ : ∃ o, o = w.heap.size := ⟨_, rfl⟩
  rw [← hw1, ← ho] at HS0
  rw [← hw1, ← ho]
  have HO := Lib.hid ho
  clear hw1 ho
  have HB := Lib.hid (show o + 1 < w1.heap.size ∧ o < w1.heap.size ∧ w.heap.size ≤ w1.heap.size from ⟨by have := (HS0.out.blk 0 rfl).lt; omega, by have := (HS0.out.blk 1 rfl).lt; omega, HS0.out.frm.size⟩)
  refine region_segsA (ty := 31) (z := #[.int .u8 0, .int .u8 0, .int .u8 0, .int .u8 0, .int .u8 0, .int .u8 0, .int .u8 0, .int .u8 0, .int .u16 0, .int .u64 0, .int .u64 0, .bool false, .int .i64 0, .int .i64 0, .slice none 0 0]) [0, 1, 2, 3, 4, 5, 6, 7, 8, 9, 10, 11, 12] [11] 13 [14] [0] (by kernel_rfl) (by kernel_rfl) rfl rfl rfl rfl (fun _ _ => by kernel_rfl) (by kernel_rfl) ?_
  simp only [remOf, List.filterMap_cons, List.filterMap_nil, List.getElem?_cons_zero, List.getElem?_cons_succ]
  have HS2 := Lib.hid HS0.out.drew
  obtain ⟨w2, hw2⟩ : ∃ w2, w2 = w1.drew := ⟨_, rfl⟩
  obtain ⟨B0, hB0⟩ : ∃ B0, B0 = w1.heap.size := ⟨_, rfl⟩
  rw [← hw2] at HS2
  rw [← hB0] at HB
  rw [← hw2, ← hB0]
  clear hw2 hB0
  unfold wpSegsU
  simp only [List.take_succ_cons, List.take_zero, List.drop_succ_cons, List.drop_zero]
  have n1 : Nonempty (Cls (fun v => FrB B0 [] w2 v)) := ⟨⟨_, FrB.refl _ _ _⟩⟩
  have q0 := fun x : Cls (fun v => FrB B0 [] w2 v) => (x.ok.blk (HS2.out.blk 1 rfl) (by have := HB.out; omega) (by simp)).cell 0 rfl
  have q1 := fun x : Cls (fun v => FrB B0 [] w2 v) => (x.ok.blk (HS2.out.blk 1 rfl) (by have := HB.out; omega) (by simp)).cell 1 rfl
  have q2 := fun x : Cls (fun v => FrB B0 [] w2 v) => (x.ok.blk (HS2.out.blk 1 rfl) (by have := HB.out; omega) (by simp)).cell 2 rfl
  have q3 := fun x : Cls (fun v => FrB B0 [] w2 v) => (x.ok.blk (HS2.out.blk 1 rfl) (by have := HB.out; omega) (by simp)).cell 3 rfl
  have q4 := fun x : Cls (fun v => FrB B0 [] w2 v) => (x.ok.blk (HS2.out.blk 1 rfl) (by have := HB.out; omega) (by simp)).cell 4 rfl
  have q5 := fun x : Cls (fun v => FrB B0 [] w2 v) => (x.ok.blk (HS2.out.blk 1 rfl) (by have := HB.out; omega) (by simp)).cell 5 rfl
  have q6 := fun x : Cls (fun v => FrB B0 [] w2 v) => (x.ok.blk (HS2.out.blk 1 rfl) (by have := HB.out; omega) (by simp)).cell 6 rfl
  have q7 := fun x : Cls (fun v => FrB B0 [] w2 v) => (x.ok.blk (HS2.out.blk 1 rfl) (by have := HB.out; omega) (by simp)).cell 7 rfl
  have q8 := fun x : Cls (fun v => FrB B0 [] w2 v) => (x.ok.blk (HS2.out.blk 1 rfl) (by have := HB.out; omega) (by simp)).cell 8 rfl
  have q9 := fun x : Cls (fun v => FrB B0 [] w2 v) => (x.ok.blk (HS2.out.blk 1 rfl) (by have := HB.out; omega) (by simp)).cell 9 rfl
  have q10 := fun x : Cls (fun v => FrB B0 [] w2 v) => (x.ok.blk (HS2.out.blk 1 rfl) (by have := HB.out; omega) (by simp)).cell 10 rfl
  have q11 := fun x : Cls (fun v => FrB B0 [] w2 v) => (x.ok.blk (HS2.out.blk 1 rfl) (by have := HB.out; omega) (by simp)).cell 11 rfl
  repeat (go_big_quiet_step (fail))
  refine wpQuiet_nil ?_
  intro X hX
  refine only_step (fun K' hK => ?_)
  clear q0 q1 q2 q3 q4 q5 q6 q7 q8 q9 q10 q11 n1
  go_wp2_with fail
  refine (HC.out X (HS2.out.frm.trans hX)).mono ?_
  rintro e w3 ⟨nv, rfl, hS⟩
  obtain ⟨na, nc, rfl, hnl, hnn⟩ := own_shape (hS.own 0 rfl)
  have HS3 := Lib.hid (show Sep [] w w3 [sumR (.slice na n nc) B, blkR (o + 1) 31 #[.int .u8 0, .int .u8 0, .int .u8 0, .int .u8 0, .int .u8 0, .int .u8 0, .int .u8 0, .int .u8 0, .int .u16 0, .int .u64 0, .int .u64 0, .bool false, .int .i64 0, .int .i64 0, .slice none 0 0], blkR o 48 #[.int .u8 h0, .int .u8 h1, .int .u8 h2, .int .u8 h3, .int .u8 h4, .int .u8 h5, .int .u8 h6, .int .u8 h7, .int .u16 b, .int .u64 (h : Int), .int .u64 (l : Int), .slice a n c]] from by have h := (HS2.out.keep hX).more hS; rw [← HNn.out] at h; exact h)
  have HNn2 := Lib.hid hnn
  rw [← HNn.out]
  go_wp2_with fail
  refine hK.out _ _ ⟨hS.frm, ?_⟩
  clear hK hS hX hnl hnn HS2
  unfold wpSegsU
  have n1 : Nonempty (Cls (fun v => FrB B0 [] w3 v)) := ⟨⟨_, FrB.refl _ _ _⟩⟩
  show wpQuiet _ _ _ _ [_] _
  repeat (go_big_quiet_step (fail))
  refine wpQuiet_nil ?_
  intro X hX g hb hg
  clear n1
  have HS4 := Lib.hid (show Sep [] w X [blkR g 31 #[.int .u8 0, .int .u8 0, .int .u8 0, .int .u8 0, .int .u8 0, .int .u8 0, .int .u8 0, .int .u8 0, .int .u16 0, .int .u64 0, .int .u64 0, .bool false, .int .i64 0, .int .i64 0, .slice none 0 0], sumR (.slice na n nc) B, blkR (o + 1) 31 #[.int .u8 0, .int .u8 0, .int .u8 0, .int .u8 0, .int .u8 0, .int .u8 0, .int .u8 0, .int .u8 0, .int .u16 0, .int .u64 0, .int .u64 0, .bool false, .int .i64 0, .int .i64 0, .slice none 0 0], blkR o 48 #[.int .u8 h0, .int .u8 h1, .int .u8 h2, .int .u8 h3, .int .u8 h4, .int .u8 h5, .int .u8 h6, .int .u8 h7, .int .u16 b, .int .u64 (h : Int), .int .u64 (l : Int), .slice a n c]] from (HS3.out.keep hX).adopt hb (by have := HB.out; omega) (by
    intro r hr
    rcases List.mem_cons.1 hr with rfl | hr
    · exact far_own hb ((HS3.out.keep hX).own 0 rfl) (by decide)
    · rcases List.mem_cons.1 hr with rfl | hr
      · simp [blkR]; have := HB.out; omega
      · rcases List.mem_cons.1 hr with rfl | hr
        · simp [blkR]; have := HB.out; omega
        · cases hr))
  clear HS3 hX
  unfold wpSegsR
  simp only [List.take_succ_cons, List.take_zero, List.drop_succ_cons, List.drop_zero]
  refine wpQuiet_nil ?_
  refine only_step (fun K' hK => ?_)
  have hz := HS4.out.blk 0 rfl
  have z0 := hz.cell 0 rfl
  have z1 := hz.cell 1 rfl
  have z2 := hz.cell 2 rfl
  have z3 := hz.cell 3 rfl
  have z4 := hz.cell 4 rfl
  have z5 := hz.cell 5 rfl
  have z6 := hz.cell 6 rfl
  have z7 := hz.cell 7 rfl
  have z8 := hz.cell 8 rfl
  have z9 := hz.cell 9 rfl
  have z10 := hz.cell 10 rfl
  have z11 := hz.cell 11 rfl
  have z12 := hz.cell 12 rfl
  have z13 := hz.cell 13 rfl
  have z14 := hz.cell 14 rfl
  have f0 := hz.free 0
  have f1 := hz.free 1
  have f2 := hz.free 2
  have f3 := hz.free 3
  have f4 := hz.free 4
  have f5 := hz.free 5
  have f6 := hz.free 6
  have f7 := hz.free 7
  have f8 := hz.free 8
  have f9 := hz.free 9
  have f10 := hz.free 10
  have f11 := hz.free 11
  have f12 := hz.free 12
  have f13 := hz.free 13
  have f14 := hz.free 14
  go_wp2_with fail
  obtain ⟨w5, hw4⟩ : ∃ w4, w4 = (((((((((((((((X.setCell ⟨g, 0, none⟩ (.int .u8 h0)).setCell ⟨g, 1, none⟩ (.int .u8 h1)).setCell ⟨g, 2, none⟩ (.int .u8 h2)).setCell ⟨g, 3, none⟩ (.int .u8 h3)).setCell ⟨g, 4, none⟩ (.int .u8 h4)).setCell ⟨g, 5, none⟩ (.int .u8 h5)).setCell ⟨g, 6, none⟩ (.int .u8 h6)).setCell ⟨g, 7, none⟩ (.int .u8 h7)).setCell ⟨g, 8, none⟩ (.int .u16 b)).setCell ⟨g, 9, none⟩ (.int .u64 (h : Int))).setCell ⟨g, 10, none⟩ (.int .u64 (l : Int))).setCell ⟨g, 11, none⟩ (.bool false)).setCell ⟨g, 12, none⟩ (.int .i64 0)).setCell ⟨g, 13, none⟩ (.int .i64 0)).setCell ⟨g, 14, none⟩ (.slice na n nc)) := ⟨_, rfl⟩
  have HS5 := Lib.hid (show Sep [] w w5 [blkR g 31 #[.int .u8 h0, .int .u8 h1, .int .u8 h2, .int .u8 h3, .int .u8 h4, .int .u8 h5, .int .u8 h6, .int .u8 h7, .int .u16 b, .int .u64 (h : Int), .int .u64 (l : Int), .bool false, .int .i64 0, .int .i64 0, .slice na n nc], sumR (.slice na n nc) B, blkR (o + 1) 31 #[.int .u8 0, .int .u8 0, .int .u8 0, .int .u8 0, .int .u8 0, .int .u8 0, .int .u8 0, .int .u8 0, .int .u16 0, .int .u64 0, .int .u64 0, .bool false, .int .i64 0, .int .i64 0, .slice none 0 0], blkR o 48 #[.int .u8 h0, .int .u8 h1, .int .u8 h2, .int .u8 h3, .int .u8 h4, .int .u8 h5, .int .u8 h6, .int .u8 h7, .int .u16 b, .int .u64 (h : Int), .int .u64 (l : Int), .slice a n c]] from hw4 ▸ HS4.out.puts 0 rfl [.int .u8 h0, .int .u8 h1, .int .u8 h2, .int .u8 h3, .int .u8 h4, .int .u8 h5, .int .u8 h6, .int .u8 h7, .int .u16 b, .int .u64 (h : Int), .int .u64 (l : Int), .bool false, .int .i64 0, .int .i64 0, .slice na n nc] rfl)
  have hfr : FrB B0 [] X w5 := hw4 ▸ frb_putAll g hg [.int .u8 h0, .int .u8 h1, .int .u8 h2, .int .u8 h3, .int .u8 h4, .int .u8 h5, .int .u8 h6, .int .u8 h7, .int .u16 b, .int .u64 (h : Int), .int .u64 (l : Int), .bool false, .int .i64 0, .int .i64 0, .slice na n nc] 0 X
  rw [← hw4]
  refine hK.out _ _ ⟨hfr, ?_⟩
  clear hw4 hK HS4 hz z0 z1 z2 z3 z4 z5 z6 z7 z8 z9 z10 z11 z12 z13 z14 f0 f1 f2 f3 f4 f5 f6 f7 f8 f9 f10 f11 f12 f13 f14 hfr hb
  unfold wpSegsR
  refine wpQuiet_nil ?_
  refine NoPanic.normal ?_
  have z0 := (HS5.out.blk 0 rfl).cell 0 rfl
  have f0 := (HS5.out.blk 0 rfl).free 0
  have e1 := HE1.out
  go_upto_region 3 with fail
  obtain ⟨w6, hw6⟩ : ∃ w6, w6 = w5.setCell ⟨g, 0, none⟩ (.int .u8 p) := ⟨_, rfl⟩
  have HS6 := Lib.hid (show Sep [] w w6 [blkR g 31 #[.int .u8 p, .int .u8 h1, .int .u8 h2, .int .u8 h3, .int .u8 h4, .int .u8 h5, .int .u8 h6, .int .u8 h7, .int .u16 b, .int .u64 (h : Int), .int .u64 (l : Int), .bool false, .int .i64 0, .int .i64 0, .slice na n nc], sumR (.slice na n nc) B, blkR (o + 1) 31 #[.int .u8 0, .int .u8 0, .int .u8 0, .int .u8 0, .int .u8 0, .int .u8 0, .int .u8 0, .int .u8 0, .int .u16 0, .int .u64 0, .int .u64 0, .bool false, .int .i64 0, .int .i64 0, .slice none 0 0], blkR o 48 #[.int .u8 h0, .int .u8 h1, .int .u8 h2, .int .u8 h3, .int .u8 h4, .int .u8 h5, .int .u8 h6, .int .u8 h7, .int .u16 b, .int .u64 (h : Int), .int .u64 (l : Int), .slice a n c]] from hw6 ▸ HS5.out.put 0 rfl 0 (.int .u8 p))
  rw [← hw6]
  clear hw6 z0 f0 e1 HS5
  have z0 := (HS6.out.blk 0 rfl).cell 0 rfl
  have z1 := (HS6.out.blk 0 rfl).cell 1 rfl
  have z2 := (HS6.out.blk 0 rfl).cell 2 rfl
  have z3 := (HS6.out.blk 0 rfl).cell 3 rfl
  have z4 := (HS6.out.blk 0 rfl).cell 4 rfl
  have z5 := (HS6.out.blk 0 rfl).cell 5 rfl
  have z6 := (HS6.out.blk 0 rfl).cell 6 rfl
  have z7 := (HS6.out.blk 0 rfl).cell 7 rfl
  have z8 := (HS6.out.blk 0 rfl).cell 8 rfl
  have z9 := (HS6.out.blk 0 rfl).cell 9 rfl
  have z10 := (HS6.out.blk 0 rfl).cell 10 rfl
  have z11 := (HS6.out.blk 0 rfl).cell 11 rfl
  have z12 := (HS6.out.blk 0 rfl).cell 12 rfl
  have z13 := (HS6.out.blk 0 rfl).cell 13 rfl
  have z14 := (HS6.out.blk 0 rfl).cell 14 rfl
  obtain ⟨_, _, hv, _, hrn⟩ := RdI.of_own (k := .u8) (HS6.out.own 1 rfl)
  injection hv with hv1 hv2 hv3
  subst hv1
  have HRn := Lib.hid hrn
  clear hv2 hv3 hrn
  go_wp2_with fail
  refine (HW.out w6 na nc HS6.out.frm HRn.out HNn2.out).mono ?_
  rintro e w7 ⟨v7, rfl, hS7⟩
  have HS7 := Lib.hid (show Sep [] w w7 [blkR g 31 #[.int .u8 p, .int .u8 h1, .int .u8 h2, .int .u8 h3, .int .u8 h4, .int .u8 h5, .int .u8 h6, .int .u8 h7, .int .u16 b, .int .u64 (h : Int), .int .u64 (l : Int), .bool false, .int .i64 0, .int .i64 0, .slice na n nc], sumR (.slice na n nc) B, blkR (o + 1) 31 #[.int .u8 0, .int .u8 0, .int .u8 0, .int .u8 0, .int .u8 0, .int .u8 0, .int .u8 0, .int .u8 0, .int .u16 0, .int .u64 0, .int .u64 0, .bool false, .int .i64 0, .int .i64 0, .slice none 0 0], blkR o 48 #[.int .u8 h0, .int .u8 h1, .int .u8 h2, .int .u8 h3, .int .u8 h4, .int .u8 h5, .int .u8 h6, .int .u8 h7, .int .u16 b, .int .u64 (h : Int), .int .u64 (l : Int), .slice a n c]] from HS6.out.keep hS7.frm)
  clear hS7 HS6 z0 z1 z2 z3 z4 z5 z6 z7 z8 z9 z10 z11 z12 z13 z14 HW
  by_cases hE0 : E = 0
  · subst hE0
    have z0 := (HS7.out.blk 0 rfl).cell 0 rfl
    have z1 := (HS7.out.blk 0 rfl).cell 1 rfl
    have z2 := (HS7.out.blk 0 rfl).cell 2 rfl
    have z3 := (HS7.out.blk 0 rfl).cell 3 rfl
    have z4 := (HS7.out.blk 0 rfl).cell 4 rfl
    have z5 := (HS7.out.blk 0 rfl).cell 5 rfl
    have z6 := (HS7.out.blk 0 rfl).cell 6 rfl
    have z7 := (HS7.out.blk 0 rfl).cell 7 rfl
    have z8 := (HS7.out.blk 0 rfl).cell 8 rfl
    have z9 := (HS7.out.blk 0 rfl).cell 9 rfl
    have z10 := (HS7.out.blk 0 rfl).cell 10 rfl
    have z11 := (HS7.out.blk 0 rfl).cell 11 rfl
    have z12 := (HS7.out.blk 0 rfl).cell 12 rfl
    have z13 := (HS7.out.blk 0 rfl).cell 13 rfl
    have z14 := (HS7.out.blk 0 rfl).cell 14 rfl
    have k0 := (HS7.out.blk 2 rfl).cell 0 rfl
    have k1 := (HS7.out.blk 2 rfl).cell 1 rfl
    have k2 := (HS7.out.blk 2 rfl).cell 2 rfl
    have k3 := (HS7.out.blk 2 rfl).cell 3 rfl
    have k4 := (HS7.out.blk 2 rfl).cell 4 rfl
    have k5 := (HS7.out.blk 2 rfl).cell 5 rfl
    have k6 := (HS7.out.blk 2 rfl).cell 6 rfl
    have k7 := (HS7.out.blk 2 rfl).cell 7 rfl
    have k8 := (HS7.out.blk 2 rfl).cell 8 rfl
    have k9 := (HS7.out.blk 2 rfl).cell 9 rfl
    have k10 := (HS7.out.blk 2 rfl).cell 10 rfl
    have k11 := (HS7.out.blk 2 rfl).cell 11 rfl
    have k12 := (HS7.out.blk 2 rfl).cell 12 rfl
    have k13 := (HS7.out.blk 2 rfl).cell 13 rfl
    have k14 := (HS7.out.blk 2 rfl).cell 14 rfl
    have f0 := (HS7.out.blk 2 rfl).free 0
    have f1 := (HS7.out.blk 2 rfl).free 1
    have f2 := (HS7.out.blk 2 rfl).free 2
    have f3 := (HS7.out.blk 2 rfl).free 3
    have f4 := (HS7.out.blk 2 rfl).free 4
    have f5 := (HS7.out.blk 2 rfl).free 5
    have f6 := (HS7.out.blk 2 rfl).free 6
    have f7 := (HS7.out.blk 2 rfl).free 7
    have f8 := (HS7.out.blk 2 rfl).free 8
    have f9 := (HS7.out.blk 2 rfl).free 9
    have f10 := (HS7.out.blk 2 rfl).free 10
    have f11 := (HS7.out.blk 2 rfl).free 11
    have f12 := (HS7.out.blk 2 rfl).free 12
    have f13 := (HS7.out.blk 2 rfl).free 13
    have f14 := (HS7.out.blk 2 rfl).free 14
    go_wp2_with fail
    obtain ⟨w8, hw8⟩ : ∃ w8, w8 = (((((((((((((((w7.setCell ⟨(o + 1), 0, none⟩ (.int .u8 p)).setCell ⟨(o + 1), 1, none⟩ (.int .u8 h1)).setCell ⟨(o + 1), 2, none⟩ (.int .u8 h2)).setCell ⟨(o + 1), 3, none⟩ (.int .u8 h3)).setCell ⟨(o + 1), 4, none⟩ (.int .u8 h4)).setCell ⟨(o + 1), 5, none⟩ (.int .u8 h5)).setCell ⟨(o + 1), 6, none⟩ (.int .u8 h6)).setCell ⟨(o + 1), 7, none⟩ (.int .u8 h7)).setCell ⟨(o + 1), 8, none⟩ (.int .u16 b)).setCell ⟨(o + 1), 9, none⟩ (.int .u64 (h : Int))).setCell ⟨(o + 1), 10, none⟩ (.int .u64 (l : Int))).setCell ⟨(o + 1), 11, none⟩ (.bool false)).setCell ⟨(o + 1), 12, none⟩ (.int .i64 0)).setCell ⟨(o + 1), 13, none⟩ (.int .i64 0)).setCell ⟨(o + 1), 14, none⟩ (.slice na n nc)) := ⟨_, rfl⟩
    have HS8 := Lib.hid (show Sep [] w w8 [blkR g 31 #[.int .u8 p, .int .u8 h1, .int .u8 h2, .int .u8 h3, .int .u8 h4, .int .u8 h5, .int .u8 h6, .int .u8 h7, .int .u16 b, .int .u64 (h : Int), .int .u64 (l : Int), .bool false, .int .i64 0, .int .i64 0, .slice na n nc], sumR (.slice na n nc) B, blkR (o + 1) 31 #[.int .u8 p, .int .u8 h1, .int .u8 h2, .int .u8 h3, .int .u8 h4, .int .u8 h5, .int .u8 h6, .int .u8 h7, .int .u16 b, .int .u64 (h : Int), .int .u64 (l : Int), .bool false, .int .i64 0, .int .i64 0, .slice na n nc], blkR o 48 #[.int .u8 h0, .int .u8 h1, .int .u8 h2, .int .u8 h3, .int .u8 h4, .int .u8 h5, .int .u8 h6, .int .u8 h7, .int .u16 b, .int .u64 (h : Int), .int .u64 (l : Int), .slice a n c]] from hw8 ▸ HS7.out.puts 2 rfl [.int .u8 p, .int .u8 h1, .int .u8 h2, .int .u8 h3, .int .u8 h4, .int .u8 h5, .int .u8 h6, .int .u8 h7, .int .u16 b, .int .u64 (h : Int), .int .u64 (l : Int), .bool false, .int .i64 0, .int .i64 0, .slice na n nc] rfl)
    rw [← hw8]
    clear hw8 z0 z1 z2 z3 z4 z5 z6 z7 z8 z9 z10 z11 z12 z13 z14 k0 k1 k2 k3 k4 k5 k6 k7 k8 k9 k10 k11 k12 k13 k14 f0 f1 f2 f3 f4 f5 f6 f7 f8 f9 f10 f11 f12 f13 f14
    have z0 := (HS8.out.blk 2 rfl).cell 0 rfl
    have z1 := (HS8.out.blk 2 rfl).cell 1 rfl
    have z2 := (HS8.out.blk 2 rfl).cell 2 rfl
    have z3 := (HS8.out.blk 2 rfl).cell 3 rfl
    have z4 := (HS8.out.blk 2 rfl).cell 4 rfl
    have z5 := (HS8.out.blk 2 rfl).cell 5 rfl
    have z6 := (HS8.out.blk 2 rfl).cell 6 rfl
    have z7 := (HS8.out.blk 2 rfl).cell 7 rfl
    have z8 := (HS8.out.blk 2 rfl).cell 8 rfl
    have z9 := (HS8.out.blk 2 rfl).cell 9 rfl
    have z10 := (HS8.out.blk 2 rfl).cell 10 rfl
    have z11 := (HS8.out.blk 2 rfl).cell 11 rfl
    have z12 := (HS8.out.blk 2 rfl).cell 12 rfl
    have z13 := (HS8.out.blk 2 rfl).cell 13 rfl
    have z14 := (HS8.out.blk 2 rfl).cell 14 rfl
    refine bodyPost_ret (v := .tuple #[.agg #[.int .u8 p, .int .u8 h1, .int .u8 h2, .int .u8 h3, .int .u8 h4, .int .u8 h5, .int .u8 h6, .int .u8 h7, .int .u16 b, .int .u64 (h : Int), .int .u64 (l : Int), .bool false, .int .i64 0, .int .i64 0, .slice na n nc], .int .i64 0]) ?_ rfl ⟨na, n, nc, by rw [HY.out, if_pos trivial]; rfl, by rw [HY.out, if_pos trivial]; exact HS8.out.at_ [1] (by decide) rfl⟩
    simp [results, Tryd.results21, go_sem, z0, z1, z2, z3, z4, z5, z6, z7, z8, z9, z10, z11, z12, z13, z14]
  · have d0 : (E != 0) = true := by simp [hE0]
    have HE0 := Lib.hid hE0
    clear hE0
    have k0 := (HS7.out.blk 2 rfl).cell 0 rfl
    have k1 := (HS7.out.blk 2 rfl).cell 1 rfl
    have k2 := (HS7.out.blk 2 rfl).cell 2 rfl
    have k3 := (HS7.out.blk 2 rfl).cell 3 rfl
    have k4 := (HS7.out.blk 2 rfl).cell 4 rfl
    have k5 := (HS7.out.blk 2 rfl).cell 5 rfl
    have k6 := (HS7.out.blk 2 rfl).cell 6 rfl
    have k7 := (HS7.out.blk 2 rfl).cell 7 rfl
    have k8 := (HS7.out.blk 2 rfl).cell 8 rfl
    have k9 := (HS7.out.blk 2 rfl).cell 9 rfl
    have k10 := (HS7.out.blk 2 rfl).cell 10 rfl
    have k11 := (HS7.out.blk 2 rfl).cell 11 rfl
    have k12 := (HS7.out.blk 2 rfl).cell 12 rfl
    have k13 := (HS7.out.blk 2 rfl).cell 13 rfl
    have k14 := (HS7.out.blk 2 rfl).cell 14 rfl
    have f0 := (HS7.out.blk 2 rfl).free 0
    have f1 := (HS7.out.blk 2 rfl).free 1
    have f2 := (HS7.out.blk 2 rfl).free 2
    have f3 := (HS7.out.blk 2 rfl).free 3
    have f4 := (HS7.out.blk 2 rfl).free 4
    have f5 := (HS7.out.blk 2 rfl).free 5
    have f6 := (HS7.out.blk 2 rfl).free 6
    have f7 := (HS7.out.blk 2 rfl).free 7
    have f8 := (HS7.out.blk 2 rfl).free 8
    have f9 := (HS7.out.blk 2 rfl).free 9
    have f10 := (HS7.out.blk 2 rfl).free 10
    have f11 := (HS7.out.blk 2 rfl).free 11
    have f12 := (HS7.out.blk 2 rfl).free 12
    have f13 := (HS7.out.blk 2 rfl).free 13
    have f14 := (HS7.out.blk 2 rfl).free 14
    go_wp2_with fail
    obtain ⟨w8, hw8⟩ : ∃ w8, w8 = (((((((((((((((w7.setCell ⟨(o + 1), 0, none⟩ (.int .u8 0)).setCell ⟨(o + 1), 1, none⟩ (.int .u8 0)).setCell ⟨(o + 1), 2, none⟩ (.int .u8 0)).setCell ⟨(o + 1), 3, none⟩ (.int .u8 0)).setCell ⟨(o + 1), 4, none⟩ (.int .u8 0)).setCell ⟨(o + 1), 5, none⟩ (.int .u8 0)).setCell ⟨(o + 1), 6, none⟩ (.int .u8 0)).setCell ⟨(o + 1), 7, none⟩ (.int .u8 0)).setCell ⟨(o + 1), 8, none⟩ (.int .u16 0)).setCell ⟨(o + 1), 9, none⟩ (.int .u64 0)).setCell ⟨(o + 1), 10, none⟩ (.int .u64 0)).setCell ⟨(o + 1), 11, none⟩ (.bool false)).setCell ⟨(o + 1), 12, none⟩ (.int .i64 0)).setCell ⟨(o + 1), 13, none⟩ (.int .i64 0)).setCell ⟨(o + 1), 14, none⟩ (.slice none 0 0)) := ⟨_, rfl⟩
    have HS8 := Lib.hid (show Sep [] w w8 [blkR g 31 #[.int .u8 p, .int .u8 h1, .int .u8 h2, .int .u8 h3, .int .u8 h4, .int .u8 h5, .int .u8 h6, .int .u8 h7, .int .u16 b, .int .u64 (h : Int), .int .u64 (l : Int), .bool false, .int .i64 0, .int .i64 0, .slice na n nc], sumR (.slice na n nc) B, blkR (o + 1) 31 #[.int .u8 0, .int .u8 0, .int .u8 0, .int .u8 0, .int .u8 0, .int .u8 0, .int .u8 0, .int .u8 0, .int .u16 0, .int .u64 0, .int .u64 0, .bool false, .int .i64 0, .int .i64 0, .slice none 0 0], blkR o 48 #[.int .u8 h0, .int .u8 h1, .int .u8 h2, .int .u8 h3, .int .u8 h4, .int .u8 h5, .int .u8 h6, .int .u8 h7, .int .u16 b, .int .u64 (h : Int), .int .u64 (l : Int), .slice a n c]] from hw8 ▸ HS7.out.puts 2 rfl [.int .u8 0, .int .u8 0, .int .u8 0, .int .u8 0, .int .u8 0, .int .u8 0, .int .u8 0, .int .u8 0, .int .u16 0, .int .u64 0, .int .u64 0, .bool false, .int .i64 0, .int .i64 0, .slice none 0 0] rfl)
    rw [← hw8]
    clear hw8 k0 k1 k2 k3 k4 k5 k6 k7 k8 k9 k10 k11 k12 k13 k14 f0 f1 f2 f3 f4 f5 f6 f7 f8 f9 f10 f11 f12 f13 f14
    have z0 := (HS8.out.blk 2 rfl).cell 0 rfl
    have z1 := (HS8.out.blk 2 rfl).cell 1 rfl
    have z2 := (HS8.out.blk 2 rfl).cell 2 rfl
    have z3 := (HS8.out.blk 2 rfl).cell 3 rfl
    have z4 := (HS8.out.blk 2 rfl).cell 4 rfl
    have z5 := (HS8.out.blk 2 rfl).cell 5 rfl
    have z6 := (HS8.out.blk 2 rfl).cell 6 rfl
    have z7 := (HS8.out.blk 2 rfl).cell 7 rfl
    have z8 := (HS8.out.blk 2 rfl).cell 8 rfl
    have z9 := (HS8.out.blk 2 rfl).cell 9 rfl
    have z10 := (HS8.out.blk 2 rfl).cell 10 rfl
    have z11 := (HS8.out.blk 2 rfl).cell 11 rfl
    have z12 := (HS8.out.blk 2 rfl).cell 12 rfl
    have z13 := (HS8.out.blk 2 rfl).cell 13 rfl
    have z14 := (HS8.out.blk 2 rfl).cell 14 rfl
    refine bodyPost_ret (v := .tuple #[.agg #[.int .u8 0, .int .u8 0, .int .u8 0, .int .u8 0, .int .u8 0, .int .u8 0, .int .u8 0, .int .u8 0, .int .u16 0, .int .u64 0, .int .u64 0, .bool false, .int .i64 0, .int .i64 0, .slice none 0 0], .int .i64 E]) ?_ rfl ⟨none, 0, 0, by rw [HY.out, if_neg HE0.out]; rfl, by rw [HY.out, if_neg HE0.out]; exact (HS8.out.nil 5 1).at_ [0] (by decide) rfl⟩
    simp [results, Tryd.results21, go_sem, z0, z1, z2, z3, z4, z5, z6, z7, z8, z9, z10, z11, z12, z13, z14]
set_option maxRecDepth 100000 in
set_option maxHeartbeats 16000000 in
theorem fflat_c (x : Fx) (a : Option Addr) (c : Nat) (w : World) (hok : x.Ok) (hrd : RdI .u8 w a x.B) (hn : a = none → c = 0) (hT : Tabs w) (hl : x.B.length ≤ 1000000) :
    Calls Tryd.prog 17 #[x.val (.slice a x.B.length c)] w (FlatP w (flX x) (flE x)) := by
  have HC := Lib.hid (fun X (hX : Frm [] w X) => bclone_c a c x.B X (hrd.below hX.below) hn hl)
  have HW := Lib.hid (fun X (hX : Frm [] w X) => write_c x a c X hok (hrd.below hX.below) hn (hT.frm hX (by simp)) (show x.B.length ≤ 9223372036854775807 by omega))
  obtain ⟨E, hE⟩ : ∃ E, E = weX x := ⟨_, rfl⟩
  obtain ⟨R, hR⟩ : ∃ R, R = flE x := ⟨_, rfl⟩
  unfold flX
  rw [← hR]
  unfold flE at hR
  rw [← hE] at hR HW
  obtain ⟨O, hO⟩ : ∃ O, O = woX x := ⟨_, rfl⟩
  rw [← hO] at HW
  have HR := Lib.hid hR
  have r0 := hok.r0
  clear hR hE hO hrd hn hT hok
  obtain ⟨h0, h1, h2, h3, h4, h5, h6, h7, b, h, l, fx, L, D, B⟩ := x
  simp only [Rp.val, Rp.cells, Fx.val, Fx.cells, rpOf] at *
  obtain ⟨n, hn⟩ : ∃ n, n = B.length := ⟨_, rfl⟩
  have HNn := Lib.hid hn
  rw [← hn] at HC HW hl ⊢
  clear hn
  have e1 := and63_u r0.1 r0.2
  obtain ⟨p, hp⟩ : ∃ p, p = h0 % 64 := ⟨_, rfl⟩
  rw [← hp] at e1 ⊢
  have HE1 := Lib.hid e1
  clear hp e1
  obtain ⟨Y, hY⟩ : ∃ Y : Rp, Y = if R = 0 then ⟨p, h1, h2, h3, h4, h5, h6, h7, b, h, l, B⟩ else Rp.none := ⟨_, rfl⟩
  rw [← hY]
  have HY := Lib.hid hY
  clear hY
  have HS0 := Lib.hid (((Sep.init w).alloc #[.int .u8 h0, .int .u8 h1, .int .u8 h2, .int .u8 h3, .int .u8 h4, .int .u8 h5, .int .u8 h6, .int .u8 h7, .int .u16 b, .int .u64 (h : Int), .int .u64 (l : Int), .bool fx, .int .i64 L, .int .i64 D, .slice a n c] 31).alloc #[.int .u8 0, .int .u8 0, .int .u8 0, .int .u8 0, .int .u8 0, .int .u8 0, .int .u8 0, .int .u8 0, .int .u16 0, .int .u64 0, .int .u64 0, .slice none 0 0] 48)
  simp only [World.size_alloc] at HS0
  go_enter Tryd.func17, Tryd.ntmps17
  go_upto_region 1 with fail
  obtain ⟨w0, hw1⟩ : ∃ w1, w1 = (w.alloc (.cells #[.int .u8 h0, .int .u8 h1, .int .u8 h2, .int .u8 h3, .int .u8 h4, .int .u8 h5, .int .u8 h6, .int .u8 h7, .int .u16 b, .int .u64 (h : Int), .int .u64 (l : Int), .bool fx, .int .i64 L, .int .i64 D, .slice a n c] 31)).alloc (.cells #[.int .u8 0, .int .u8 0, .int .u8 0, .int .u8 0, .int .u8 0, .int .u8 0, .int .u8 0, .int .u8 0, .int .u16 0, .int .u64 0, .int .u64 0, .slice none 0 0] 48) := ⟨_, rfl⟩
  obtain ⟨o, ho⟩ : ∃ o, o = w.heap.size := ⟨_, rfl⟩
  rw [← hw1, ← ho] at HS0
  rw [← hw1, ← ho]
  have HO := Lib.hid ho
  clear hw1 ho
  have z0 := (HS0.out.blk 1 rfl).cell 0 rfl
  have z1 := (HS0.out.blk 1 rfl).cell 1 rfl
  have z2 := (HS0.out.blk 1 rfl).cell 2 rfl
  have z3 := (HS0.out.blk 1 rfl).cell 3 rfl
  have z4 := (HS0.out.blk 1 rfl).cell 4 rfl
  have z5 := (HS0.out.blk 1 rfl).cell 5 rfl
  have z6 := (HS0.out.blk 1 rfl).cell 6 rfl
  have z7 := (HS0.out.blk 1 rfl).cell 7 rfl
  have z8 := (HS0.out.blk 1 rfl).cell 8 rfl
  have z9 := (HS0.out.blk 1 rfl).cell 9 rfl
  have z10 := (HS0.out.blk 1 rfl).cell 10 rfl
  have z11 := (HS0.out.blk 1 rfl).cell 11 rfl
  have z12 := (HS0.out.blk 1 rfl).cell 12 rfl
  have z13 := (HS0.out.blk 1 rfl).cell 13 rfl
  have z14 := (HS0.out.blk 1 rfl).cell 14 rfl
  go_wp2_with fail
  refine (HW.out w0 HS0.out.frm).mono ?_
  rintro e w1 ⟨v7, rfl, hS7⟩
  have HS1 := Lib.hid (show Sep [] w w1 [blkR (o + 1) 48 #[.int .u8 0, .int .u8 0, .int .u8 0, .int .u8 0, .int .u8 0, .int .u8 0, .int .u8 0, .int .u8 0, .int .u16 0, .int .u64 0, .int .u64 0, .slice none 0 0], blkR o 31 #[.int .u8 h0, .int .u8 h1, .int .u8 h2, .int .u8 h3, .int .u8 h4, .int .u8 h5, .int .u8 h6, .int .u8 h7, .int .u16 b, .int .u64 (h : Int), .int .u64 (l : Int), .bool fx, .int .i64 L, .int .i64 D, .slice a n c]] from HS0.out.keep hS7.frm)
  clear hS7 HS0 z0 z1 z2 z3 z4 z5 z6 z7 z8 z9 z10 z11 z12 z13 z14 HW
  by_cases hE0 : E = 0
  · cases fx with
    | true =>
      obtain rfl : R = 30 := by rw [HR.out, if_neg (by omega), if_pos rfl]
      subst hE0
      have HE0 : Hid (¬ (30 : Int) = 0) := Lib.hid (by decide)
      have k11 := (HS1.out.blk 1 rfl).cell 11 rfl
      have k0 := (HS1.out.blk 0 rfl).cell 0 rfl
      have k1 := (HS1.out.blk 0 rfl).cell 1 rfl
      have k2 := (HS1.out.blk 0 rfl).cell 2 rfl
      have k3 := (HS1.out.blk 0 rfl).cell 3 rfl
      have k4 := (HS1.out.blk 0 rfl).cell 4 rfl
      have k5 := (HS1.out.blk 0 rfl).cell 5 rfl
      have k6 := (HS1.out.blk 0 rfl).cell 6 rfl
      have k7 := (HS1.out.blk 0 rfl).cell 7 rfl
      have k8 := (HS1.out.blk 0 rfl).cell 8 rfl
      have k9 := (HS1.out.blk 0 rfl).cell 9 rfl
      have k10 := (HS1.out.blk 0 rfl).cell 10 rfl
      have k11 := (HS1.out.blk 0 rfl).cell 11 rfl
      have f0 := (HS1.out.blk 0 rfl).free 0
      have f1 := (HS1.out.blk 0 rfl).free 1
      have f2 := (HS1.out.blk 0 rfl).free 2
      have f3 := (HS1.out.blk 0 rfl).free 3
      have f4 := (HS1.out.blk 0 rfl).free 4
      have f5 := (HS1.out.blk 0 rfl).free 5
      have f6 := (HS1.out.blk 0 rfl).free 6
      have f7 := (HS1.out.blk 0 rfl).free 7
      have f8 := (HS1.out.blk 0 rfl).free 8
      have f9 := (HS1.out.blk 0 rfl).free 9
      have f10 := (HS1.out.blk 0 rfl).free 10
      have f11 := (HS1.out.blk 0 rfl).free 11
      go_wp2_with fail
      obtain ⟨w8, hw8⟩ : ∃ w8, w8 = ((((((((((((w1.setCell ⟨(o + 1), 0, none⟩ (.int .u8 0)).setCell ⟨(o + 1), 1, none⟩ (.int .u8 0)).setCell ⟨(o + 1), 2, none⟩ (.int .u8 0)).setCell ⟨(o + 1), 3, none⟩ (.int .u8 0)).setCell ⟨(o + 1), 4, none⟩ (.int .u8 0)).setCell ⟨(o + 1), 5, none⟩ (.int .u8 0)).setCell ⟨(o + 1), 6, none⟩ (.int .u8 0)).setCell ⟨(o + 1), 7, none⟩ (.int .u8 0)).setCell ⟨(o + 1), 8, none⟩ (.int .u16 0)).setCell ⟨(o + 1), 9, none⟩ (.int .u64 0)).setCell ⟨(o + 1), 10, none⟩ (.int .u64 0)).setCell ⟨(o + 1), 11, none⟩ (.slice none 0 0)) := ⟨_, rfl⟩
      have HS8 := Lib.hid (show Sep [] w w8 [blkR (o + 1) 48 #[.int .u8 0, .int .u8 0, .int .u8 0, .int .u8 0, .int .u8 0, .int .u8 0, .int .u8 0, .int .u8 0, .int .u16 0, .int .u64 0, .int .u64 0, .slice none 0 0], blkR o 31 #[.int .u8 h0, .int .u8 h1, .int .u8 h2, .int .u8 h3, .int .u8 h4, .int .u8 h5, .int .u8 h6, .int .u8 h7, .int .u16 b, .int .u64 (h : Int), .int .u64 (l : Int), .bool true, .int .i64 L, .int .i64 D, .slice a n c]] from hw8 ▸ HS1.out.puts 0 rfl [.int .u8 0, .int .u8 0, .int .u8 0, .int .u8 0, .int .u8 0, .int .u8 0, .int .u8 0, .int .u8 0, .int .u16 0, .int .u64 0, .int .u64 0, .slice none 0 0] rfl)
      rw [← hw8]
      clear hw8 k0 k1 k2 k3 k4 k5 k6 k7 k8 k9 k10 k11 f0 f1 f2 f3 f4 f5 f6 f7 f8 f9 f10 f11
      have z0 := (HS8.out.blk 0 rfl).cell 0 rfl
      have z1 := (HS8.out.blk 0 rfl).cell 1 rfl
      have z2 := (HS8.out.blk 0 rfl).cell 2 rfl
      have z3 := (HS8.out.blk 0 rfl).cell 3 rfl
      have z4 := (HS8.out.blk 0 rfl).cell 4 rfl
      have z5 := (HS8.out.blk 0 rfl).cell 5 rfl
      have z6 := (HS8.out.blk 0 rfl).cell 6 rfl
      have z7 := (HS8.out.blk 0 rfl).cell 7 rfl
      have z8 := (HS8.out.blk 0 rfl).cell 8 rfl
      have z9 := (HS8.out.blk 0 rfl).cell 9 rfl
      have z10 := (HS8.out.blk 0 rfl).cell 10 rfl
      have z11 := (HS8.out.blk 0 rfl).cell 11 rfl
      refine bodyPost_ret (v := .tuple #[.agg #[.int .u8 0, .int .u8 0, .int .u8 0, .int .u8 0, .int .u8 0, .int .u8 0, .int .u8 0, .int .u8 0, .int .u16 0, .int .u64 0, .int .u64 0, .slice none 0 0], .int .i64 30]) ?_ rfl ⟨none, 0, 0, by rw [HY.out, if_neg HE0.out]; rfl, by rw [HY.out, if_neg HE0.out]; exact (HS8.out.nil 5 1).at_ [0] (by decide) rfl⟩
      simp [results, Tryd.results17, go_sem, z0, z1, z2, z3, z4, z5, z6, z7, z8, z9, z10, z11]
    | false =>
      obtain rfl : R = 0 := by rw [HR.out, if_neg (by omega), if_neg (by decide)]
      subst hE0
      have k11 := (HS1.out.blk 1 rfl).cell 11 rfl
      go_upto_region 6 with fail
      clear k11
      have HB := Lib.hid (show o + 1 < w1.heap.size ∧ o < w1.heap.size ∧ w.heap.size ≤ w1.heap.size from ⟨by have := (HS1.out.blk 0 rfl).lt; omega, by have := (HS1.out.blk 1 rfl).lt; omega, HS1.out.frm.size⟩)
      refine region_segsA (ty := 48) (z := #[.int .u8 0, .int .u8 0, .int .u8 0, .int .u8 0, .int .u8 0, .int .u8 0, .int .u8 0, .int .u8 0, .int .u16 0, .int .u64 0, .int .u64 0, .slice none 0 0]) [0, 1, 2, 3, 4, 5, 6, 7, 8, 9, 10, 11, 12, 13] [12] 14 [15] [0] (by kernel_rfl) (by kernel_rfl) rfl rfl rfl rfl (fun _ _ => by kernel_rfl) (by kernel_rfl) ?_
      simp only [remOf, List.filterMap_cons, List.filterMap_nil, List.getElem?_cons_zero, List.getElem?_cons_succ]
      have HS2 := Lib.hid HS1.out.drew
      obtain ⟨w2, hw2⟩ : ∃ w2, w2 = w1.drew := ⟨_, rfl⟩
      obtain ⟨B0, hB0⟩ : ∃ B0, B0 = w1.heap.size := ⟨_, rfl⟩
      rw [← hw2] at HS2
      rw [← hB0] at HB
      rw [← hw2, ← hB0]
      clear hw2 hB0
      unfold wpSegsU
      simp only [List.take_succ_cons, List.take_zero, List.drop_succ_cons, List.drop_zero]
      have n1 : Nonempty (Cls (fun v => FrB B0 [] w2 v)) := ⟨⟨_, FrB.refl _ _ _⟩⟩
      have q0 := fun x : Cls (fun v => FrB B0 [] w2 v) => (x.ok.blk (HS2.out.blk 1 rfl) (by have := HB.out; omega) (by simp)).cell 0 rfl
      have q1 := fun x : Cls (fun v => FrB B0 [] w2 v) => (x.ok.blk (HS2.out.blk 1 rfl) (by have := HB.out; omega) (by simp)).cell 1 rfl
      have q2 := fun x : Cls (fun v => FrB B0 [] w2 v) => (x.ok.blk (HS2.out.blk 1 rfl) (by have := HB.out; omega) (by simp)).cell 2 rfl
      have q3 := fun x : Cls (fun v => FrB B0 [] w2 v) => (x.ok.blk (HS2.out.blk 1 rfl) (by have := HB.out; omega) (by simp)).cell 3 rfl
      have q4 := fun x : Cls (fun v => FrB B0 [] w2 v) => (x.ok.blk (HS2.out.blk 1 rfl) (by have := HB.out; omega) (by simp)).cell 4 rfl
      have q5 := fun x : Cls (fun v => FrB B0 [] w2 v) => (x.ok.blk (HS2.out.blk 1 rfl) (by have := HB.out; omega) (by simp)).cell 5 rfl
      have q6 := fun x : Cls (fun v => FrB B0 [] w2 v) => (x.ok.blk (HS2.out.blk 1 rfl) (by have := HB.out; omega) (by simp)).cell 6 rfl
      have q7 := fun x : Cls (fun v => FrB B0 [] w2 v) => (x.ok.blk (HS2.out.blk 1 rfl) (by have := HB.out; omega) (by simp)).cell 7 rfl
      have q8 := fun x : Cls (fun v => FrB B0 [] w2 v) => (x.ok.blk (HS2.out.blk 1 rfl) (by have := HB.out; omega) (by simp)).cell 8 rfl
      have q9 := fun x : Cls (fun v => FrB B0 [] w2 v) => (x.ok.blk (HS2.out.blk 1 rfl) (by have := HB.out; omega) (by simp)).cell 9 rfl
      have q10 := fun x : Cls (fun v => FrB B0 [] w2 v) => (x.ok.blk (HS2.out.blk 1 rfl) (by have := HB.out; omega) (by simp)).cell 10 rfl
      have q14 := fun x : Cls (fun v => FrB B0 [] w2 v) => (x.ok.blk (HS2.out.blk 1 rfl) (by have := HB.out; omega) (by simp)).cell 14 rfl
      repeat (go_big_quiet_step (fail))
      refine wpQuiet_nil ?_
      intro X hX
      refine only_step (fun K' hK => ?_)
      clear q0 q1 q2 q3 q4 q5 q6 q7 q8 q9 q10 q14 n1
      go_wp2_with fail
      refine (HC.out X (HS2.out.frm.trans hX)).mono ?_
      rintro e w3 ⟨nv, rfl, hS⟩
      obtain ⟨na, nc, rfl, hnl, hnn⟩ := own_shape (hS.own 0 rfl)
      have HS3 := Lib.hid (show Sep [] w w3 [sumR (.slice na n nc) B, blkR (o + 1) 48 #[.int .u8 0, .int .u8 0, .int .u8 0, .int .u8 0, .int .u8 0, .int .u8 0, .int .u8 0, .int .u8 0, .int .u16 0, .int .u64 0, .int .u64 0, .slice none 0 0], blkR o 31 #[.int .u8 h0, .int .u8 h1, .int .u8 h2, .int .u8 h3, .int .u8 h4, .int .u8 h5, .int .u8 h6, .int .u8 h7, .int .u16 b, .int .u64 (h : Int), .int .u64 (l : Int), .bool false, .int .i64 L, .int .i64 D, .slice a n c]] from by have h := (HS2.out.keep hX).more hS; rw [← HNn.out] at h; exact h)
      have HNn2 := Lib.hid hnn
      rw [← HNn.out]
      go_wp2_with fail
      refine hK.out _ _ ⟨hS.frm, ?_⟩
      clear hK hS hX hnl hnn HS2
      unfold wpSegsU
      have n1 : Nonempty (Cls (fun v => FrB B0 [] w3 v)) := ⟨⟨_, FrB.refl _ _ _⟩⟩
      show wpQuiet _ _ _ _ [_] _
      repeat (go_big_quiet_step (fail))
      refine wpQuiet_nil ?_
      intro X hX g hb hg
      clear n1
      have HS4 := Lib.hid (show Sep [] w X [blkR g 48 #[.int .u8 0, .int .u8 0, .int .u8 0, .int .u8 0, .int .u8 0, .int .u8 0, .int .u8 0, .int .u8 0, .int .u16 0, .int .u64 0, .int .u64 0, .slice none 0 0], sumR (.slice na n nc) B, blkR (o + 1) 48 #[.int .u8 0, .int .u8 0, .int .u8 0, .int .u8 0, .int .u8 0, .int .u8 0, .int .u8 0, .int .u8 0, .int .u16 0, .int .u64 0, .int .u64 0, .slice none 0 0], blkR o 31 #[.int .u8 h0, .int .u8 h1, .int .u8 h2, .int .u8 h3, .int .u8 h4, .int .u8 h5, .int .u8 h6, .int .u8 h7, .int .u16 b, .int .u64 (h : Int), .int .u64 (l : Int), .bool false, .int .i64 L, .int .i64 D, .slice a n c]] from (HS3.out.keep hX).adopt hb (by have := HB.out; omega) (by
        intro r hr
        rcases List.mem_cons.1 hr with rfl | hr
        · exact far_own hb ((HS3.out.keep hX).own 0 rfl) (by decide)
        · rcases List.mem_cons.1 hr with rfl | hr
          · simp [blkR]; have := HB.out; omega
          · rcases List.mem_cons.1 hr with rfl | hr
            · simp [blkR]; have := HB.out; omega
            · cases hr))
      clear HS3 hX
      unfold wpSegsR
      simp only [List.take_succ_cons, List.take_zero, List.drop_succ_cons, List.drop_zero]
      refine wpQuiet_nil ?_
      refine only_step (fun K' hK => ?_)
      have hz := HS4.out.blk 0 rfl
      have z0 := hz.cell 0 rfl
      have z1 := hz.cell 1 rfl
      have z2 := hz.cell 2 rfl
      have z3 := hz.cell 3 rfl
      have z4 := hz.cell 4 rfl
      have z5 := hz.cell 5 rfl
      have z6 := hz.cell 6 rfl
      have z7 := hz.cell 7 rfl
      have z8 := hz.cell 8 rfl
      have z9 := hz.cell 9 rfl
      have z10 := hz.cell 10 rfl
      have z11 := hz.cell 11 rfl
      have f0 := hz.free 0
      have f1 := hz.free 1
      have f2 := hz.free 2
      have f3 := hz.free 3
      have f4 := hz.free 4
      have f5 := hz.free 5
      have f6 := hz.free 6
      have f7 := hz.free 7
      have f8 := hz.free 8
      have f9 := hz.free 9
      have f10 := hz.free 10
      have f11 := hz.free 11
      go_wp2_with fail
      obtain ⟨w5, hw4⟩ : ∃ w4, w4 = ((((((((((((X.setCell ⟨g, 0, none⟩ (.int .u8 h0)).setCell ⟨g, 1, none⟩ (.int .u8 h1)).setCell ⟨g, 2, none⟩ (.int .u8 h2)).setCell ⟨g, 3, none⟩ (.int .u8 h3)).setCell ⟨g, 4, none⟩ (.int .u8 h4)).setCell ⟨g, 5, none⟩ (.int .u8 h5)).setCell ⟨g, 6, none⟩ (.int .u8 h6)).setCell ⟨g, 7, none⟩ (.int .u8 h7)).setCell ⟨g, 8, none⟩ (.int .u16 b)).setCell ⟨g, 9, none⟩ (.int .u64 (h : Int))).setCell ⟨g, 10, none⟩ (.int .u64 (l : Int))).setCell ⟨g, 11, none⟩ (.slice na n nc)) := ⟨_, rfl⟩
      have HS5 := Lib.hid (show Sep [] w w5 [blkR g 48 #[.int .u8 h0, .int .u8 h1, .int .u8 h2, .int .u8 h3, .int .u8 h4, .int .u8 h5, .int .u8 h6, .int .u8 h7, .int .u16 b, .int .u64 (h : Int), .int .u64 (l : Int), .slice na n nc], sumR (.slice na n nc) B, blkR (o + 1) 48 #[.int .u8 0, .int .u8 0, .int .u8 0, .int .u8 0, .int .u8 0, .int .u8 0, .int .u8 0, .int .u8 0, .int .u16 0, .int .u64 0, .int .u64 0, .slice none 0 0], blkR o 31 #[.int .u8 h0, .int .u8 h1, .int .u8 h2, .int .u8 h3, .int .u8 h4, .int .u8 h5, .int .u8 h6, .int .u8 h7, .int .u16 b, .int .u64 (h : Int), .int .u64 (l : Int), .bool false, .int .i64 L, .int .i64 D, .slice a n c]] from hw4 ▸ HS4.out.puts 0 rfl [.int .u8 h0, .int .u8 h1, .int .u8 h2, .int .u8 h3, .int .u8 h4, .int .u8 h5, .int .u8 h6, .int .u8 h7, .int .u16 b, .int .u64 (h : Int), .int .u64 (l : Int), .slice na n nc] rfl)
      have hfr : FrB B0 [] X w5 := hw4 ▸ frb_putAll g hg [.int .u8 h0, .int .u8 h1, .int .u8 h2, .int .u8 h3, .int .u8 h4, .int .u8 h5, .int .u8 h6, .int .u8 h7, .int .u16 b, .int .u64 (h : Int), .int .u64 (l : Int), .slice na n nc] 0 X
      rw [← hw4]
      refine hK.out _ _ ⟨hfr, ?_⟩
      clear hw4 hK HS4 hz z0 z1 z2 z3 z4 z5 z6 z7 z8 z9 z10 z11 f0 f1 f2 f3 f4 f5 f6 f7 f8 f9 f10 f11 hfr hb
      unfold wpSegsR
      refine wpQuiet_nil ?_
      refine NoPanic.normal ?_
      have z0 := (HS5.out.blk 0 rfl).cell 0 rfl
      have f0 := (HS5.out.blk 0 rfl).free 0
      have e1 := HE1.out
      go_upto_region 8 with fail
      obtain ⟨w6, hw6⟩ : ∃ w6, w6 = w5.setCell ⟨g, 0, none⟩ (.int .u8 p) := ⟨_, rfl⟩
      have HS6 := Lib.hid (show Sep [] w w6 [blkR g 48 #[.int .u8 p, .int .u8 h1, .int .u8 h2, .int .u8 h3, .int .u8 h4, .int .u8 h5, .int .u8 h6, .int .u8 h7, .int .u16 b, .int .u64 (h : Int), .int .u64 (l : Int), .slice na n nc], sumR (.slice na n nc) B, blkR (o + 1) 48 #[.int .u8 0, .int .u8 0, .int .u8 0, .int .u8 0, .int .u8 0, .int .u8 0, .int .u8 0, .int .u8 0, .int .u16 0, .int .u64 0, .int .u64 0, .slice none 0 0], blkR o 31 #[.int .u8 h0, .int .u8 h1, .int .u8 h2, .int .u8 h3, .int .u8 h4, .int .u8 h5, .int .u8 h6, .int .u8 h7, .int .u16 b, .int .u64 (h : Int), .int .u64 (l : Int), .bool false, .int .i64 L, .int .i64 D, .slice a n c]] from hw6 ▸ HS5.out.put 0 rfl 0 (.int .u8 p))
      rw [← hw6]
      clear hw6 z0 f0 e1 HS5
      have z0 := (HS6.out.blk 0 rfl).cell 0 rfl
      have z1 := (HS6.out.blk 0 rfl).cell 1 rfl
      have z2 := (HS6.out.blk 0 rfl).cell 2 rfl
      have z3 := (HS6.out.blk 0 rfl).cell 3 rfl
      have z4 := (HS6.out.blk 0 rfl).cell 4 rfl
      have z5 := (HS6.out.blk 0 rfl).cell 5 rfl
      have z6 := (HS6.out.blk 0 rfl).cell 6 rfl
      have z7 := (HS6.out.blk 0 rfl).cell 7 rfl
      have z8 := (HS6.out.blk 0 rfl).cell 8 rfl
      have z9 := (HS6.out.blk 0 rfl).cell 9 rfl
      have z10 := (HS6.out.blk 0 rfl).cell 10 rfl
      have z11 := (HS6.out.blk 0 rfl).cell 11 rfl
      have k0 := (HS6.out.blk 2 rfl).cell 0 rfl
      have k1 := (HS6.out.blk 2 rfl).cell 1 rfl
      have k2 := (HS6.out.blk 2 rfl).cell 2 rfl
      have k3 := (HS6.out.blk 2 rfl).cell 3 rfl
      have k4 := (HS6.out.blk 2 rfl).cell 4 rfl
      have k5 := (HS6.out.blk 2 rfl).cell 5 rfl
      have k6 := (HS6.out.blk 2 rfl).cell 6 rfl
      have k7 := (HS6.out.blk 2 rfl).cell 7 rfl
      have k8 := (HS6.out.blk 2 rfl).cell 8 rfl
      have k9 := (HS6.out.blk 2 rfl).cell 9 rfl
      have k10 := (HS6.out.blk 2 rfl).cell 10 rfl
      have k11 := (HS6.out.blk 2 rfl).cell 11 rfl
      have f0 := (HS6.out.blk 2 rfl).free 0
      have f1 := (HS6.out.blk 2 rfl).free 1
      have f2 := (HS6.out.blk 2 rfl).free 2
      have f3 := (HS6.out.blk 2 rfl).free 3
      have f4 := (HS6.out.blk 2 rfl).free 4
      have f5 := (HS6.out.blk 2 rfl).free 5
      have f6 := (HS6.out.blk 2 rfl).free 6
      have f7 := (HS6.out.blk 2 rfl).free 7
      have f8 := (HS6.out.blk 2 rfl).free 8
      have f9 := (HS6.out.blk 2 rfl).free 9
      have f10 := (HS6.out.blk 2 rfl).free 10
      have f11 := (HS6.out.blk 2 rfl).free 11
      go_wp2_with fail
      obtain ⟨w8, hw8⟩ : ∃ w8, w8 = ((((((((((((w6.setCell ⟨(o + 1), 0, none⟩ (.int .u8 p)).setCell ⟨(o + 1), 1, none⟩ (.int .u8 h1)).setCell ⟨(o + 1), 2, none⟩ (.int .u8 h2)).setCell ⟨(o + 1), 3, none⟩ (.int .u8 h3)).setCell ⟨(o + 1), 4, none⟩ (.int .u8 h4)).setCell ⟨(o + 1), 5, none⟩ (.int .u8 h5)).setCell ⟨(o + 1), 6, none⟩ (.int .u8 h6)).setCell ⟨(o + 1), 7, none⟩ (.int .u8 h7)).setCell ⟨(o + 1), 8, none⟩ (.int .u16 b)).setCell ⟨(o + 1), 9, none⟩ (.int .u64 (h : Int))).setCell ⟨(o + 1), 10, none⟩ (.int .u64 (l : Int))).setCell ⟨(o + 1), 11, none⟩ (.slice na n nc)) := ⟨_, rfl⟩
      have HS8 := Lib.hid (show Sep [] w w8 [blkR g 48 #[.int .u8 p, .int .u8 h1, .int .u8 h2, .int .u8 h3, .int .u8 h4, .int .u8 h5, .int .u8 h6, .int .u8 h7, .int .u16 b, .int .u64 (h : Int), .int .u64 (l : Int), .slice na n nc], sumR (.slice na n nc) B, blkR (o + 1) 48 #[.int .u8 p, .int .u8 h1, .int .u8 h2, .int .u8 h3, .int .u8 h4, .int .u8 h5, .int .u8 h6, .int .u8 h7, .int .u16 b, .int .u64 (h : Int), .int .u64 (l : Int), .slice na n nc], blkR o 31 #[.int .u8 h0, .int .u8 h1, .int .u8 h2, .int .u8 h3, .int .u8 h4, .int .u8 h5, .int .u8 h6, .int .u8 h7, .int .u16 b, .int .u64 (h : Int), .int .u64 (l : Int), .bool false, .int .i64 L, .int .i64 D, .slice a n c]] from hw8 ▸ HS6.out.puts 2 rfl [.int .u8 p, .int .u8 h1, .int .u8 h2, .int .u8 h3, .int .u8 h4, .int .u8 h5, .int .u8 h6, .int .u8 h7, .int .u16 b, .int .u64 (h : Int), .int .u64 (l : Int), .slice na n nc] rfl)
      rw [← hw8]
      clear hw8 z0 z1 z2 z3 z4 z5 z6 z7 z8 z9 z10 z11 k0 k1 k2 k3 k4 k5 k6 k7 k8 k9 k10 k11 f0 f1 f2 f3 f4 f5 f6 f7 f8 f9 f10 f11
      have z0 := (HS8.out.blk 2 rfl).cell 0 rfl
      have z1 := (HS8.out.blk 2 rfl).cell 1 rfl
      have z2 := (HS8.out.blk 2 rfl).cell 2 rfl
      have z3 := (HS8.out.blk 2 rfl).cell 3 rfl
      have z4 := (HS8.out.blk 2 rfl).cell 4 rfl
      have z5 := (HS8.out.blk 2 rfl).cell 5 rfl
      have z6 := (HS8.out.blk 2 rfl).cell 6 rfl
      have z7 := (HS8.out.blk 2 rfl).cell 7 rfl
      have z8 := (HS8.out.blk 2 rfl).cell 8 rfl
      have z9 := (HS8.out.blk 2 rfl).cell 9 rfl
      have z10 := (HS8.out.blk 2 rfl).cell 10 rfl
      have z11 := (HS8.out.blk 2 rfl).cell 11 rfl
      refine bodyPost_ret (v := .tuple #[.agg #[.int .u8 p, .int .u8 h1, .int .u8 h2, .int .u8 h3, .int .u8 h4, .int .u8 h5, .int .u8 h6, .int .u8 h7, .int .u16 b, .int .u64 (h : Int), .int .u64 (l : Int), .slice na n nc], .int .i64 0]) ?_ rfl ⟨na, n, nc, by rw [HY.out, if_pos trivial]; rfl, by rw [HY.out, if_pos trivial]; exact HS8.out.at_ [1] (by decide) rfl⟩
      simp [results, Tryd.results17, go_sem, z0, z1, z2, z3, z4, z5, z6, z7, z8, z9, z10, z11]
  · obtain rfl : R = E := by rw [HR.out, if_pos hE0]
    have d0 : (R != 0) = true := by simp [hE0]
    have HE0 := Lib.hid hE0
    clear hE0
    have k0 := (HS1.out.blk 0 rfl).cell 0 rfl
    have k1 := (HS1.out.blk 0 rfl).cell 1 rfl
    have k2 := (HS1.out.blk 0 rfl).cell 2 rfl
    have k3 := (HS1.out.blk 0 rfl).cell 3 rfl
    have k4 := (HS1.out.blk 0 rfl).cell 4 rfl
    have k5 := (HS1.out.blk 0 rfl).cell 5 rfl
    have k6 := (HS1.out.blk 0 rfl).cell 6 rfl
    have k7 := (HS1.out.blk 0 rfl).cell 7 rfl
    have k8 := (HS1.out.blk 0 rfl).cell 8 rfl
    have k9 := (HS1.out.blk 0 rfl).cell 9 rfl
    have k10 := (HS1.out.blk 0 rfl).cell 10 rfl
    have k11 := (HS1.out.blk 0 rfl).cell 11 rfl
    have f0 := (HS1.out.blk 0 rfl).free 0
    have f1 := (HS1.out.blk 0 rfl).free 1
    have f2 := (HS1.out.blk 0 rfl).free 2
    have f3 := (HS1.out.blk 0 rfl).free 3
    have f4 := (HS1.out.blk 0 rfl).free 4
    have f5 := (HS1.out.blk 0 rfl).free 5
    have f6 := (HS1.out.blk 0 rfl).free 6
    have f7 := (HS1.out.blk 0 rfl).free 7
    have f8 := (HS1.out.blk 0 rfl).free 8
    have f9 := (HS1.out.blk 0 rfl).free 9
    have f10 := (HS1.out.blk 0 rfl).free 10
    have f11 := (HS1.out.blk 0 rfl).free 11
    go_wp2_with fail
    obtain ⟨w8, hw8⟩ : ∃ w8, w8 = ((((((((((((w1.setCell ⟨(o + 1), 0, none⟩ (.int .u8 0)).setCell ⟨(o + 1), 1, none⟩ (.int .u8 0)).setCell ⟨(o + 1), 2, none⟩ (.int .u8 0)).setCell ⟨(o + 1), 3, none⟩ (.int .u8 0)).setCell ⟨(o + 1), 4, none⟩ (.int .u8 0)).setCell ⟨(o + 1), 5, none⟩ (.int .u8 0)).setCell ⟨(o + 1), 6, none⟩ (.int .u8 0)).setCell ⟨(o + 1), 7, none⟩ (.int .u8 0)).setCell ⟨(o + 1), 8, none⟩ (.int .u16 0)).setCell ⟨(o + 1), 9, none⟩ (.int .u64 0)).setCell ⟨(o + 1), 10, none⟩ (.int .u64 0)).setCell ⟨(o + 1), 11, none⟩ (.slice none 0 0)) := ⟨_, rfl⟩
    have HS8 := Lib.hid (show Sep [] w w8 [blkR (o + 1) 48 #[.int .u8 0, .int .u8 0, .int .u8 0, .int .u8 0, .int .u8 0, .int .u8 0, .int .u8 0, .int .u8 0, .int .u16 0, .int .u64 0, .int .u64 0, .slice none 0 0], blkR o 31 #[.int .u8 h0, .int .u8 h1, .int .u8 h2, .int .u8 h3, .int .u8 h4, .int .u8 h5, .int .u8 h6, .int .u8 h7, .int .u16 b, .int .u64 (h : Int), .int .u64 (l : Int), .bool fx, .int .i64 L, .int .i64 D, .slice a n c]] from hw8 ▸ HS1.out.puts 0 rfl [.int .u8 0, .int .u8 0, .int .u8 0, .int .u8 0, .int .u8 0, .int .u8 0, .int .u8 0, .int .u8 0, .int .u16 0, .int .u64 0, .int .u64 0, .slice none 0 0] rfl)
    rw [← hw8]
    clear hw8 k0 k1 k2 k3 k4 k5 k6 k7 k8 k9 k10 k11 f0 f1 f2 f3 f4 f5 f6 f7 f8 f9 f10 f11
    have z0 := (HS8.out.blk 0 rfl).cell 0 rfl
    have z1 := (HS8.out.blk 0 rfl).cell 1 rfl
    have z2 := (HS8.out.blk 0 rfl).cell 2 rfl
    have z3 := (HS8.out.blk 0 rfl).cell 3 rfl
    have z4 := (HS8.out.blk 0 rfl).cell 4 rfl
    have z5 := (HS8.out.blk 0 rfl).cell 5 rfl
    have z6 := (HS8.out.blk 0 rfl).cell 6 rfl
    have z7 := (HS8.out.blk 0 rfl).cell 7 rfl
    have z8 := (HS8.out.blk 0 rfl).cell 8 rfl
    have z9 := (HS8.out.blk 0 rfl).cell 9 rfl
    have z10 := (HS8.out.blk 0 rfl).cell 10 rfl
    have z11 := (HS8.out.blk 0 rfl).cell 11 rfl
    refine bodyPost_ret (v := .tuple #[.agg #[.int .u8 0, .int .u8 0, .int .u8 0, .int .u8 0, .int .u8 0, .int .u8 0, .int .u8 0, .int .u8 0, .int .u16 0, .int .u64 0, .int .u64 0, .slice none 0 0], .int .i64 R]) ?_ rfl ⟨none, 0, 0, by rw [HY.out, if_neg HE0.out]; rfl, by rw [HY.out, if_neg HE0.out]; exact (HS8.out.nil 5 1).at_ [0] (by decide) rfl⟩
    simp [results, Tryd.results17, go_sem, z0, z1, z2, z3, z4, z5, z6, z7, z8, z9, z10, z11]

end Go.Proofs.YtnloabpdjedanaaDoor
