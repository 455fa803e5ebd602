/-
  THE WALKS of confluxref10.Flat, confluxref10.Of. Printed by gen_fxl.py.
-/
import Derived.Test.YtnloabpdjedanaaDoorFxK
set_option linter.unusedVariables false
set_option linter.unusedSimpArgs false
namespace Go.Proofs.YtnloabpdjedanaaDoor
open Go.RowKit

/-- What the reference's Flat gives: the body is the argument's. -/
def RFlatP (W : World) (X : Rp) (e : Int) (x : Ending) (W' : World) : Prop :=
  ∃ va vc, x = .returned (.tuple #[X.val (.slice va X.B.length vc), .int .i64 e]) ∧ RdI .u8 W' va X.B ∧ (va = none → vc = 0) ∧ Frm [] W W'
def ROfP (W : World) (X : Fx) (e : Int) (x : Ending) (W' : World) : Prop :=
  ∃ va vc, x = .returned (.tuple #[X.val (.slice va X.B.length vc), .int .i64 e]) ∧ RdI .u8 W' va X.B ∧ (va = none → vc = 0) ∧ Frm [] W W'
theorem rdI_nil (k : IntKind) (w : World) (a : Option Addr) : RdI k w a [] := fun i x hx => by simp at hx
theorem tmod64 {v : Int} (h0 : 0 ≤ v) : Int.tmod v 64 = v % 64 := Int.tmod_eq_emod_of_nonneg h0
set_option maxRecDepth 100000 in
set_option maxHeartbeats 16000000 in
theorem rflat_c (x : Fx) (a : Option Addr) (c : Nat) (w : World) (hok : x.Ok) (hrd : RdI .u8 w a x.B) (hn : a = none → c = 0) (hl : x.B.length ≤ 1000000) :
    Calls Tryd.prog 18 #[x.val (.slice a x.B.length c)] w (RFlatP w (flX x) (flE x)) := by
  have HW := Lib.hid (fun X (hX : Frm [] w X) => rwrite_c x a c X hok (hrd.below hX.below) hn (show x.B.length ≤ 9223372036854775807 by omega))
  have HRd := Lib.hid (fun X (hX : Frm [] w X) => hrd.below (w' := X) hX.below)
  have HN := Lib.hid hn
  obtain ⟨E, hE⟩ : ∃ E, E = weX x := ⟨_, rfl⟩
  obtain ⟨R, hR⟩ : ∃ R, R = flE x := ⟨_, rfl⟩
  unfold flX
  rw [← hR]
  unfold flE at hR
  rw [← hE] at hR HW
  obtain ⟨O, hO⟩ : ∃ O, O = woX x := ⟨_, rfl⟩
  rw [← hO] at HW
  have HR := Lib.hid hR
  have r0 := hok.r0
  clear hR hE hO hrd hn hok
  obtain ⟨h0, h1, h2, h3, h4, h5, h6, h7, b, h, l, fx, L, D, B⟩ := x
  simp only [Rp.val, Rp.cells, Fx.val, Fx.cells, rpOf] at *
  obtain ⟨n, hn⟩ : ∃ n, n = B.length := ⟨_, rfl⟩
  have HNn := Lib.hid hn
  rw [← hn] at HW hl ⊢
  clear hn
  have e1 : Int.tmod h0 64 = h0 % 64 := tmod64 r0.1
  obtain ⟨p, hp⟩ : ∃ p, p = h0 % 64 := ⟨_, rfl⟩
  have p0 : 0 ≤ p ∧ p ≤ 63 := by omega
  rw [← hp] at e1 ⊢
  have HE1 := Lib.hid e1
  clear hp e1
  obtain ⟨Y, hY⟩ : ∃ Y : Rp, Y = if R = 0 then ⟨p, h1, h2, h3, h4, h5, h6, h7, b, h, l, B⟩ else Rp.none := ⟨_, rfl⟩
  rw [← hY]
  have HY := Lib.hid hY
  clear hY
  have HS0 := Lib.hid (((Sep.init w).alloc #[.int .u8 h0, .int .u8 h1, .int .u8 h2, .int .u8 h3, .int .u8 h4, .int .u8 h5, .int .u8 h6, .int .u8 h7, .int .u16 b, .int .u64 (h : Int), .int .u64 (l : Int), .bool fx, .int .i64 L, .int .i64 D, .slice a n c] 36).alloc #[.int .u8 0, .int .u8 0, .int .u8 0, .int .u8 0, .int .u8 0, .int .u8 0, .int .u8 0, .int .u8 0, .int .u16 0, .int .u64 0, .int .u64 0, .slice none 0 0] 48)
  simp only [World.size_alloc] at HS0
  go_enter Tryd.func18, Tryd.ntmps18
  go_upto_region 1 with fail
  obtain ⟨w0, hw1⟩ : ∃ w1, w1 = (w.alloc (.cells #[.int .u8 h0, .int .u8 h1, .int .u8 h2, .int .u8 h3, .int .u8 h4, .int .u8 h5, .int .u8 h6, .int .u8 h7, .int .u16 b, .int .u64 (h : Int), .int .u64 (l : Int), .bool fx, .int .i64 L, .int .i64 D, .slice a n c] 36)).alloc (.cells #[.int .u8 0, .int .u8 0, .int .u8 0, .int .u8 0, .int .u8 0, .int .u8 0, .int .u8 0, .int .u8 0, .int .u16 0, .int .u64 0, .int .u64 0, .slice none 0 0] 48) := ⟨_, rfl⟩
  obtain ⟨o, ho⟩ : ∃ o, o = w.heap.size := ⟨_, rfl⟩
  rw [← hw1, ← ho] at HS0
  rw [← hw1, ← ho]
  have HO := Lib.hid ho
  clear hw1 ho
  have z0 := (HS0.out.blk 1 rfl).cell 0 rfl
  have z1 := (HS0.out.blk 1 rfl).cell 1 rfl
  have z2 := (HS0.out.blk 1 rfl).cell 2 rfl
  have z3 := (HS0.out.blk 1 rfl).cell 3 rfl
  have z4 := (HS0.out.blk 1 rfl).cell 4 rfl
  have z5 := (HS0.out.blk 1 rfl).cell 5 rfl
  have z6 := (HS0.out.blk 1 rfl).cell 6 rfl
  have z7 := (HS0.out.blk 1 rfl).cell 7 rfl
  have z8 := (HS0.out.blk 1 rfl).cell 8 rfl
  have z9 := (HS0.out.blk 1 rfl).cell 9 rfl
  have z10 := (HS0.out.blk 1 rfl).cell 10 rfl
  have z11 := (HS0.out.blk 1 rfl).cell 11 rfl
  have z12 := (HS0.out.blk 1 rfl).cell 12 rfl
  have z13 := (HS0.out.blk 1 rfl).cell 13 rfl
  have z14 := (HS0.out.blk 1 rfl).cell 14 rfl
  go_wp2_with fail
  refine (HW.out w0 HS0.out.frm).mono ?_
  rintro e w1 ⟨v7, rfl, hS7⟩
  have HS1 := Lib.hid (show Sep [] w w1 [blkR (o + 1) 48 #[.int .u8 0, .int .u8 0, .int .u8 0, .int .u8 0, .int .u8 0, .int .u8 0, .int .u8 0, .int .u8 0, .int .u16 0, .int .u64 0, .int .u64 0, .slice none 0 0], blkR o 36 #[.int .u8 h0, .int .u8 h1, .int .u8 h2, .int .u8 h3, .int .u8 h4, .int .u8 h5, .int .u8 h6, .int .u8 h7, .int .u16 b, .int .u64 (h : Int), .int .u64 (l : Int), .bool fx, .int .i64 L, .int .i64 D, .slice a n c]] from HS0.out.keep hS7.frm)
  clear hS7 HS0 z0 z1 z2 z3 z4 z5 z6 z7 z8 z9 z10 z11 z12 z13 z14 HW
  by_cases hE0 : E = 0
  · cases fx with
    | true =>
      obtain rfl : R = 30 := by rw [HR.out, if_neg (by omega), if_pos rfl]
      subst hE0
      have HE0 : Hid (¬ (30 : Int) = 0) := Lib.hid (by decide)
      have k11 := (HS1.out.blk 1 rfl).cell 11 rfl
      have k0 := (HS1.out.blk 0 rfl).cell 0 rfl
      have k1 := (HS1.out.blk 0 rfl).cell 1 rfl
      have k2 := (HS1.out.blk 0 rfl).cell 2 rfl
      have k3 := (HS1.out.blk 0 rfl).cell 3 rfl
      have k4 := (HS1.out.blk 0 rfl).cell 4 rfl
      have k5 := (HS1.out.blk 0 rfl).cell 5 rfl
      have k6 := (HS1.out.blk 0 rfl).cell 6 rfl
      have k7 := (HS1.out.blk 0 rfl).cell 7 rfl
      have k8 := (HS1.out.blk 0 rfl).cell 8 rfl
      have k9 := (HS1.out.blk 0 rfl).cell 9 rfl
      have k10 := (HS1.out.blk 0 rfl).cell 10 rfl
      have k11 := (HS1.out.blk 0 rfl).cell 11 rfl
      have f0 := (HS1.out.blk 0 rfl).free 0
      have f1 := (HS1.out.blk 0 rfl).free 1
      have f2 := (HS1.out.blk 0 rfl).free 2
      have f3 := (HS1.out.blk 0 rfl).free 3
      have f4 := (HS1.out.blk 0 rfl).free 4
      have f5 := (HS1.out.blk 0 rfl).free 5
      have f6 := (HS1.out.blk 0 rfl).free 6
      have f7 := (HS1.out.blk 0 rfl).free 7
      have f8 := (HS1.out.blk 0 rfl).free 8
      have f9 := (HS1.out.blk 0 rfl).free 9
      have f10 := (HS1.out.blk 0 rfl).free 10
      have f11 := (HS1.out.blk 0 rfl).free 11
      go_wp2_with fail
      obtain ⟨w8, hw8⟩ : ∃ w8, w8 = ((((((((((((w1.setCell ⟨(o + 1), 0, none⟩ (.int .u8 0)).setCell ⟨(o + 1), 1, none⟩ (.int .u8 0)).setCell ⟨(o + 1), 2, none⟩ (.int .u8 0)).setCell ⟨(o + 1), 3, none⟩ (.int .u8 0)).setCell ⟨(o + 1), 4, none⟩ (.int .u8 0)).setCell ⟨(o + 1), 5, none⟩ (.int .u8 0)).setCell ⟨(o + 1), 6, none⟩ (.int .u8 0)).setCell ⟨(o + 1), 7, none⟩ (.int .u8 0)).setCell ⟨(o + 1), 8, none⟩ (.int .u16 0)).setCell ⟨(o + 1), 9, none⟩ (.int .u64 0)).setCell ⟨(o + 1), 10, none⟩ (.int .u64 0)).setCell ⟨(o + 1), 11, none⟩ (.slice none 0 0)) := ⟨_, rfl⟩
      have HS8 := Lib.hid (show Sep [] w w8 [blkR (o + 1) 48 #[.int .u8 0, .int .u8 0, .int .u8 0, .int .u8 0, .int .u8 0, .int .u8 0, .int .u8 0, .int .u8 0, .int .u16 0, .int .u64 0, .int .u64 0, .slice none 0 0], blkR o 36 #[.int .u8 h0, .int .u8 h1, .int .u8 h2, .int .u8 h3, .int .u8 h4, .int .u8 h5, .int .u8 h6, .int .u8 h7, .int .u16 b, .int .u64 (h : Int), .int .u64 (l : Int), .bool true, .int .i64 L, .int .i64 D, .slice a n c]] from hw8 ▸ HS1.out.puts 0 rfl [.int .u8 0, .int .u8 0, .int .u8 0, .int .u8 0, .int .u8 0, .int .u8 0, .int .u8 0, .int .u8 0, .int .u16 0, .int .u64 0, .int .u64 0, .slice none 0 0] rfl)
      rw [← hw8]
      clear hw8 k0 k1 k2 k3 k4 k5 k6 k7 k8 k9 k10 k11 f0 f1 f2 f3 f4 f5 f6 f7 f8 f9 f10 f11
      have z0 := (HS8.out.blk 0 rfl).cell 0 rfl
      have z1 := (HS8.out.blk 0 rfl).cell 1 rfl
      have z2 := (HS8.out.blk 0 rfl).cell 2 rfl
      have z3 := (HS8.out.blk 0 rfl).cell 3 rfl
      have z4 := (HS8.out.blk 0 rfl).cell 4 rfl
      have z5 := (HS8.out.blk 0 rfl).cell 5 rfl
      have z6 := (HS8.out.blk 0 rfl).cell 6 rfl
      have z7 := (HS8.out.blk 0 rfl).cell 7 rfl
      have z8 := (HS8.out.blk 0 rfl).cell 8 rfl
      have z9 := (HS8.out.blk 0 rfl).cell 9 rfl
      have z10 := (HS8.out.blk 0 rfl).cell 10 rfl
      have z11 := (HS8.out.blk 0 rfl).cell 11 rfl
      have hYn : Y = Rp.none := HY.out.trans (if_neg HE0.out)
      clear HY
      subst hYn
      refine bodyPost_ret (v := .tuple #[.agg #[.int .u8 0, .int .u8 0, .int .u8 0, .int .u8 0, .int .u8 0, .int .u8 0, .int .u8 0, .int .u8 0, .int .u16 0, .int .u64 0, .int .u64 0, .slice none 0 0], .int .i64 30]) ?_ rfl ⟨none, 0, rfl, rdI_nil _ _ _, fun _ => rfl, HS8.out.frm⟩
      simp [results, Tryd.results18, go_sem, z0, z1, z2, z3, z4, z5, z6, z7, z8, z9, z10, z11]
    | false =>
      obtain rfl : R = 0 := by rw [HR.out, if_neg (by omega), if_neg (by decide)]
      subst hE0
      have k0 := (HS1.out.blk 1 rfl).cell 0 rfl
      have k1 := (HS1.out.blk 1 rfl).cell 1 rfl
      have k2 := (HS1.out.blk 1 rfl).cell 2 rfl
      have k3 := (HS1.out.blk 1 rfl).cell 3 rfl
      have k4 := (HS1.out.blk 1 rfl).cell 4 rfl
      have k5 := (HS1.out.blk 1 rfl).cell 5 rfl
      have k6 := (HS1.out.blk 1 rfl).cell 6 rfl
      have k7 := (HS1.out.blk 1 rfl).cell 7 rfl
      have k8 := (HS1.out.blk 1 rfl).cell 8 rfl
      have k9 := (HS1.out.blk 1 rfl).cell 9 rfl
      have k10 := (HS1.out.blk 1 rfl).cell 10 rfl
      have k11 := (HS1.out.blk 1 rfl).cell 11 rfl
      have k14 := (HS1.out.blk 1 rfl).cell 14 rfl
      go_upto_region 7 with fail
      clear k0 k1 k2 k3 k4 k5 k6 k7 k8 k9 k10 k11 k14
      obtain ⟨g, hg⟩ : ∃ g, g = w1.heap.size := ⟨_, rfl⟩
      obtain ⟨w5, hw5⟩ : ∃ w5, w5 = w1.alloc (.cells #[.int .u8 h0, .int .u8 h1, .int .u8 h2, .int .u8 h3, .int .u8 h4, .int .u8 h5, .int .u8 h6, .int .u8 h7, .int .u16 b, .int .u64 (h : Int), .int .u64 (l : Int), .slice a n c] 48) := ⟨_, rfl⟩
      have HS5 := Lib.hid (show Sep [] w w5 [blkR g 48 #[.int .u8 h0, .int .u8 h1, .int .u8 h2, .int .u8 h3, .int .u8 h4, .int .u8 h5, .int .u8 h6, .int .u8 h7, .int .u16 b, .int .u64 (h : Int), .int .u64 (l : Int), .slice a n c], blkR (o + 1) 48 #[.int .u8 0, .int .u8 0, .int .u8 0, .int .u8 0, .int .u8 0, .int .u8 0, .int .u8 0, .int .u8 0, .int .u16 0, .int .u64 0, .int .u64 0, .slice none 0 0], blkR o 36 #[.int .u8 h0, .int .u8 h1, .int .u8 h2, .int .u8 h3, .int .u8 h4, .int .u8 h5, .int .u8 h6, .int .u8 h7, .int .u16 b, .int .u64 (h : Int), .int .u64 (l : Int), .bool false, .int .i64 L, .int .i64 D, .slice a n c]] from by rw [hw5, hg]; exact HS1.out.alloc #[.int .u8 h0, .int .u8 h1, .int .u8 h2, .int .u8 h3, .int .u8 h4, .int .u8 h5, .int .u8 h6, .int .u8 h7, .int .u16 b, .int .u64 (h : Int), .int .u64 (l : Int), .slice a n c] 48)
      rw [← hw5, ← hg]
      clear hw5 hg HS1
      have z0 := (HS5.out.blk 0 rfl).cell 0 rfl
      have f0 := (HS5.out.blk 0 rfl).free 0
      have e1 := HE1.out
      go_upto_region 8 with fail
      obtain ⟨w6, hw6⟩ : ∃ w6, w6 = w5.setCell ⟨g, 0, none⟩ (.int .u8 p) := ⟨_, rfl⟩
      have HS6 := Lib.hid (show Sep [] w w6 [blkR g 48 #[.int .u8 p, .int .u8 h1, .int .u8 h2, .int .u8 h3, .int .u8 h4, .int .u8 h5, .int .u8 h6, .int .u8 h7, .int .u16 b, .int .u64 (h : Int), .int .u64 (l : Int), .slice a n c], blkR (o + 1) 48 #[.int .u8 0, .int .u8 0, .int .u8 0, .int .u8 0, .int .u8 0, .int .u8 0, .int .u8 0, .int .u8 0, .int .u16 0, .int .u64 0, .int .u64 0, .slice none 0 0], blkR o 36 #[.int .u8 h0, .int .u8 h1, .int .u8 h2, .int .u8 h3, .int .u8 h4, .int .u8 h5, .int .u8 h6, .int .u8 h7, .int .u16 b, .int .u64 (h : Int), .int .u64 (l : Int), .bool false, .int .i64 L, .int .i64 D, .slice a n c]] from hw6 ▸ HS5.out.put 0 rfl 0 (.int .u8 p))
      rw [← hw6]
      clear hw6 z0 f0 e1 HS5
      have z0 := (HS6.out.blk 0 rfl).cell 0 rfl
      have z1 := (HS6.out.blk 0 rfl).cell 1 rfl
      have z2 := (HS6.out.blk 0 rfl).cell 2 rfl
      have z3 := (HS6.out.blk 0 rfl).cell 3 rfl
      have z4 := (HS6.out.blk 0 rfl).cell 4 rfl
      have z5 := (HS6.out.blk 0 rfl).cell 5 rfl
      have z6 := (HS6.out.blk 0 rfl).cell 6 rfl
      have z7 := (HS6.out.blk 0 rfl).cell 7 rfl
      have z8 := (HS6.out.blk 0 rfl).cell 8 rfl
      have z9 := (HS6.out.blk 0 rfl).cell 9 rfl
      have z10 := (HS6.out.blk 0 rfl).cell 10 rfl
      have z11 := (HS6.out.blk 0 rfl).cell 11 rfl
      have k0 := (HS6.out.blk 1 rfl).cell 0 rfl
      have k1 := (HS6.out.blk 1 rfl).cell 1 rfl
      have k2 := (HS6.out.blk 1 rfl).cell 2 rfl
      have k3 := (HS6.out.blk 1 rfl).cell 3 rfl
      have k4 := (HS6.out.blk 1 rfl).cell 4 rfl
      have k5 := (HS6.out.blk 1 rfl).cell 5 rfl
      have k6 := (HS6.out.blk 1 rfl).cell 6 rfl
      have k7 := (HS6.out.blk 1 rfl).cell 7 rfl
      have k8 := (HS6.out.blk 1 rfl).cell 8 rfl
      have k9 := (HS6.out.blk 1 rfl).cell 9 rfl
      have k10 := (HS6.out.blk 1 rfl).cell 10 rfl
      have k11 := (HS6.out.blk 1 rfl).cell 11 rfl
      have f0 := (HS6.out.blk 1 rfl).free 0
      have f1 := (HS6.out.blk 1 rfl).free 1
      have f2 := (HS6.out.blk 1 rfl).free 2
      have f3 := (HS6.out.blk 1 rfl).free 3
      have f4 := (HS6.out.blk 1 rfl).free 4
      have f5 := (HS6.out.blk 1 rfl).free 5
      have f6 := (HS6.out.blk 1 rfl).free 6
      have f7 := (HS6.out.blk 1 rfl).free 7
      have f8 := (HS6.out.blk 1 rfl).free 8
      have f9 := (HS6.out.blk 1 rfl).free 9
      have f10 := (HS6.out.blk 1 rfl).free 10
      have f11 := (HS6.out.blk 1 rfl).free 11
      go_wp2_with fail
      obtain ⟨w8, hw8⟩ : ∃ w8, w8 = ((((((((((((w6.setCell ⟨(o + 1), 0, none⟩ (.int .u8 p)).setCell ⟨(o + 1), 1, none⟩ (.int .u8 h1)).setCell ⟨(o + 1), 2, none⟩ (.int .u8 h2)).setCell ⟨(o + 1), 3, none⟩ (.int .u8 h3)).setCell ⟨(o + 1), 4, none⟩ (.int .u8 h4)).setCell ⟨(o + 1), 5, none⟩ (.int .u8 h5)).setCell ⟨(o + 1), 6, none⟩ (.int .u8 h6)).setCell ⟨(o + 1), 7, none⟩ (.int .u8 h7)).setCell ⟨(o + 1), 8, none⟩ (.int .u16 b)).setCell ⟨(o + 1), 9, none⟩ (.int .u64 (h : Int))).setCell ⟨(o + 1), 10, none⟩ (.int .u64 (l : Int))).setCell ⟨(o + 1), 11, none⟩ (.slice a n c)) := ⟨_, rfl⟩
      have HS8 := Lib.hid (show Sep [] w w8 [blkR g 48 #[.int .u8 p, .int .u8 h1, .int .u8 h2, .int .u8 h3, .int .u8 h4, .int .u8 h5, .int .u8 h6, .int .u8 h7, .int .u16 b, .int .u64 (h : Int), .int .u64 (l : Int), .slice a n c], blkR (o + 1) 48 #[.int .u8 p, .int .u8 h1, .int .u8 h2, .int .u8 h3, .int .u8 h4, .int .u8 h5, .int .u8 h6, .int .u8 h7, .int .u16 b, .int .u64 (h : Int), .int .u64 (l : Int), .slice a n c], blkR o 36 #[.int .u8 h0, .int .u8 h1, .int .u8 h2, .int .u8 h3, .int .u8 h4, .int .u8 h5, .int .u8 h6, .int .u8 h7, .int .u16 b, .int .u64 (h : Int), .int .u64 (l : Int), .bool false, .int .i64 L, .int .i64 D, .slice a n c]] from hw8 ▸ HS6.out.puts 1 rfl [.int .u8 p, .int .u8 h1, .int .u8 h2, .int .u8 h3, .int .u8 h4, .int .u8 h5, .int .u8 h6, .int .u8 h7, .int .u16 b, .int .u64 (h : Int), .int .u64 (l : Int), .slice a n c] rfl)
      rw [← hw8]
      clear hw8 z0 z1 z2 z3 z4 z5 z6 z7 z8 z9 z10 z11 k0 k1 k2 k3 k4 k5 k6 k7 k8 k9 k10 k11 f0 f1 f2 f3 f4 f5 f6 f7 f8 f9 f10 f11
      have z0 := (HS8.out.blk 1 rfl).cell 0 rfl
      have z1 := (HS8.out.blk 1 rfl).cell 1 rfl
      have z2 := (HS8.out.blk 1 rfl).cell 2 rfl
      have z3 := (HS8.out.blk 1 rfl).cell 3 rfl
      have z4 := (HS8.out.blk 1 rfl).cell 4 rfl
      have z5 := (HS8.out.blk 1 rfl).cell 5 rfl
      have z6 := (HS8.out.blk 1 rfl).cell 6 rfl
      have z7 := (HS8.out.blk 1 rfl).cell 7 rfl
      have z8 := (HS8.out.blk 1 rfl).cell 8 rfl
      have z9 := (HS8.out.blk 1 rfl).cell 9 rfl
      have z10 := (HS8.out.blk 1 rfl).cell 10 rfl
      have z11 := (HS8.out.blk 1 rfl).cell 11 rfl
      have hYn := HY.out.trans (if_pos trivial)
      clear HY
      subst hYn
      refine bodyPost_ret (v := .tuple #[.agg #[.int .u8 p, .int .u8 h1, .int .u8 h2, .int .u8 h3, .int .u8 h4, .int .u8 h5, .int .u8 h6, .int .u8 h7, .int .u16 b, .int .u64 (h : Int), .int .u64 (l : Int), .slice a n c], .int .i64 0]) ?_ rfl ⟨a, c, by rw [HNn.out]; rfl, HRd.out _ HS8.out.frm, HN.out, HS8.out.frm⟩
      simp [results, Tryd.results18, go_sem, z0, z1, z2, z3, z4, z5, z6, z7, z8, z9, z10, z11]
  · obtain rfl : R = E := by rw [HR.out, if_pos hE0]
    have d0 : (R != 0) = true := by simp [hE0]
    have HE0 := Lib.hid hE0
    clear hE0
    have k0 := (HS1.out.blk 0 rfl).cell 0 rfl
    have k1 := (HS1.out.blk 0 rfl).cell 1 rfl
    have k2 := (HS1.out.blk 0 rfl).cell 2 rfl
    have k3 := (HS1.out.blk 0 rfl).cell 3 rfl
    have k4 := (HS1.out.blk 0 rfl).cell 4 rfl
    have k5 := (HS1.out.blk 0 rfl).cell 5 rfl
    have k6 := (HS1.out.blk 0 rfl).cell 6 rfl
    have k7 := (HS1.out.blk 0 rfl).cell 7 rfl
    have k8 := (HS1.out.blk 0 rfl).cell 8 rfl
    have k9 := (HS1.out.blk 0 rfl).cell 9 rfl
    have k10 := (HS1.out.blk 0 rfl).cell 10 rfl
    have k11 := (HS1.out.blk 0 rfl).cell 11 rfl
    have f0 := (HS1.out.blk 0 rfl).free 0
    have f1 := (HS1.out.blk 0 rfl).free 1
    have f2 := (HS1.out.blk 0 rfl).free 2
    have f3 := (HS1.out.blk 0 rfl).free 3
    have f4 := (HS1.out.blk 0 rfl).free 4
    have f5 := (HS1.out.blk 0 rfl).free 5
    have f6 := (HS1.out.blk 0 rfl).free 6
    have f7 := (HS1.out.blk 0 rfl).free 7
    have f8 := (HS1.out.blk 0 rfl).free 8
    have f9 := (HS1.out.blk 0 rfl).free 9
    have f10 := (HS1.out.blk 0 rfl).free 10
    have f11 := (HS1.out.blk 0 rfl).free 11
    go_wp2_with fail
    obtain ⟨w8, hw8⟩ : ∃ w8, w8 = ((((((((((((w1.setCell ⟨(o + 1), 0, none⟩ (.int .u8 0)).setCell ⟨(o + 1), 1, none⟩ (.int .u8 0)).setCell ⟨(o + 1), 2, none⟩ (.int .u8 0)).setCell ⟨(o + 1), 3, none⟩ (.int .u8 0)).setCell ⟨(o + 1), 4, none⟩ (.int .u8 0)).setCell ⟨(o + 1), 5, none⟩ (.int .u8 0)).setCell ⟨(o + 1), 6, none⟩ (.int .u8 0)).setCell ⟨(o + 1), 7, none⟩ (.int .u8 0)).setCell ⟨(o + 1), 8, none⟩ (.int .u16 0)).setCell ⟨(o + 1), 9, none⟩ (.int .u64 0)).setCell ⟨(o + 1), 10, none⟩ (.int .u64 0)).setCell ⟨(o + 1), 11, none⟩ (.slice none 0 0)) := ⟨_, rfl⟩
    have HS8 := Lib.hid (show Sep [] w w8 [blkR (o + 1) 48 #[.int .u8 0, .int .u8 0, .int .u8 0, .int .u8 0, .int .u8 0, .int .u8 0, .int .u8 0, .int .u8 0, .int .u16 0, .int .u64 0, .int .u64 0, .slice none 0 0], blkR o 36 #[.int .u8 h0, .int .u8 h1, .int .u8 h2, .int .u8 h3, .int .u8 h4, .int .u8 h5, .int .u8 h6, .int .u8 h7, .int .u16 b, .int .u64 (h : Int), .int .u64 (l : Int), .bool fx, .int .i64 L, .int .i64 D, .slice a n c]] from hw8 ▸ HS1.out.puts 0 rfl [.int .u8 0, .int .u8 0, .int .u8 0, .int .u8 0, .int .u8 0, .int .u8 0, .int .u8 0, .int .u8 0, .int .u16 0, .int .u64 0, .int .u64 0, .slice none 0 0] rfl)
    rw [← hw8]
    clear hw8 k0 k1 k2 k3 k4 k5 k6 k7 k8 k9 k10 k11 f0 f1 f2 f3 f4 f5 f6 f7 f8 f9 f10 f11
    have z0 := (HS8.out.blk 0 rfl).cell 0 rfl
    have z1 := (HS8.out.blk 0 rfl).cell 1 rfl
    have z2 := (HS8.out.blk 0 rfl).cell 2 rfl
    have z3 := (HS8.out.blk 0 rfl).cell 3 rfl
    have z4 := (HS8.out.blk 0 rfl).cell 4 rfl
    have z5 := (HS8.out.blk 0 rfl).cell 5 rfl
    have z6 := (HS8.out.blk 0 rfl).cell 6 rfl
    have z7 := (HS8.out.blk 0 rfl).cell 7 rfl
    have z8 := (HS8.out.blk 0 rfl).cell 8 rfl
    have z9 := (HS8.out.blk 0 rfl).cell 9 rfl
    have z10 := (HS8.out.blk 0 rfl).cell 10 rfl
    have z11 := (HS8.out.blk 0 rfl).cell 11 rfl
    have hYn : Y = Rp.none := HY.out.trans (if_neg HE0.out)
    clear HY
    subst hYn
    refine bodyPost_ret (v := .tuple #[.agg #[.int .u8 0, .int .u8 0, .int .u8 0, .int .u8 0, .int .u8 0, .int .u8 0, .int .u8 0, .int .u8 0, .int .u16 0, .int .u64 0, .int .u64 0, .slice none 0 0], .int .i64 R]) ?_ rfl ⟨none, 0, rfl, rdI_nil _ _ _, fun _ => rfl, HS8.out.frm⟩
    simp [results, Tryd.results18, go_sem, z0, z1, z2, z3, z4, z5, z6, z7, z8, z9, z10, z11]
set_option maxRecDepth 100000 in
set_option maxHeartbeats 16000000 in
theorem rofp_c (r : Rp) (a : Option Addr) (c : Nat) (w : World) (hok : r.Ok) (hrd : RdI .u8 w a r.B) (hn : a = none → c = 0) (hl : r.B.length ≤ 1000000) :
    Calls Tryd.prog 22 #[r.val (.slice a r.B.length c)] w (ROfP w (ofX r) (ofE r)) := by
  have HW := Lib.hid (fun X (hX : Frm [] w X) => rwrite_c (pkOf r) a c X (pkOf_ok hok) (hrd.below hX.below) hn (show r.B.length ≤ 9223372036854775807 by omega))
  have HRd := Lib.hid (fun X (hX : Frm [] w X) => hrd.below (w' := X) hX.below)
  have HN := Lib.hid hn
  obtain ⟨E, hE⟩ : ∃ E, E = weX (pkOf r) := ⟨_, rfl⟩
  unfold ofX ofE
  rw [← hE]
  rw [← hE] at HW
  obtain ⟨O, hO⟩ : ∃ O, O = woX (pkOf r) := ⟨_, rfl⟩
  rw [← hO] at HW
  have r0 := hok.r0
  clear hE hO hrd hn hok
  obtain ⟨h0, h1, h2, h3, h4, h5, h6, h7, b, h, l, B⟩ := r
  simp only [Rp.val, Rp.cells, Fx.val, Fx.cells, pkOf] at *
  obtain ⟨n, hn⟩ : ∃ n, n = B.length := ⟨_, rfl⟩
  have HNn := Lib.hid hn
  rw [← hn] at HW hl ⊢
  clear hn
  have e1 : Int.tmod h0 64 = h0 % 64 := tmod64 r0.1
  obtain ⟨p, hp⟩ : ∃ p, p = h0 % 64 := ⟨_, rfl⟩
  have p0 : 0 ≤ p ∧ p ≤ 63 := by omega
  rw [← hp] at e1 HW ⊢
  have HE1 := Lib.hid e1
  clear hp e1
  obtain ⟨Y, hY⟩ : ∃ Y : Fx, Y = if E = 0 then ⟨p, h1, h2, h3, h4, h5, h6, h7, b, h, l, false, 0, 0, B⟩ else Fx.none := ⟨_, rfl⟩
  rw [← hY]
  have HY := Lib.hid hY
  clear hY
  have HS0 := Lib.hid (((Sep.init w).alloc #[.int .u8 h0, .int .u8 h1, .int .u8 h2, .int .u8 h3, .int .u8 h4, .int .u8 h5, .int .u8 h6, .int .u8 h7, .int .u16 b, .int .u64 (h : Int), .int .u64 (l : Int), .slice a n c] 48).alloc #[.int .u8 0, .int .u8 0, .int .u8 0, .int .u8 0, .int .u8 0, .int .u8 0, .int .u8 0, .int .u8 0, .int .u16 0, .int .u64 0, .int .u64 0, .bool false, .int .i64 0, .int .i64 0, .slice none 0 0] 36)
  simp only [World.size_alloc] at HS0
  go_enter Tryd.func22, Tryd.ntmps22
  go_upto_region 1 with fail
  obtain ⟨w1, hw1⟩ : ∃ w1, w1 = (w.alloc (.cells #[.int .u8 h0, .int .u8 h1, .int .u8 h2, .int .u8 h3, .int .u8 h4, .int .u8 h5, .int .u8 h6, .int .u8 h7, .int .u16 b, .int .u64 (h : Int), .int .u64 (l : Int), .slice a n c] 48)).alloc (.cells #[.int .u8 0, .int .u8 0, .int .u8 0, .int .u8 0, .int .u8 0, .int .u8 0, .int .u8 0, .int .u8 0, .int .u16 0, .int .u64 0, .int .u64 0, .bool false, .int .i64 0, .int .i64 0, .slice none 0 0] 36) := ⟨_, rfl⟩
  obtain ⟨o, ho⟩ : ∃ o, o = w.heap.size := ⟨_, rfl⟩
  rw [← hw1, ← ho] at HS0
  rw [← hw1, ← ho]
  clear hw1 ho
  have k0 := (HS0.out.blk 1 rfl).cell 0 rfl
  have k1 := (HS0.out.blk 1 rfl).cell 1 rfl
  have k2 := (HS0.out.blk 1 rfl).cell 2 rfl
  have k3 := (HS0.out.blk 1 rfl).cell 3 rfl
  have k4 := (HS0.out.blk 1 rfl).cell 4 rfl
  have k5 := (HS0.out.blk 1 rfl).cell 5 rfl
  have k6 := (HS0.out.blk 1 rfl).cell 6 rfl
  have k7 := (HS0.out.blk 1 rfl).cell 7 rfl
  have k8 := (HS0.out.blk 1 rfl).cell 8 rfl
  have k9 := (HS0.out.blk 1 rfl).cell 9 rfl
  have k10 := (HS0.out.blk 1 rfl).cell 10 rfl
  have k11 := (HS0.out.blk 1 rfl).cell 11 rfl
  go_upto_region 2 with fail
  clear k0 k1 k2 k3 k4 k5 k6 k7 k8 k9 k10 k11
  obtain ⟨g, hg⟩ : ∃ g, g = w1.heap.size := ⟨_, rfl⟩
  obtain ⟨w5, hw5⟩ : ∃ w5, w5 = w1.alloc (.cells #[.int .u8 h0, .int .u8 h1, .int .u8 h2, .int .u8 h3, .int .u8 h4, .int .u8 h5, .int .u8 h6, .int .u8 h7, .int .u16 b, .int .u64 (h : Int), .int .u64 (l : Int), .bool false, .int .i64 0, .int .i64 0, .slice a n c] 36) := ⟨_, rfl⟩
  have HS5 := Lib.hid (show Sep [] w w5 [blkR g 36 #[.int .u8 h0, .int .u8 h1, .int .u8 h2, .int .u8 h3, .int .u8 h4, .int .u8 h5, .int .u8 h6, .int .u8 h7, .int .u16 b, .int .u64 (h : Int), .int .u64 (l : Int), .bool false, .int .i64 0, .int .i64 0, .slice a n c], blkR (o + 1) 36 #[.int .u8 0, .int .u8 0, .int .u8 0, .int .u8 0, .int .u8 0, .int .u8 0, .int .u8 0, .int .u8 0, .int .u16 0, .int .u64 0, .int .u64 0, .bool false, .int .i64 0, .int .i64 0, .slice none 0 0], blkR o 48 #[.int .u8 h0, .int .u8 h1, .int .u8 h2, .int .u8 h3, .int .u8 h4, .int .u8 h5, .int .u8 h6, .int .u8 h7, .int .u16 b, .int .u64 (h : Int), .int .u64 (l : Int), .slice a n c]] from by rw [hw5, hg]; exact HS0.out.alloc #[.int .u8 h0, .int .u8 h1, .int .u8 h2, .int .u8 h3, .int .u8 h4, .int .u8 h5, .int .u8 h6, .int .u8 h7, .int .u16 b, .int .u64 (h : Int), .int .u64 (l : Int), .bool false, .int .i64 0, .int .i64 0, .slice a n c] 36)
  rw [← hw5, ← hg]
  clear hw5 hg HS0
  have z0 := (HS5.out.blk 0 rfl).cell 0 rfl
  have f0 := (HS5.out.blk 0 rfl).free 0
  have e1 := HE1.out
  go_upto_region 3 with fail
  obtain ⟨w6, hw6⟩ : ∃ w6, w6 = w5.setCell ⟨g, 0, none⟩ (.int .u8 p) := ⟨_, rfl⟩
  have HS6 := Lib.hid (show Sep [] w w6 [blkR g 36 #[.int .u8 p, .int .u8 h1, .int .u8 h2, .int .u8 h3, .int .u8 h4, .int .u8 h5, .int .u8 h6, .int .u8 h7, .int .u16 b, .int .u64 (h : Int), .int .u64 (l : Int), .bool false, .int .i64 0, .int .i64 0, .slice a n c], blkR (o + 1) 36 #[.int .u8 0, .int .u8 0, .int .u8 0, .int .u8 0, .int .u8 0, .int .u8 0, .int .u8 0, .int .u8 0, .int .u16 0, .int .u64 0, .int .u64 0, .bool false, .int .i64 0, .int .i64 0, .slice none 0 0], blkR o 48 #[.int .u8 h0, .int .u8 h1, .int .u8 h2, .int .u8 h3, .int .u8 h4, .int .u8 h5, .int .u8 h6, .int .u8 h7, .int .u16 b, .int .u64 (h : Int), .int .u64 (l : Int), .slice a n c]] from hw6 ▸ HS5.out.put 0 rfl 0 (.int .u8 p))
  rw [← hw6]
  clear hw6 z0 f0 e1 HS5
  have z0 := (HS6.out.blk 0 rfl).cell 0 rfl
  have z1 := (HS6.out.blk 0 rfl).cell 1 rfl
  have z2 := (HS6.out.blk 0 rfl).cell 2 rfl
  have z3 := (HS6.out.blk 0 rfl).cell 3 rfl
  have z4 := (HS6.out.blk 0 rfl).cell 4 rfl
  have z5 := (HS6.out.blk 0 rfl).cell 5 rfl
  have z6 := (HS6.out.blk 0 rfl).cell 6 rfl
  have z7 := (HS6.out.blk 0 rfl).cell 7 rfl
  have z8 := (HS6.out.blk 0 rfl).cell 8 rfl
  have z9 := (HS6.out.blk 0 rfl).cell 9 rfl
  have z10 := (HS6.out.blk 0 rfl).cell 10 rfl
  have z11 := (HS6.out.blk 0 rfl).cell 11 rfl
  have z12 := (HS6.out.blk 0 rfl).cell 12 rfl
  have z13 := (HS6.out.blk 0 rfl).cell 13 rfl
  have z14 := (HS6.out.blk 0 rfl).cell 14 rfl
  go_wp2_with fail
  refine (HW.out w6 HS6.out.frm).mono ?_
  rintro e w7 ⟨v7, rfl, hS7⟩
  have HS7 := Lib.hid (show Sep [] w w7 [blkR g 36 #[.int .u8 p, .int .u8 h1, .int .u8 h2, .int .u8 h3, .int .u8 h4, .int .u8 h5, .int .u8 h6, .int .u8 h7, .int .u16 b, .int .u64 (h : Int), .int .u64 (l : Int), .bool false, .int .i64 0, .int .i64 0, .slice a n c], blkR (o + 1) 36 #[.int .u8 0, .int .u8 0, .int .u8 0, .int .u8 0, .int .u8 0, .int .u8 0, .int .u8 0, .int .u8 0, .int .u16 0, .int .u64 0, .int .u64 0, .bool false, .int .i64 0, .int .i64 0, .slice none 0 0], blkR o 48 #[.int .u8 h0, .int .u8 h1, .int .u8 h2, .int .u8 h3, .int .u8 h4, .int .u8 h5, .int .u8 h6, .int .u8 h7, .int .u16 b, .int .u64 (h : Int), .int .u64 (l : Int), .slice a n c]] from HS6.out.keep hS7.frm)
  clear hS7 HS6 z0 z1 z2 z3 z4 z5 z6 z7 z8 z9 z10 z11 z12 z13 z14 HW
  by_cases hE0 : E = 0
  · subst hE0
    have z0 := (HS7.out.blk 0 rfl).cell 0 rfl
    have z1 := (HS7.out.blk 0 rfl).cell 1 rfl
    have z2 := (HS7.out.blk 0 rfl).cell 2 rfl
    have z3 := (HS7.out.blk 0 rfl).cell 3 rfl
    have z4 := (HS7.out.blk 0 rfl).cell 4 rfl
    have z5 := (HS7.out.blk 0 rfl).cell 5 rfl
    have z6 := (HS7.out.blk 0 rfl).cell 6 rfl
    have z7 := (HS7.out.blk 0 rfl).cell 7 rfl
    have z8 := (HS7.out.blk 0 rfl).cell 8 rfl
    have z9 := (HS7.out.blk 0 rfl).cell 9 rfl
    have z10 := (HS7.out.blk 0 rfl).cell 10 rfl
    have z11 := (HS7.out.blk 0 rfl).cell 11 rfl
    have z12 := (HS7.out.blk 0 rfl).cell 12 rfl
    have z13 := (HS7.out.blk 0 rfl).cell 13 rfl
    have z14 := (HS7.out.blk 0 rfl).cell 14 rfl
    have k0 := (HS7.out.blk 1 rfl).cell 0 rfl
    have k1 := (HS7.out.blk 1 rfl).cell 1 rfl
    have k2 := (HS7.out.blk 1 rfl).cell 2 rfl
    have k3 := (HS7.out.blk 1 rfl).cell 3 rfl
    have k4 := (HS7.out.blk 1 rfl).cell 4 rfl
    have k5 := (HS7.out.blk 1 rfl).cell 5 rfl
    have k6 := (HS7.out.blk 1 rfl).cell 6 rfl
    have k7 := (HS7.out.blk 1 rfl).cell 7 rfl
    have k8 := (HS7.out.blk 1 rfl).cell 8 rfl
    have k9 := (HS7.out.blk 1 rfl).cell 9 rfl
    have k10 := (HS7.out.blk 1 rfl).cell 10 rfl
    have k11 := (HS7.out.blk 1 rfl).cell 11 rfl
    have k12 := (HS7.out.blk 1 rfl).cell 12 rfl
    have k13 := (HS7.out.blk 1 rfl).cell 13 rfl
    have k14 := (HS7.out.blk 1 rfl).cell 14 rfl
    have f0 := (HS7.out.blk 1 rfl).free 0
    have f1 := (HS7.out.blk 1 rfl).free 1
    have f2 := (HS7.out.blk 1 rfl).free 2
    have f3 := (HS7.out.blk 1 rfl).free 3
    have f4 := (HS7.out.blk 1 rfl).free 4
    have f5 := (HS7.out.blk 1 rfl).free 5
    have f6 := (HS7.out.blk 1 rfl).free 6
    have f7 := (HS7.out.blk 1 rfl).free 7
    have f8 := (HS7.out.blk 1 rfl).free 8
    have f9 := (HS7.out.blk 1 rfl).free 9
    have f10 := (HS7.out.blk 1 rfl).free 10
    have f11 := (HS7.out.blk 1 rfl).free 11
    have f12 := (HS7.out.blk 1 rfl).free 12
    have f13 := (HS7.out.blk 1 rfl).free 13
    have f14 := (HS7.out.blk 1 rfl).free 14
    go_wp2_with fail
    obtain ⟨w8, hw8⟩ : ∃ w8, w8 = (((((((((((((((w7.setCell ⟨(o + 1), 0, none⟩ (.int .u8 p)).setCell ⟨(o + 1), 1, none⟩ (.int .u8 h1)).setCell ⟨(o + 1), 2, none⟩ (.int .u8 h2)).setCell ⟨(o + 1), 3, none⟩ (.int .u8 h3)).setCell ⟨(o + 1), 4, none⟩ (.int .u8 h4)).setCell ⟨(o + 1), 5, none⟩ (.int .u8 h5)).setCell ⟨(o + 1), 6, none⟩ (.int .u8 h6)).setCell ⟨(o + 1), 7, none⟩ (.int .u8 h7)).setCell ⟨(o + 1), 8, none⟩ (.int .u16 b)).setCell ⟨(o + 1), 9, none⟩ (.int .u64 (h : Int))).setCell ⟨(o + 1), 10, none⟩ (.int .u64 (l : Int))).setCell ⟨(o + 1), 11, none⟩ (.bool false)).setCell ⟨(o + 1), 12, none⟩ (.int .i64 0)).setCell ⟨(o + 1), 13, none⟩ (.int .i64 0)).setCell ⟨(o + 1), 14, none⟩ (.slice a n c)) := ⟨_, rfl⟩
    have HS8 := Lib.hid (show Sep [] w w8 [blkR g 36 #[.int .u8 p, .int .u8 h1, .int .u8 h2, .int .u8 h3, .int .u8 h4, .int .u8 h5, .int .u8 h6, .int .u8 h7, .int .u16 b, .int .u64 (h : Int), .int .u64 (l : Int), .bool false, .int .i64 0, .int .i64 0, .slice a n c], blkR (o + 1) 36 #[.int .u8 p, .int .u8 h1, .int .u8 h2, .int .u8 h3, .int .u8 h4, .int .u8 h5, .int .u8 h6, .int .u8 h7, .int .u16 b, .int .u64 (h : Int), .int .u64 (l : Int), .bool false, .int .i64 0, .int .i64 0, .slice a n c], blkR o 48 #[.int .u8 h0, .int .u8 h1, .int .u8 h2, .int .u8 h3, .int .u8 h4, .int .u8 h5, .int .u8 h6, .int .u8 h7, .int .u16 b, .int .u64 (h : Int), .int .u64 (l : Int), .slice a n c]] from hw8 ▸ HS7.out.puts 1 rfl [.int .u8 p, .int .u8 h1, .int .u8 h2, .int .u8 h3, .int .u8 h4, .int .u8 h5, .int .u8 h6, .int .u8 h7, .int .u16 b, .int .u64 (h : Int), .int .u64 (l : Int), .bool false, .int .i64 0, .int .i64 0, .slice a n c] rfl)
    rw [← hw8]
    clear hw8 z0 z1 z2 z3 z4 z5 z6 z7 z8 z9 z10 z11 z12 z13 z14 k0 k1 k2 k3 k4 k5 k6 k7 k8 k9 k10 k11 k12 k13 k14 f0 f1 f2 f3 f4 f5 f6 f7 f8 f9 f10 f11 f12 f13 f14
    have z0 := (HS8.out.blk 1 rfl).cell 0 rfl
    have z1 := (HS8.out.blk 1 rfl).cell 1 rfl
    have z2 := (HS8.out.blk 1 rfl).cell 2 rfl
    have z3 := (HS8.out.blk 1 rfl).cell 3 rfl
    have z4 := (HS8.out.blk 1 rfl).cell 4 rfl
    have z5 := (HS8.out.blk 1 rfl).cell 5 rfl
    have z6 := (HS8.out.blk 1 rfl).cell 6 rfl
    have z7 := (HS8.out.blk 1 rfl).cell 7 rfl
    have z8 := (HS8.out.blk 1 rfl).cell 8 rfl
    have z9 := (HS8.out.blk 1 rfl).cell 9 rfl
    have z10 := (HS8.out.blk 1 rfl).cell 10 rfl
    have z11 := (HS8.out.blk 1 rfl).cell 11 rfl
    have z12 := (HS8.out.blk 1 rfl).cell 12 rfl
    have z13 := (HS8.out.blk 1 rfl).cell 13 rfl
    have z14 := (HS8.out.blk 1 rfl).cell 14 rfl
    have hYn := HY.out.trans (if_pos trivial)
    clear HY
    subst hYn
    refine bodyPost_ret (v := .tuple #[.agg #[.int .u8 p, .int .u8 h1, .int .u8 h2, .int .u8 h3, .int .u8 h4, .int .u8 h5, .int .u8 h6, .int .u8 h7, .int .u16 b, .int .u64 (h : Int), .int .u64 (l : Int), .bool false, .int .i64 0, .int .i64 0, .slice a n c], .int .i64 0]) ?_ rfl ⟨a, c, by rw [HNn.out]; rfl, HRd.out _ HS8.out.frm, HN.out, HS8.out.frm⟩
    simp [results, Tryd.results22, go_sem, z0, z1, z2, z3, z4, z5, z6, z7, z8, z9, z10, z11, z12, z13, z14]
  · have d0 : (E != 0) = true := by simp [hE0]
    have HE0 := Lib.hid hE0
    clear hE0
    have k0 := (HS7.out.blk 1 rfl).cell 0 rfl
    have k1 := (HS7.out.blk 1 rfl).cell 1 rfl
    have k2 := (HS7.out.blk 1 rfl).cell 2 rfl
    have k3 := (HS7.out.blk 1 rfl).cell 3 rfl
    have k4 := (HS7.out.blk 1 rfl).cell 4 rfl
    have k5 := (HS7.out.blk 1 rfl).cell 5 rfl
    have k6 := (HS7.out.blk 1 rfl).cell 6 rfl
    have k7 := (HS7.out.blk 1 rfl).cell 7 rfl
    have k8 := (HS7.out.blk 1 rfl).cell 8 rfl
    have k9 := (HS7.out.blk 1 rfl).cell 9 rfl
    have k10 := (HS7.out.blk 1 rfl).cell 10 rfl
    have k11 := (HS7.out.blk 1 rfl).cell 11 rfl
    have k12 := (HS7.out.blk 1 rfl).cell 12 rfl
    have k13 := (HS7.out.blk 1 rfl).cell 13 rfl
    have k14 := (HS7.out.blk 1 rfl).cell 14 rfl
    have f0 := (HS7.out.blk 1 rfl).free 0
    have f1 := (HS7.out.blk 1 rfl).free 1
    have f2 := (HS7.out.blk 1 rfl).free 2
    have f3 := (HS7.out.blk 1 rfl).free 3
    have f4 := (HS7.out.blk 1 rfl).free 4
    have f5 := (HS7.out.blk 1 rfl).free 5
    have f6 := (HS7.out.blk 1 rfl).free 6
    have f7 := (HS7.out.blk 1 rfl).free 7
    have f8 := (HS7.out.blk 1 rfl).free 8
    have f9 := (HS7.out.blk 1 rfl).free 9
    have f10 := (HS7.out.blk 1 rfl).free 10
    have f11 := (HS7.out.blk 1 rfl).free 11
    have f12 := (HS7.out.blk 1 rfl).free 12
    have f13 := (HS7.out.blk 1 rfl).free 13
    have f14 := (HS7.out.blk 1 rfl).free 14
    go_wp2_with fail
    obtain ⟨w8, hw8⟩ : ∃ w8, w8 = (((((((((((((((w7.setCell ⟨(o + 1), 0, none⟩ (.int .u8 0)).setCell ⟨(o + 1), 1, none⟩ (.int .u8 0)).setCell ⟨(o + 1), 2, none⟩ (.int .u8 0)).setCell ⟨(o + 1), 3, none⟩ (.int .u8 0)).setCell ⟨(o + 1), 4, none⟩ (.int .u8 0)).setCell ⟨(o + 1), 5, none⟩ (.int .u8 0)).setCell ⟨(o + 1), 6, none⟩ (.int .u8 0)).setCell ⟨(o + 1), 7, none⟩ (.int .u8 0)).setCell ⟨(o + 1), 8, none⟩ (.int .u16 0)).setCell ⟨(o + 1), 9, none⟩ (.int .u64 0)).setCell ⟨(o + 1), 10, none⟩ (.int .u64 0)).setCell ⟨(o + 1), 11, none⟩ (.bool false)).setCell ⟨(o + 1), 12, none⟩ (.int .i64 0)).setCell ⟨(o + 1), 13, none⟩ (.int .i64 0)).setCell ⟨(o + 1), 14, none⟩ (.slice none 0 0)) := ⟨_, rfl⟩
    have HS8 := Lib.hid (show Sep [] w w8 [blkR g 36 #[.int .u8 p, .int .u8 h1, .int .u8 h2, .int .u8 h3, .int .u8 h4, .int .u8 h5, .int .u8 h6, .int .u8 h7, .int .u16 b, .int .u64 (h : Int), .int .u64 (l : Int), .bool false, .int .i64 0, .int .i64 0, .slice a n c], blkR (o + 1) 36 #[.int .u8 0, .int .u8 0, .int .u8 0, .int .u8 0, .int .u8 0, .int .u8 0, .int .u8 0, .int .u8 0, .int .u16 0, .int .u64 0, .int .u64 0, .bool false, .int .i64 0, .int .i64 0, .slice none 0 0], blkR o 48 #[.int .u8 h0, .int .u8 h1, .int .u8 h2, .int .u8 h3, .int .u8 h4, .int .u8 h5, .int .u8 h6, .int .u8 h7, .int .u16 b, .int .u64 (h : Int), .int .u64 (l : Int), .slice a n c]] from hw8 ▸ HS7.out.puts 1 rfl [.int .u8 0, .int .u8 0, .int .u8 0, .int .u8 0, .int .u8 0, .int .u8 0, .int .u8 0, .int .u8 0, .int .u16 0, .int .u64 0, .int .u64 0, .bool false, .int .i64 0, .int .i64 0, .slice none 0 0] rfl)
    rw [← hw8]
    clear hw8 k0 k1 k2 k3 k4 k5 k6 k7 k8 k9 k10 k11 k12 k13 k14 f0 f1 f2 f3 f4 f5 f6 f7 f8 f9 f10 f11 f12 f13 f14
    have z0 := (HS8.out.blk 1 rfl).cell 0 rfl
    have z1 := (HS8.out.blk 1 rfl).cell 1 rfl
    have z2 := (HS8.out.blk 1 rfl).cell 2 rfl
    have z3 := (HS8.out.blk 1 rfl).cell 3 rfl
    have z4 := (HS8.out.blk 1 rfl).cell 4 rfl
    have z5 := (HS8.out.blk 1 rfl).cell 5 rfl
    have z6 := (HS8.out.blk 1 rfl).cell 6 rfl
    have z7 := (HS8.out.blk 1 rfl).cell 7 rfl
    have z8 := (HS8.out.blk 1 rfl).cell 8 rfl
    have z9 := (HS8.out.blk 1 rfl).cell 9 rfl
    have z10 := (HS8.out.blk 1 rfl).cell 10 rfl
    have z11 := (HS8.out.blk 1 rfl).cell 11 rfl
    have z12 := (HS8.out.blk 1 rfl).cell 12 rfl
    have z13 := (HS8.out.blk 1 rfl).cell 13 rfl
    have z14 := (HS8.out.blk 1 rfl).cell 14 rfl
    have hYn : Y = Fx.none := HY.out.trans (if_neg HE0.out)
    clear HY
    subst hYn
    refine bodyPost_ret (v := .tuple #[.agg #[.int .u8 0, .int .u8 0, .int .u8 0, .int .u8 0, .int .u8 0, .int .u8 0, .int .u8 0, .int .u8 0, .int .u16 0, .int .u64 0, .int .u64 0, .bool false, .int .i64 0, .int .i64 0, .slice none 0 0], .int .i64 E]) ?_ rfl ⟨none, 0, rfl, rdI_nil _ _ _, fun _ => rfl, HS8.out.frm⟩
    simp [results, Tryd.results22, go_sem, z0, z1, z2, z3, z4, z5, z6, z7, z8, z9, z10, z11, z12, z13, z14]

end Go.Proofs.YtnloabpdjedanaaDoor
