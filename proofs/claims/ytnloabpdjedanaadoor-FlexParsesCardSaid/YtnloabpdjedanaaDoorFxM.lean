/-
  THE WALKS of confluxlaw10.as, confluxref01.SameSeqs. Printed by gen_fxm.py.
-/
import Derived.Test.YtnloabpdjedanaaDoorFxL
import Derived.Test.YtnloabpdjedanaaDoorFxU
import Derived.Test.YtnloabpdjedanaaDoorFxV
set_option linter.unusedVariables false
set_option linter.unusedSimpArgs false
namespace Go.Proofs.YtnloabpdjedanaaDoor
open Go.RowKit

set_option maxRecDepth 100000 in
set_option maxHeartbeats 16000000 in
theorem as_c (x : Fx) (a : Option Addr) (n c : Nat) (w : World) : Calls Tryd.prog 13 #[x.val (.slice a n c)] w fun e w' => e = .returned (x.val (.slice a n c)) ∧ Frm [] w w' := by
  obtain ⟨xh0, xh1, xh2, xh3, xh4, xh5, xh6, xh7, xb, xh, xl, xfx, xL, xD, xB⟩ := x
  simp only [Fx.val, Fx.cells]
  have HS0 := Lib.hid (((Sep.init w).alloc #[.int .u8 xh0, .int .u8 xh1, .int .u8 xh2, .int .u8 xh3, .int .u8 xh4, .int .u8 xh5, .int .u8 xh6, .int .u8 xh7, .int .u16 xb, .int .u64 (xh : Int), .int .u64 (xl : Int), .bool xfx, .int .i64 xL, .int .i64 xD, .slice a n c] 31).alloc #[.int .u8 0, .int .u8 0, .int .u8 0, .int .u8 0, .int .u8 0, .int .u8 0, .int .u8 0, .int .u8 0, .int .u16 0, .int .u64 0, .int .u64 0, .bool false, .int .i64 0, .int .i64 0, .slice none 0 0] 36)
  simp only [World.size_alloc] at HS0
  go_enter Tryd.func13, Tryd.ntmps13
  go_upto_region 1 with fail
  obtain ⟨w1, hw1⟩ : ∃ w1, w1 = (w.alloc (.cells #[.int .u8 xh0, .int .u8 xh1, .int .u8 xh2, .int .u8 xh3, .int .u8 xh4, .int .u8 xh5, .int .u8 xh6, .int .u8 xh7, .int .u16 xb, .int .u64 (xh : Int), .int .u64 (xl : Int), .bool xfx, .int .i64 xL, .int .i64 xD, .slice a n c] 31)).alloc (.cells #[.int .u8 0, .int .u8 0, .int .u8 0, .int .u8 0, .int .u8 0, .int .u8 0, .int .u8 0, .int .u8 0, .int .u16 0, .int .u64 0, .int .u64 0, .bool false, .int .i64 0, .int .i64 0, .slice none 0 0] 36) := ⟨_, rfl⟩
  obtain ⟨o, ho⟩ : ∃ o, o = w.heap.size := ⟨_, rfl⟩
  rw [← hw1, ← ho] at HS0
  rw [← hw1, ← ho]
  clear hw1 ho
  have z0 := (HS0.out.blk 1 rfl).cell 0 rfl
  have z1 := (HS0.out.blk 1 rfl).cell 1 rfl
  have z2 := (HS0.out.blk 1 rfl).cell 2 rfl
  have z3 := (HS0.out.blk 1 rfl).cell 3 rfl
  have z4 := (HS0.out.blk 1 rfl).cell 4 rfl
  have z5 := (HS0.out.blk 1 rfl).cell 5 rfl
  have z6 := (HS0.out.blk 1 rfl).cell 6 rfl
  have z7 := (HS0.out.blk 1 rfl).cell 7 rfl
  have z8 := (HS0.out.blk 1 rfl).cell 8 rfl
  have z9 := (HS0.out.blk 1 rfl).cell 9 rfl
  have z10 := (HS0.out.blk 1 rfl).cell 10 rfl
  have z11 := (HS0.out.blk 1 rfl).cell 11 rfl
  have z12 := (HS0.out.blk 1 rfl).cell 12 rfl
  have z13 := (HS0.out.blk 1 rfl).cell 13 rfl
  have z14 := (HS0.out.blk 1 rfl).cell 14 rfl
  have k0 := (HS0.out.blk 0 rfl).cell 0 rfl
  have k1 := (HS0.out.blk 0 rfl).cell 1 rfl
  have k2 := (HS0.out.blk 0 rfl).cell 2 rfl
  have k3 := (HS0.out.blk 0 rfl).cell 3 rfl
  have k4 := (HS0.out.blk 0 rfl).cell 4 rfl
  have k5 := (HS0.out.blk 0 rfl).cell 5 rfl
  have k6 := (HS0.out.blk 0 rfl).cell 6 rfl
  have k7 := (HS0.out.blk 0 rfl).cell 7 rfl
  have k8 := (HS0.out.blk 0 rfl).cell 8 rfl
  have k9 := (HS0.out.blk 0 rfl).cell 9 rfl
  have k10 := (HS0.out.blk 0 rfl).cell 10 rfl
  have k11 := (HS0.out.blk 0 rfl).cell 11 rfl
  have k12 := (HS0.out.blk 0 rfl).cell 12 rfl
  have k13 := (HS0.out.blk 0 rfl).cell 13 rfl
  have k14 := (HS0.out.blk 0 rfl).cell 14 rfl
  have f0 := (HS0.out.blk 0 rfl).free 0
  have f1 := (HS0.out.blk 0 rfl).free 1
  have f2 := (HS0.out.blk 0 rfl).free 2
  have f3 := (HS0.out.blk 0 rfl).free 3
  have f4 := (HS0.out.blk 0 rfl).free 4
  have f5 := (HS0.out.blk 0 rfl).free 5
  have f6 := (HS0.out.blk 0 rfl).free 6
  have f7 := (HS0.out.blk 0 rfl).free 7
  have f8 := (HS0.out.blk 0 rfl).free 8
  have f9 := (HS0.out.blk 0 rfl).free 9
  have f10 := (HS0.out.blk 0 rfl).free 10
  have f11 := (HS0.out.blk 0 rfl).free 11
  have f12 := (HS0.out.blk 0 rfl).free 12
  have f13 := (HS0.out.blk 0 rfl).free 13
  have f14 := (HS0.out.blk 0 rfl).free 14
  go_wp2_with fail
  obtain ⟨w8, hw8⟩ : ∃ w8, w8 = (((((((((((((((w1.setCell ⟨(o + 1), 0, none⟩ (.int .u8 xh0)).setCell ⟨(o + 1), 1, none⟩ (.int .u8 xh1)).setCell ⟨(o + 1), 2, none⟩ (.int .u8 xh2)).setCell ⟨(o + 1), 3, none⟩ (.int .u8 xh3)).setCell ⟨(o + 1), 4, none⟩ (.int .u8 xh4)).setCell ⟨(o + 1), 5, none⟩ (.int .u8 xh5)).setCell ⟨(o + 1), 6, none⟩ (.int .u8 xh6)).setCell ⟨(o + 1), 7, none⟩ (.int .u8 xh7)).setCell ⟨(o + 1), 8, none⟩ (.int .u16 xb)).setCell ⟨(o + 1), 9, none⟩ (.int .u64 (xh : Int))).setCell ⟨(o + 1), 10, none⟩ (.int .u64 (xl : Int))).setCell ⟨(o + 1), 11, none⟩ (.bool xfx)).setCell ⟨(o + 1), 12, none⟩ (.int .i64 xL)).setCell ⟨(o + 1), 13, none⟩ (.int .i64 xD)).setCell ⟨(o + 1), 14, none⟩ (.slice a n c)) := ⟨_, rfl⟩
  have HS8 := Lib.hid (show Sep [] w w8 [blkR (o + 1) 36 #[.int .u8 xh0, .int .u8 xh1, .int .u8 xh2, .int .u8 xh3, .int .u8 xh4, .int .u8 xh5, .int .u8 xh6, .int .u8 xh7, .int .u16 xb, .int .u64 (xh : Int), .int .u64 (xl : Int), .bool xfx, .int .i64 xL, .int .i64 xD, .slice a n c], blkR o 31 #[.int .u8 xh0, .int .u8 xh1, .int .u8 xh2, .int .u8 xh3, .int .u8 xh4, .int .u8 xh5, .int .u8 xh6, .int .u8 xh7, .int .u16 xb, .int .u64 (xh : Int), .int .u64 (xl : Int), .bool xfx, .int .i64 xL, .int .i64 xD, .slice a n c]] from hw8 ▸ HS0.out.puts 0 rfl [.int .u8 xh0, .int .u8 xh1, .int .u8 xh2, .int .u8 xh3, .int .u8 xh4, .int .u8 xh5, .int .u8 xh6, .int .u8 xh7, .int .u16 xb, .int .u64 (xh : Int), .int .u64 (xl : Int), .bool xfx, .int .i64 xL, .int .i64 xD, .slice a n c] rfl)
  rw [← hw8]
  clear hw8 k0 k1 k2 k3 k4 k5 k6 k7 k8 k9 k10 k11 k12 k13 k14 f0 f1 f2 f3 f4 f5 f6 f7 f8 f9 f10 f11 f12 f13 f14 z0 z1 z2 z3 z4 z5 z6 z7 z8 z9 z10 z11 z12 z13 z14
  have z0 := (HS8.out.blk 0 rfl).cell 0 rfl
  have z1 := (HS8.out.blk 0 rfl).cell 1 rfl
  have z2 := (HS8.out.blk 0 rfl).cell 2 rfl
  have z3 := (HS8.out.blk 0 rfl).cell 3 rfl
  have z4 := (HS8.out.blk 0 rfl).cell 4 rfl
  have z5 := (HS8.out.blk 0 rfl).cell 5 rfl
  have z6 := (HS8.out.blk 0 rfl).cell 6 rfl
  have z7 := (HS8.out.blk 0 rfl).cell 7 rfl
  have z8 := (HS8.out.blk 0 rfl).cell 8 rfl
  have z9 := (HS8.out.blk 0 rfl).cell 9 rfl
  have z10 := (HS8.out.blk 0 rfl).cell 10 rfl
  have z11 := (HS8.out.blk 0 rfl).cell 11 rfl
  have z12 := (HS8.out.blk 0 rfl).cell 12 rfl
  have z13 := (HS8.out.blk 0 rfl).cell 13 rfl
  have z14 := (HS8.out.blk 0 rfl).cell 14 rfl
  refine bodyPost_ret (v := .agg #[.int .u8 xh0, .int .u8 xh1, .int .u8 xh2, .int .u8 xh3, .int .u8 xh4, .int .u8 xh5, .int .u8 xh6, .int .u8 xh7, .int .u16 xb, .int .u64 (xh : Int), .int .u64 (xl : Int), .bool xfx, .int .i64 xL, .int .i64 xD, .slice a n c]) ?_ rfl ⟨rfl, HS8.out.frm⟩
  simp [results, Tryd.results13, go_sem, z0, z1, z2, z3, z4, z5, z6, z7, z8, z9, z10, z11, z12, z13, z14]
set_option maxRecDepth 100000 in
set_option maxHeartbeats 4000000 in
theorem sseq_c (a b : Option Addr) (ca cb : Nat) (L : List Int) (n : Nat) (w : World) (ra : RdI .u16 w a L) (rb : RdI .u16 w b L) (hL : L.length = n) (hn : n ≤ 1000) :
    Calls Tryd.prog 23 #[.slice a n ca, .slice b n cb] w fun e w' => e = .returned (.bool true) ∧ Frm [] w w' := by
  have HA := Lib.hid ra
  have HB := Lib.hid rb
  have HL := Lib.hid hL
  clear ra rb hL
  have hnn : ((n : Int) != (n : Int)) = false := by simp
  go_enter Tryd.func23, Tryd.ntmps23
  go_wp2_with fail
  go_loopw [5] (fun i wr => ∃ (k m : Nat), k ≤ n ∧ i = .int .i64 k ∧ wr = w.drewN m) (fun i _ => n - (intOf i).toNat)
  case atStart => exact ⟨0, 0, Nat.zero_le _, rfl, rfl⟩
  case round =>
    obtain ⟨k, m, hk, rfl, rfl⟩ := hrel
    by_cases hlt : k < n
    · obtain ⟨b1, o1, x, hx, rfl, _, cx⟩ := HA.out.at_ k (by rw [HL.out]; exact hlt)
      obtain ⟨b2, o2, y, hy, rfl, _, cy⟩ := HB.out.at_ k (by rw [HL.out]; exact hlt)
      rw [hx] at hy
      obtain rfl : x = y := by injection hy
      have hxx : (x != x) = false := by simp
      have i1 : (0 : Int) ≤ (k : Int) := by omega
      have i2 : (k : Int) < (n : Int) := by omega
      clear hx hy
      go_wp2_with fail
      go_quiet (fail)
      go_wp2_with fail
      go_roundw
      case rel => exact ⟨k + 1, _, by omega, by go_num, rfl⟩
      case measure => simp [intOf]; omega
    · obtain rfl : k = n := by omega
      go_wp2_with fail
      go_ret
      exact ⟨rfl, (Frm.refl _ _).drewN m⟩

end Go.Proofs.YtnloabpdjedanaaDoor
