/-
  THE WALK of mask.Down (printed by gen_mad.py).
-/
import Derived.Test.YtibccecmicndaaaDoorMaC
set_option linter.unusedVariables false
set_option linter.unusedSimpArgs false
namespace Go.Proofs.YtibccecmicndaaaDoor
open Go.RowKit

set_option maxRecDepth 100000 in
set_option maxHeartbeats 4000000 in
theorem downA (h l : Nat) (n : Int) (w : World) (h0 : h < 18446744073709551616) (h1 : l < 18446744073709551616) (hn : 128 ≤ n ∨ n ≤ -128) : Calls Tryd.prog 27 #[mV h l, .int .i64 n] w fun e w' => e = .returned (mV (0) (0)) ∧ Frm [] w w' := by
  have HF := Lib.hid (Frm.refl [] w)
  by_cases hb : 128 ≤ n
  · have q1 : decide (128 ≤ n) = true := decide_eq_true hb
    clear hn hb
    unfold mV
    go_enter Tryd.func27, Tryd.ntmps27
    go_wp2_with fail
    refine bodyPost_ret (v := .agg #[.int .u64 (((0 : Nat) : Int)), .int .u64 (((0 : Nat) : Int))]) ?_ rfl ⟨rfl, ?_⟩
    · simp [results, Tryd.results27, go_sem]
    · exact (HF.out.alloc _).alloc _
  · have q1 : decide (128 ≤ n) = false := decide_eq_false hb
    have q2 : decide (n ≤ -128) = true := decide_eq_true (by omega)
    clear hn hb
    unfold mV
    go_enter Tryd.func27, Tryd.ntmps27
    go_wp2_with fail
    refine bodyPost_ret (v := .agg #[.int .u64 (((0 : Nat) : Int)), .int .u64 (((0 : Nat) : Int))]) ?_ rfl ⟨rfl, ?_⟩
    · simp [results, Tryd.results27, go_sem]
    · exact (HF.out.alloc _).alloc _
set_option maxRecDepth 100000 in
set_option maxHeartbeats 4000000 in
theorem downB (h l : Nat) (n : Int) (w : World) (h0 : h < 18446744073709551616) (h1 : l < 18446744073709551616) (n0 : 64 ≤ n) (n1 : n < 128) : Calls Tryd.prog 27 #[mV h l, .int .i64 n] w fun e w' => e = .returned (mV (0) (h / 2 ^ (n - 64).toNat)) ∧ Frm [] w w' := by
  have HF := Lib.hid (Frm.refl [] w)
  have q1 : decide (128 ≤ n) = false := decide_eq_false (by omega)
  have q2 : decide (n ≤ -128) = false := decide_eq_false (by omega)
  have q3 : decide (64 ≤ n) = true := decide_eq_true n0
  have j1 : 0 ≤ n - 64 := by omega
  have j2 : n - 64 ≤ 63 := by omega
  obtain ⟨q, hq⟩ : ∃ q : Nat, q = h / 2 ^ (n - 64).toNat := ⟨_, rfl⟩
  rw [← hq]
  have e1 : (h : Int) / 2 ^ (n - 64).toNat = (q : Int) := by rw [hq]; exact c_div _ _
  clear hq
  unfold mV
  go_enter Tryd.func27, Tryd.ntmps27
  go_wp2_with fail
  refine bodyPost_ret (v := .agg #[.int .u64 (((0 : Nat) : Int)), .int .u64 ((q : Int))]) ?_ rfl ⟨rfl, ?_⟩
  · simp [results, Tryd.results27, go_sem]
  · exact (HF.out.alloc _).alloc _
set_option maxRecDepth 100000 in
set_option maxHeartbeats 4000000 in
theorem downC (h l : Nat) (n : Int) (w : World) (h0 : h < 18446744073709551616) (h1 : l < 18446744073709551616) (n0 : 0 ≤ n) (n1 : n < 64) : Calls Tryd.prog 27 #[mV h l, .int .i64 n] w fun e w' => e = .returned (mV (h / 2 ^ n.toNat) (l / 2 ^ n.toNat ||| (h * 2 ^ (64 - n).toNat % 18446744073709551616))) ∧ Frm [] w w' := by
  have HS := Lib.hid (show Sep [] w _ [blkR (w.heap.size + 1) 27 #[.int .u64 0, .int .u64 0], blkR w.heap.size 27 #[.int .u64 (h : Int), .int .u64 (l : Int)]] from by have h := ((Sep.init w).alloc #[.int .u64 (h : Int), .int .u64 (l : Int)] 27).alloc #[.int .u64 0, .int .u64 0] 27; rw [World.size_alloc] at h; exact h)
  have q1 : decide (128 ≤ n) = false := decide_eq_false (by omega)
  have q2 : decide (n ≤ -128) = false := decide_eq_false (by omega)
  have q3 : decide (64 ≤ n) = false := decide_eq_false (by omega)
  have q4 : decide (0 ≤ n) = true := decide_eq_true n0
  have j1 : 0 ≤ 64 - n := by omega
  have j2 : 64 - n ≤ 64 := by omega
  have e0 : IntKind.i64.wrap (64 - n) = 64 - n := IntWalk.i64_in _ (by omega)
  obtain ⟨p, hp⟩ : ∃ p : Nat, p = h / 2 ^ n.toNat := ⟨_, rfl⟩
  obtain ⟨q, hq⟩ : ∃ q : Nat, q = l / 2 ^ n.toNat ||| (h * 2 ^ (64 - n).toNat % 18446744073709551616) := ⟨_, rfl⟩
  rw [← hp, ← hq]
  obtain ⟨a, ha⟩ : ∃ a : Nat, a = l / 2 ^ n.toNat := ⟨_, rfl⟩
  obtain ⟨b, hb⟩ : ∃ b : Nat, b = h * 2 ^ (64 - n).toNat % 18446744073709551616 := ⟨_, rfl⟩
  have e1 : (h : Int) / 2 ^ n.toNat = (p : Int) := by rw [hp]; exact c_div _ _
  have e2 : (l : Int) / 2 ^ n.toNat = (a : Int) := by rw [ha]; exact c_div _ _
  have e3 : IntKind.u64.wrap ((h : Int) * 2 ^ (64 - n).toNat) = (b : Int) := by rw [hb]; exact c_shl _ _
  have e4 : bits .or .u64 (a : Int) (b : Int) = (q : Int) := by rw [hq, ← ha, ← hb]; exact u_or (by rw [ha]; exact Nat.lt_of_le_of_lt (Nat.div_le_self _ _) h1) (by omega)
  clear hp hq ha hb
  unfold mV
  go_enter Tryd.func27, Tryd.ntmps27
  go_wp2_with fail
  have n1 := HS.out.inh
  have k0 := fun x : Cls (fun v => Sep [] w v [blkR (w.heap.size + 1) 27 #[.int .u64 0, .int .u64 0], blkR w.heap.size 27 #[.int .u64 (h : Int), .int .u64 (l : Int)]]) => (x.ok.blk 1 rfl).cell 0 rfl
  have k1 := fun x : Cls (fun v => Sep [] w v [blkR (w.heap.size + 1) 27 #[.int .u64 0, .int .u64 0], blkR w.heap.size 27 #[.int .u64 (h : Int), .int .u64 (l : Int)]]) => (x.ok.blk 1 rfl).cell 1 rfl
  refine region_sep_tail 15 HS.out (by kernel_rfl) (by kernel_rfl) ?_
  simp only [List.take_succ_cons, List.take_zero, List.drop_succ_cons, List.drop_zero]
  repeat (go_big_quiet_step (fail))
  refine wpQuiet_nil ?_
  intro w2 hS2
  have HS2 := Lib.hid hS2
  have j0 := (hS2.blk 0 rfl).cell 0 rfl
  have j1 := (hS2.blk 0 rfl).cell 1 rfl
  have f0 := (hS2.blk 0 rfl).free 0
  have f1 := (hS2.blk 0 rfl).free 1
  clear hS2 n1 k0 k1
  go_wp2_with fail
  refine bodyPost_ret (v := .agg #[.int .u64 (p : Int), .int .u64 (q : Int)]) ?_ rfl ⟨rfl, ?_⟩
  · simp [results, Tryd.results27, go_sem, j0, j1]
  · exact ((HS2.out.put 0 rfl 0 _).put 0 rfl 1 _).frm
set_option maxRecDepth 100000 in
set_option maxHeartbeats 4000000 in
theorem downD (h l : Nat) (n : Int) (w : World) (h0 : h < 18446744073709551616) (h1 : l < 18446744073709551616) (n0 : -128 < n) (n1 : n ≤ -64) : Calls Tryd.prog 27 #[mV h l, .int .i64 n] w fun e w' => e = .returned (mV (l * 2 ^ (-n - 64).toNat % 18446744073709551616) (0)) ∧ Frm [] w w' := by
  have HF := Lib.hid (Frm.refl [] w)
  have q1 : decide (128 ≤ n) = false := decide_eq_false (by omega)
  have q2 : decide (n ≤ -128) = false := decide_eq_false (by omega)
  have q3 : decide (64 ≤ n) = false := decide_eq_false (by omega)
  have q4 : decide (0 ≤ n) = false := decide_eq_false (by omega)
  have e0 : IntKind.i64.wrap (-n) = -n := IntWalk.i64_in _ (by omega)
  have q5 : decide (n ≤ -64) = true := decide_eq_true n1
  have j1 : 0 ≤ -n - 64 := by omega
  have j2 : -n - 64 ≤ 63 := by omega
  have e00 : IntKind.i64.wrap (-n - 64) = -n - 64 := IntWalk.i64_in _ (by omega)
  obtain ⟨p, hp⟩ : ∃ p : Nat, p = l * 2 ^ (-n - 64).toNat % 18446744073709551616 := ⟨_, rfl⟩
  rw [← hp]
  have e1 : IntKind.u64.wrap ((l : Int) * 2 ^ (-n - 64).toNat) = (p : Int) := by rw [hp]; exact c_shl _ _
  clear hp
  unfold mV
  go_enter Tryd.func27, Tryd.ntmps27
  go_wp2_with fail
  refine bodyPost_ret (v := .agg #[.int .u64 ((p : Int)), .int .u64 (((0 : Nat) : Int))]) ?_ rfl ⟨rfl, ?_⟩
  · simp [results, Tryd.results27, go_sem]
  · exact (HF.out.alloc _).alloc _
set_option maxRecDepth 100000 in
set_option maxHeartbeats 4000000 in
theorem downE (h l : Nat) (n : Int) (w : World) (h0 : h < 18446744073709551616) (h1 : l < 18446744073709551616) (n0 : -64 < n) (n1 : n < 0) : Calls Tryd.prog 27 #[mV h l, .int .i64 n] w fun e w' => e = .returned (mV ((h * 2 ^ (-n).toNat % 18446744073709551616) ||| l / 2 ^ (64 + n).toNat) (l * 2 ^ (-n).toNat % 18446744073709551616)) ∧ Frm [] w w' := by
  have HS := Lib.hid (show Sep [] w _ [blkR (w.heap.size + 1) 27 #[.int .u64 0, .int .u64 0], blkR w.heap.size 27 #[.int .u64 (h : Int), .int .u64 (l : Int)]] from by have h := ((Sep.init w).alloc #[.int .u64 (h : Int), .int .u64 (l : Int)] 27).alloc #[.int .u64 0, .int .u64 0] 27; rw [World.size_alloc] at h; exact h)
  have q1 : decide (128 ≤ n) = false := decide_eq_false (by omega)
  have q2 : decide (n ≤ -128) = false := decide_eq_false (by omega)
  have q3 : decide (64 ≤ n) = false := decide_eq_false (by omega)
  have q4 : decide (0 ≤ n) = false := decide_eq_false (by omega)
  have e0 : IntKind.i64.wrap (-n) = -n := IntWalk.i64_in _ (by omega)
  have q5 : decide (n ≤ -64) = false := decide_eq_false (by omega)
  have j1 : 0 ≤ -n := by omega
  have j2 : -n ≤ 63 := by omega
  have j3 : 0 ≤ 64 + n := by omega
  have j4 : 64 + n ≤ 63 := by omega
  have e00 : IntKind.i64.wrap (64 + n) = 64 + n := IntWalk.i64_in _ (by omega)
  obtain ⟨p, hp⟩ : ∃ p : Nat, p = (h * 2 ^ (-n).toNat % 18446744073709551616) ||| l / 2 ^ (64 + n).toNat := ⟨_, rfl⟩
  obtain ⟨q, hq⟩ : ∃ q : Nat, q = l * 2 ^ (-n).toNat % 18446744073709551616 := ⟨_, rfl⟩
  rw [← hp, ← hq]
  obtain ⟨a, ha⟩ : ∃ a : Nat, a = h * 2 ^ (-n).toNat % 18446744073709551616 := ⟨_, rfl⟩
  obtain ⟨b, hb⟩ : ∃ b : Nat, b = l / 2 ^ (64 + n).toNat := ⟨_, rfl⟩
  have e1 : IntKind.u64.wrap ((h : Int) * 2 ^ (-n).toNat) = (a : Int) := by rw [ha]; exact c_shl _ _
  have e2 : (l : Int) / 2 ^ (64 + n).toNat = (b : Int) := by rw [hb]; exact c_div _ _
  have e3 : IntKind.u64.wrap ((l : Int) * 2 ^ (-n).toNat) = (q : Int) := by rw [hq]; exact c_shl _ _
  have e4 : bits .or .u64 (a : Int) (b : Int) = (p : Int) := by rw [hp, ← ha, ← hb]; exact u_or (by omega) (by rw [hb]; exact Nat.lt_of_le_of_lt (Nat.div_le_self _ _) h1)
  clear hp hq ha hb
  unfold mV
  go_enter Tryd.func27, Tryd.ntmps27
  go_wp2_with fail
  have n1 := HS.out.inh
  have k0 := fun x : Cls (fun v => Sep [] w v [blkR (w.heap.size + 1) 27 #[.int .u64 0, .int .u64 0], blkR w.heap.size 27 #[.int .u64 (h : Int), .int .u64 (l : Int)]]) => (x.ok.blk 1 rfl).cell 0 rfl
  have k1 := fun x : Cls (fun v => Sep [] w v [blkR (w.heap.size + 1) 27 #[.int .u64 0, .int .u64 0], blkR w.heap.size 27 #[.int .u64 (h : Int), .int .u64 (l : Int)]]) => (x.ok.blk 1 rfl).cell 1 rfl
  refine region_sep_tail 17 HS.out (by kernel_rfl) (by kernel_rfl) ?_
  simp only [List.take_succ_cons, List.take_zero, List.drop_succ_cons, List.drop_zero]
  repeat (go_big_quiet_step (fail))
  refine wpQuiet_nil ?_
  intro w2 hS2
  have HS2 := Lib.hid hS2
  have j0 := (hS2.blk 0 rfl).cell 0 rfl
  have j1 := (hS2.blk 0 rfl).cell 1 rfl
  have f0 := (hS2.blk 0 rfl).free 0
  have f1 := (hS2.blk 0 rfl).free 1
  clear hS2 n1 k0 k1
  go_wp2_with fail
  refine bodyPost_ret (v := .agg #[.int .u64 (p : Int), .int .u64 (q : Int)]) ?_ rfl ⟨rfl, ?_⟩
  · simp [results, Tryd.results27, go_sem, j0, j1]
  · exact ((HS2.out.put 0 rfl 0 _).put 0 rfl 1 _).frm

end Go.Proofs.YtibccecmicndaaaDoor
