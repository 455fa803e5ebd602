/-
  THE WALKS of mask.With, Has, Without, Count (printed by gen_mac.py).
-/
import Derived.Test.YtibccecmicndaaaDoorMaB
import Derived.Test.YtibccecmicndaaaDoorReg
import Derived.Laws.StructEq
import Derived.Deep.DeepCutAuto
set_option linter.unusedVariables false
set_option linter.unusedSimpArgs false
namespace Go.Proofs.YtibccecmicndaaaDoor
open Go.RowKit

theorem cnt_le (x : Nat) : ∀ k, cnt x k ≤ k := by
  intro k
  unfold cnt
  have := List.countP_le_length (p := fun i => x.testBit i) (l := List.range k)
  simpa using this
theorem mneq (a b c d : Int) (w : World) : (binOp .neq 27 (.agg #[.int .u64 a, .int .u64 b]) (.agg #[.int .u64 c, .int .u64 d])).run Tryd.prog w = .ok (.bool (!((a == c) && (b == d)))) w := by
  have u3 := Tryd.underlying23
  have hS : Tryd.prog.underlying 27 = some (.struct (Tryd.prog.fieldsOf 27)) := by kernel_rfl
  have hp : Tryd.prog.stoodInHeld 27 = false := by kernel_rfl
  rw [run_neq_struct, show (10000 : Nat) = 9999 + 1 from rfl, run_equalIn_agg w 9999 27 _ _ hS hp]
  simp only [Program.fieldsOf, Tryd.underlying27]
  go_simp
  by_cases h1 : a = c <;> by_cases h2 : b = d <;> simp [h1, h2]
theorem meql (a b c d : Int) (w : World) : (binOp .eql 27 (.agg #[.int .u64 a, .int .u64 b]) (.agg #[.int .u64 c, .int .u64 d])).run Tryd.prog w = .ok (.bool (((a == c) && (b == d)))) w := by
  have u3 := Tryd.underlying23
  have hS : Tryd.prog.underlying 27 = some (.struct (Tryd.prog.fieldsOf 27)) := by kernel_rfl
  have hp : Tryd.prog.stoodInHeld 27 = false := by kernel_rfl
  rw [run_eql_struct, show (10000 : Nat) = 9999 + 1 from rfl, run_equalIn_agg w 9999 27 _ _ hS hp]
  simp only [Program.fieldsOf, Tryd.underlying27]
  go_simp
  by_cases h1 : a = c <;> by_cases h2 : b = d <;> simp [h1, h2]
theorem bH_lt (i : Int) : bH i < 18446744073709551616 := by
  unfold bH
  split
  · exact two_lt (by omega)
  · decide
theorem bL_lt (i : Int) : bL i < 18446744073709551616 := by
  unfold bL
  split
  · exact two_lt (by omega)
  · decide

set_option maxRecDepth 100000 in
set_option maxHeartbeats 4000000 in
theorem with_c (h l : Nat) (i : Int) (w : World) (h0 : h < 18446744073709551616) (h1 : l < 18446744073709551616) (i0 : -9223372036854775808 ≤ i) (i1 : i ≤ 9223372036854775807) :
    Calls Tryd.prog 25 #[mV h l, .int .i64 i] w fun e w' => e = .returned (mV (h ||| bH i) (l ||| bL i)) ∧ Frm [] w w' := by
  have HS := Lib.hid (show Sep [] w _ [blkR (w.heap.size + 1) 27 #[.int .u64 0, .int .u64 0], blkR w.heap.size 27 #[.int .u64 (h : Int), .int .u64 (l : Int)]] from by have h := ((Sep.init w).alloc #[.int .u64 (h : Int), .int .u64 (l : Int)] 27).alloc #[.int .u64 0, .int .u64 0] 27; rw [World.size_alloc] at h; exact h)
  have HI := Lib.hid (fun X => bit_c i X i0 i1)
  have HO := Lib.hid (fun X => mor_c h l (bH i) (bL i) X h0 h1 (bH_lt i) (bL_lt i))
  obtain ⟨p, hp⟩ : ∃ p, p = bH i := ⟨_, rfl⟩
  obtain ⟨q, hq⟩ : ∃ q, q = bL i := ⟨_, rfl⟩
  simp only [← hp, ← hq] at HI HO
  rw [← hp, ← hq]
  obtain ⟨r, hr⟩ : ∃ r, r = h ||| p := ⟨_, rfl⟩
  obtain ⟨s, hs⟩ : ∃ s, s = l ||| q := ⟨_, rfl⟩
  rw [← hr, ← hs] at HO ⊢
  clear hp hq hr hs h0 h1
  unfold mV at *
  go_enter Tryd.func25, Tryd.ntmps25
  go_wp2_with fail
  have n1 := HS.out.inh
  have k0 := fun x : Cls (fun v => Sep [] w v [blkR (w.heap.size + 1) 27 #[.int .u64 0, .int .u64 0], blkR w.heap.size 27 #[.int .u64 (h : Int), .int .u64 (l : Int)]]) => (x.ok.blk 1 rfl).cell 0 rfl
  have k1 := fun x : Cls (fun v => Sep [] w v [blkR (w.heap.size + 1) 27 #[.int .u64 0, .int .u64 0], blkR w.heap.size 27 #[.int .u64 (h : Int), .int .u64 (l : Int)]]) => (x.ok.blk 1 rfl).cell 1 rfl
  refine region_sep_tail 4 HS.out (by kernel_rfl) (by kernel_rfl) ?_
  simp only [List.take_succ_cons, List.take_zero, List.drop_succ_cons, List.drop_zero]
  repeat (go_big_quiet_step ((rename_i x; first
    | (go_at_call 44; exact call_keeps x.ok (HI.out _))
    | (go_at_call 45; exact call_keeps x.ok (HO.out _)))))
  refine wpQuiet_nil ?_
  intro w2 hS2
  have HS2 := Lib.hid hS2
  have j0 := (hS2.blk 0 rfl).cell 0 rfl
  have j1 := (hS2.blk 0 rfl).cell 1 rfl
  have f0 := (hS2.blk 0 rfl).free 0
  have f1 := (hS2.blk 0 rfl).free 1
  clear hS2 n1 k0 k1
  go_wp2_with fail
  refine bodyPost_ret (v := .agg #[.int .u64 (r : Int), .int .u64 (s : Int)]) ?_ rfl ⟨rfl, ?_⟩
  · simp [results, Tryd.results25, go_sem, j0, j1]
  · exact ((HS2.out.put 0 rfl 0 _).put 0 rfl 1 _).frm

set_option maxRecDepth 100000 in
set_option maxHeartbeats 4000000 in
theorem count_c (h l : Nat) (w : World) (h0 : h < 18446744073709551616) (h1 : l < 18446744073709551616) :
    Calls Tryd.prog 23 #[mV h l] w fun e w' => e = .returned (.int .i64 ((cnt h 64 + cnt l 64 : Nat) : Int)) ∧ Frm [] w w' := by
  have HS := Lib.hid (show Sep [] w _ [blkR w.heap.size 27 #[.int .u64 (h : Int), .int .u64 (l : Int)]] from (Sep.init w).alloc #[.int .u64 (h : Int), .int .u64 (l : Int)] 27)
  have HI := Lib.hid (fun X => ones_c h X h0)
  have HO := Lib.hid (fun X => ones_c l X h1)
  have c1 := cnt_le h 64
  have c2 := cnt_le l 64
  obtain ⟨p, hp⟩ : ∃ p, p = cnt h 64 := ⟨_, rfl⟩
  obtain ⟨q, hq⟩ : ∃ q, q = cnt l 64 := ⟨_, rfl⟩
  rw [← hp] at HI c1 ⊢
  rw [← hq] at HO c2 ⊢
  have e1 : IntKind.i64.wrap ((p : Int) + (q : Int)) = (p : Int) + (q : Int) := IntWalk.i64_in _ (by omega)
  clear hp hq h0 h1
  unfold mV
  go_enter Tryd.func23, Tryd.ntmps23
  go_wp2_with fail
  have n1 := HS.out.inh
  have k0 := fun x : Cls (fun v => Sep [] w v [blkR w.heap.size 27 #[.int .u64 (h : Int), .int .u64 (l : Int)]]) => (x.ok.blk 0 rfl).cell 0 rfl
  have k1 := fun x : Cls (fun v => Sep [] w v [blkR w.heap.size 27 #[.int .u64 (h : Int), .int .u64 (l : Int)]]) => (x.ok.blk 0 rfl).cell 1 rfl
  refine region_sep HS.out (by kernel_rfl) (by kernel_rfl) ?_
  repeat (go_big_quiet_step ((rename_i x; first
    | (go_at_call 42; (with_reducible exact call_same x.ok (HI.out _)))
    | (go_at_call 42; (with_reducible exact call_same x.ok (HO.out _))))))
  refine wpQuiet_nil ?_
  intro w2 hS2
  have HS2 := Lib.hid hS2
  clear hS2 n1 k0 k1
  go_wp2_with fail
  go_ret
  exact ⟨ret_int (by omega), HS2.out.frm⟩
set_option maxRecDepth 100000 in
set_option maxHeartbeats 4000000 in
theorem has_c (h l : Nat) (i : Int) (w : World) (h0 : h < 18446744073709551616) (h1 : l < 18446744073709551616) (i0 : -9223372036854775808 ≤ i) (i1 : i ≤ 9223372036854775807) :
    Calls Tryd.prog 24 #[mV h l, .int .i64 i] w fun e w' => e = .returned (.bool (decide (h &&& bH i ≠ 0 ∨ l &&& bL i ≠ 0))) ∧ Frm [] w w' := by
  have HS := Lib.hid (show Sep [] w _ [blkR w.heap.size 27 #[.int .u64 (h : Int), .int .u64 (l : Int)]] from (Sep.init w).alloc #[.int .u64 (h : Int), .int .u64 (l : Int)] 27)
  have HI := Lib.hid (fun X => bit_c i X i0 i1)
  have HO := Lib.hid (fun X => mand_c h l (bH i) (bL i) X h0 h1 (bH_lt i) (bL_lt i))
  obtain ⟨p, hp⟩ : ∃ p, p = bH i := ⟨_, rfl⟩
  obtain ⟨q, hq⟩ : ∃ q, q = bL i := ⟨_, rfl⟩
  simp only [← hp, ← hq] at HI HO
  rw [← hp, ← hq]
  obtain ⟨r, hr⟩ : ∃ r, r = h &&& p := ⟨_, rfl⟩
  obtain ⟨s, hs⟩ : ∃ s, s = l &&& q := ⟨_, rfl⟩
  rw [← hr, ← hs] at HO ⊢
  clear hp hq hr hs h0 h1
  have eq := fun w => mneq (r : Int) (s : Int) 0 0 w
  unfold mV at *
  go_enter Tryd.func24, Tryd.ntmps24
  go_wp2_with fail
  have n1 := HS.out.inh
  have k0 := fun x : Cls (fun v => Sep [] w v [blkR w.heap.size 27 #[.int .u64 (h : Int), .int .u64 (l : Int)]]) => (x.ok.blk 0 rfl).cell 0 rfl
  have k1 := fun x : Cls (fun v => Sep [] w v [blkR w.heap.size 27 #[.int .u64 (h : Int), .int .u64 (l : Int)]]) => (x.ok.blk 0 rfl).cell 1 rfl
  refine region_sep HS.out (by kernel_rfl) (by kernel_rfl) ?_
  repeat (go_big_quiet_step ((rename_i x; first
    | (go_at_call 44; exact call_keeps x.ok (HI.out _))
    | (go_at_call 43; exact call_keeps x.ok (HO.out _)))))
  refine wpQuiet_nil ?_
  intro w2 hS2
  have HS2 := Lib.hid hS2
  clear hS2 n1 k0 k1
  go_wp2_with fail
  go_ret
  exact ⟨ret_bool (by by_cases h1 : r = 0 <;> by_cases h2 : s = 0 <;> simp [h1, h2]), HS2.out.frm⟩

set_option maxRecDepth 100000 in
set_option maxHeartbeats 4000000 in
theorem without_c (h l : Nat) (i : Int) (w : World) (h0 : h < 18446744073709551616) (h1 : l < 18446744073709551616) (i0 : -9223372036854775808 ≤ i) (i1 : i ≤ 9223372036854775807) :
    Calls Tryd.prog 56 #[mV h l, .int .i64 i] w fun e w' => e = .returned (mV (h &&& (18446744073709551615 - bH i)) (l &&& (18446744073709551615 - bL i))) ∧ Frm [] w w' := by
  have HS := Lib.hid (show Sep [] w _ [blkR (w.heap.size + 1) 27 #[.int .u64 0, .int .u64 0], blkR w.heap.size 27 #[.int .u64 (h : Int), .int .u64 (l : Int)]] from by have h := ((Sep.init w).alloc #[.int .u64 (h : Int), .int .u64 (l : Int)] 27).alloc #[.int .u64 0, .int .u64 0] 27; rw [World.size_alloc] at h; exact h)
  have HI := Lib.hid (fun X => bit_c i X i0 i1)
  have e1 := u_andNot h0 (bH_lt i)
  have e2 := u_andNot h1 (bL_lt i)
  obtain ⟨p, hp⟩ : ∃ p, p = bH i := ⟨_, rfl⟩
  obtain ⟨q, hq⟩ : ∃ q, q = bL i := ⟨_, rfl⟩
  simp only [← hp, ← hq] at HI
  rw [← hp] at e1 ⊢
  rw [← hq] at e2 ⊢
  obtain ⟨r, hr⟩ : ∃ r, r = h &&& (18446744073709551615 - p) := ⟨_, rfl⟩
  obtain ⟨s, hs⟩ : ∃ s, s = l &&& (18446744073709551615 - q) := ⟨_, rfl⟩
  rw [← hr] at e1 ⊢
  rw [← hs] at e2 ⊢
  clear hp hq hr hs h0 h1
  unfold mV at *
  go_enter Tryd.func56, Tryd.ntmps56
  go_wp2_with fail
  refine (HI.out _).mono ?_
  rintro e w2 ⟨rfl, hF⟩
  have hS3 := (HS.out.keep hF).alloc #[.int .u64 (p : Int), .int .u64 (q : Int)] 27
  obtain ⟨w3, hw3⟩ : ∃ w3, w3 = w2.alloc (.cells #[.int .u64 (p : Int), .int .u64 (q : Int)] 27) := ⟨_, rfl⟩
  obtain ⟨b3, hb3⟩ : ∃ b3, b3 = w2.heap.size := ⟨_, rfl⟩
  rw [← hw3, ← hb3] at hS3
  have HS3 := Lib.hid hS3
  have j0 := (hS3.blk 1 rfl).cell 0 rfl
  have j1 := (hS3.blk 1 rfl).cell 1 rfl
  have f0 := (hS3.blk 1 rfl).free 0
  have f1 := (hS3.blk 1 rfl).free 1
  have k0 := (hS3.blk 2 rfl).cell 0 rfl
  have k1 := (hS3.blk 2 rfl).cell 1 rfl
  have t0 := (hS3.blk 0 rfl).cell 0 rfl
  have t1 := (hS3.blk 0 rfl).cell 1 rfl
  have HW := Lib.hid (And.intro hw3 hb3)
  clear hS3 hF hw3 hb3
  go_upto_region 2 with fail
  rw [← HW.out.2, ← HW.out.1]
  go_wp2_with fail
  refine bodyPost_ret (v := .agg #[.int .u64 (r : Int), .int .u64 (s : Int)]) ?_ rfl ⟨rfl, ?_⟩
  · simp [results, Tryd.results56, go_sem, j0, j1]
  · exact ((HS3.out.put 1 rfl 0 _).put 1 rfl 1 _).frm

end Go.Proofs.YtibccecmicndaaaDoor
