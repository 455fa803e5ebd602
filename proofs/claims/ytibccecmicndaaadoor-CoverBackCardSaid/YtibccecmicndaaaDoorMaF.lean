/-
  THE WALKS of mask.Full, Cut (printed by gen_maf.py).
-/
import Derived.Test.YtibccecmicndaaaDoorMaE
set_option linter.unusedVariables false
set_option linter.unusedSimpArgs false
namespace Go.Proofs.YtibccecmicndaaaDoor
open Go.RowKit

/-- A number held between two. -/
def held (n a b : Int) : Int := if n < a then a else if b < n then b else n
def fuH (n : Int) : Nat := 18446744073709551615 ^^^ dwH 18446744073709551615 18446744073709551615 (held n 0 128)
def fuL (n : Int) : Nat := 18446744073709551615 ^^^ dwL 18446744073709551615 18446744073709551615 (held n 0 128)
set_option maxRecDepth 100000 in
set_option maxHeartbeats 4000000 in
theorem full_c (n : Int) (w : World) : Calls Tryd.prog 46 #[.int .i64 n] w fun e w' => e = .returned (mV (fuH n) (fuL n)) ∧ Frm [] w w' := by
  have HS := Lib.hid (show Sep [] w _ [blkR (w.heap.size + 1) 27 #[.int .u64 18446744073709551615, .int .u64 18446744073709551615], blkR w.heap.size 27 #[.int .u64 0, .int .u64 0]] from by have h := ((Sep.init w).alloc #[.int .u64 0, .int .u64 0] 27).alloc #[.int .u64 18446744073709551615, .int .u64 18446744073709551615] 27; rw [World.size_alloc] at h; exact h)
  obtain ⟨c, hc⟩ : ∃ c, c = held n 0 128 := ⟨_, rfl⟩
  obtain ⟨a, ha⟩ : ∃ a : Int, a = if n < 0 then 0 else n := ⟨_, rfl⟩
  have hca : c = if 128 < a then 128 else a := by rw [hc, ha]; unfold held; split <;> split <;> (try split) <;> omega
  have m1 : (if (0 : Int) > n then 0 else n) = a := ha.symm
  have m2 : (if n < 0 then 0 else n) = a := ha.symm
  have m3 : (if n > 0 then n else 0) = a := by rw [ha]; split <;> split <;> omega
  have m4 : (if 0 < n then n else 0) = a := m3
  have m5 : (if (128 : Int) < a then 128 else a) = c := hca.symm
  have m6 : (if a > 128 then 128 else a) = c := hca.symm
  have m7 : (if a < 128 then a else 128) = c := by rw [hca]; split <;> split <;> omega
  have m8 : (if 128 > a then a else 128) = c := m7
  unfold fuH fuL
  rw [← hc]
  have HD := Lib.hid (fun X => down_c 18446744073709551615 18446744073709551615 c X (by decide) (by decide))
  have HX := Lib.hid (fun X => mxor_c 18446744073709551615 18446744073709551615 (dwH 18446744073709551615 18446744073709551615 c) (dwL 18446744073709551615 18446744073709551615 c) X (by decide) (by decide) (dwH_lt _ _ _ (by decide) (by decide)) (dwL_lt _ _ _ (by decide) (by decide)))
  obtain ⟨p, hp⟩ : ∃ p, p = dwH 18446744073709551615 18446744073709551615 c := ⟨_, rfl⟩
  obtain ⟨q, hq⟩ : ∃ q, q = dwL 18446744073709551615 18446744073709551615 c := ⟨_, rfl⟩
  simp only [← hp, ← hq] at HD HX
  rw [← hp, ← hq]
  obtain ⟨r, hr⟩ : ∃ r, r = 18446744073709551615 ^^^ p := ⟨_, rfl⟩
  obtain ⟨s, hs⟩ : ∃ s, s = 18446744073709551615 ^^^ q := ⟨_, rfl⟩
  rw [← hr, ← hs] at HX ⊢
  have hM : ((18446744073709551615 : Nat) : Int) = 18446744073709551615 := rfl
  unfold mV at *
  rw [hM] at HD HX
  clear hp hq hr hs hc ha hca hM
  go_enter Tryd.func46, Tryd.ntmps46
  go_wp2_with fail
  have n1 := HS.out.inh
  have k0 := fun x : Cls (fun v => Sep [] w v [blkR (w.heap.size + 1) 27 #[.int .u64 18446744073709551615, .int .u64 18446744073709551615], blkR w.heap.size 27 #[.int .u64 0, .int .u64 0]]) => (x.ok.blk 0 rfl).cell 0 rfl
  have k1 := fun x : Cls (fun v => Sep [] w v [blkR (w.heap.size + 1) 27 #[.int .u64 18446744073709551615, .int .u64 18446744073709551615], blkR w.heap.size 27 #[.int .u64 0, .int .u64 0]]) => (x.ok.blk 0 rfl).cell 1 rfl
  refine region_sep_tail 5 HS.out (by kernel_rfl) (by kernel_rfl) ?_
  simp only [List.take_succ_cons, List.take_zero, List.drop_succ_cons, List.drop_zero]
  repeat (go_big_quiet_step ((rename_i x; first
    | (go_at_call 27; with_reducible exact call_keeps x.ok (HD.out _))
    | (go_at_call 53; with_reducible exact call_keeps x.ok (HX.out _)))))
  refine wpQuiet_nil ?_
  intro w2 hS2
  have HS2 := Lib.hid hS2
  have j0 := (hS2.blk 1 rfl).cell 0 rfl
  have j1 := (hS2.blk 1 rfl).cell 1 rfl
  have f0 := (hS2.blk 1 rfl).free 0
  have f1 := (hS2.blk 1 rfl).free 1
  clear hS2 n1 k0 k1
  go_wp2_with fail
  refine bodyPost_ret (v := .agg #[.int .u64 (r : Int), .int .u64 (s : Int)]) ?_ rfl ⟨rfl, ?_⟩
  · simp [results, Tryd.results46, go_sem, j0, j1]
  · exact ((HS2.out.put 1 rfl 0 _).put 1 rfl 1 _).frm
theorem fuH_lt (n : Int) : fuH n < 18446744073709551616 := Nat.xor_lt_two_pow (n := 64) (by decide) (dwH_lt _ _ _ (by decide) (by decide))
theorem fuL_lt (n : Int) : fuL n < 18446744073709551616 := Nat.xor_lt_two_pow (n := 64) (by decide) (dwL_lt _ _ _ (by decide) (by decide))

set_option maxRecDepth 100000 in
set_option maxHeartbeats 4000000 in
theorem cut_c (h l : Nat) (i : Int) (w : World) (h0 : h < 18446744073709551616) (h1 : l < 18446744073709551616) :
    Calls Tryd.prog 26 #[mV h l, .int .i64 i] w fun e w' => e = .returned (mV (h &&& fuH i) (l &&& fuL i)) ∧ Frm [] w w' := by
  have HS := Lib.hid (show Sep [] w _ [blkR (w.heap.size + 1) 27 #[.int .u64 0, .int .u64 0], blkR w.heap.size 27 #[.int .u64 (h : Int), .int .u64 (l : Int)]] from by have h := ((Sep.init w).alloc #[.int .u64 (h : Int), .int .u64 (l : Int)] 27).alloc #[.int .u64 0, .int .u64 0] 27; rw [World.size_alloc] at h; exact h)
  have HI := Lib.hid (fun X => full_c i X)
  have HO := Lib.hid (fun X => mand_c h l (fuH i) (fuL i) X h0 h1 (fuH_lt i) (fuL_lt i))
  obtain ⟨p, hp⟩ : ∃ p, p = fuH i := ⟨_, rfl⟩
  obtain ⟨q, hq⟩ : ∃ q, q = fuL i := ⟨_, rfl⟩
  simp only [← hp, ← hq] at HI HO
  rw [← hp, ← hq]
  obtain ⟨r, hr⟩ : ∃ r, r = h &&& p := ⟨_, rfl⟩
  obtain ⟨s, hs⟩ : ∃ s, s = l &&& q := ⟨_, rfl⟩
  rw [← hr, ← hs] at HO ⊢
  clear hp hq hr hs h0 h1
  unfold mV at *
  go_enter Tryd.func26, Tryd.ntmps26
  go_wp2_with fail
  have n1 := HS.out.inh
  have k0 := fun x : Cls (fun v => Sep [] w v [blkR (w.heap.size + 1) 27 #[.int .u64 0, .int .u64 0], blkR w.heap.size 27 #[.int .u64 (h : Int), .int .u64 (l : Int)]]) => (x.ok.blk 1 rfl).cell 0 rfl
  have k1 := fun x : Cls (fun v => Sep [] w v [blkR (w.heap.size + 1) 27 #[.int .u64 0, .int .u64 0], blkR w.heap.size 27 #[.int .u64 (h : Int), .int .u64 (l : Int)]]) => (x.ok.blk 1 rfl).cell 1 rfl
  refine region_sep_tail 4 HS.out (by kernel_rfl) (by kernel_rfl) ?_
  simp only [List.take_succ_cons, List.take_zero, List.drop_succ_cons, List.drop_zero]
  repeat (go_big_quiet_step ((rename_i x; first
    | (go_at_call 46; exact call_keeps x.ok (HI.out _))
    | (go_at_call 43; exact call_keeps x.ok (HO.out _)))))
  refine wpQuiet_nil ?_
  intro w2 hS2
  have HS2 := Lib.hid hS2
  have j0 := (hS2.blk 0 rfl).cell 0 rfl
  have j1 := (hS2.blk 0 rfl).cell 1 rfl
  have f0 := (hS2.blk 0 rfl).free 0
  have f1 := (hS2.blk 0 rfl).free 1
  clear hS2 n1 k0 k1
  go_wp2_with fail
  refine bodyPost_ret (v := .agg #[.int .u64 (r : Int), .int .u64 (s : Int)]) ?_ rfl ⟨rfl, ?_⟩
  · simp [results, Tryd.results26, go_sem, j0, j1]
  · exact ((HS2.out.put 0 rfl 0 _).put 0 rfl 1 _).frm

end Go.Proofs.YtibccecmicndaaaDoor
