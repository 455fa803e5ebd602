/-
  THE WALK of Report.
-/
import Derived.Test.YtbodmoefogkciaaRpB
import Derived.Deep.RegionWith
set_option linter.unusedVariables false
set_option linter.unusedSimpArgs false
namespace Go.Proofs.Ytbodmoefogkciaa
open Go.RowKit

/-- The report's cells. -/
def St.rep (s : St) (ssrc : Int) : List Value := [.int .u32 ssrc, .int .i64 s.fraction, .int .i32 s.lost, .int .u32 s.high, .int .u32 s.jitter, .int .u32 0, .int .u32 0]

set_option maxHeartbeats 2000000 in
theorem report_c (b : Nat) (s : St) (k : Nat) (ssrc : Int) (w : World) (h : Stat w b s) (ok : s.ok k) :
    Calls Try.prog 8 #[.pointer (some ⟨b, 0, none⟩), .int .u32 ssrc] w fun e w' => e = .returned (.agg (s.rep ssrc).toArray) ∧ Stat w' b s.report ∧ Frm [b] w w' := by
  have OK := Lib.hid ok
  have HS := Lib.hid (Sep.enter (w := w) (r := blkR b 29 s.cells) h)
  clear h ok
  go_enter Try.func8, Try.ntmps8
  go_wp2_with fail
  have HS1 := Lib.hid (HS.out.alloc #[.int .u32 0, .int .i64 0, .int .i32 0, .int .u32 0, .int .u32 0, .int .u32 0, .int .u32 0] 36)
  refine (frm_of (fraction_c b s k _ (HS1.out.blk 1 rfl) OK.out)).mono ?_
  rintro e w2 ⟨rfl, hf⟩
  have HS2 := Lib.hid (HS1.out.keep hf)
  clear hf
  go_wp2_with fail
  refine (frm_of (lost_c b s k _ (HS2.out.blk 1 rfl) OK.out)).mono ?_
  rintro e w3 ⟨rfl, hf⟩
  have HS3 := Lib.hid (HS2.out.keep hf)
  clear hf
  go_wp2_with fail
  refine (high_c b s k _ (HS3.out.blk 1 rfl) OK.out).mono ?_
  rintro e w' ⟨rfl, rfl⟩
  go_wp2_with fail
  refine (jitter_c b s k _ (HS3.out.blk 1 rfl) OK.out).mono ?_
  rintro e w' ⟨rfl, rfl⟩
  have HS4 := Lib.hid (HS3.out.alloc #[.int .u32 ssrc, .int .i64 s.fraction, .int .i32 s.lost, .int .u32 s.high, .int .u32 s.jitter, .int .u32 0, .int .u32 0] 36)
  go_wp2_with fail
  obtain ⟨W, hW⟩ : ∃ W, W = w3.alloc (.cells #[.int .u32 ssrc, .int .i64 s.fraction, .int .i32 s.lost, .int .u32 s.high, .int .u32 s.jitter, .int .u32 0, .int .u32 0] 36) := ⟨_, rfl⟩
  rw [← hW] at HS4 ⊢
  clear hW
  have HFr := Lib.hid HS4.out.frm
  have d3 : W.cell? ⟨b, 3, none⟩ = some (.int .i64 s.rcv) := (HS4.out.blk 2 rfl).cell 3 rfl
  have d7 : W.cell? ⟨b, 7, none⟩ = some (.int .i64 s.ex) := (HS4.out.blk 2 rfl).cell 7 rfl
  have d8 : W.cell? ⟨b, 8, none⟩ = some (.int .i64 s.ca) := (HS4.out.blk 2 rfl).cell 8 rfl
  have g7 := (HS4.out.blk 2 rfl).free 7
  have g8 := (HS4.out.blk 2 rfl).free 8
  have gl := (HS4.out.blk 2 rfl).lt
  have hbw := HS.out.lt 0 rfl b (by simp [blkR])
  have hw3 := HS3.out.lt 0 rfl w.heap.size (by simp [blkR])
  have p0 : W.cell? ⟨w3.heap.size, 0, none⟩ = some (.int .u32 ssrc) := (HS4.out.blk 0 rfl).cell 0 rfl
  have p1 : W.cell? ⟨w3.heap.size, 1, none⟩ = some (.int .i64 s.fraction) := (HS4.out.blk 0 rfl).cell 1 rfl
  have p2 : W.cell? ⟨w3.heap.size, 2, none⟩ = some (.int .i32 s.lost) := (HS4.out.blk 0 rfl).cell 2 rfl
  have p3 : W.cell? ⟨w3.heap.size, 3, none⟩ = some (.int .u32 s.high) := (HS4.out.blk 0 rfl).cell 3 rfl
  have p4 : W.cell? ⟨w3.heap.size, 4, none⟩ = some (.int .u32 s.jitter) := (HS4.out.blk 0 rfl).cell 4 rfl
  have p5 : W.cell? ⟨w3.heap.size, 5, none⟩ = some (.int .u32 0) := (HS4.out.blk 0 rfl).cell 5 rfl
  have p6 : W.cell? ⟨w3.heap.size, 6, none⟩ = some (.int .u32 0) := (HS4.out.blk 0 rfl).cell 6 rfl
  have y0 : W.cell? ⟨w.heap.size, 0, none⟩ = some (.int .u32 0) := (HS4.out.blk 1 rfl).cell 0 rfl
  have y1 : W.cell? ⟨w.heap.size, 1, none⟩ = some (.int .i64 0) := (HS4.out.blk 1 rfl).cell 1 rfl
  have y2 : W.cell? ⟨w.heap.size, 2, none⟩ = some (.int .i32 0) := (HS4.out.blk 1 rfl).cell 2 rfl
  have y3 : W.cell? ⟨w.heap.size, 3, none⟩ = some (.int .u32 0) := (HS4.out.blk 1 rfl).cell 3 rfl
  have y4 : W.cell? ⟨w.heap.size, 4, none⟩ = some (.int .u32 0) := (HS4.out.blk 1 rfl).cell 4 rfl
  have y5 : W.cell? ⟨w.heap.size, 5, none⟩ = some (.int .u32 0) := (HS4.out.blk 1 rfl).cell 5 rfl
  have y6 : W.cell? ⟨w.heap.size, 6, none⟩ = some (.int .u32 0) := (HS4.out.blk 1 rfl).cell 6 rfl
  have r0 := (HS4.out.blk 1 rfl).free 0
  have r1 := (HS4.out.blk 1 rfl).free 1
  have r2 := (HS4.out.blk 1 rfl).free 2
  have r3 := (HS4.out.blk 1 rfl).free 3
  have r4 := (HS4.out.blk 1 rfl).free 4
  have r5 := (HS4.out.blk 1 rfl).free 5
  have r6 := (HS4.out.blk 1 rfl).free 6
  have pl := (HS4.out.blk 0 rfl).lt
  have yl := (HS4.out.blk 1 rfl).lt
  go_region_with (go_at_call 14; refine (expected_c b s k _ (HS4.out.drew.blk 2 rfl) OK.out).mono ?_; rintro e w' ⟨rfl, m, rfl⟩)
  all_goals go_wp2_with fail
  all_goals
    have HX := (((((((((HS4.out.drewN (1 + m)).put 2 rfl 7 (.int .i64 s.expd)).put 2 rfl 8 (.int .i64 s.rcv)).put 1 rfl 0 (.int .u32 ssrc)).put 1 rfl 1 (.int .i64 s.fraction)).put 1 rfl 2 (.int .i32 s.lost)).put 1 rfl 3 (.int .u32 s.high)).put 1 rfl 4 (.int .u32 s.jitter)).put 1 rfl 5 (.int .u32 0)).put 1 rfl 6 (.int .u32 0)
    refine bodyPost_ret (v := .agg #[.int .u32 ssrc, .int .i64 s.fraction, .int .i32 s.lost, .int .u32 s.high, .int .u32 s.jitter, .int .u32 0, .int .u32 0]) ?_ rfl ⟨rfl, HX.blk 2 rfl, HX.frm⟩
    simp [results, Try.results8, go_sem, y0, y1, y2, y3, y4, y5, y6]

end Go.Proofs.Ytbodmoefogkciaa
