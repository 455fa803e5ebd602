/-
  THE WALKS of Block, of its reference, of the document's example.
-/
import Derived.Test.YtjmnbhcbgjigdaaBuB
set_option linter.unusedVariables false
set_option linter.unusedSimpArgs false
namespace Go.Proofs.Ytjmnbhcbgjigdaa
open Go.RowKit

/-- How many repairs a block gets. -/
def blockN (kind loss k pct : Int) : Int := grantN (earnC (upTo pct 100) 0 k) (tcount kind loss k)

set_option maxHeartbeats 1000000 in
theorem block_c (kind loss k pct : Int) (w : World) :
    Calls Try.prog 22 #[.int .i64 kind, .int .i64 loss, .int .i64 k, .int .i64 pct] w fun e w' => e = .returned (.int .i64 (blockN kind loss k pct)) ∧ Frm [] w w' := by
  have p0 := upTo_ge pct 100 (by decide)
  have p1 := upTo_le pct 100
  obtain ⟨c0, c1⟩ := earnC_in (upTo pct 100) 0 k p0 p1 (by decide) (by decide)
  go_enter Try.func22, Try.ntmps22
  go_wp2_with fail
  refine (bnew_c _ _).mono ?_
  rintro e w1 ⟨rfl, hb, hf⟩
  have HS1 := Lib.hid ((Sep.init w).add hf (r := blkR w.heap.size 47 #[.int .i64 (upTo pct 100), .int .i64 0]) hb (by simp [blkR]))
  clear hb hf
  go_wp2_with fail
  refine (bearn_c _ _ _ _ _ (HS1.out.blk 0 rfl) p0 p1 (by decide) (by decide)).mono ?_
  rintro e w2 ⟨rfl, hb, hf⟩
  have HS2 := Lib.hid (HS1.out.call 0 rfl hf hb)
  clear hb hf
  go_wp2_with fail
  refine (tcount_c _ _ _ _).mono ?_
  rintro e w' ⟨rfl, rfl⟩
  go_wp2_with fail
  refine (bgrant_c _ _ _ _ _ (HS2.out.blk 0 rfl) c0 c1).mono ?_
  rintro e w3 ⟨rfl, hb, hf⟩
  have HS3 := Lib.hid (HS2.out.call 0 rfl hf hb)
  clear hb hf
  go_wp2_with fail
  go_ret
  exact ⟨rfl, HS3.out.frm⟩

set_option maxHeartbeats 1000000 in
theorem rblock_c (kind loss k pct : Int) (w : World) :
    Calls Try.prog 23 #[.int .i64 kind, .int .i64 loss, .int .i64 k, .int .i64 pct] w fun e w' => e = .returned (.int .i64 (blockN kind loss k pct)) ∧ Frm [] w w' := by
  have p0 := upTo_ge pct 100 (by decide)
  have p1 := upTo_le pct 100
  obtain ⟨c0, c1⟩ := earnC_in (upTo pct 100) 0 k p0 p1 (by decide) (by decide)
  go_enter Try.func23, Try.ntmps23
  go_wp2_with fail
  refine (rnew_c _ _).mono ?_
  rintro e w1 ⟨rfl, hf⟩
  have HF1 := Lib.hid hf
  clear hf
  go_wp2_with fail
  refine (rearn_c _ _ _ _ p0 p1 (by decide) (by decide)).mono ?_
  rintro e w2 ⟨rfl, hf⟩
  have HF2 := Lib.hid (HF1.out.trans hf)
  clear hf
  go_wp2_with fail
  refine (rcount_c _ _ _ _).mono ?_
  rintro e w' ⟨rfl, rfl⟩
  go_wp2_with fail
  refine (rgrant_c _ _ _ _ c0 c1).mono ?_
  rintro e w3 ⟨rfl, hf⟩
  have HF3 := Lib.hid (HF2.out.trans hf)
  clear hf
  go_wp2_with fail
  go_ret
  exact ⟨rfl, HF3.out.alloc _⟩

theorem block_a : blockN 0 26 10 100 = 2 := by decide +kernel
theorem block_b : blockN 0 26 10 10 = 1 := by decide +kernel

set_option maxHeartbeats 2000000 in
theorem alive_c (w : World) : Calls Try.prog 7 #[] w fun e w' => e = .returned (.bool true) ∧ Frm [] w w' := by
  go_enter Try.func7, Try.ntmps7
  go_wp2_with fail
  refine (bnew_c _ _).mono ?_
  rintro e w1 ⟨rfl, hb, hf⟩
  rw [show upTo 50 100 = 50 from by decide +kernel] at hb
  have HS1 := Lib.hid ((Sep.init w).add hf (r := blkR w.heap.size 47 #[.int .i64 50, .int .i64 0]) hb (by simp [blkR]))
  clear hb hf
  go_wp2_with fail
  refine (bearn_c _ _ _ _ _ (HS1.out.blk 0 rfl) (by decide) (by decide) (by decide) (by decide)).mono ?_
  rintro e w2 ⟨rfl, hb, hf⟩
  rw [show earnC 50 0 5 = 250 from by decide +kernel] at hb
  have HS2 := Lib.hid (HS1.out.call 0 rfl hf hb)
  clear hb hf
  go_wp2_with fail
  refine (ballow_c _ _ _ _ (HS2.out.blk 0 rfl) (by decide) (by decide)).mono ?_
  rintro e w' ⟨rfl, rfl⟩
  go_wp2_with fail
  refine (bcredit_c _ _ _ _ (HS2.out.blk 0 rfl)).mono ?_
  rintro e w' ⟨rfl, rfl⟩
  go_wp2_with fail
  refine (bspend_c _ _ _ _ _ (HS2.out.blk 0 rfl) (by decide) (by decide)).mono ?_
  rintro e w3 ⟨rfl, hb, hf⟩
  rw [show spendC 250 3 = 250 from by decide +kernel] at hb
  rw [show spendE 250 3 = 6 from by decide +kernel]
  have HS3 := Lib.hid (HS2.out.call 0 rfl hf hb)
  clear hb hf
  go_wp2_with fail
  refine (bspend_c _ _ _ _ _ (HS3.out.blk 0 rfl) (by decide) (by decide)).mono ?_
  rintro e w4 ⟨rfl, hb, hf⟩
  rw [show spendC 250 (-1) = 250 from by decide +kernel] at hb
  rw [show spendE 250 (-1) = 1 from by decide +kernel]
  have HS4 := Lib.hid (HS3.out.call 0 rfl hf hb)
  clear hb hf
  go_wp2_with fail
  refine (bclone_c _ _ _ _ (HS4.out.blk 0 rfl)).mono ?_
  rintro e w5 ⟨rfl, hb, hf⟩
  have HS5 := Lib.hid (HS4.out.add hf (r := blkR w4.heap.size 47 #[.int .i64 50, .int .i64 250]) hb (by simp [blkR]))
  clear hb hf
  go_wp2_with fail
  refine (bgrant_c _ _ _ _ _ (HS5.out.blk 0 rfl) (by decide) (by decide)).mono ?_
  rintro e w6 ⟨rfl, hb, hf⟩
  rw [show grantN 250 9 = 2 from by decide +kernel] at hb ⊢
  have HS6 := Lib.hid (HS5.out.call 0 rfl hf hb)
  clear hb hf
  go_wp2_with fail
  refine (bchange_c _ _ _ _ _ (HS6.out.blk 1 rfl)).mono ?_
  rintro e w7 ⟨rfl, hb, hf⟩
  have HS7 := Lib.hid (HS6.out.call 1 rfl hf hb)
  clear hb hf
  go_wp2_with fail
  refine (bcredit_c _ _ _ _ (HS7.out.blk 0 rfl)).mono ?_
  rintro e w' ⟨rfl, rfl⟩
  go_wp2_with fail
  refine (bpercent_c _ _ _ _ (HS7.out.blk 0 rfl)).mono ?_
  rintro e w' ⟨rfl, rfl⟩
  go_wp2_with fail
  refine (bcredit_c _ _ _ _ (HS7.out.blk 1 rfl)).mono ?_
  rintro e w' ⟨rfl, rfl⟩
  rw [show changeC (upTo 0 100) 250 = 0 from by decide +kernel]
  go_wp2_with fail
  refine (bpercent_c _ _ _ _ (HS7.out.blk 1 rfl)).mono ?_
  rintro e w' ⟨rfl, rfl⟩
  rw [show upTo 0 100 = 0 from by decide +kernel]
  go_wp2_with fail
  refine (block_c _ _ _ _ _).mono ?_
  rintro e w8 ⟨rfl, hf⟩
  rw [block_a]
  have HF8 := Lib.hid (HS7.out.frm.trans hf)
  clear hf
  go_wp2_with fail
  refine (block_c _ _ _ _ _).mono ?_
  rintro e w9 ⟨rfl, hf⟩
  rw [block_b]
  have HF9 := Lib.hid (HF8.out.trans hf)
  clear hf
  go_wp2_with fail
  go_ret
  exact ⟨rfl, HF9.out⟩

end Go.Proofs.Ytjmnbhcbgjigdaa
