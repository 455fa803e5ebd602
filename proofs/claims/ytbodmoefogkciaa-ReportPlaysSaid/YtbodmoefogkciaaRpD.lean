/-
  THE WALK of the document's example.
-/
import Derived.Test.YtbodmoefogkciaaRpC
set_option linter.unusedVariables false
set_option linter.unusedSimpArgs false
namespace Go.Proofs.Ytbodmoefogkciaa
open Go.RowKit

def stA : St := ⟨4295032830, 4295032830, 1, 0, 0, 0, 0, 0⟩
def stB : St := ⟨4295032831, 4295032830, 2, 160, 0, 160, 0, 0⟩
def stC : St := ⟨4295032833, 4295032830, 3, 150, 0, 160, 0, 0⟩
def stD : St := ⟨4295032833, 4295032830, 3, 150, 0, 160, 4, 3⟩
theorem stA_is : St.zero.note 65534 0 0 = stA := by kernel_rfl
theorem stB_is : stA.note 65535 0 160 = stB := by kernel_rfl
theorem stC_is : stB.note 1 0 160 = stC := by kernel_rfl
theorem stD_is : stC.report = stD := by kernel_rfl
theorem stA_ok : stA.ok 1 := stA_is ▸ St.note_ok St.zero_ok (by decide) 65534 0 0 (by decide) (by decide) (by decide) (by decide) (by decide)
theorem stB_ok : stB.ok 2 := stB_is ▸ St.note_ok stA_ok (by decide) 65535 0 160 (by decide) (by decide) (by decide) (by decide) (by decide)
theorem stC_ok : stC.ok 3 := stC_is ▸ St.note_ok stB_ok (by decide) 1 0 160 (by decide) (by decide) (by decide) (by decide) (by decide)
theorem stD_ok : stD.ok 3 := stD_is ▸ St.report_ok stC_ok
theorem stC_frac : stC.fraction = 64 := by kernel_rfl
theorem stC_lost : stC.lost = 1 := by kernel_rfl
theorem stC_high : stC.high = 65537 := by kernel_rfl
theorem stC_jit : stC.jitter = 9 := by kernel_rfl
theorem stD_rcv : stD.rcv = 3 := by kernel_rfl
theorem stD_expd : stD.expd = 4 := by kernel_rfl
theorem stD_lost : stD.lost = 1 := by kernel_rfl
theorem stD_high : stD.high = 65537 := by kernel_rfl
theorem stD_jit : stD.jitter = 9 := by kernel_rfl
theorem stD_frac : stD.fraction = 0 := by kernel_rfl

set_option maxRecDepth 100000 in
set_option maxHeartbeats 4000000 in
theorem alive_c (w : World) : Calls Try.prog 7 #[] w fun e w' => e = .returned (.bool true) ∧ Frm [] w w' := by
  go_enter Try.func7, Try.ntmps7
  go_wp2_with fail
  have HS0 := Lib.hid ((Sep.init w).alloc St.zero.cells 29)
  refine (note_c _ St.zero 0 65534 0 0 _ (HS0.out.blk 0 rfl) St.zero_ok (by decide) (by decide) (by decide) (by decide) (by decide) (by decide)).mono ?_
  rintro e w1 ⟨rfl, hb, hf⟩
  rw [stA_is] at hb
  have HS1 := Lib.hid (HS0.out.call 0 rfl hf hb)
  clear hb hf
  go_wp2_with fail
  refine (note_c _ stA 1 65535 0 160 _ (HS1.out.blk 0 rfl) stA_ok (by decide) (by decide) (by decide) (by decide) (by decide) (by decide)).mono ?_
  rintro e w2 ⟨rfl, hb, hf⟩
  rw [stB_is] at hb
  have HS2 := Lib.hid (HS1.out.call 0 rfl hf hb)
  clear hb hf
  go_wp2_with fail
  refine (note_c _ stB 2 1 0 160 _ (HS2.out.blk 0 rfl) stB_ok (by decide) (by decide) (by decide) (by decide) (by decide) (by decide)).mono ?_
  rintro e w3 ⟨rfl, hb, hf⟩
  rw [stC_is] at hb
  have HS3 := Lib.hid (HS2.out.call 0 rfl hf hb)
  clear hb hf
  go_wp2_with fail
  refine (rclone_c _ stC _ (HS3.out.blk 0 rfl)).mono ?_
  rintro e w4 ⟨rfl, hb, hf⟩
  have HS4 := Lib.hid (HS3.out.add hf (r := blkR w3.heap.size 29 stC.cells) hb (by simp [blkR]))
  clear hb hf
  go_wp2_with fail
  refine (frm_of (fraction_c _ stC 3 _ (HS4.out.blk 1 rfl) stC_ok)).mono ?_
  rintro e w5 ⟨rfl, hf⟩
  rw [stC_frac]
  have HS5 := Lib.hid (HS4.out.keep hf)
  clear hf
  go_wp2_with fail
  refine (report_c _ stC 3 9 _ (HS5.out.blk 1 rfl) stC_ok).mono ?_
  rintro e w6 ⟨rfl, hb, hf⟩
  rw [stD_is] at hb
  rw [show (stC.rep 9).toArray = #[.int .u32 9, .int .i64 64, .int .i32 1, .int .u32 65537, .int .u32 9, .int .u32 0, .int .u32 0] from by unfold St.rep; rw [stC_frac, stC_lost, stC_high, stC_jit]]
  have HS6 := Lib.hid (HS5.out.call 1 rfl hf hb)
  clear hb hf
  go_wp2_with fail
  have HS7 := Lib.hid (HS6.out.alloc #[.int .u32 9, .int .i64 64, .int .i32 1, .int .u32 65537, .int .u32 9, .int .u32 0, .int .u32 0] 36)
  obtain ⟨W, hW⟩ : ∃ W, W = w6.alloc (.cells #[.int .u32 9, .int .i64 64, .int .i32 1, .int .u32 65537, .int .u32 9, .int .u32 0, .int .u32 0] 36) := ⟨_, rfl⟩
  rw [← hW] at HS7 ⊢
  clear hW
  have p0 : W.cell? ⟨w6.heap.size, 0, none⟩ = some (.int .u32 9) := (HS7.out.blk 0 rfl).cell 0 rfl
  have HB := Lib.hid (HS7.out.blk 0 rfl)
  have HSs := Lib.hid (HS7.out.blk 2 rfl)
  have HSc := Lib.hid (HS7.out.blk 1 rfl)
  clear p0
  refine (received_c _ stD _ HSs.out).mono ?_
  rintro e w' ⟨rfl, rfl⟩
  rw [stD_rcv]
  go_wp2_with fail
  refine (frm_of (expected_c _ stD 3 _ HSs.out stD_ok)).mono ?_
  rintro e w7 ⟨rfl, hf⟩
  rw [stD_expd]
  have HS8 := Lib.hid (HS7.out.keep hf)
  clear hf
  go_wp2_with fail
  refine (frm_of (lost_c _ stD 3 _ (HS8.out.blk 2 rfl) stD_ok)).mono ?_
  rintro e w8 ⟨rfl, hf⟩
  rw [stD_lost]
  have HS9 := Lib.hid (HS8.out.keep hf)
  clear hf
  go_wp2_with fail
  refine (high_c _ stD 3 _ (HS9.out.blk 2 rfl) stD_ok).mono ?_
  rintro e w' ⟨rfl, rfl⟩
  rw [stD_high]
  go_wp2_with fail
  refine (jitter_c _ stD 3 _ (HS9.out.blk 2 rfl) stD_ok).mono ?_
  rintro e w' ⟨rfl, rfl⟩
  rw [stD_jit]
  have p0 : w8.cell? ⟨w6.heap.size, 0, none⟩ = some (.int .u32 9) := (HS9.out.blk 0 rfl).cell 0 rfl
  have p1 : w8.cell? ⟨w6.heap.size, 1, none⟩ = some (.int .i64 64) := (HS9.out.blk 0 rfl).cell 1 rfl
  have p2 : w8.cell? ⟨w6.heap.size, 2, none⟩ = some (.int .i32 1) := (HS9.out.blk 0 rfl).cell 2 rfl
  have p3 : w8.cell? ⟨w6.heap.size, 3, none⟩ = some (.int .u32 65537) := (HS9.out.blk 0 rfl).cell 3 rfl
  go_wp2_with fail
  clear p0 p1 p2 p3
  refine (frm_of (fraction_c _ stD 3 _ (HS9.out.blk 2 rfl) stD_ok)).mono ?_
  rintro e w9 ⟨rfl, hf⟩
  rw [stD_frac]
  have HS10 := Lib.hid (HS9.out.keep hf)
  clear hf
  go_wp2_with fail
  refine (frm_of (fraction_c _ stC 3 _ (HS10.out.blk 1 rfl) stC_ok)).mono ?_
  rintro e w10 ⟨rfl, hf⟩
  rw [stC_frac]
  have HS11 := Lib.hid (HS10.out.keep hf)
  clear hf
  go_wp2_with fail
  go_ret
  exact ⟨rfl, HS11.out.frm⟩

end Go.Proofs.Ytbodmoefogkciaa
