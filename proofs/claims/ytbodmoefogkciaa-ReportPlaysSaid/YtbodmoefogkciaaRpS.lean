/-
  THE WALK of report's reference: Report.
-/
import Derived.Test.YtbodmoefogkciaaRpR
import Derived.Test.YtbodmoefogkciaaAlc
import Derived.Deep.DeepCutAuto
set_option linter.unusedVariables false
set_option linter.unusedSimpArgs false
namespace Go.Proofs.Ytbodmoefogkciaa
open Go.RowKit

set_option maxHeartbeats 4000000 in
theorem rreport_c (a : Option Addr) (cap : Nat) (ex ca ssrc : Int) (ones : List One) (w : World) (rd : RdS 3 w a (ones.map oneRow)) (hl : ones.length ≤ 900) (ho : ∀ o ∈ ones, o.ok) (e0 : 0 ≤ ex) (e1 : ex ≤ 70000000) (c0 : 0 ≤ ca) (c1 : ca ≤ 1000) :
    Calls Try.prog 9 #[.agg #[.slice a ones.length cap, .int .i64 ex, .int .i64 ca], .int .u32 ssrc] w fun e w' => e = .returned (.tuple #[.agg ((runS ones ex ca).rep ssrc).toArray, .agg #[.slice a ones.length cap, .int .i64 (runS ones ex ca).expd, .int .i64 ones.length]]) ∧ Frm [] w w' := by
  have HR := Lib.hid rd
  have HO := Lib.hid ho
  have HE0 := Lib.hid e0
  have HE1 := Lib.hid e1
  have HC0 := Lib.hid c0
  have HC1 := Lib.hid c1
  clear rd ho e0 e1 c0 c1
  obtain ⟨F, hF⟩ : ∃ F, (runS ones ex ca).fraction = F := ⟨_, rfl⟩
  obtain ⟨Lo, hLo⟩ : ∃ Lo, (runS ones ex ca).lost = Lo := ⟨_, rfl⟩
  obtain ⟨Hi, hHi⟩ : ∃ Hi, (runS ones ex ca).high = Hi := ⟨_, rfl⟩
  obtain ⟨J, hJ⟩ : ∃ J, (runS ones ex ca).jitter = J := ⟨_, rfl⟩
  obtain ⟨E, hE⟩ : ∃ E, (runS ones ex ca).expd = E := ⟨_, rfl⟩
  have hrep : (runS ones ex ca).rep ssrc = [.int .u32 ssrc, .int .i64 F, .int .i32 Lo, .int .u32 Hi, .int .u32 J, .int .u32 0, .int .u32 0] := by unfold St.rep; rw [hF, hLo, hHi, hJ]
  rw [hrep, hE]
  have HF := Lib.hid hF
  have HLo := Lib.hid hLo
  have HHi := Lib.hid hHi
  have HJ := Lib.hid hJ
  have HE := Lib.hid hE
  clear hF hLo hHi hJ hE hrep
  go_enter Try.func9, Try.ntmps9
  go_wp2_with fail
  have hS := (((Sep.init w).alloc #[.slice a ones.length cap, .int .i64 ex, .int .i64 ca] 31).alloc #[.int .u32 0, .int .i64 0, .int .i32 0, .int .u32 0, .int .u32 0, .int .u32 0, .int .u32 0] 36).alloc #[.slice none 0 0, .int .i64 0, .int .i64 0] 31
  simp only [World.size_alloc] at hS
  have HS := Lib.hid hS
  clear hS
  have HFc : Hid (∀ v, Frm [] w v → Calls Try.prog 20 #[.agg #[.slice a ones.length cap, .int .i64 ex, .int .i64 ca]] v fun e w' => e = .returned (.int .i64 F) ∧ Frm [] v w') := Lib.hid fun v hv => HF.out ▸ rfraction_c a cap ex ca ones v (HR.out.below hv.below) hl HO.out HE0.out HE1.out HC0.out HC1.out
  have HLoc : Hid (∀ v, Frm [] w v → Calls Try.prog 21 #[.agg #[.slice a ones.length cap, .int .i64 ex, .int .i64 ca]] v fun e w' => e = .returned (.int .i32 Lo) ∧ Frm [] v w') := Lib.hid fun v hv => HLo.out ▸ rlost_c a cap ex ca ones v (HR.out.below hv.below) hl HO.out HE0.out HE1.out HC0.out HC1.out
  have HHic : Hid (∀ v, Frm [] w v → Calls Try.prog 22 #[.agg #[.slice a ones.length cap, .int .i64 ex, .int .i64 ca]] v fun e w' => e = .returned (.int .u32 Hi) ∧ Frm [] v w') := Lib.hid fun v hv => HHi.out ▸ rhigh_c a cap ex ca ones v (HR.out.below hv.below) hl HO.out 
  have HJc : Hid (∀ v, Frm [] w v → Calls Try.prog 23 #[.agg #[.slice a ones.length cap, .int .i64 ex, .int .i64 ca]] v fun e w' => e = .returned (.int .u32 J) ∧ Frm [] v w') := Lib.hid fun v hv => HJ.out ▸ rjitter_c a cap ex ca ones v (HR.out.below hv.below) hl HO.out 

  go_upto_region 1 with fail
  go_cut [6] (fun c wx => ∃ g : Nat, c = .pointer (some ⟨g, 0, none⟩) ∧ Sep [] w wx [blkR g 36 #[.int .u32 ssrc, .int .i64 F, .int .i32 Lo, .int .u32 Hi, .int .u32 J, .int .u32 0, .int .u32 0], blkR (w.heap.size + 1 + 1) 31 #[.slice none 0 0, .int .i64 0, .int .i64 0], blkR (w.heap.size + 1) 36 #[.int .u32 0, .int .i64 0, .int .i32 0, .int .u32 0, .int .u32 0, .int .u32 0, .int .u32 0], blkR w.heap.size 31 #[.slice a ones.length cap, .int .i64 ex, .int .i64 ca]])
  case first =>
    refine region_sep_free 10 (ty := 36) (z := #[.int .u32 0, .int .i64 0, .int .i32 0, .int .u32 0, .int .u32 0, .int .u32 0, .int .u32 0]) HS.out (by kernel_rfl) (by kernel_rfl) (by kernel_rfl) rfl (fun _ _ => by kernel_rfl) ?_
    simp only [List.take_succ_cons, List.take_zero, List.drop_succ_cons, List.drop_zero]
    apply Exists.intro
    refine ⟨fun M n1 => ?_, ?_⟩
    · skip
      have q0 := Cls.cellM (S := []) (w0 := w) (M := M) (L := [blkR (w.heap.size + 1 + 1) 31 #[.slice none 0 0, .int .i64 0, .int .i64 0], blkR (w.heap.size + 1) 36 #[.int .u32 0, .int .i64 0, .int .i32 0, .int .u32 0, .int .u32 0, .int .u32 0, .int .u32 0], blkR w.heap.size 31 #[.slice a ones.length cap, .int .i64 ex, .int .i64 ca]]) 2 rfl 0 (v := .slice a ones.length cap) rfl
      have q1 := Cls.cellM (S := []) (w0 := w) (M := M) (L := [blkR (w.heap.size + 1 + 1) 31 #[.slice none 0 0, .int .i64 0, .int .i64 0], blkR (w.heap.size + 1) 36 #[.int .u32 0, .int .i64 0, .int .i32 0, .int .u32 0, .int .u32 0, .int .u32 0, .int .u32 0], blkR w.heap.size 31 #[.slice a ones.length cap, .int .i64 ex, .int .i64 ca]]) 2 rfl 1 (v := .int .i64 ex) rfl
      have q2 := Cls.cellM (S := []) (w0 := w) (M := M) (L := [blkR (w.heap.size + 1 + 1) 31 #[.slice none 0 0, .int .i64 0, .int .i64 0], blkR (w.heap.size + 1) 36 #[.int .u32 0, .int .i64 0, .int .i32 0, .int .u32 0, .int .u32 0, .int .u32 0, .int .u32 0], blkR w.heap.size 31 #[.slice a ones.length cap, .int .i64 ex, .int .i64 ca]]) 2 rfl 2 (v := .int .i64 ca) rfl
      go_big_quiet_step (fail)
      go_big_quiet_step (fail)
      go_big_quiet_step ((rename_i x; exact call_keeps x.ok (HFc.out _ x.rest.frm)))
      go_big_quiet_step (fail)
      go_big_quiet_step ((rename_i x; exact call_keeps x.ok (HLoc.out _ x.rest.frm)))
      go_big_quiet_step (fail)
      go_big_quiet_step ((rename_i x; exact call_keeps x.ok (HHic.out _ x.rest.frm)))
      go_big_quiet_step (fail)
      go_big_quiet_step ((rename_i x; exact call_keeps x.ok (HJc.out _ x.rest.frm)))
      repeat (go_big_quiet_step (fail))
      refine wpQuiet_nil ?_
      rfl
    · intro g w1 hS1
      have z0 := (hS1.blk 0 rfl).cell 0 rfl
      have y0 := (hS1.blk 0 rfl).free 0
      have z1 := (hS1.blk 0 rfl).cell 1 rfl
      have y1 := (hS1.blk 0 rfl).free 1
      have z2 := (hS1.blk 0 rfl).cell 2 rfl
      have y2 := (hS1.blk 0 rfl).free 2
      have z3 := (hS1.blk 0 rfl).cell 3 rfl
      have y3 := (hS1.blk 0 rfl).free 3
      have z4 := (hS1.blk 0 rfl).cell 4 rfl
      have y4 := (hS1.blk 0 rfl).free 4
      have z5 := (hS1.blk 0 rfl).cell 5 rfl
      have y5 := (hS1.blk 0 rfl).free 5
      have z6 := (hS1.blk 0 rfl).cell 6 rfl
      have y6 := (hS1.blk 0 rfl).free 6
      have zl := (hS1.blk 0 rfl).lt
      have HX := Lib.hid (((((((hS1.put 0 rfl 0 (.int .u32 ssrc)).put 0 rfl 1 (.int .i64 F)).put 0 rfl 2 (.int .i32 Lo)).put 0 rfl 3 (.int .u32 Hi)).put 0 rfl 4 (.int .u32 J)).put 0 rfl 5 (.int .u32 0)).put 0 rfl 6 (.int .u32 0))
      clear hS1
      go_wp2_with fail
      go_meet
      exact ⟨g, rfl, HX.out⟩
  case rest =>
    obtain ⟨g, rfl, hS1⟩ := hcut
    have HS1 := Lib.hid hS1
    have k0 := (hS1.blk 3 rfl).cell 0 rfl
    have k1 := (hS1.blk 3 rfl).cell 1 rfl
    have k2 := (hS1.blk 3 rfl).cell 2 rfl
    have f1 := (hS1.blk 3 rfl).free 1
    have f2 := (hS1.blk 3 rfl).free 2
    have l3 := (hS1.blk 3 rfl).lt
    clear hS1
    go_wp2_with fail
    refine (rexpected_c a cap ex ca ones _ (HR.out.below HS1.out.frm.below) hl HO.out).mono ?_
    rintro e w2 ⟨rfl, hf⟩
    rw [HE.out]
    have hS2 := HS1.out.keep hf
    have HS2 := Lib.hid hS2
    clear k0 k1 k2 f1 f2 l3
    have k0 := (hS2.blk 3 rfl).cell 0 rfl
    have k1 := (hS2.blk 3 rfl).cell 1 rfl
    have k2 := (hS2.blk 3 rfl).cell 2 rfl
    have f1 := (hS2.blk 3 rfl).free 1
    have f2 := (hS2.blk 3 rfl).free 2
    have l3 := (hS2.blk 3 rfl).lt
    clear hS2 hf
    go_wp2_with fail
    have hS3 : Sep [] w _ [blkR g 36 #[.int .u32 ssrc, .int .i64 F, .int .i32 Lo, .int .u32 Hi, .int .u32 J, .int .u32 0, .int .u32 0], blkR (w.heap.size + 1 + 1) 31 #[.slice none 0 0, .int .i64 0, .int .i64 0], blkR (w.heap.size + 1) 36 #[.int .u32 0, .int .i64 0, .int .i32 0, .int .u32 0, .int .u32 0, .int .u32 0, .int .u32 0], blkR w.heap.size 31 #[.slice a ones.length cap, .int .i64 E, .int .i64 ones.length]] := (HS2.out.put 3 rfl 1 (.int .i64 E)).put 3 rfl 2 (.int .i64 ones.length)
    have HS3 := Lib.hid hS3
    clear hS3 k0 k1 k2 f1 f2 l3
    obtain ⟨W, hW⟩ : ∃ W, (w2.setCell ⟨w.heap.size, 1, none⟩ (.int .i64 E)).setCell ⟨w.heap.size, 2, none⟩ (.int .i64 ones.length) = W := ⟨_, rfl⟩
    rw [hW] at HS3 ⊢
    clear hW
    have hS := HS3.out
    have q0 := (hS.blk 0 rfl).cell 0 (v := .int .u32 ssrc) rfl
    have q1 := (hS.blk 0 rfl).cell 1 (v := .int .i64 F) rfl
    have q2 := (hS.blk 0 rfl).cell 2 (v := .int .i32 Lo) rfl
    have q3 := (hS.blk 0 rfl).cell 3 (v := .int .u32 Hi) rfl
    have q4 := (hS.blk 0 rfl).cell 4 (v := .int .u32 J) rfl
    have q5 := (hS.blk 0 rfl).cell 5 (v := .int .u32 0) rfl
    have q6 := (hS.blk 0 rfl).cell 6 (v := .int .u32 0) rfl
    have r0 := (hS.blk 3 rfl).cell 0 (v := .slice a ones.length cap) rfl
    have r1 := (hS.blk 3 rfl).cell 1 (v := .int .i64 E) rfl
    have r2 := (hS.blk 3 rfl).cell 2 (v := .int .i64 ones.length) rfl
    have z0 := (hS.blk 2 rfl).cell 0 rfl
    have y0 := (hS.blk 2 rfl).free 0
    have z1 := (hS.blk 2 rfl).cell 1 rfl
    have y1 := (hS.blk 2 rfl).free 1
    have z2 := (hS.blk 2 rfl).cell 2 rfl
    have y2 := (hS.blk 2 rfl).free 2
    have z3 := (hS.blk 2 rfl).cell 3 rfl
    have y3 := (hS.blk 2 rfl).free 3
    have z4 := (hS.blk 2 rfl).cell 4 rfl
    have y4 := (hS.blk 2 rfl).free 4
    have z5 := (hS.blk 2 rfl).cell 5 rfl
    have y5 := (hS.blk 2 rfl).free 5
    have z6 := (hS.blk 2 rfl).cell 6 rfl
    have y6 := (hS.blk 2 rfl).free 6
    have x0 := (hS.blk 1 rfl).cell 0 rfl
    have t0 := (hS.blk 1 rfl).free 0
    have x1 := (hS.blk 1 rfl).cell 1 rfl
    have t1 := (hS.blk 1 rfl).free 1
    have x2 := (hS.blk 1 rfl).cell 2 rfl
    have t2 := (hS.blk 1 rfl).free 2
    have gl := (hS.blk 0 rfl).lt
    have zl := (hS.blk 2 rfl).lt
    have xl := (hS.blk 1 rfl).lt
    have n1 : g ≠ w.heap.size + 1 := fun e => by
      have h1 := List.pairwise_iff_getElem.1 hS.apart 0 2 (by simp) (by simp) (by decide) g (by simp [blkR])
      exact h1 (by simp [blkR, e])
    have n2 : g ≠ w.heap.size + 1 + 1 := fun e => by
      have h1 := List.pairwise_iff_getElem.1 hS.apart 0 1 (by simp) (by simp) (by decide) g (by simp [blkR])
      exact h1 (by simp [blkR, e])
    clear hS
    go_region
    all_goals go_wp2_with fail
    all_goals
      refine bodyPost_ret (v := .tuple #[.agg #[.int .u32 ssrc, .int .i64 F, .int .i32 Lo, .int .u32 Hi, .int .u32 J, .int .u32 0, .int .u32 0], .agg #[.slice a ones.length cap, .int .i64 E, .int .i64 ones.length]]) ?_ rfl ⟨rfl, ?_⟩
      · simp [results, Try.results9, go_sem, z0, z1, z2, z3, z4, z5, z6, x0, x1, x2]
      · exact ((((((((((HS3.out.put 2 rfl 0 (.int .u32 ssrc)).put 2 rfl 1 (.int .i64 F)).put 2 rfl 2 (.int .i32 Lo)).put 2 rfl 3 (.int .u32 Hi)).put 2 rfl 4 (.int .u32 J)).put 2 rfl 5 (.int .u32 0)).put 2 rfl 6 (.int .u32 0)).put 1 rfl 0 (.slice a ones.length cap)).put 1 rfl 1 (.int .i64 E)).put 1 rfl 2 (.int .i64 ones.length)).drew.frm

end Go.Proofs.Ytbodmoefogkciaa
