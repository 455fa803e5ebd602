/-
  THE WALKS of report's reference: Lost, Fraction.
-/
import Derived.Test.YtbodmoefogkciaaRpJ
set_option linter.unusedVariables false
set_option linter.unusedSimpArgs false
namespace Go.Proofs.Ytbodmoefogkciaa
open Go.RowKit

theorem rexpected_f (a : Option Addr) (cap : Nat) (ex ca : Int) (ones : List One) (w v : World) (hv : Frm [] w v) (rd : RdS 3 w a (ones.map oneRow)) (hl : ones.length ≤ 900) (ho : ∀ o ∈ ones, o.ok) (E : Int) (hE : (runS ones ex ca).expd = E) :
    Calls Try.prog 24 #[.agg #[.slice a ones.length cap, .int .i64 ex, .int .i64 ca]] v fun e w' => e = .returned (.int .i64 E) ∧ Frm [] v w' :=
  (rexpected_c a cap ex ca ones v (rd.below hv.below) hl ho).mono fun _ _ ⟨h1, h2⟩ => ⟨hE ▸ h1, h2⟩

set_option maxHeartbeats 1000000 in
theorem rlost_c (a : Option Addr) (cap : Nat) (ex ca : Int) (ones : List One) (w : World) (rd : RdS 3 w a (ones.map oneRow)) (hl : ones.length ≤ 900) (ho : ∀ o ∈ ones, o.ok) (e0 : 0 ≤ ex) (e1 : ex ≤ 70000000) (c0 : 0 ≤ ca) (c1 : ca ≤ 1000) :
    Calls Try.prog 21 #[.agg #[.slice a ones.length cap, .int .i64 ex, .int .i64 ca]] w fun e w' => e = .returned (.int .i32 (runS ones ex ca).lost) ∧ Frm [] w w' := by
  have HR := Lib.hid rd
  have HO := Lib.hid ho
  have ok := runS_ok ones ex ca ho hl e0 e1 c0 c1
  have hx := St.expd_in ok
  obtain ⟨E, hE⟩ : ∃ E, (runS ones ex ca).expd = E := ⟨_, rfl⟩
  have hlost : (runS ones ex ca).lost = min (max (E - ones.length) (-8388608)) 8388607 := by unfold St.lost; rw [hE, runS_rcv]
  rw [hE] at hx
  obtain ⟨x0, x1⟩ := hx
  rw [hlost]
  have HE := Lib.hid hE
  have i0 : ∀ x : Int, -8388608 ≤ x → x ≤ 8388607 → IntKind.i32.wrap x = x := fun x h0 h1 => IntWalk.i32_in _ (by omega)
  clear rd ho ok hE hlost e0 e1 c0 c1
  go_enter Try.func21, Try.ntmps21
  go_wp2_with fail
  have HS := Lib.hid ((Sep.init w).alloc #[.slice a ones.length cap, .int .i64 ex, .int .i64 ca] 31)
  have z1 : IntKind.i64.wrap (E - ones.length) = E - ones.length := IntWalk.i64_in _ (by omega)
  have n1 := HS.out.inh
  have q0 := Cls.cell (S := []) (w0 := w) (L := [blkR w.heap.size 31 #[.slice a ones.length cap, .int .i64 ex, .int .i64 ca]]) 0 rfl 0 (v := .slice a ones.length cap) rfl
  have q1 := Cls.cell (S := []) (w0 := w) (L := [blkR w.heap.size 31 #[.slice a ones.length cap, .int .i64 ex, .int .i64 ca]]) 0 rfl 1 (v := .int .i64 ex) rfl
  have q2 := Cls.cell (S := []) (w0 := w) (L := [blkR w.heap.size 31 #[.slice a ones.length cap, .int .i64 ex, .int .i64 ca]]) 0 rfl 2 (v := .int .i64 ca) rfl
  refine region_sep HS.out (by kernel_rfl) (by kernel_rfl) ?_
  go_big_quiet_step (fail)
  go_big_quiet_step ((rename_i x; exact call_keeps x.ok (rexpected_f a cap ex ca ones w _ x.ok.frm HR.out hl HO.out E HE.out)))
  repeat (go_big_quiet_step (fail))
  refine wpQuiet_nil ?_
  intro w2 hS
  have HS2 := Lib.hid hS
  clear hS n1 q0 q1 q2 z1
  rcases (show E - ones.length < -8388608 ∨ (-8388608 ≤ E - ones.length ∧ E - ones.length ≤ 8388607) ∨ 8388607 < E - ones.length from by omega) with hv | ⟨hv1, hv2⟩ | hv
  · have e4 : IntKind.i32.wrap (-8388608) = -8388608 := i0 _ (by decide) (by decide)
    clear i0
    go_wp2_with fail
    go_ret
    exact ⟨ret_int (by omega), HS2.out.frm⟩
  · have e4 : IntKind.i32.wrap (E - ones.length) = E - ones.length := i0 _ hv1 hv2
    clear i0
    go_wp2_with fail
    go_ret
    exact ⟨ret_int (by omega), HS2.out.frm⟩
  · have e4 : IntKind.i32.wrap 8388607 = 8388607 := i0 _ (by decide) (by decide)
    clear i0
    go_wp2_with fail
    go_ret
    exact ⟨ret_int (by omega), HS2.out.frm⟩

end Go.Proofs.Ytbodmoefogkciaa
