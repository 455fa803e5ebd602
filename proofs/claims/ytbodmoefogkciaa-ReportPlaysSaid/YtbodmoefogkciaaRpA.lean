/-
  THE WALKS of package report, method by method.
-/
import Derived.Test.YtbodmoefogkciaaSer
import Derived.Test.YtbodmoefogkciaaRpP
set_option linter.unusedVariables false
set_option linter.unusedSimpArgs false
namespace Go.Proofs.Ytbodmoefogkciaa
open Go.RowKit

def St.cells (s : St) : Array Value := #[wHead s.h, wFlag s.h, .int .i64 s.first, .int .i64 s.rcv, .int .i64 s.sum, .int .u32 s.ts, .int .i64 s.tm, .int .i64 s.ex, .int .i64 s.ca]
abbrev Stat (w : World) (b : Nat) (s : St) : Prop := Blk w b 29 s.cells

set_option maxHeartbeats 400000 in
theorem received_c (b : Nat) (s : St) (w : World) (h : Stat w b s) :
    Calls Try.prog 16 #[.pointer (some ⟨b, 0, none⟩)] w fun e w' => e = .returned (.int .i64 s.rcv) ∧ w = w' := by
  have c3 : w.cell? ⟨b, 3, none⟩ = some (.int .i64 s.rcv) := h.cell 3 rfl
  clear h
  go_enter Try.func16, Try.ntmps16
  go_wp2
  go_ret
  exact ⟨rfl, rfl⟩

set_option maxHeartbeats 1000000 in
theorem expected_c (b : Nat) (s : St) (k : Nat) (w : World) (h : Stat w b s) (ok : s.ok k) :
    Calls Try.prog 14 #[.pointer (some ⟨b, 0, none⟩)] w fun e w' => e = .returned (.int .i64 s.expd) ∧ ∃ m, w' = w.drewN m := by
  have c2 : w.cell? ⟨b, 2, none⟩ = some (.int .i64 s.first) := h.cell 2 rfl
  have HB := Lib.hid h
  have f0 := ok.f0
  have f1 := ok.f1
  have k1 := ok.k1
  have hw := ok.hw
  clear h ok
  obtain ⟨sh, sf, sr, ss, st, sm, se, sc⟩ := s
  simp only [St.expd] at *
  rcases hw with hw | ⟨g0, g1⟩
  · subst hw
    go_enter Try.func14, Try.ntmps14
    go_wp2_with fail
    refine (started_c b _ _ (-1) _ HB.out rfl).mono ?_
    rintro e w' ⟨rfl, rfl⟩
    rw [show wFlag (-1) = .bool false from rfl]
    go_wp2_with fail
    go_ret
    exact ⟨rfl, 0, rfl⟩
  · have e1 : wFlag sh = .bool true := by unfold wFlag; simp; omega
    have e2 : wHead sh = .int .i64 sh := by unfold wHead; rw [if_neg (by omega)]
    have e3 : (if sh < 0 then 0 else sh - sf + 1) = sh - sf + 1 := if_neg (by omega)
    have E1 := Lib.hid e1
    have E2 := Lib.hid e2
    rw [e3]
    clear e1 e2 e3
    go_enter Try.func14, Try.ntmps14
    go_wp2_with fail
    refine (started_c b _ _ sh _ HB.out rfl).mono ?_
    rintro e w' ⟨rfl, rfl⟩
    rw [E1.out]
    go_wp2_with fail
    have w1 : IntKind.i64.wrap (sh - sf) = sh - sf := IntWalk.i64_in _ (by omega)
    have w2 : IntKind.i64.wrap (sh - sf + 1) = sh - sf + 1 := IntWalk.i64_in _ (by omega)
    have HCq : Hid (∀ n, Calls Try.prog 28 #[.pointer (some ⟨b, 0, none⟩)] (w.drewN n) fun e w' => e = .returned (.int .i64 sh) ∧ w' = w.drewN n) := Lib.hid fun n => by
      have h9 := same_of (highest_c b _ _ sh (w.drewN n) (HB.out.drewN n) rfl)
      rw [E2.out] at h9
      exact h9
    go_quiet ((go_at_call 28; exact Calls.quiet_of_same (HCq.out _)))
    clear w1 w2
    go_wp2_with fail
    go_ret
    exact ⟨rfl, nq, rfl⟩

end Go.Proofs.Ytbodmoefogkciaa
