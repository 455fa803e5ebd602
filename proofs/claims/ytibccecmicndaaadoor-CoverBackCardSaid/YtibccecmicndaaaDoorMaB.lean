/-
  THE WALKS of mask.And, Or, Xor, bit (printed by gen_mab.py).
-/
import Derived.Test.YtibccecmicndaaaDoorMaA
import Derived.Test.YtibccecmicndaaaDoorSep
set_option linter.unusedVariables false
set_option linter.unusedSimpArgs false
namespace Go.Proofs.YtibccecmicndaaaDoor
open Go.RowKit

/-- A mask: its two halves. -/
def mV (h l : Nat) : Value := .agg #[.int .u64 (h : Int), .int .u64 (l : Int)]

set_option maxRecDepth 100000 in
set_option maxHeartbeats 4000000 in
theorem mand_c (h l h' l' : Nat) (w : World) (h0 : h < 18446744073709551616) (h1 : l < 18446744073709551616) (h2 : h' < 18446744073709551616) (h3 : l' < 18446744073709551616) :
    Calls Tryd.prog 43 #[mV h l, mV h' l'] w fun e w' => e = .returned (mV (h &&& h') (l &&& l')) ∧ Frm [] w w' := by
  have e1 := u_and h0 h2
  have e2 := u_and h1 h3
  obtain ⟨p, hp⟩ : ∃ p, p = h &&& h' := ⟨_, rfl⟩
  obtain ⟨q, hq⟩ : ∃ q, q = l &&& l' := ⟨_, rfl⟩
  rw [← hp] at e1 ⊢
  rw [← hq] at e2 ⊢
  have HF := Lib.hid (Frm.refl [] w)
  clear hp hq h0 h1 h2 h3
  unfold mV
  go_enter Tryd.func43, Tryd.ntmps43
  go_wp2_with fail
  refine bodyPost_ret (v := .agg #[.int .u64 (p : Int), .int .u64 (q : Int)]) ?_ rfl ⟨rfl, ?_⟩
  · simp [results, Tryd.results43, go_sem]
  · exact ((HF.out.alloc _).alloc _).alloc _

set_option maxRecDepth 100000 in
set_option maxHeartbeats 4000000 in
theorem mor_c (h l h' l' : Nat) (w : World) (h0 : h < 18446744073709551616) (h1 : l < 18446744073709551616) (h2 : h' < 18446744073709551616) (h3 : l' < 18446744073709551616) :
    Calls Tryd.prog 45 #[mV h l, mV h' l'] w fun e w' => e = .returned (mV (h ||| h') (l ||| l')) ∧ Frm [] w w' := by
  have e1 := u_or h0 h2
  have e2 := u_or h1 h3
  obtain ⟨p, hp⟩ : ∃ p, p = h ||| h' := ⟨_, rfl⟩
  obtain ⟨q, hq⟩ : ∃ q, q = l ||| l' := ⟨_, rfl⟩
  rw [← hp] at e1 ⊢
  rw [← hq] at e2 ⊢
  have HF := Lib.hid (Frm.refl [] w)
  clear hp hq h0 h1 h2 h3
  unfold mV
  go_enter Tryd.func45, Tryd.ntmps45
  go_wp2_with fail
  refine bodyPost_ret (v := .agg #[.int .u64 (p : Int), .int .u64 (q : Int)]) ?_ rfl ⟨rfl, ?_⟩
  · simp [results, Tryd.results45, go_sem]
  · exact ((HF.out.alloc _).alloc _).alloc _

set_option maxRecDepth 100000 in
set_option maxHeartbeats 4000000 in
theorem mxor_c (h l h' l' : Nat) (w : World) (h0 : h < 18446744073709551616) (h1 : l < 18446744073709551616) (h2 : h' < 18446744073709551616) (h3 : l' < 18446744073709551616) :
    Calls Tryd.prog 53 #[mV h l, mV h' l'] w fun e w' => e = .returned (mV (h ^^^ h') (l ^^^ l')) ∧ Frm [] w w' := by
  have e1 := u_xor h0 h2
  have e2 := u_xor h1 h3
  obtain ⟨p, hp⟩ : ∃ p, p = h ^^^ h' := ⟨_, rfl⟩
  obtain ⟨q, hq⟩ : ∃ q, q = l ^^^ l' := ⟨_, rfl⟩
  rw [← hp] at e1 ⊢
  rw [← hq] at e2 ⊢
  have HF := Lib.hid (Frm.refl [] w)
  clear hp hq h0 h1 h2 h3
  unfold mV
  go_enter Tryd.func53, Tryd.ntmps53
  go_wp2_with fail
  refine bodyPost_ret (v := .agg #[.int .u64 (p : Int), .int .u64 (q : Int)]) ?_ rfl ⟨rfl, ?_⟩
  · simp [results, Tryd.results53, go_sem]
  · exact ((HF.out.alloc _).alloc _).alloc _

theorem two_lt {k : Nat} (h : k < 64) : 2 ^ k < 18446744073709551616 := by
  rw [show (18446744073709551616 : Nat) = 2 ^ 64 from rfl]
  exact Nat.pow_lt_pow_right (by decide) h
/-- The halves of one bit. -/
def bH (i : Int) : Nat := if 0 ≤ i ∧ i < 64 then 2 ^ (63 - i).toNat else 0
def bL (i : Int) : Nat := if 64 ≤ i ∧ i < 128 then 2 ^ (127 - i).toNat else 0
set_option maxRecDepth 100000 in
set_option maxHeartbeats 4000000 in
theorem bit_c (i : Int) (w : World) (i0 : -9223372036854775808 ≤ i) (i1 : i ≤ 9223372036854775807) :
    Calls Tryd.prog 44 #[.int .i64 i] w fun e w' => e = .returned (mV (bH i) (bL i)) ∧ Frm [] w w' := by
  have HF := Lib.hid (Frm.refl [] w)
  by_cases hlo : i < 0
  · have eh : bH i = 0 := by unfold bH; rw [if_neg (by omega)]
    have el : bL i = 0 := by unfold bL; rw [if_neg (by omega)]
    rw [eh, el]
    have q1 : decide (i < 0) = true := decide_eq_true hlo
    clear eh el hlo
    unfold mV
    go_enter Tryd.func44, Tryd.ntmps44
    go_wp2_with fail
    refine bodyPost_ret (v := .agg #[.int .u64 ((0 : Nat) : Int), .int .u64 ((0 : Nat) : Int)]) ?_ rfl ⟨rfl, ?_⟩
    · simp [results, Tryd.results44, go_sem]
    · exact HF.out.alloc _
  have q1 : decide (i < 0) = false := decide_eq_false hlo
  by_cases hhi : 128 ≤ i
  · have eh : bH i = 0 := by unfold bH; rw [if_neg (by omega)]
    have el : bL i = 0 := by unfold bL; rw [if_neg (by omega)]
    rw [eh, el]
    have q2 : decide (128 ≤ i) = true := decide_eq_true hhi
    clear eh el hlo hhi
    unfold mV
    go_enter Tryd.func44, Tryd.ntmps44
    go_wp2_with fail
    refine bodyPost_ret (v := .agg #[.int .u64 ((0 : Nat) : Int), .int .u64 ((0 : Nat) : Int)]) ?_ rfl ⟨rfl, ?_⟩
    · simp [results, Tryd.results44, go_sem]
    · exact HF.out.alloc _
  have q2 : decide (128 ≤ i) = false := decide_eq_false hhi
  by_cases hm : i < 64
  · have eh : bH i = 2 ^ (63 - i).toNat := by unfold bH; rw [if_pos (by omega)]
    have el : bL i = 0 := by unfold bL; rw [if_neg (by omega)]
    obtain ⟨p, hp⟩ : ∃ p : Nat, p = 2 ^ (63 - i).toNat := ⟨_, rfl⟩
    rw [eh, el, ← hp]
    have ew : IntKind.u64.wrap (2 ^ (63 - i).toNat) = (p : Int) := by
      rw [hp, ← u_wrap (two_lt (show (63 - i).toNat < 64 by omega)), Int.natCast_pow]
      rfl
    have q3 : decide (i < 64) = true := decide_eq_true hm
    have j1 : 0 ≤ 63 - i := by omega
    have j2 : 63 - i ≤ 63 := by omega
    clear eh el hlo hhi hm hp
    unfold mV
    go_enter Tryd.func44, Tryd.ntmps44
    go_wp2_with fail
    refine bodyPost_ret (v := .agg #[.int .u64 (p : Int), .int .u64 ((0 : Nat) : Int)]) ?_ rfl ⟨rfl, ?_⟩
    · simp [results, Tryd.results44, go_sem]
    · exact HF.out.alloc _
  · have eh : bH i = 0 := by unfold bH; rw [if_neg (by omega)]
    have el : bL i = 2 ^ (127 - i).toNat := by unfold bL; rw [if_pos (by omega)]
    obtain ⟨p, hp⟩ : ∃ p : Nat, p = 2 ^ (127 - i).toNat := ⟨_, rfl⟩
    rw [eh, el, ← hp]
    have ew : IntKind.u64.wrap (2 ^ (127 - i).toNat) = (p : Int) := by
      rw [hp, ← u_wrap (two_lt (show (127 - i).toNat < 64 by omega)), Int.natCast_pow]
      rfl
    have q3 : decide (i < 64) = false := decide_eq_false hm
    have j1 : 0 ≤ 127 - i := by omega
    have j2 : 127 - i ≤ 63 := by omega
    clear eh el hlo hhi hm hp
    unfold mV
    go_enter Tryd.func44, Tryd.ntmps44
    go_wp2_with fail
    refine bodyPost_ret (v := .agg #[.int .u64 ((0 : Nat) : Int), .int .u64 (p : Int)]) ?_ rfl ⟨rfl, ?_⟩
    · simp [results, Tryd.results44, go_sem]
    · exact HF.out.alloc _

end Go.Proofs.YtibccecmicndaaaDoor
