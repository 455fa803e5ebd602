/-
  THE WALKS of table's Count and of its reference.
-/
import Derived.Test.YthholboipbfklaaHeld
set_option linter.unusedVariables false
set_option linter.unusedSimpArgs false
namespace Go.Proofs.Ythholboipbfklaa
open Go.RowKit

/-- How many repairs a block of q packets needs at the loss l (both within their bounds). -/
def tcnt (kind q l : Int) : Int := if l = 0 ∨ q = 0 then 0 else if kind = 1 then min ((q * l * 3 + 511) / 512) q else min ((q * l * 5 + 1023) / 1024) q
def tcount (kind loss k : Int) : Int := tcnt kind (upTo k 48) (upTo loss 255)

theorem prod_in (q l : Int) (q0 : 0 ≤ q) (q1 : q ≤ 48) (l0 : 0 ≤ l) (l1 : l ≤ 255) : 0 ≤ q * l ∧ q * l ≤ 12240 := by
  have h1 := Int.mul_nonneg q0 l0
  have h2 : q * l ≤ 48 * 255 := Int.mul_le_mul q1 l1 l0 (by decide)
  omega

set_option maxHeartbeats 400000 in
theorem theld_c (x m : Int) (w : World) (h : 0 ≤ m) :
    Calls Try.prog 18 #[.int .i64 x, .int .i64 m] w fun e w' => e = .returned (.int .i64 (upTo x m)) ∧ w = w' := by
  go_enter Try.func18, Try.ntmps18
  go_wp2
  all_goals (go_ret; exact ⟨ret_int (by unfold upTo; split at * <;> omega), rfl⟩)

set_option maxHeartbeats 400000 in
theorem tpart_c (n a b : Int) (w : World) (h0 : 0 ≤ n * a) (h1 : n * a ≤ 1000000) (h2 : 1 ≤ b) (h3 : b ≤ 100000) :
    Calls Try.prog 19 #[.int .i64 n, .int .i64 a, .int .i64 b] w fun e w' => e = .returned (.int .i64 ((n * a + b - 1) / b)) ∧ w = w' := by
  go_enter Try.func19, Try.ntmps19
  go_wp2
  go_ret
  exact ⟨rfl, rfl⟩

set_option maxHeartbeats 1000000 in
theorem tcount_c (kind loss k : Int) (w : World) :
    Calls Try.prog 11 #[.int .i64 kind, .int .i64 loss, .int .i64 k] w fun e w' => e = .returned (.int .i64 (tcount kind loss k)) ∧ w = w' := by
  unfold tcount
  have l0 := upTo_ge loss 255 (by decide)
  have l1 := upTo_le loss 255
  have q0 := upTo_ge k 48 (by decide)
  have q1 := upTo_le k 48
  obtain ⟨l, hl⟩ : ∃ l, l = upTo loss 255 := ⟨_, rfl⟩
  obtain ⟨q, hq⟩ : ∃ q, q = upTo k 48 := ⟨_, rfl⟩
  rw [← hl] at l0 l1
  rw [← hq] at q0 q1
  rw [← hl, ← hq]
  obtain ⟨p0, p1⟩ := prod_in q l q0 q1 l0 l1
  have HL := Lib.hid hl
  have HQ := Lib.hid hq
  clear hl hq
  by_cases hz : l = 0
  · subst hz
    go_enter Try.func11, Try.ntmps11
    go_wp2_with fail
    refine (theld_c _ _ _ (by decide)).mono ?_
    rintro e w' ⟨rfl, rfl⟩
    rw [← HL.out]
    go_wp2_with fail
    refine (theld_c _ _ _ (by decide)).mono ?_
    rintro e w' ⟨rfl, rfl⟩
    rw [← HQ.out]
    go_wp2_with fail
    go_ret
    exact ⟨ret_int (by unfold tcnt; rw [if_pos (.inl rfl)]), rfl⟩
  · have hzb : (l == 0) = false := beq_eq_false_iff_ne.2 hz
    by_cases hy : q = 0
    · subst hy
      have HZ := Lib.hid hz
      clear hz
      go_enter Try.func11, Try.ntmps11
      go_wp2_with fail
      refine (theld_c _ _ _ (by decide)).mono ?_
      rintro e w' ⟨rfl, rfl⟩
      rw [← HL.out]
      go_wp2_with fail
      refine (theld_c _ _ _ (by decide)).mono ?_
      rintro e w' ⟨rfl, rfl⟩
      rw [← HQ.out]
      go_wp2_with fail
      go_ret
      exact ⟨ret_int (by unfold tcnt; rw [if_pos (.inr rfl)]), rfl⟩
    · have hyb : (q == 0) = false := beq_eq_false_iff_ne.2 hy
      have hno : ¬ (l = 0 ∨ q = 0) := by omega
      have HN := Lib.hid hno
      clear hno hz hy
      by_cases hk : kind = 1
      · subst hk
        go_enter Try.func11, Try.ntmps11
        go_wp2_with fail
        refine (theld_c _ _ _ (by decide)).mono ?_
        rintro e w' ⟨rfl, rfl⟩
        rw [← HL.out]
        go_wp2_with fail
        refine (theld_c _ _ _ (by decide)).mono ?_
        rintro e w' ⟨rfl, rfl⟩
        rw [← HQ.out]
        go_wp2_with fail
        refine (tpart_c _ _ _ _ (by omega) (by omega) (by decide) (by decide)).mono ?_
        rintro e w' ⟨rfl, rfl⟩
        go_wp2_with fail
        go_wp2
        all_goals (go_ret; exact ⟨ret_int (by unfold tcnt; rw [if_neg HN.out, if_pos rfl]; omega), rfl⟩)
      · have hkb : (kind == 1) = false := beq_eq_false_iff_ne.2 hk
        have HK := Lib.hid hk
        clear hk
        go_enter Try.func11, Try.ntmps11
        go_wp2_with fail
        refine (theld_c _ _ _ (by decide)).mono ?_
        rintro e w' ⟨rfl, rfl⟩
        rw [← HL.out]
        go_wp2_with fail
        refine (theld_c _ _ _ (by decide)).mono ?_
        rintro e w' ⟨rfl, rfl⟩
        rw [← HQ.out]
        go_wp2_with fail
        refine (tpart_c _ _ _ _ (by omega) (by omega) (by decide) (by decide)).mono ?_
        rintro e w' ⟨rfl, rfl⟩
        go_wp2_with fail
        go_wp2
        all_goals (go_ret; exact ⟨ret_int (by unfold tcnt; rw [if_neg HN.out, if_neg HK.out]; omega), rfl⟩)

set_option maxHeartbeats 1000000 in
theorem rcount_c (kind loss k : Int) (w : World) :
    Calls Try.prog 10 #[.int .i64 kind, .int .i64 loss, .int .i64 k] w fun e w' => e = .returned (.int .i64 (tcount kind loss k)) ∧ w = w' := by
  unfold tcount
  have l0 := upTo_ge loss 255 (by decide)
  have l1 := upTo_le loss 255
  have q0 := upTo_ge k 48 (by decide)
  have q1 := upTo_le k 48
  obtain ⟨l, hl⟩ : ∃ l, l = upTo loss 255 := ⟨_, rfl⟩
  obtain ⟨q, hq⟩ : ∃ q, q = upTo k 48 := ⟨_, rfl⟩
  rw [← hl] at l0 l1
  rw [← hq] at q0 q1
  rw [← hl, ← hq]
  obtain ⟨p0, p1⟩ := prod_in q l q0 q1 l0 l1
  have a5 : 5 * q * l = q * l * 5 := by rw [Int.mul_assoc, Int.mul_comm]
  have a3 : 3 * q * l = q * l * 3 := by rw [Int.mul_assoc, Int.mul_comm]
  have b5 : 0 ≤ 5 * q * l ∧ 5 * q * l ≤ 61200 := by omega
  have b3 : 0 ≤ 3 * q * l ∧ 3 * q * l ≤ 36720 := by omega
  obtain ⟨b50, b51⟩ := b5
  obtain ⟨b30, b31⟩ := b3
  have HL := Lib.hid hl
  have HQ := Lib.hid hq
  have A5 := Lib.hid a5
  have A3 := Lib.hid a3
  clear hl hq a5 a3
  by_cases hz : l = 0
  · subst hz
    go_enter Try.func10, Try.ntmps10
    go_wp2_with fail
    refine (rheld0_c _ _ _ (by decide)).mono ?_
    rintro e w' ⟨rfl, rfl⟩
    rw [← HL.out]
    go_wp2_with fail
    refine (rheld0_c _ _ _ (by decide)).mono ?_
    rintro e w' ⟨rfl, rfl⟩
    rw [← HQ.out]
    go_wp2_with fail
    go_ret
    exact ⟨ret_int (by unfold tcnt; rw [if_pos (.inl rfl)]), rfl⟩
  · have hzb : (l == 0) = false := beq_eq_false_iff_ne.2 hz
    by_cases hy : q = 0
    · subst hy
      have HZ := Lib.hid hz
      clear hz
      go_enter Try.func10, Try.ntmps10
      go_wp2_with fail
      refine (rheld0_c _ _ _ (by decide)).mono ?_
      rintro e w' ⟨rfl, rfl⟩
      rw [← HL.out]
      go_wp2_with fail
      refine (rheld0_c _ _ _ (by decide)).mono ?_
      rintro e w' ⟨rfl, rfl⟩
      rw [← HQ.out]
      go_wp2_with fail
      go_ret
      exact ⟨ret_int (by unfold tcnt; rw [if_pos (.inr rfl)]), rfl⟩
    · have hyb : (q == 0) = false := beq_eq_false_iff_ne.2 hy
      have hno : ¬ (l = 0 ∨ q = 0) := by omega
      have HN := Lib.hid hno
      clear hno hz hy
      by_cases hk : kind = 1
      · subst hk
        go_enter Try.func10, Try.ntmps10
        go_wp2_with fail
        refine (rheld0_c _ _ _ (by decide)).mono ?_
        rintro e w' ⟨rfl, rfl⟩
        rw [← HL.out]
        go_wp2_with fail
        refine (rheld0_c _ _ _ (by decide)).mono ?_
        rintro e w' ⟨rfl, rfl⟩
        rw [← HQ.out]
        go_wp2
        all_goals (go_ret; exact ⟨ret_int (by have := A3.out; unfold tcnt; rw [if_neg HN.out, if_pos rfl]; omega), rfl⟩)
      · have hkb : (kind == 1) = false := beq_eq_false_iff_ne.2 hk
        have HK := Lib.hid hk
        clear hk
        go_enter Try.func10, Try.ntmps10
        go_wp2_with fail
        refine (rheld0_c _ _ _ (by decide)).mono ?_
        rintro e w' ⟨rfl, rfl⟩
        rw [← HL.out]
        go_wp2_with fail
        refine (rheld0_c _ _ _ (by decide)).mono ?_
        rintro e w' ⟨rfl, rfl⟩
        rw [← HQ.out]
        go_wp2
        all_goals (go_ret; exact ⟨ret_int (by have := A5.out; unfold tcnt; rw [if_neg HN.out, if_neg HK.out]; omega), rfl⟩)

end Go.Proofs.Ythholboipbfklaa
