/-
  THE WALKS of the reference of budget.
-/
import Derived.Test.YtjmnbhcbgjigdaaBuA
set_option linter.unusedVariables false
set_option linter.unusedSimpArgs false
namespace Go.Proofs.Ytjmnbhcbgjigdaa
open Go.RowKit

set_option maxHeartbeats 400000 in
theorem rnew_c (x : Int) (w : World) :
    Calls Try.prog 9 #[.int .i64 x] w fun e w' => e = .returned (.agg #[.int .i64 (upTo x 100), .int .i64 0]) ∧ Frm [] w w' := by
  go_enter Try.func9, Try.ntmps9
  go_wp2_with fail
  refine (rheld0_c _ _ _ (by decide)).mono ?_
  rintro e w' ⟨rfl, rfl⟩
  go_wp2_with fail
  refine bodyPost_ret (v := .agg #[.int .i64 (upTo x 100), .int .i64 0]) ?_ rfl ⟨rfl, ?_⟩
  · simp [results, Try.results9, go_sem]
  · exact (Frm.refl _ _).alloc _

set_option maxHeartbeats 1000000 in
theorem rearn_c (p c k : Int) (w : World) (p0 : 0 ≤ p) (p1 : p ≤ 100) (k0 : 0 ≤ c) (k1 : c ≤ 4800) :
    Calls Try.prog 11 #[.agg #[.int .i64 p, .int .i64 c], .int .i64 k] w fun e w' => e = .returned (.agg #[.int .i64 p, .int .i64 (earnC p c k)]) ∧ Frm [] w w' := by
  obtain ⟨q, hq⟩ : ∃ q, q = upTo k 48 := ⟨_, rfl⟩
  have q0 : 0 ≤ q := by rw [hq]; exact upTo_ge _ _ (by decide)
  have q1 : q ≤ 48 := by rw [hq]; exact upTo_le _ _
  obtain ⟨r0, r1⟩ := prod2_in q p q0 q1 p0 p1
  have hm2 : upTo (c + q * p) 4800 = earnC p c k := by unfold earnC; rw [← hq]; unfold upTo; omega
  have HCq : Hid (∀ W, Calls Try.prog 26 #[.int .i64 k, .int .i64 0, .int .i64 48] W fun e w' => e = .returned (.int .i64 q) ∧ w' = W) := Lib.hid fun W => by
    rw [hq]; exact same_of (rheld0_c k 48 W (by decide))
  have HCm : Hid (∀ W, Calls Try.prog 26 #[.int .i64 (c + q * p), .int .i64 0, .int .i64 4800] W fun e w' => e = .returned (.int .i64 (earnC p c k)) ∧ w' = W) := Lib.hid fun W => by
    rw [← hm2]; exact same_of (rheld0_c (c + q * p) 4800 W (by decide))
  clear hq hm2
  go_enter Try.func11, Try.ntmps11
  go_wp2_with fail
  have e1 : IntKind.i64.wrap (q * p) = q * p := IntWalk.i64_in _ (by omega)
  have e2 : IntKind.i64.wrap (c + q * p) = c + q * p := IntWalk.i64_in _ (by omega)
  refine region_tail 9 (by kernel_rfl) (by kernel_rfl) ?_
  simp only [List.take_succ_cons, List.take_zero, List.drop_succ_cons, List.drop_zero]
  repeat still_step
  still_call (HCq.out _)
  repeat still_step
  still_call (HCm.out _)
  repeat still_step
  refine wpStill_nil ?_
  clear e1 e2
  go_wp2
  refine bodyPost_ret (v := .agg #[.int .i64 p, .int .i64 (earnC p c k)]) ?_ rfl ⟨rfl, ?_⟩
  · simp [results, Try.results11, go_sem]
  · exact (((Frm.refl _ _).alloc _).alloc _).drew

/-- What a reference's struct result looks like: the boxed parameter, and the result. -/
theorem two_boxes (w : World) (a b : Obj) : Frm [] w ((w.alloc a).alloc b) := ((Frm.refl _ _).alloc _).alloc _

set_option maxHeartbeats 1000000 in
theorem rspend_c (p c n : Int) (w : World) (k0 : 0 ≤ c) (k1 : c ≤ 4800) :
    Calls Try.prog 13 #[.agg #[.int .i64 p, .int .i64 c], .int .i64 n] w fun e w' => e = .returned (.tuple #[.agg #[.int .i64 p, .int .i64 (spendC c n)], .int .i64 (spendE c n)]) ∧ Frm [] w w' := by
  by_cases hn : n < 0
  · have e1 : spendE c n = 1 := by unfold spendE; rw [if_pos hn]
    have e2 : spendC c n = c := by unfold spendC; rw [if_pos hn]
    rw [e1, e2]
    clear e1 e2
    go_enter Try.func13, Try.ntmps13
    go_wp2
    refine bodyPost_ret (v := .tuple #[.agg #[.int .i64 p, .int .i64 c], .int .i64 1]) ?_ rfl ⟨rfl, ?_⟩
    · simp [results, Try.results13, go_sem]
    · exact two_boxes _ _ _
  · by_cases hl : c / 100 < n
    · have e1 : spendE c n = 6 := by unfold spendE; rw [if_neg (by omega), if_pos (by omega)]
      have e2 : spendC c n = c := by unfold spendC; rw [if_neg (by omega), if_pos (by omega)]
      rw [e1, e2]
      clear e1 e2
      go_enter Try.func13, Try.ntmps13
      go_wp2
      refine bodyPost_ret (v := .tuple #[.agg #[.int .i64 p, .int .i64 c], .int .i64 6]) ?_ rfl ⟨rfl, ?_⟩
      · simp [results, Try.results13, go_sem]
      · exact two_boxes _ _ _
    · have e1 : spendE c n = 0 := by unfold spendE; rw [if_neg (by omega), if_neg (by omega)]
      have e2 : spendC c n = c - 100 * n := by unfold spendC; rw [if_neg (by omega), if_neg (by omega)]; omega
      rw [e1, e2]
      clear e1 e2
      go_enter Try.func13, Try.ntmps13
      go_wp2
      refine bodyPost_ret (v := .tuple #[.agg #[.int .i64 p, .int .i64 (c - 100 * n)], .int .i64 0]) ?_ rfl ⟨rfl, ?_⟩
      · simp [results, Try.results13, go_sem]
      · exact two_boxes _ _ _

set_option maxHeartbeats 1000000 in
theorem rgrant_c (p c want : Int) (w : World) (k0 : 0 ≤ c) (k1 : c ≤ 4800) :
    Calls Try.prog 15 #[.agg #[.int .i64 p, .int .i64 c], .int .i64 want] w fun e w' => e = .returned (.tuple #[.agg #[.int .i64 p, .int .i64 (c - grantN c want * 100)], .int .i64 (grantN c want)]) ∧ Frm [] w w' := by
  have hg : upTo want (c / 100) = grantN c want := rfl
  go_enter Try.func15, Try.ntmps15
  go_wp2_with fail
  refine (rheld0_c _ _ _ (by omega)).mono ?_
  rintro e w' ⟨rfl, rfl⟩
  rw [hg]
  clear hg
  go_wp2_with fail
  refine (rspend_c _ _ _ _ k0 k1).mono ?_
  rintro e w1 ⟨rfl, hf⟩
  rw [grant_spend _ _ k0]
  have HF := Lib.hid hf
  have hc := (hf.blk ((Blk.made w 27 #[.int .i64 p, .int .i64 c]).alloc _) (by simp))
  have x0 : w1.cell? ⟨w.heap.size, 0, none⟩ = some (.int .i64 p) := hc.cell 0 rfl
  have x1 : w1.cell? ⟨w.heap.size, 1, none⟩ = some (.int .i64 c) := hc.cell 1 rfl
  have x2 := hc.free 0
  have x3 := hc.free 1
  have x4 := hc.lt
  have hd := (hf.blk (by simpa using Blk.made (w.alloc (.cells #[.int .i64 p, .int .i64 c] 27)) 27 #[.int .i64 0, .int .i64 0]) (by simp))
  have y0 : w1.cell? ⟨w.heap.size + 1, 0, none⟩ = some (.int .i64 0) := hd.cell 0 rfl
  have y1 : w1.cell? ⟨w.heap.size + 1, 1, none⟩ = some (.int .i64 0) := hd.cell 1 rfl
  have y2 := hd.free 0
  have y3 := hd.free 1
  have y4 := hd.lt
  clear hf hc hd
  go_wp2_with fail
  refine bodyPost_ret (v := .tuple #[.agg #[.int .i64 p, .int .i64 (c - grantN c want * 100)], .int .i64 (grantN c want)]) ?_ rfl ⟨rfl, ?_⟩
  · simp [results, Try.results15, go_sem, x0, x1, x2, x3, x4, y0, y1, y2, y3, y4]
  · exact (((((two_boxes _ _ _).trans HF.out).put (.inr (Nat.le_refl _)) _ _ _).put (.inr (Nat.le_refl _)) _ _ _).put (.inr (Nat.le_succ _)) _ _ _).put (.inr (Nat.le_succ _)) _ _ _

set_option maxHeartbeats 1000000 in
theorem rchange_c (p c x : Int) (w : World) :
    Calls Try.prog 17 #[.agg #[.int .i64 p, .int .i64 c], .int .i64 x] w fun e w' => e = .returned (.agg #[.int .i64 (upTo x 100), .int .i64 (changeC (upTo x 100) c)]) ∧ Frm [] w w' := by
  obtain ⟨q, hq⟩ : ∃ q, q = upTo x 100 := ⟨_, rfl⟩
  have HQ := Lib.hid hq
  rw [← hq]
  clear hq
  by_cases hz : q = 0
  · subst hz
    go_enter Try.func17, Try.ntmps17
    go_wp2_with fail
    refine (rheld0_c _ _ _ (by decide)).mono ?_
    rintro e w' ⟨rfl, rfl⟩
    rw [← HQ.out]
    go_wp2
    refine bodyPost_ret (v := .agg #[.int .i64 0, .int .i64 0]) ?_ rfl ⟨rfl, ?_⟩
    · simp [results, Try.results17, go_sem]
    · exact two_boxes _ _ _
  · have hzb : (q == 0) = false := beq_eq_false_iff_ne.2 hz
    have e1 : changeC q c = c := by unfold changeC; rw [if_neg hz]
    rw [e1]
    clear hz e1
    go_enter Try.func17, Try.ntmps17
    go_wp2_with fail
    refine (rheld0_c _ _ _ (by decide)).mono ?_
    rintro e w' ⟨rfl, rfl⟩
    rw [← HQ.out]
    go_wp2
    refine bodyPost_ret (v := .agg #[.int .i64 q, .int .i64 c]) ?_ rfl ⟨rfl, ?_⟩
    · simp [results, Try.results17, go_sem]
    · exact two_boxes _ _ _

end Go.Proofs.Ytjmnbhcbgjigdaa
