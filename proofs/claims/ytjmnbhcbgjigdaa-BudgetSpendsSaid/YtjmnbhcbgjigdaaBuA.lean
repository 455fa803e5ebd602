/-
  THE WALKS of package budget and of its reference, function by function.
-/
import Derived.Test.YtjmnbhcbgjigdaaTb
set_option linter.unusedVariables false
set_option linter.unusedSimpArgs false
namespace Go.Proofs.Ytjmnbhcbgjigdaa
open Go.RowKit

/-- A budget in block b: its percent and its credit. -/
abbrev Bu (w : World) (b : Nat) (p c : Int) : Prop := Blk w b 47 #[.int .i64 p, .int .i64 c]
def earnC (p c k : Int) : Int := min (c + upTo k 48 * p) 4800
def spendE (c n : Int) : Int := if n < 0 then 1 else if c / 100 < n then 6 else 0
def spendC (c n : Int) : Int := if n < 0 then c else if c / 100 < n then c else c - n * 100
def grantN (c want : Int) : Int := min (max want 0) (c / 100)
def changeC (p c : Int) : Int := if p = 0 then 0 else c

theorem prod2_in (q p : Int) (q0 : 0 ≤ q) (q1 : q ≤ 48) (p0 : 0 ≤ p) (p1 : p ≤ 100) : 0 ≤ q * p ∧ q * p ≤ 4800 := by
  have h1 := Int.mul_nonneg q0 p0
  have h2 : q * p ≤ 48 * 100 := Int.mul_le_mul q1 p1 p0 (by decide)
  omega
theorem earnC_in (p c k : Int) (p0 : 0 ≤ p) (p1 : p ≤ 100) (c0 : 0 ≤ c) (c1 : c ≤ 4800) : 0 ≤ earnC p c k ∧ earnC p c k ≤ 4800 := by
  have := prod2_in (upTo k 48) p (upTo_ge k 48 (by decide)) (upTo_le k 48) p0 p1
  unfold earnC; omega
theorem spendC_in (c n : Int) (c0 : 0 ≤ c) (c1 : c ≤ 4800) : 0 ≤ spendC c n ∧ spendC c n ≤ 4800 := by
  unfold spendC; split
  · omega
  · split <;> omega
theorem grantN_in (c want : Int) (c0 : 0 ≤ c) (c1 : c ≤ 4800) : 0 ≤ grantN c want ∧ grantN c want ≤ 48 ∧ grantN c want ≤ c / 100 ∧ grantN c want * 100 ≤ c := by
  unfold grantN; omega
theorem changeC_in (p c : Int) (c0 : 0 ≤ c) (c1 : c ≤ 4800) : 0 ≤ changeC p c ∧ changeC p c ≤ 4800 := by unfold changeC; split <;> omega
theorem grant_spend (c want : Int) (c0 : 0 ≤ c) : spendC c (grantN c want) = c - grantN c want * 100 := by
  have h : 0 ≤ grantN c want ∧ grantN c want ≤ c / 100 := by unfold grantN; omega
  unfold spendC
  rw [if_neg (by omega), if_neg (by omega)]

set_option maxHeartbeats 400000 in
theorem bheld_c (x : Int) (w : World) :
    Calls Try.prog 25 #[.int .i64 x] w fun e w' => e = .returned (.int .i64 (upTo x 100)) ∧ w = w' := by
  go_enter Try.func25, Try.ntmps25
  go_wp2
  all_goals (go_ret; exact ⟨ret_int (by unfold upTo; split at * <;> omega), rfl⟩)

set_option maxHeartbeats 400000 in
theorem bnew_c (x : Int) (w : World) :
    Calls Try.prog 8 #[.int .i64 x] w fun e w' => e = .returned (.pointer (some ⟨w.heap.size, 0, none⟩)) ∧ Bu w' w.heap.size (upTo x 100) 0 ∧ Frm [] w w' := by
  go_enter Try.func8, Try.ntmps8
  go_wp2_with fail
  refine (bheld_c _ _).mono ?_
  rintro e w' ⟨rfl, rfl⟩
  go_wp2_with fail
  go_ret
  exact ⟨rfl, Blk.made _ _ _, (Frm.refl _ _).alloc _⟩

set_option maxHeartbeats 400000 in
theorem bcredit_c (b : Nat) (p c : Int) (w : World) (h : Bu w b p c) :
    Calls Try.prog 18 #[.pointer (some ⟨b, 0, none⟩)] w fun e w' => e = .returned (.int .i64 c) ∧ w = w' := by
  have c1 : w.cell? ⟨b, 1, none⟩ = some (.int .i64 c) := h.cell 1 rfl
  clear h
  go_enter Try.func18, Try.ntmps18
  go_wp2
  go_ret
  exact ⟨rfl, rfl⟩

set_option maxHeartbeats 400000 in
theorem bpercent_c (b : Nat) (p c : Int) (w : World) (h : Bu w b p c) :
    Calls Try.prog 19 #[.pointer (some ⟨b, 0, none⟩)] w fun e w' => e = .returned (.int .i64 p) ∧ w = w' := by
  have c0 : w.cell? ⟨b, 0, none⟩ = some (.int .i64 p) := h.cell 0 rfl
  clear h
  go_enter Try.func19, Try.ntmps19
  go_wp2
  go_ret
  exact ⟨rfl, rfl⟩

set_option maxHeartbeats 400000 in
theorem ballow_c (b : Nat) (p c : Int) (w : World) (h : Bu w b p c) (k0 : 0 ≤ c) (k1 : c ≤ 4800) :
    Calls Try.prog 20 #[.pointer (some ⟨b, 0, none⟩)] w fun e w' => e = .returned (.int .i64 (c / 100)) ∧ w = w' := by
  have c1 : w.cell? ⟨b, 1, none⟩ = some (.int .i64 c) := h.cell 1 rfl
  clear h
  go_enter Try.func20, Try.ntmps20
  go_wp2
  go_ret
  exact ⟨rfl, rfl⟩

set_option maxHeartbeats 400000 in
theorem bclone_c (b : Nat) (p c : Int) (w : World) (h : Bu w b p c) :
    Calls Try.prog 21 #[.pointer (some ⟨b, 0, none⟩)] w fun e w' => e = .returned (.pointer (some ⟨w.heap.size, 0, none⟩)) ∧ Bu w' w.heap.size p c ∧ Frm [] w w' := by
  have c0 : w.cell? ⟨b, 0, none⟩ = some (.int .i64 p) := h.cell 0 rfl
  have c1 : w.cell? ⟨b, 1, none⟩ = some (.int .i64 c) := h.cell 1 rfl
  have hlt := h.lt
  clear h
  go_enter Try.func21, Try.ntmps21
  go_wp2
  go_ret
  exact ⟨rfl, Blk.made _ _ _, (Frm.refl _ _).alloc _⟩

set_option maxHeartbeats 1000000 in
theorem bearn_c (b : Nat) (p c k : Int) (w : World) (h : Bu w b p c) (p0 : 0 ≤ p) (p1 : p ≤ 100) (z0 : 0 ≤ c) (z1 : c ≤ 4800) :
    Calls Try.prog 10 #[.pointer (some ⟨b, 0, none⟩), .int .i64 k] w fun e w' => e = .returned (.tuple #[]) ∧ Bu w' b p (earnC p c k) ∧ Frm [b] w w' := by
  have c0 : w.cell? ⟨b, 0, none⟩ = some (.int .i64 p) := h.cell 0 rfl
  have c1 : w.cell? ⟨b, 1, none⟩ = some (.int .i64 c) := h.cell 1 rfl
  have f1 := h.free 1
  have hlt := h.lt
  have H := Lib.hid h
  obtain ⟨k1, hk1⟩ : ∃ k1, (if k < 0 then 0 else k) = k1 := ⟨_, rfl⟩
  obtain ⟨q, hq⟩ : ∃ q, (if (48 : Int) < k1 then 48 else k1) = q := ⟨_, rfl⟩
  have hq2 : q = upTo k 48 := by unfold upTo; rw [← hq, ← hk1]; split <;> split at * <;> omega
  have q0 : 0 ≤ q := by rw [hq2]; exact upTo_ge _ _ (by decide)
  have q1 : q ≤ 48 := by rw [hq2]; exact upTo_le _ _
  obtain ⟨r0, r1⟩ := prod2_in q p q0 q1 p0 p1
  obtain ⟨m, hm⟩ : ∃ m, (if (4800 : Int) < c + q * p then 4800 else c + q * p) = m := ⟨_, rfl⟩
  have hm2 : m = earnC p c k := by unfold earnC; rw [← hq2, ← hm]; split <;> omega
  have HM := Lib.hid hm2
  clear h hq2 hm2
  go_enter Try.func10, Try.ntmps10
  go_wp2_with fail
  have e1 : IntKind.i64.wrap (q * p) = q * p := IntWalk.i64_in _ (by omega)
  have e2 : IntKind.i64.wrap (c + q * p) = c + q * p := IntWalk.i64_in _ (by omega)
  go_still_tail 13, (by kernel_rfl)
  clear e1 e2 hm hq hk1
  change wpList _ _ _ _ _ w.drew
  go_wp2
  go_end0
  rw [← HM.out]
  exact ⟨rfl, (H.out.put 1 _).drew, ((Frm.refl _ _).put (.inl (by simp)) _ _ _).drew⟩

set_option maxHeartbeats 1000000 in
theorem bspend_c (b : Nat) (p c n : Int) (w : World) (h : Bu w b p c) (k0 : 0 ≤ c) (k1 : c ≤ 4800) :
    Calls Try.prog 12 #[.pointer (some ⟨b, 0, none⟩), .int .i64 n] w fun e w' => e = .returned (.int .i64 (spendE c n)) ∧ Bu w' b p (spendC c n) ∧ Frm [b] w w' := by
  have c0 : w.cell? ⟨b, 0, none⟩ = some (.int .i64 p) := h.cell 0 rfl
  have c1 : w.cell? ⟨b, 1, none⟩ = some (.int .i64 c) := h.cell 1 rfl
  have f1 := h.free 1
  have hlt := h.lt
  have H := Lib.hid h
  clear h
  by_cases hn : n < 0
  · go_enter Try.func12, Try.ntmps12
    go_wp2_with fail
    go_ret
    have e1 : spendE c n = 1 := by unfold spendE; rw [if_pos hn]
    have e2 : spendC c n = c := by unfold spendC; rw [if_pos hn]
    rw [e1, e2]
    exact ⟨rfl, H.out, Frm.refl _ _⟩
  · by_cases hl : c / 100 < n
    · go_enter Try.func12, Try.ntmps12
      go_wp2_with fail
      refine (ballow_c _ _ _ _ H.out k0 k1).mono ?_
      rintro e w' ⟨rfl, rfl⟩
      go_wp2_with fail
      go_ret
      have e1 : spendE c n = 6 := by unfold spendE; rw [if_neg (by omega), if_pos (by omega)]
      have e2 : spendC c n = c := by unfold spendC; rw [if_neg (by omega), if_pos (by omega)]
      rw [e1, e2]
      exact ⟨rfl, H.out, Frm.refl _ _⟩
    · go_enter Try.func12, Try.ntmps12
      go_wp2_with fail
      refine (ballow_c _ _ _ _ H.out k0 k1).mono ?_
      rintro e w' ⟨rfl, rfl⟩
      go_wp2_with fail
      go_ret
      have e1 : spendE c n = 0 := by unfold spendE; rw [if_neg (by omega), if_neg (by omega)]
      have e2 : spendC c n = c - n * 100 := by unfold spendC; rw [if_neg (by omega), if_neg (by omega)]
      rw [e1, e2]
      exact ⟨rfl, H.out.put 1 _, (Frm.refl _ _).put (.inl (by simp)) _ _ _⟩

set_option maxHeartbeats 1000000 in
theorem bgrant_c (b : Nat) (p c want : Int) (w : World) (h : Bu w b p c) (k0 : 0 ≤ c) (k1 : c ≤ 4800) :
    Calls Try.prog 14 #[.pointer (some ⟨b, 0, none⟩), .int .i64 want] w fun e w' => e = .returned (.int .i64 (grantN c want)) ∧ Bu w' b p (c - grantN c want * 100) ∧ Frm [b] w w' := by
  have H := Lib.hid h
  clear h
  obtain ⟨m, hm⟩ : ∃ m, (if want < 0 then 0 else want) = m := ⟨_, rfl⟩
  obtain ⟨n, hn⟩ : ∃ n, (if c / 100 < m then c / 100 else m) = n := ⟨_, rfl⟩
  have hn2 : n = grantN c want := by unfold grantN; rw [← hn, ← hm]; split <;> split at * <;> omega
  have HN := Lib.hid hn2
  clear hn2
  go_enter Try.func14, Try.ntmps14
  go_wp2_with fail
  refine (ballow_c _ _ _ _ H.out k0 k1).mono ?_
  rintro e w' ⟨rfl, rfl⟩
  go_wp2_with fail
  refine (bspend_c _ _ _ _ _ H.out k0 k1).mono ?_
  rintro e w1 ⟨rfl, hb, hf⟩
  rw [HN.out, grant_spend _ _ k0] at hb
  rw [HN.out]
  have HB := Lib.hid hb
  have HF := Lib.hid hf
  clear hb hf hm hn
  go_wp2_with fail
  go_ret
  exact ⟨rfl, HB.out, HF.out⟩

set_option maxHeartbeats 1000000 in
theorem bchange_c (b : Nat) (p c x : Int) (w : World) (h : Bu w b p c) :
    Calls Try.prog 16 #[.pointer (some ⟨b, 0, none⟩), .int .i64 x] w fun e w' => e = .returned (.tuple #[]) ∧ Bu w' b (upTo x 100) (changeC (upTo x 100) c) ∧ Frm [b] w w' := by
  have c0 : w.cell? ⟨b, 0, none⟩ = some (.int .i64 p) := h.cell 0 rfl
  have c1 : w.cell? ⟨b, 1, none⟩ = some (.int .i64 c) := h.cell 1 rfl
  have f0 := h.free 0
  have f1 := h.free 1
  have hlt := h.lt
  have H := Lib.hid h
  clear h
  obtain ⟨q, hq⟩ : ∃ q, q = upTo x 100 := ⟨_, rfl⟩
  have HQ := Lib.hid hq
  rw [← hq]
  clear hq
  by_cases hz : q = 0
  · subst hz
    go_enter Try.func16, Try.ntmps16
    go_wp2_with fail
    refine (bheld_c _ _).mono ?_
    rintro e w' ⟨rfl, rfl⟩
    rw [← HQ.out]
    go_wp2_with fail
    go_end0
    exact ⟨rfl, (H.out.put 0 _).put 1 _, ((Frm.refl _ _).put (.inl (by simp)) _ _ _).put (.inl (by simp)) _ _ _⟩
  · have hzb : (q == 0) = false := beq_eq_false_iff_ne.2 hz
    have e1 : changeC q c = c := by unfold changeC; rw [if_neg hz]
    rw [e1]
    clear hz e1
    go_enter Try.func16, Try.ntmps16
    go_wp2_with fail
    refine (bheld_c _ _).mono ?_
    rintro e w' ⟨rfl, rfl⟩
    rw [← HQ.out]
    go_wp2_with fail
    go_end0
    exact ⟨rfl, H.out.put 0 _, (Frm.refl _ _).put (.inl (by simp)) _ _ _⟩

end Go.Proofs.Ytjmnbhcbgjigdaa
