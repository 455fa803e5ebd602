/-
  THE WALKS of package report: what is told, and a packet noted.
-/
import Derived.Test.YtbodmoefogkciaaRpA
set_option linter.unusedVariables false
set_option linter.unusedSimpArgs false
namespace Go.Proofs.Ytbodmoefogkciaa
open Go.RowKit

/-- Expected, asked within a region. -/
theorem expected_q (b : Nat) (s : St) (k : Nat) (w : World) (h : Stat w b s) (ok : s.ok k) (n : Nat) :
    Calls Try.prog 14 #[.pointer (some ⟨b, 0, none⟩)] (w.drewN n) fun e w' => e = .returned (.int .i64 s.expd) ∧ ∃ m, w' = (w.drewN n).drewN m :=
  expected_c b s k (w.drewN n) (h.drewN n) ok

set_option maxHeartbeats 1000000 in
theorem lost_c (b : Nat) (s : St) (k : Nat) (w : World) (h : Stat w b s) (ok : s.ok k) :
    Calls Try.prog 13 #[.pointer (some ⟨b, 0, none⟩)] w fun e w' => e = .returned (.int .i32 s.lost) ∧ ∃ m, w' = w.drewN m := by
  have c3 : w.cell? ⟨b, 3, none⟩ = some (.int .i64 s.rcv) := h.cell 3 rfl
  have HQ := Lib.hid (expected_q b s k w h ok)
  obtain ⟨e0, e1⟩ := St.expd_in ok
  have r0 := ok.r0
  have r1 := ok.r1
  have hl : s.lost = min (max (s.expd - s.rcv) (-8388608)) 8388607 := rfl
  obtain ⟨E, hE⟩ : ∃ E, E = s.expd := ⟨_, rfl⟩
  obtain ⟨R, hR⟩ : ∃ R, R = s.rcv := ⟨_, rfl⟩
  rw [← hE] at e0 e1 hl HQ
  rw [← hR] at r0 r1 hl c3
  have e2 : ∀ x : Int, -8388608 ≤ x → x ≤ 8388607 → IntKind.i32.wrap x = x := fun x h0 h1 => IntWalk.i32_in _ (by omega)
  have e3 : IntKind.i64.wrap (E - R) = E - R := IntWalk.i64_in _ (by omega)
  have HL := Lib.hid hl
  clear hl h ok hE hR
  rcases (show E - R < -8388608 ∨ (-8388608 ≤ E - R ∧ E - R ≤ 8388607) ∨ 8388607 < E - R from by omega) with hv | ⟨hv1, hv2⟩ | hv
  · have e4 : IntKind.i32.wrap (-8388608) = -8388608 := e2 _ (by decide) (by decide)
    rw [HL.out, show min (max (E - R) (-8388608)) 8388607 = -8388608 from by omega]
    clear e2
    go_enter Try.func13, Try.ntmps13
    go_wp2_with fail
    go_quiet ((go_at_call 14; exact Calls.quiet_of (HQ.out _)))
    go_wp2_with fail
    go_ret
    exact ⟨rfl, nq, rfl⟩
  · have e4 : IntKind.i32.wrap (E - R) = E - R := e2 _ hv1 hv2
    rw [HL.out, show min (max (E - R) (-8388608)) 8388607 = E - R from by omega]
    clear e2
    go_enter Try.func13, Try.ntmps13
    go_wp2_with fail
    go_quiet ((go_at_call 14; exact Calls.quiet_of (HQ.out _)))
    go_wp2_with fail
    go_ret
    exact ⟨rfl, nq, rfl⟩
  · have e4 : IntKind.i32.wrap 8388607 = 8388607 := e2 _ (by decide) (by decide)
    rw [HL.out, show min (max (E - R) (-8388608)) 8388607 = 8388607 from by omega]
    clear e2
    go_enter Try.func13, Try.ntmps13
    go_wp2_with fail
    go_quiet ((go_at_call 14; exact Calls.quiet_of (HQ.out _)))
    go_wp2_with fail
    go_ret
    exact ⟨rfl, nq, rfl⟩

set_option maxHeartbeats 1000000 in
theorem high_c (b : Nat) (s : St) (k : Nat) (w : World) (h : Stat w b s) (ok : s.ok k) :
    Calls Try.prog 15 #[.pointer (some ⟨b, 0, none⟩)] w fun e w' => e = .returned (.int .u32 s.high) ∧ w = w' := by
  have HQ := Lib.hid (highest_c b _ _ s.h w h rfl)
  have hh : s.high = (if s.h < 0 then 0 else s.h) % 4294967296 := rfl
  obtain ⟨H, hH⟩ : ∃ H, H = (if s.h < 0 then 0 else s.h) := ⟨_, rfl⟩
  have hv : wHead s.h = .int .i64 H := by rw [hH]; rfl
  have HV := Lib.hid hv
  rw [← hH] at hh
  have HH := Lib.hid hh
  clear hv hh h ok
  go_enter Try.func15, Try.ntmps15
  go_wp2_with fail
  refine HQ.out.mono ?_
  rintro e w' ⟨rfl, rfl⟩
  rw [HV.out]
  clear hH
  go_wp2_with fail
  go_ret
  rw [HH.out]
  exact ⟨rfl, rfl⟩

set_option maxHeartbeats 1000000 in
theorem jitter_c (b : Nat) (s : St) (k : Nat) (w : World) (h : Stat w b s) (ok : s.ok k) :
    Calls Try.prog 19 #[.pointer (some ⟨b, 0, none⟩)] w fun e w' => e = .returned (.int .u32 s.jitter) ∧ w = w' := by
  have c4 : w.cell? ⟨b, 4, none⟩ = some (.int .i64 s.sum) := h.cell 4 rfl
  have s0 := ok.s0
  have s1 := ok.s1
  have hj : s.jitter = min (s.sum / 16) 4294967295 := rfl
  obtain ⟨S, hS⟩ : ∃ S, S = s.sum := ⟨_, rfl⟩
  rw [← hS] at s0 s1 hj c4
  obtain ⟨M, hM⟩ : ∃ M, (if (4294967295 : Int) < S / 16 then 4294967295 else S / 16) = M := ⟨_, rfl⟩
  have hm : M = s.jitter := by rw [hj, ← hM]; split <;> omega
  have m0 : 0 ≤ M ∧ M ≤ 4294967295 := by rw [hm, hj]; omega
  obtain ⟨m0, m1⟩ := m0
  have HM := Lib.hid hm
  clear hj hm h ok hS
  go_enter Try.func19, Try.ntmps19
  go_wp2_with fail
  go_ret
  rw [← HM.out]
  exact ⟨ret_int (by omega), rfl⟩

set_option maxHeartbeats 2000000 in
theorem fraction_c (b : Nat) (s : St) (k : Nat) (w : World) (h : Stat w b s) (ok : s.ok k) :
    Calls Try.prog 18 #[.pointer (some ⟨b, 0, none⟩)] w fun e w' => e = .returned (.int .i64 s.fraction) ∧ ∃ m, w' = w.drewN m := by
  have c3 : w.cell? ⟨b, 3, none⟩ = some (.int .i64 s.rcv) := h.cell 3 rfl
  have c7 : w.cell? ⟨b, 7, none⟩ = some (.int .i64 s.ex) := h.cell 7 rfl
  have c8 : w.cell? ⟨b, 8, none⟩ = some (.int .i64 s.ca) := h.cell 8 rfl
  have HQ := Lib.hid (expected_q b s k w h ok)
  obtain ⟨e0, e1⟩ := St.expd_in ok
  have r0 := ok.r0
  have r1 := ok.r1
  have x0 := ok.e0
  have x1 := ok.e1
  have y0 := ok.c0
  have y1 := ok.c1
  have hf : s.fraction = frac (s.expd - s.ex) (s.expd - s.ex - (s.rcv - s.ca)) := rfl
  obtain ⟨E, hE⟩ : ∃ E, E = s.expd := ⟨_, rfl⟩
  obtain ⟨R, hR⟩ : ∃ R, R = s.rcv := ⟨_, rfl⟩
  obtain ⟨X, hX⟩ : ∃ X, X = s.ex := ⟨_, rfl⟩
  obtain ⟨C, hC⟩ : ∃ C, C = s.ca := ⟨_, rfl⟩
  rw [← hE, ← hR, ← hX, ← hC] at hf
  rw [← hE] at e0 e1 HQ
  rw [← hR] at r0 r1 c3
  rw [← hX] at x0 x1 c7
  rw [← hC] at y0 y1 c8
  obtain ⟨A, hA⟩ : ∃ A, E - X = A := ⟨_, rfl⟩
  have a0 : -70000000 ≤ A := by omega
  have a1 : A ≤ 65600000 := by omega
  obtain ⟨L, hL⟩ : ∃ L, A - (R - C) = L := ⟨_, rfl⟩
  have l0 : -70001000 ≤ L := by omega
  have l1 : L ≤ 65601000 := by omega
  have e2 : IntKind.i64.wrap (E - X) = A := by rw [← hA]; exact IntWalk.i64_in _ (by omega)
  have e3 : IntKind.i64.wrap (R - C) = R - C := IntWalk.i64_in _ (by omega)
  have e4 : IntKind.i64.wrap (A - (R - C)) = L := by rw [← hL]; exact IntWalk.i64_in _ (by omega)
  rw [hA, hL] at hf
  have HF := Lib.hid hf
  have HA := Lib.hid hA
  have HL := Lib.hid hL
  rw [hf]
  clear hf h ok hE hR hX hC hA hL
  by_cases hz : A ≤ 0
  · rw [show frac A L = 0 from by unfold frac; rw [if_pos (.inl hz)]]
    go_enter Try.func18, Try.ntmps18
    go_wp2_with fail
    go_quiet ((go_at_call 14; exact Calls.quiet_of (HQ.out _)))
    obtain ⟨n1, hn1⟩ : ∃ n1, n1 = nq := ⟨_, rfl⟩
    rw [← hn1]
    clear hn1 nq
    go_wp2_with fail
    go_quiet (fail)
    go_wp2_with fail
    go_ret
    exact ⟨rfl, n1 + nq, by first | rfl | rw [World.drewN_drewN]⟩
  · by_cases hy : L ≤ 0
    · rw [show frac A L = 0 from by unfold frac; rw [if_pos (.inr hy)]]
      go_enter Try.func18, Try.ntmps18
      go_wp2_with fail
      go_quiet ((go_at_call 14; exact Calls.quiet_of (HQ.out _)))
      obtain ⟨n1, hn1⟩ : ∃ n1, n1 = nq := ⟨_, rfl⟩
      rw [← hn1]
      clear hn1 nq
      go_wp2_with fail
      go_quiet (fail)
      go_wp2_with fail
      go_ret
      exact ⟨rfl, n1 + nq, by first | rfl | rw [World.drewN_drewN]⟩
    · have hfr : frac A L = min (L * 256 / A) 255 := by unfold frac; rw [if_neg (by omega)]
      rw [hfr]
      have q0 : 0 ≤ L * 256 := by omega
      have q1 : L * 256 ≤ 20000000000 := by omega
      have p1 : 1 ≤ A := by omega
      have d0 : 0 ≤ L * 256 / A := Int.ediv_nonneg q0 (by omega)
      have d1 : L * 256 / A ≤ 20000000000 := Int.le_trans (Int.ediv_le_self _ q0) q1
      clear hfr
      go_enter Try.func18, Try.ntmps18
      go_wp2_with fail
      go_quiet ((go_at_call 14; exact Calls.quiet_of (HQ.out _)))
      obtain ⟨n1, hn1⟩ : ∃ n1, n1 = nq := ⟨_, rfl⟩
      rw [← hn1]
      clear hn1 nq
      go_wp2_with fail
      go_quiet (fail)
      clear e2 e3 e4
      go_wp2_with fail
      go_wp2
      all_goals (go_ret; exact ⟨ret_int (by omega), n1 + nq, by first | rfl | rw [World.drewN_drewN]⟩)

set_option maxHeartbeats 400000 in
theorem rclone_c (b : Nat) (s : St) (w : World) (h : Stat w b s) :
    Calls Try.prog 12 #[.pointer (some ⟨b, 0, none⟩)] w fun e w' => e = .returned (.pointer (some ⟨w.heap.size, 0, none⟩)) ∧ Stat w' w.heap.size s ∧ Frm [] w w' := by
  obtain ⟨H, hH⟩ : ∃ H, wHead s.h = .int .i64 H := ⟨_, rfl⟩
  obtain ⟨B, hB⟩ : ∃ B, wFlag s.h = .bool B := ⟨_, rfl⟩
  have c0 : w.cell? ⟨b, 0, none⟩ = some (.int .i64 H) := by rw [← hH]; exact h.cell 0 rfl
  have c1 : w.cell? ⟨b, 1, none⟩ = some (.bool B) := by rw [← hB]; exact h.cell 1 rfl
  have c2 : w.cell? ⟨b, 2, none⟩ = some (.int .i64 s.first) := h.cell 2 rfl
  have c3 : w.cell? ⟨b, 3, none⟩ = some (.int .i64 s.rcv) := h.cell 3 rfl
  have c4 : w.cell? ⟨b, 4, none⟩ = some (.int .i64 s.sum) := h.cell 4 rfl
  have c5 : w.cell? ⟨b, 5, none⟩ = some (.int .u32 s.ts) := h.cell 5 rfl
  have c6 : w.cell? ⟨b, 6, none⟩ = some (.int .i64 s.tm) := h.cell 6 rfl
  have c7 : w.cell? ⟨b, 7, none⟩ = some (.int .i64 s.ex) := h.cell 7 rfl
  have c8 : w.cell? ⟨b, 8, none⟩ = some (.int .i64 s.ca) := h.cell 8 rfl
  have hlt := h.lt
  have HH := Lib.hid hH
  have HBo := Lib.hid hB
  clear h hH hB
  go_enter Try.func12, Try.ntmps12
  go_wp2
  go_ret
  exact ⟨rfl, by unfold Stat St.cells; rw [HH.out, HBo.out]; exact Blk.made _ _ _, (Frm.refl _ _).alloc _⟩


set_option maxHeartbeats 2000000 in
theorem shift_c (b : Nat) (s : St) (k : Nat) (ts now : Int) (w : World) (h : Stat w b s) (ok : s.ok k) (t0 : 0 ≤ ts) (t1 : ts ≤ 4294967295) (n0 : 0 ≤ now) (n1 : now ≤ 1099511627776) :
    Calls Try.prog 27 #[.pointer (some ⟨b, 0, none⟩), .int .u32 ts, .int .i64 now] w fun e w' => e = .returned (.tuple #[]) ∧ Stat w' b { s with sum := s.shift ts now } ∧ Frm [b] w w' := by
  have c4 : w.cell? ⟨b, 4, none⟩ = some (.int .i64 s.sum) := h.cell 4 rfl
  have c5 : w.cell? ⟨b, 5, none⟩ = some (.int .u32 s.ts) := h.cell 5 rfl
  have c6 : w.cell? ⟨b, 6, none⟩ = some (.int .i64 s.tm) := h.cell 6 rfl
  have f4 := h.free 4
  have hlt := h.lt
  have H := Lib.hid h
  have s0 := ok.s0
  have s1 := ok.s1
  have u0 := ok.t0
  have u1 := ok.t1
  have m0 := ok.m0
  have m1 := ok.m1
  have hq2 := ah32_in ts s.ts
  have hsh : s.shift ts now = jit s.sum (now - s.tm - ah32 ts s.ts) := rfl
  obtain ⟨S, hS⟩ : ∃ S, S = s.sum := ⟨_, rfl⟩
  obtain ⟨U, hU⟩ : ∃ U, U = s.ts := ⟨_, rfl⟩
  obtain ⟨M, hM⟩ : ∃ M, M = s.tm := ⟨_, rfl⟩
  rw [← hS] at s0 s1 c4
  rw [← hU] at u0 u1 c5 hq2
  rw [← hM] at m0 m1 c6
  rw [← hS, ← hU, ← hM] at hsh
  obtain ⟨q, hq⟩ : ∃ q, q = ah32 ts U := ⟨_, rfl⟩
  rw [← hq] at hq2 hsh
  obtain ⟨q0, q1⟩ := hq2
  have HCq : Hid (∀ W, Calls Try.prog 33 #[.int .u32 ts, .int .u32 U] W fun e w' => e = .returned (.int .i64 q) ∧ w' = W) := Lib.hid fun W => by
    rw [hq]; exact same_of (ahead32_c ts U W t0 t1 u0 u1)
  obtain ⟨D, hD⟩ : ∃ D, now - M - q = D := ⟨_, rfl⟩
  have d0 : -1103806595072 ≤ D := by omega
  have d1 : D ≤ 1103806595072 := by omega
  have e1 : IntKind.i64.wrap (now - M) = now - M := IntWalk.i64_in _ (by omega)
  have e2 : IntKind.i64.wrap (now - M - q) = D := by rw [hD]; exact IntWalk.i64_in _ (by omega)
  rw [hD] at hsh
  have HSh := Lib.hid hsh
  rw [hsh]
  clear h ok hS hU hM hq hsh hD
  obtain ⟨J, hJ⟩ : ∃ J, J = jit S D := ⟨_, rfl⟩
  rw [← hJ]
  have HJ := Lib.hid hJ
  clear hJ
  by_cases hd : D < 0
  · have e3 : IntKind.i64.wrap (S + -D) = S + -D := IntWalk.i64_in _ (by omega)
    have e4 : IntKind.i64.wrap (S + 8) = S + 8 := IntWalk.i64_in _ (by omega)
    have e5 : IntKind.i64.wrap ((S + 8).tdiv 16) = (S + 8) / 16 := IntWalk.i64_quo _ _ (by omega)
    have e6 : IntKind.i64.wrap (S + -D - (S + 8) / 16) = S + -D - (S + 8) / 16 := IntWalk.i64_in _ (by omega)
    have e7 : (if 1125899906842624 < S + -D - (S + 8) / 16 then 1125899906842624 else S + -D - (S + 8) / 16) = J := by rw [HJ.out]; unfold jit absI; rw [if_pos hd]; split <;> omega
    go_enter Try.func27, Try.ntmps27
    go_wp2_with fail
    go_quiet ((go_at_call 33; exact Calls.quiet_of_same (HCq.out _)))
    clear e1 e2
    go_wp2_with fail
    refine region_tail 15 (by kernel_rfl) (by kernel_rfl) ?_
    simp only [List.take_succ_cons, List.take_zero, List.drop_succ_cons, List.drop_zero]
    repeat still_step
    refine wpStill_nil ?_
    clear e3 e4 e5 e6 e7
    go_wp2_with fail
    go_end0
    exact ⟨rfl, (((H.out.drewN nq).drew).put 4 _), (((Frm.refl _ _).drewN nq).drew).put (.inl (by simp)) _ _ _⟩
  · have e3 : IntKind.i64.wrap (S + D) = S + D := IntWalk.i64_in _ (by omega)
    have e4 : IntKind.i64.wrap (S + 8) = S + 8 := IntWalk.i64_in _ (by omega)
    have e5 : IntKind.i64.wrap ((S + 8).tdiv 16) = (S + 8) / 16 := IntWalk.i64_quo _ _ (by omega)
    have e6 : IntKind.i64.wrap (S + D - (S + 8) / 16) = S + D - (S + 8) / 16 := IntWalk.i64_in _ (by omega)
    have e7 : (if 1125899906842624 < S + D - (S + 8) / 16 then 1125899906842624 else S + D - (S + 8) / 16) = J := by rw [HJ.out]; unfold jit absI; rw [if_neg hd]; split <;> omega
    go_enter Try.func27, Try.ntmps27
    go_wp2_with fail
    go_quiet ((go_at_call 33; exact Calls.quiet_of_same (HCq.out _)))
    clear e1 e2
    go_wp2_with fail
    refine region_tail 15 (by kernel_rfl) (by kernel_rfl) ?_
    simp only [List.take_succ_cons, List.take_zero, List.drop_succ_cons, List.drop_zero]
    repeat still_step
    refine wpStill_nil ?_
    clear e3 e4 e5 e6 e7
    go_wp2_with fail
    go_end0
    exact ⟨rfl, (((H.out.drewN nq).drew).put 4 _), (((Frm.refl _ _).drewN nq).drew).put (.inl (by simp)) _ _ _⟩

set_option maxHeartbeats 2000000 in
theorem note_c (b : Nat) (s : St) (k : Nat) (seq ts now : Int) (w : World) (h : Stat w b s) (ok : s.ok k) (hk : k + 1 ≤ 1000) (hr : s.rcv + 1 ≤ 1000) (q0 : 0 ≤ seq) (q1 : seq ≤ 65535) (t0 : 0 ≤ ts) (t1 : ts ≤ 4294967295) :
    Calls Try.prog 10 #[.pointer (some ⟨b, 0, none⟩), .int .u16 seq, .int .u32 ts, .int .i64 now] w fun e w' => e = .returned (.tuple #[]) ∧ Stat w' b (s.note seq ts now) ∧ Frm [b] w w' := by
  have n0 := upTo_ge now 1099511627776 (by decide)
  have n1 := upTo_le now 1099511627776
  obtain ⟨y1, hy1⟩ : ∃ y1, (if now < 0 then 0 else now) = y1 := ⟨_, rfl⟩
  obtain ⟨N, hN⟩ : ∃ N, (if (1099511627776 : Int) < y1 then 1099511627776 else y1) = N := ⟨_, rfl⟩
  have hN2 : upTo now 1099511627776 = N := by unfold upTo; rw [← hN, ← hy1]; split <;> split at * <;> omega
  rw [hN2] at n0 n1
  have HN := Lib.hid hN2
  have H := Lib.hid h
  have OK := Lib.hid ok
  have r0 := ok.r0
  have r1 := ok.r1
  have k1 := ok.k1
  have hw := ok.hw
  clear h ok hN2
  rcases (show s.h < 0 ∨ 0 ≤ s.h from by omega) with hs | hs
  · have hfl : wFlag s.h = .bool false := by unfold wFlag; simp; omega
    have HFl := Lib.hid hfl
    have HS := Lib.hid hs
    clear hfl hs
    go_enter Try.func10, Try.ntmps10
    go_wp2_with fail
    refine (started_c b _ _ s.h _ H.out rfl).mono ?_
    rintro e w' ⟨rfl, rfl⟩
    rw [HFl.out]
    go_wp2_with fail
    refine (of_c b _ _ s.h seq k _ H.out rfl rfl hw (by omega) q0 q1).mono ?_
    rintro e w1 ⟨rfl, hb, hf⟩
    have hb2 : Blk w1 b 29 #[wHead (wHi s.h seq), wFlag (wHi s.h seq), .int .i64 s.first, .int .i64 s.rcv, .int .i64 s.sum, .int .u32 s.ts, .int .i64 s.tm, .int .i64 s.ex, .int .i64 s.ca] := hb
    have d3 : w1.cell? ⟨b, 3, none⟩ = some (.int .i64 s.rcv) := hb2.cell 3 rfl
    have d2 : w1.cell? ⟨b, 2, none⟩ = some (.int .i64 s.first) := hb2.cell 2 rfl
    have d5 : w1.cell? ⟨b, 5, none⟩ = some (.int .u32 s.ts) := hb2.cell 5 rfl
    have d6 : w1.cell? ⟨b, 6, none⟩ = some (.int .i64 s.tm) := hb2.cell 6 rfl
    have g2 := hb2.free 2
    have g3 := hb2.free 3
    have g5 := hb2.free 5
    have g6 := hb2.free 6
    have gl := hb2.lt
    have HB := Lib.hid hb2
    have HF := Lib.hid hf
    clear hb hb2 hf
    go_wp2_with fail
    go_end0
    refine ⟨rfl, ?_, (((HF.out.put (.inl (by simp)) _ _ _).put (.inl (by simp)) _ _ _).put (.inl (by simp)) _ _ _).put (.inl (by simp)) _ _ _⟩
    have hc : (s.note seq ts now).cells = #[wHead (wHi s.h seq), wFlag (wHi s.h seq), .int .i64 (wOut s.h seq), .int .i64 (s.rcv + 1), .int .i64 s.sum, .int .u32 ts, .int .i64 N, .int .i64 s.ex, .int .i64 s.ca] := by
      simp only [St.cells, St.note, HN.out, if_pos HS.out]
    unfold Stat
    rw [hc]
    exact (((HB.out.put 2 _).put 3 _).put 5 _).put 6 _
  · have hfl : wFlag s.h = .bool true := by unfold wFlag; simp; omega
    have HFl := Lib.hid hfl
    have HS := Lib.hid hs
    clear hfl hs
    go_enter Try.func10, Try.ntmps10
    go_wp2_with fail
    refine (started_c b _ _ s.h _ H.out rfl).mono ?_
    rintro e w' ⟨rfl, rfl⟩
    rw [HFl.out]
    go_wp2_with fail
    refine (of_c b _ _ s.h seq k _ H.out rfl rfl hw (by omega) q0 q1).mono ?_
    rintro e w1 ⟨rfl, hb, hf⟩
    have hb2 : Stat w1 b { s with h := wHi s.h seq } := hb
    have OK2 := Lib.hid (St.wide_ok OK.out hk HS.out seq q0 q1)
    have HB := Lib.hid hb2
    have HF := Lib.hid hf
    clear hb hb2 hf
    go_wp2_with fail
    refine (shift_c b _ (k + 1) ts N _ HB.out OK2.out t0 t1 n0 n1).mono ?_
    rintro e w2 ⟨rfl, hb, hf⟩
    have hb2 : Blk w2 b 29 #[wHead (wHi s.h seq), wFlag (wHi s.h seq), .int .i64 s.first, .int .i64 s.rcv, .int .i64 (s.shift ts N), .int .u32 s.ts, .int .i64 s.tm, .int .i64 s.ex, .int .i64 s.ca] := hb
    have d3 : w2.cell? ⟨b, 3, none⟩ = some (.int .i64 s.rcv) := hb2.cell 3 rfl
    have d5 : w2.cell? ⟨b, 5, none⟩ = some (.int .u32 s.ts) := hb2.cell 5 rfl
    have d6 : w2.cell? ⟨b, 6, none⟩ = some (.int .i64 s.tm) := hb2.cell 6 rfl
    have g3 := hb2.free 3
    have g5 := hb2.free 5
    have g6 := hb2.free 6
    have gl := hb2.lt
    have HB2 := Lib.hid hb2
    have HF2 := Lib.hid (HF.out.trans hf)
    clear hb hb2 hf
    go_wp2_with fail
    go_end0
    refine ⟨rfl, ?_, ((HF2.out.put (.inl (by simp)) _ _ _).put (.inl (by simp)) _ _ _).put (.inl (by simp)) _ _ _⟩
    have hc : (s.note seq ts now).cells = #[wHead (wHi s.h seq), wFlag (wHi s.h seq), .int .i64 s.first, .int .i64 (s.rcv + 1), .int .i64 (s.shift ts N), .int .u32 ts, .int .i64 N, .int .i64 s.ex, .int .i64 s.ca] := by
      have hn : ¬ s.h < 0 := by have := HS.out; omega
      simp only [St.cells, St.note, HN.out, if_neg hn]
    unfold Stat
    rw [hc]
    exact ((HB2.out.put 3 _).put 5 _).put 6 _

end Go.Proofs.Ytbodmoefogkciaa
