/-
  THE WALK of the law BudgetSpends.
-/
import Derived.Test.YtjmnbhcbgjigdaaBuC
import Derived.Test.YtjmnbhcbgjigdaaBuO
set_option linter.unusedVariables false
set_option linter.unusedSimpArgs false
namespace Go.Proofs.Ytjmnbhcbgjigdaa
open Go.RowKit

set_option maxRecDepth 100000 in
set_option maxHeartbeats 8000000 in
theorem budgetSpends_w (w : World) (pct : Int) (wp : (Lit.int .i64 pct).wf = true) (a : Option Addr) (cap : Nat) (ops : List (Int × Int)) (lc : ops.length ≤ cap) (mc : cap ≤ maxLen) (rd : RdS 2 w a (ops.map opRow)) (wf : ∀ o ∈ ops, True) :
    Calls Try.prog 4 #[.int .i64 pct, .slice a ops.length cap] w fun e w' => e = .returned (.bool true) ∧ Below w.heap.size w w' := by
  clear wp wf
  unfold maxLen at mc
  have HR := Lib.hid rd
  clear rd
  have p0 := upTo_ge pct 100 (by decide)
  have p1 := upTo_le pct 100
  obtain ⟨p, hp⟩ : ∃ p, p = upTo pct 100 := ⟨_, rfl⟩
  rw [← hp] at p0 p1
  have HP := Lib.hid hp
  clear hp
  by_cases hbig : 60 < ops.length
  · go_enter Try.func4, Try.ntmps4
    go_wp2_with fail
    refine (alive_c _).mono ?_
    rintro e w1 ⟨rfl, hf⟩
    have HF1 := Lib.hid hf
    clear hf
    go_wp2_with fail
    go_ret
    exact ⟨rfl, HF1.out.below⟩
  · go_enter Try.func4, Try.ntmps4
    go_wp2_with fail
    refine (alive_c _).mono ?_
    rintro e w1 ⟨rfl, hf⟩
    have HS1 := Lib.hid ((Sep.init w).keep hf)
    clear hf
    go_wp2_with fail
    refine (bnew_c _ _).mono ?_
    rintro e w2 ⟨rfl, hb, hf⟩
    rw [← HP.out] at hb
    have HS2 := Lib.hid (HS1.out.add hf (r := blkR w1.heap.size 47 #[.int .i64 p, .int .i64 0]) hb (by simp [blkR]))
    clear hb hf
    go_wp2_with fail
    go_loopw [6, 7, 23] (fun x y i wr => ∃ (k : Nat) (ea sp c : Int), k ≤ ops.length ∧ i = .int .i64 k ∧ x = .int .i64 ea ∧ y = .int .i64 sp ∧ 0 ≤ ea ∧ ea ≤ 4800 * k ∧ 0 ≤ sp ∧ sp + c ≤ ea ∧ 0 ≤ c ∧ c ≤ 4800 ∧ Sep [] w wr [blkR w1.heap.size 47 #[.int .i64 p, .int .i64 c]]) (fun _ _ i _ => ops.length - (intOf i).toNat)
    case atStart => exact ⟨0, 0, 0, 0, Nat.zero_le _, rfl, rfl, rfl, by decide, by decide, by decide, by decide, by decide, by decide, HS2.out⟩
    case round =>
      obtain ⟨k, ea, sp, c, hk, rfl, rfl, rfl, ea0, ea1, sp0, hsum, c0, c1, hS⟩ := hrel
      have HS := Lib.hid hS
      clear hS
      by_cases hlt : k < ops.length
      · obtain ⟨b, off, kind, n, rfl, hb, x0, x1, hx⟩ := opRow_at (HR.out.below HS.out.frm.below) k hlt
        obtain ⟨n1, hn1⟩ : ∃ n1, (if n < 0 then 0 else n) = n1 := ⟨_, rfl⟩
        obtain ⟨q, hq⟩ : ∃ q, (if (48 : Int) < n1 then 48 else n1) = q := ⟨_, rfl⟩
        have hq2 : q = upTo n 48 := by unfold upTo; rw [← hq, ← hn1]; split <;> split at * <;> omega
        have q0 : 0 ≤ q := by rw [hq2]; exact upTo_ge _ _ (by decide)
        have q1 : q ≤ 48 := by rw [hq2]; exact upTo_le _ _
        obtain ⟨r0, r1⟩ := prod2_in q p q0 q1 p0 p1
        obtain ⟨E, hE⟩ : ∃ E, E = earnC p c n := ⟨_, rfl⟩
        have E0 : 0 ≤ E ∧ E ≤ 4800 ∧ E ≤ c + q * p := by rw [hE, hq2]; have := earnC_in p c n p0 p1 c0 c1; unfold earnC at *; omega
        obtain ⟨E0, E1, E2⟩ := E0
        have hn2 : n1 = max n 0 := by rw [← hn1]; split <;> omega
        have g := grantN_in c n c0 c1
        obtain ⟨G, hG⟩ : ∃ G, G = grantN c n := ⟨_, rfl⟩
        have g5 : G ≤ n1 := by rw [hG, hn2]; unfold grantN; omega
        rw [← hG] at g
        obtain ⟨g0, g1, g2, g3⟩ := g
        have HE := Lib.hid hE
        have HG := Lib.hid hG
        clear hx hb hE hG hq2 hn2
        by_cases k0 : kind = 0
        · subst k0

          go_wp2_with fail
          refine (bclone_c _ _ _ _ (HS.out.skip (.cells #[.int .i64 0, .int .i64 n] 30) |>.blk 0 rfl)).mono ?_
          rintro e w3 ⟨rfl, hb, hf⟩
          rw [World.size_alloc] at hb
          have HS3 := Lib.hid ((HS.out.alloc #[.int .i64 0, .int .i64 n] 30).add hf (r := blkR (wr.heap.size + 1) 47 #[.int .i64 p, .int .i64 c]) hb (by simp [blkR]))
          clear hb hf
          go_wp2_with fail
          refine (bcredit_c _ _ _ _ (HS3.out.blk 0 rfl)).mono ?_
          rintro e w' ⟨rfl, rfl⟩
          have d0 : w3.cell? ⟨wr.heap.size, 0, none⟩ = some (.int .i64 0) := (HS3.out.blk 1 rfl).cell 0 rfl
          have d1 : w3.cell? ⟨wr.heap.size, 1, none⟩ = some (.int .i64 n) := (HS3.out.blk 1 rfl).cell 1 rfl

          go_wp2_with fail
          refine (bearn_c _ _ _ _ _ (HS3.out.blk 2 rfl) p0 p1 c0 c1).mono ?_
          rintro e w4 ⟨rfl, hb, hf⟩
          rw [← HE.out] at hb
          have HS4 := Lib.hid (HS3.out.call 2 rfl hf hb)
          have d2 : w4.cell? ⟨wr.heap.size, 1, none⟩ = some (.int .i64 n) := (HS4.out.blk 1 rfl).cell 1 rfl
          clear hb hf d0 d1
          go_wp2_with fail
          have e1 : IntKind.i64.wrap (q * p) = q * p := IntWalk.i64_in _ (by omega)
          have e2 : IntKind.i64.wrap (ea + q * p) = ea + q * p := IntWalk.i64_in _ (by omega)
          go_quiet ((go_at_call 19; exact Calls.quiet_of_same (same_of (bpercent_c _ _ _ _ (HS4.out.drewN _ |>.blk 2 rfl)))))
          clear e1 e2
          have HS5 := Lib.hid (HS4.out.drewN nq)
          clear d2

          go_wp2_with fail
          refine (bcredit_c _ _ _ _ (HS5.out.blk 2 rfl)).mono ?_
          rintro e w' ⟨rfl, rfl⟩
          go_wp2_with fail
          refine (bcredit_c _ _ _ _ (HS5.out.blk 2 rfl)).mono ?_
          rintro e w' ⟨rfl, rfl⟩
          go_wp2_with fail
          refine (bcredit_c _ _ _ _ (HS5.out.blk 0 rfl)).mono ?_
          rintro e w' ⟨rfl, rfl⟩
          go_wp2_with fail
          go_roundw
          case rel => exact ⟨k + 1, _, _, E, by omega, by go_num, rfl, rfl, by omega, by omega, by omega, by omega, by omega, by omega, HS5.out.only 2 rfl⟩
          case measure => simp [intOf]; omega
        · have kb0 : (kind == 0) = false := beq_eq_false_iff_ne.2 k0
          clear k0
          by_cases k1 : kind = 1
          · subst k1

            go_wp2_with fail
            refine (bclone_c _ _ _ _ (HS.out.skip (.cells #[.int .i64 1, .int .i64 n] 30) |>.blk 0 rfl)).mono ?_
            rintro e w3 ⟨rfl, hb, hf⟩
            rw [World.size_alloc] at hb
            have HS3 := Lib.hid ((HS.out.alloc #[.int .i64 1, .int .i64 n] 30).add hf (r := blkR (wr.heap.size + 1) 47 #[.int .i64 p, .int .i64 c]) hb (by simp [blkR]))
            clear hb hf
            go_wp2_with fail
            refine (bcredit_c _ _ _ _ (HS3.out.blk 0 rfl)).mono ?_
            rintro e w' ⟨rfl, rfl⟩
            have d0 : w3.cell? ⟨wr.heap.size, 0, none⟩ = some (.int .i64 1) := (HS3.out.blk 1 rfl).cell 0 rfl
            have d1 : w3.cell? ⟨wr.heap.size, 1, none⟩ = some (.int .i64 n) := (HS3.out.blk 1 rfl).cell 1 rfl

            go_wp2_with fail
            refine (bearn_c _ _ _ _ _ (HS3.out.blk 2 rfl) p0 p1 c0 c1).mono ?_
            rintro e w4 ⟨rfl, hb, hf⟩
            rw [← HE.out] at hb
            have HS4 := Lib.hid (HS3.out.call 2 rfl hf hb)
            have d2 : w4.cell? ⟨wr.heap.size, 1, none⟩ = some (.int .i64 n) := (HS4.out.blk 1 rfl).cell 1 rfl
            clear hb hf d0 d1
            go_wp2_with fail
            have e1 : IntKind.i64.wrap (q * p) = q * p := IntWalk.i64_in _ (by omega)
            have e2 : IntKind.i64.wrap (ea + q * p) = ea + q * p := IntWalk.i64_in _ (by omega)
            go_quiet ((go_at_call 19; exact Calls.quiet_of_same (same_of (bpercent_c _ _ _ _ (HS4.out.drewN _ |>.blk 2 rfl)))))
            clear e1 e2
            have HS5 := Lib.hid (HS4.out.drewN nq)
            clear d2

            go_wp2_with fail
            refine (bcredit_c _ _ _ _ (HS5.out.blk 2 rfl)).mono ?_
            rintro e w' ⟨rfl, rfl⟩
            go_wp2_with fail
            refine (bcredit_c _ _ _ _ (HS5.out.blk 2 rfl)).mono ?_
            rintro e w' ⟨rfl, rfl⟩
            go_wp2_with fail
            refine (bcredit_c _ _ _ _ (HS5.out.blk 0 rfl)).mono ?_
            rintro e w' ⟨rfl, rfl⟩
            go_wp2_with fail
            go_roundw
            case rel => exact ⟨k + 1, _, _, E, by omega, by go_num, rfl, rfl, by omega, by omega, by omega, by omega, by omega, by omega, HS5.out.only 2 rfl⟩
            case measure => simp [intOf]; omega
          · have kb1 : (kind == 1) = false := beq_eq_false_iff_ne.2 k1
            clear k1
            by_cases k2 : kind = 2
            · subst k2
              by_cases hz : n < 0 ∨ c / 100 < n
              · have s1 : ((spendE c n) == 0) = false := by unfold spendE; split <;> (try split) <;> first | rfl | omega
                have s2 : spendC c n = c := by unfold spendC; split <;> (try split) <;> omega
                obtain ⟨ec, hec⟩ : ∃ ec, ec = spendE c n := ⟨_, rfl⟩
                rw [← hec] at s1
                have HEC := Lib.hid hec
                have HSC := Lib.hid s2
                clear hz hec s2

                go_wp2_with fail
                refine (bclone_c _ _ _ _ (HS.out.skip (.cells #[.int .i64 2, .int .i64 n] 30) |>.blk 0 rfl)).mono ?_
                rintro e w3 ⟨rfl, hb, hf⟩
                rw [World.size_alloc] at hb
                have HS3 := Lib.hid ((HS.out.alloc #[.int .i64 2, .int .i64 n] 30).add hf (r := blkR (wr.heap.size + 1) 47 #[.int .i64 p, .int .i64 c]) hb (by simp [blkR]))
                clear hb hf
                go_wp2_with fail
                refine (bcredit_c _ _ _ _ (HS3.out.blk 0 rfl)).mono ?_
                rintro e w' ⟨rfl, rfl⟩
                have d0 : w3.cell? ⟨wr.heap.size, 0, none⟩ = some (.int .i64 2) := (HS3.out.blk 1 rfl).cell 0 rfl
                have d1 : w3.cell? ⟨wr.heap.size, 1, none⟩ = some (.int .i64 n) := (HS3.out.blk 1 rfl).cell 1 rfl

                go_wp2_with fail
                refine (bspend_c _ _ _ _ _ (HS3.out.blk 2 rfl) c0 c1).mono ?_
                rintro e w4 ⟨rfl, hb, hf⟩
                rw [HSC.out] at hb
                rw [← HEC.out]
                have HS4 := Lib.hid (HS3.out.call 2 rfl hf hb)
                clear hb hf d0 d1
                go_wp2_with fail
                refine (bcredit_c _ _ _ _ (HS4.out.blk 2 rfl)).mono ?_
                rintro e w' ⟨rfl, rfl⟩

                go_wp2_with fail
                refine (bcredit_c _ _ _ _ (HS4.out.blk 2 rfl)).mono ?_
                rintro e w' ⟨rfl, rfl⟩
                go_wp2_with fail
                refine (bcredit_c _ _ _ _ (HS4.out.blk 2 rfl)).mono ?_
                rintro e w' ⟨rfl, rfl⟩
                go_wp2_with fail
                refine (bcredit_c _ _ _ _ (HS4.out.blk 0 rfl)).mono ?_
                rintro e w' ⟨rfl, rfl⟩
                go_wp2_with fail
                go_roundw
                case rel => exact ⟨k + 1, _, _, c, by omega, by go_num, rfl, rfl, by omega, by omega, by omega, by omega, by omega, by omega, HS4.out.only 2 rfl⟩
                case measure => simp [intOf]; omega
              · have s1 : spendE c n = 0 := by unfold spendE; rw [if_neg (by omega), if_neg (by omega)]
                have s2 : spendC c n = c - n * 100 := by unfold spendC; rw [if_neg (by omega), if_neg (by omega)]
                have z0 : 0 ≤ n := by omega
                have z1 : n * 100 ≤ c := by omega
                have HEC := Lib.hid s1
                have HSC := Lib.hid s2
                clear hz s1 s2

                go_wp2_with fail
                refine (bclone_c _ _ _ _ (HS.out.skip (.cells #[.int .i64 2, .int .i64 n] 30) |>.blk 0 rfl)).mono ?_
                rintro e w3 ⟨rfl, hb, hf⟩
                rw [World.size_alloc] at hb
                have HS3 := Lib.hid ((HS.out.alloc #[.int .i64 2, .int .i64 n] 30).add hf (r := blkR (wr.heap.size + 1) 47 #[.int .i64 p, .int .i64 c]) hb (by simp [blkR]))
                clear hb hf
                go_wp2_with fail
                refine (bcredit_c _ _ _ _ (HS3.out.blk 0 rfl)).mono ?_
                rintro e w' ⟨rfl, rfl⟩
                have d0 : w3.cell? ⟨wr.heap.size, 0, none⟩ = some (.int .i64 2) := (HS3.out.blk 1 rfl).cell 0 rfl
                have d1 : w3.cell? ⟨wr.heap.size, 1, none⟩ = some (.int .i64 n) := (HS3.out.blk 1 rfl).cell 1 rfl

                go_wp2_with fail
                refine (bspend_c _ _ _ _ _ (HS3.out.blk 2 rfl) c0 c1).mono ?_
                rintro e w4 ⟨rfl, hb, hf⟩
                rw [HSC.out] at hb
                rw [HEC.out]
                have HS4 := Lib.hid (HS3.out.call 2 rfl hf hb)
                have d2 : w4.cell? ⟨wr.heap.size, 1, none⟩ = some (.int .i64 n) := (HS4.out.blk 1 rfl).cell 1 rfl
                clear hb hf d0 d1

                go_wp2_with fail
                refine (bcredit_c _ _ _ _ (HS4.out.blk 2 rfl)).mono ?_
                rintro e w' ⟨rfl, rfl⟩
                go_wp2_with fail
                refine (bcredit_c _ _ _ _ (HS4.out.blk 2 rfl)).mono ?_
                rintro e w' ⟨rfl, rfl⟩
                go_wp2_with fail
                refine (bcredit_c _ _ _ _ (HS4.out.blk 0 rfl)).mono ?_
                rintro e w' ⟨rfl, rfl⟩
                go_wp2_with fail
                go_roundw
                case rel => exact ⟨k + 1, _, _, (c - n * 100), by omega, by go_num, rfl, rfl, by omega, by omega, by omega, by omega, by omega, by omega, HS4.out.only 2 rfl⟩
                case measure => simp [intOf]; omega
            · have kb2 : (kind == 2) = false := beq_eq_false_iff_ne.2 k2
              clear k2
              by_cases k3 : kind = 3
              · subst k3

                go_wp2_with fail
                refine (bclone_c _ _ _ _ (HS.out.skip (.cells #[.int .i64 3, .int .i64 n] 30) |>.blk 0 rfl)).mono ?_
                rintro e w3 ⟨rfl, hb, hf⟩
                rw [World.size_alloc] at hb
                have HS3 := Lib.hid ((HS.out.alloc #[.int .i64 3, .int .i64 n] 30).add hf (r := blkR (wr.heap.size + 1) 47 #[.int .i64 p, .int .i64 c]) hb (by simp [blkR]))
                clear hb hf
                go_wp2_with fail
                refine (bcredit_c _ _ _ _ (HS3.out.blk 0 rfl)).mono ?_
                rintro e w' ⟨rfl, rfl⟩
                have d0 : w3.cell? ⟨wr.heap.size, 0, none⟩ = some (.int .i64 3) := (HS3.out.blk 1 rfl).cell 0 rfl
                have d1 : w3.cell? ⟨wr.heap.size, 1, none⟩ = some (.int .i64 n) := (HS3.out.blk 1 rfl).cell 1 rfl

                go_wp2_with fail
                refine (bgrant_c _ _ _ _ _ (HS3.out.blk 2 rfl) c0 c1).mono ?_
                rintro e w4 ⟨rfl, hb, hf⟩
                rw [← HG.out] at hb ⊢
                have HS4 := Lib.hid (HS3.out.call 2 rfl hf hb)
                have d2 : w4.cell? ⟨wr.heap.size, 1, none⟩ = some (.int .i64 n) := (HS4.out.blk 1 rfl).cell 1 rfl
                clear hb hf d0 d1

                go_wp2_with fail
                refine (bcredit_c _ _ _ _ (HS4.out.blk 2 rfl)).mono ?_
                rintro e w' ⟨rfl, rfl⟩
                go_wp2_with fail
                refine (bcredit_c _ _ _ _ (HS4.out.blk 2 rfl)).mono ?_
                rintro e w' ⟨rfl, rfl⟩
                go_wp2_with fail
                refine (bcredit_c _ _ _ _ (HS4.out.blk 0 rfl)).mono ?_
                rintro e w' ⟨rfl, rfl⟩
                go_wp2_with fail
                go_roundw
                case rel => exact ⟨k + 1, _, _, (c - G * 100), by omega, by go_num, rfl, rfl, by omega, by omega, by omega, by omega, by omega, by omega, HS4.out.only 2 rfl⟩
                case measure => simp [intOf]; omega
              · have kb3 : (kind == 3) = false := beq_eq_false_iff_ne.2 k3
                clear k3

                go_wp2_with fail
                refine (bclone_c _ _ _ _ (HS.out.skip (.cells #[.int .i64 kind, .int .i64 n] 30) |>.blk 0 rfl)).mono ?_
                rintro e w3 ⟨rfl, hb, hf⟩
                rw [World.size_alloc] at hb
                have HS3 := Lib.hid ((HS.out.alloc #[.int .i64 kind, .int .i64 n] 30).add hf (r := blkR (wr.heap.size + 1) 47 #[.int .i64 p, .int .i64 c]) hb (by simp [blkR]))
                clear hb hf
                go_wp2_with fail
                refine (bcredit_c _ _ _ _ (HS3.out.blk 0 rfl)).mono ?_
                rintro e w' ⟨rfl, rfl⟩
                have d0 : w3.cell? ⟨wr.heap.size, 0, none⟩ = some (.int .i64 kind) := (HS3.out.blk 1 rfl).cell 0 rfl
                have d1 : w3.cell? ⟨wr.heap.size, 1, none⟩ = some (.int .i64 n) := (HS3.out.blk 1 rfl).cell 1 rfl

                go_wp2_with fail
                refine (bcredit_c _ _ _ _ (HS3.out.blk 2 rfl)).mono ?_
                rintro e w' ⟨rfl, rfl⟩
                go_wp2_with fail
                refine (bcredit_c _ _ _ _ (HS3.out.blk 2 rfl)).mono ?_
                rintro e w' ⟨rfl, rfl⟩
                go_wp2_with fail
                refine (bcredit_c _ _ _ _ (HS3.out.blk 0 rfl)).mono ?_
                rintro e w' ⟨rfl, rfl⟩
                go_wp2_with fail
                go_roundw
                case rel => exact ⟨k + 1, _, _, c, by omega, by go_num, rfl, rfl, by omega, by omega, by omega, by omega, by omega, by omega, HS3.out.only 2 rfl⟩
                case measure => simp [intOf]; omega
      · go_wp2_with fail
        go_ret
        exact ⟨rfl, HS.out.frm.below⟩

end Go.Proofs.Ytjmnbhcbgjigdaa
