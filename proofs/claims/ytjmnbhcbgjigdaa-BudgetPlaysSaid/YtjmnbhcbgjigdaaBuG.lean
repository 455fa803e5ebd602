/-
  THE WALK of the law BudgetPlays.
-/
import Derived.Test.YtjmnbhcbgjigdaaBuC
import Derived.Test.YtjmnbhcbgjigdaaBuO
set_option linter.unusedVariables false
set_option linter.unusedSimpArgs false
namespace Go.Proofs.Ytjmnbhcbgjigdaa
open Go.RowKit

set_option maxRecDepth 100000 in
set_option maxHeartbeats 8000000 in
theorem budgetPlays_w (w : World) (pct : Int) (wp : (Lit.int .i64 pct).wf = true) (a : Option Addr) (cap : Nat) (ops : List (Int × Int)) (lc : ops.length ≤ cap) (mc : cap ≤ maxLen) (rd : RdS 2 w a (ops.map opRow)) (wf : ∀ o ∈ ops, True) :
    Calls Try.prog 3 #[.int .i64 pct, .slice a ops.length cap] w fun e w' => e = .returned (.bool true) ∧ Below w.heap.size w w' := by
  clear wp wf
  unfold maxLen at mc
  have HR := Lib.hid rd
  clear rd
  have s0 := upTo_ge pct 100 (by decide)
  have s1 := upTo_le pct 100
  by_cases hbig : 60 < ops.length
  · go_enter Try.func3, Try.ntmps3
    go_wp2_with fail
    refine (alive_c _).mono ?_
    rintro e w1 ⟨rfl, hf⟩
    have HF1 := Lib.hid hf
    clear hf
    go_wp2_with fail
    go_ret
    exact ⟨rfl, HF1.out.below⟩
  · go_enter Try.func3, Try.ntmps3
    go_wp2_with fail
    refine (alive_c _).mono ?_
    rintro e w1 ⟨rfl, hf⟩
    have HS1 := Lib.hid ((Sep.init w).keep hf)
    clear hf
    go_wp2_with fail
    refine (bnew_c _ _).mono ?_
    rintro e w1b ⟨rfl, hb, hf⟩
    have HS2 := Lib.hid (HS1.out.add hf (r := blkR w1.heap.size 47 #[.int .i64 (upTo pct 100), .int .i64 0]) hb (by simp [blkR]))
    clear hb hf
    go_wp2_with fail
    refine (rnew_c _ _).mono ?_
    rintro e w2 ⟨rfl, hf⟩
    have HS2b := Lib.hid ((HS2.out.keep hf).add ((Frm.refl _ _).alloc (.cells #[.int .i64 (upTo pct 100), .int .i64 0] 27)) (r := blkR w2.heap.size 27 #[.int .i64 (upTo pct 100), .int .i64 0]) (Blk.made _ _ _) (by simp [blkR]))
    clear hf
    go_wp2_with fail
    go_loopw [26] (fun i wr => ∃ (k : Nat) (p c : Int), k ≤ ops.length ∧ i = .int .i64 k ∧ 0 ≤ p ∧ p ≤ 100 ∧ 0 ≤ c ∧ c ≤ 4800 ∧ Sep [] w wr [blkR w1.heap.size 47 #[.int .i64 p, .int .i64 c], blkR w2.heap.size 27 #[.int .i64 p, .int .i64 c]]) (fun i _ => ops.length - (intOf i).toNat)
    case atStart => exact ⟨0, upTo pct 100, 0, Nat.zero_le _, rfl, s0, s1, by decide, by decide, HS2b.out.swap2⟩
    case round =>
      obtain ⟨k, p, c, hk, rfl, p0, p1, c0, c1, hS⟩ := hrel
      have HS := Lib.hid hS
      clear hS
      by_cases hlt : k < ops.length
      · obtain ⟨b, off, kind, n, rfl, hb, y0, y1, hx⟩ := opRow_at (HR.out.below HS.out.frm.below) k hlt
        clear hx hb
        by_cases k0 : kind = 0
        · subst k0

          have HS3 := Lib.hid (HS.out.alloc #[.int .i64 0, .int .i64 n] 30)
          go_wp2_with fail
          refine (bearn_c _ _ _ _ _ (HS3.out.blk 1 rfl) p0 p1 c0 c1).mono ?_
          rintro e w4 ⟨rfl, hb, hf⟩
          have HS4 := Lib.hid (HS3.out.call 1 rfl hf hb)
          clear hb hf
          have d1 : w4.cell? ⟨wr.heap.size, 1, none⟩ = some (.int .i64 n) := (HS4.out.blk 0 rfl).cell 1 rfl
          have x0 : w4.cell? ⟨w2.heap.size, 0, none⟩ = some (.int .i64 p) := (HS4.out.blk 2 rfl).cell 0 rfl
          have x1 : w4.cell? ⟨w2.heap.size, 1, none⟩ = some (.int .i64 c) := (HS4.out.blk 2 rfl).cell 1 rfl
          have xf0 := (HS4.out.blk 2 rfl).free 0
          have xf1 := (HS4.out.blk 2 rfl).free 1
          have xlt := (HS4.out.blk 2 rfl).lt
          go_wp2_with fail
          refine (rearn_c _ _ _ _ p0 p1 c0 c1).mono ?_
          rintro e w5 ⟨rfl, hf⟩
          have HS5 := Lib.hid (HS4.out.keep hf)
          clear hf
          clear d1 x0 x1 xf0 xf1 xlt
          have d1 : w5.cell? ⟨wr.heap.size, 1, none⟩ = some (.int .i64 n) := (HS5.out.blk 0 rfl).cell 1 rfl
          have x0 : w5.cell? ⟨w2.heap.size, 0, none⟩ = some (.int .i64 p) := (HS5.out.blk 2 rfl).cell 0 rfl
          have x1 : w5.cell? ⟨w2.heap.size, 1, none⟩ = some (.int .i64 c) := (HS5.out.blk 2 rfl).cell 1 rfl
          have xf0 := (HS5.out.blk 2 rfl).free 0
          have xf1 := (HS5.out.blk 2 rfl).free 1
          have xlt := (HS5.out.blk 2 rfl).lt
          go_wp2_with fail
          clear d1 x0 x1 xf0 xf1 xlt
          have q0 := p0
          have q1 := p1
          obtain ⟨z0, z1⟩ := earnC_in p c n p0 p1 c0 c1
          have HS6 : Hid (Sep [] w ((w5.setCell ⟨w2.heap.size, 0, none⟩ (.int .i64 p)).setCell ⟨w2.heap.size, 1, none⟩ (.int .i64 (earnC p c n))) [blkR wr.heap.size 30 #[.int .i64 0, .int .i64 n], blkR w1.heap.size 47 #[.int .i64 p, .int .i64 (earnC p c n)], blkR w2.heap.size 27 #[.int .i64 p, .int .i64 (earnC p c n)]]) := Lib.hid ((HS5.out.put 2 rfl 0 _).put 2 rfl 1 _)
          have x0 : ((w5.setCell ⟨w2.heap.size, 0, none⟩ (.int .i64 p)).setCell ⟨w2.heap.size, 1, none⟩ (.int .i64 (earnC p c n))).cell? ⟨w2.heap.size, 0, none⟩ = some (.int .i64 p) := (HS6.out.blk 2 rfl).cell 0 rfl
          have x1 : ((w5.setCell ⟨w2.heap.size, 0, none⟩ (.int .i64 p)).setCell ⟨w2.heap.size, 1, none⟩ (.int .i64 (earnC p c n))).cell? ⟨w2.heap.size, 1, none⟩ = some (.int .i64 (earnC p c n)) := (HS6.out.blk 2 rfl).cell 1 rfl
          have xlt := (HS6.out.blk 2 rfl).lt
          go_quiet ((first | (go_at_call 18; exact Calls.quiet_of_same (same_of (bcredit_c _ _ _ _ (HS6.out.drewN _ |>.blk 1 rfl)))) | (go_at_call 19; exact Calls.quiet_of_same (same_of (bpercent_c _ _ _ _ (HS6.out.drewN _ |>.blk 1 rfl)))) | (go_at_call 20; exact Calls.quiet_of_same (same_of (ballow_c _ _ _ _ (HS6.out.drewN _ |>.blk 1 rfl) z0 z1)))))
          clear x0 x1 xlt
          go_wp2_with fail
          go_roundw
          case rel => exact ⟨k + 1, _, _, by omega, by go_num, q0, q1, z0, z1, (HS6.out.drewN nq).sub (.cons _ (List.Sublist.refl _))⟩
          case measure => simp [intOf]; omega
        · have kb0 : (kind == 0) = false := beq_eq_false_iff_ne.2 k0
          clear k0
          by_cases k1 : kind = 1
          · subst k1

            have HS3 := Lib.hid (HS.out.alloc #[.int .i64 1, .int .i64 n] 30)
            go_wp2_with fail
            refine (bearn_c _ _ _ _ _ (HS3.out.blk 1 rfl) p0 p1 c0 c1).mono ?_
            rintro e w4 ⟨rfl, hb, hf⟩
            have HS4 := Lib.hid (HS3.out.call 1 rfl hf hb)
            clear hb hf
            have d1 : w4.cell? ⟨wr.heap.size, 1, none⟩ = some (.int .i64 n) := (HS4.out.blk 0 rfl).cell 1 rfl
            have x0 : w4.cell? ⟨w2.heap.size, 0, none⟩ = some (.int .i64 p) := (HS4.out.blk 2 rfl).cell 0 rfl
            have x1 : w4.cell? ⟨w2.heap.size, 1, none⟩ = some (.int .i64 c) := (HS4.out.blk 2 rfl).cell 1 rfl
            have xf0 := (HS4.out.blk 2 rfl).free 0
            have xf1 := (HS4.out.blk 2 rfl).free 1
            have xlt := (HS4.out.blk 2 rfl).lt
            go_wp2_with fail
            refine (rearn_c _ _ _ _ p0 p1 c0 c1).mono ?_
            rintro e w5 ⟨rfl, hf⟩
            have HS5 := Lib.hid (HS4.out.keep hf)
            clear hf
            clear d1 x0 x1 xf0 xf1 xlt
            have d1 : w5.cell? ⟨wr.heap.size, 1, none⟩ = some (.int .i64 n) := (HS5.out.blk 0 rfl).cell 1 rfl
            have x0 : w5.cell? ⟨w2.heap.size, 0, none⟩ = some (.int .i64 p) := (HS5.out.blk 2 rfl).cell 0 rfl
            have x1 : w5.cell? ⟨w2.heap.size, 1, none⟩ = some (.int .i64 c) := (HS5.out.blk 2 rfl).cell 1 rfl
            have xf0 := (HS5.out.blk 2 rfl).free 0
            have xf1 := (HS5.out.blk 2 rfl).free 1
            have xlt := (HS5.out.blk 2 rfl).lt
            go_wp2_with fail
            clear d1 x0 x1 xf0 xf1 xlt
            have q0 := p0
            have q1 := p1
            obtain ⟨z0, z1⟩ := earnC_in p c n p0 p1 c0 c1
            have HS6 : Hid (Sep [] w ((w5.setCell ⟨w2.heap.size, 0, none⟩ (.int .i64 p)).setCell ⟨w2.heap.size, 1, none⟩ (.int .i64 (earnC p c n))) [blkR wr.heap.size 30 #[.int .i64 1, .int .i64 n], blkR w1.heap.size 47 #[.int .i64 p, .int .i64 (earnC p c n)], blkR w2.heap.size 27 #[.int .i64 p, .int .i64 (earnC p c n)]]) := Lib.hid ((HS5.out.put 2 rfl 0 _).put 2 rfl 1 _)
            have x0 : ((w5.setCell ⟨w2.heap.size, 0, none⟩ (.int .i64 p)).setCell ⟨w2.heap.size, 1, none⟩ (.int .i64 (earnC p c n))).cell? ⟨w2.heap.size, 0, none⟩ = some (.int .i64 p) := (HS6.out.blk 2 rfl).cell 0 rfl
            have x1 : ((w5.setCell ⟨w2.heap.size, 0, none⟩ (.int .i64 p)).setCell ⟨w2.heap.size, 1, none⟩ (.int .i64 (earnC p c n))).cell? ⟨w2.heap.size, 1, none⟩ = some (.int .i64 (earnC p c n)) := (HS6.out.blk 2 rfl).cell 1 rfl
            have xlt := (HS6.out.blk 2 rfl).lt
            go_quiet ((first | (go_at_call 18; exact Calls.quiet_of_same (same_of (bcredit_c _ _ _ _ (HS6.out.drewN _ |>.blk 1 rfl)))) | (go_at_call 19; exact Calls.quiet_of_same (same_of (bpercent_c _ _ _ _ (HS6.out.drewN _ |>.blk 1 rfl)))) | (go_at_call 20; exact Calls.quiet_of_same (same_of (ballow_c _ _ _ _ (HS6.out.drewN _ |>.blk 1 rfl) z0 z1)))))
            clear x0 x1 xlt
            go_wp2_with fail
            go_roundw
            case rel => exact ⟨k + 1, _, _, by omega, by go_num, q0, q1, z0, z1, (HS6.out.drewN nq).sub (.cons _ (List.Sublist.refl _))⟩
            case measure => simp [intOf]; omega
          · have kb1 : (kind == 1) = false := beq_eq_false_iff_ne.2 k1
            clear k1
            by_cases k2 : kind = 2
            · subst k2

              have HS3 := Lib.hid (HS.out.alloc #[.int .i64 2, .int .i64 n] 30)
              go_wp2_with fail
              refine (bspend_c _ _ _ _ _ (HS3.out.blk 1 rfl) c0 c1).mono ?_
              rintro e w4 ⟨rfl, hb, hf⟩
              have HS4 := Lib.hid (HS3.out.call 1 rfl hf hb)
              clear hb hf
              have d1 : w4.cell? ⟨wr.heap.size, 1, none⟩ = some (.int .i64 n) := (HS4.out.blk 0 rfl).cell 1 rfl
              have x0 : w4.cell? ⟨w2.heap.size, 0, none⟩ = some (.int .i64 p) := (HS4.out.blk 2 rfl).cell 0 rfl
              have x1 : w4.cell? ⟨w2.heap.size, 1, none⟩ = some (.int .i64 c) := (HS4.out.blk 2 rfl).cell 1 rfl
              have xf0 := (HS4.out.blk 2 rfl).free 0
              have xf1 := (HS4.out.blk 2 rfl).free 1
              have xlt := (HS4.out.blk 2 rfl).lt
              go_wp2_with fail
              refine (rspend_c _ _ _ _ c0 c1).mono ?_
              rintro e w5 ⟨rfl, hf⟩
              have HS5k := Lib.hid (HS4.out.keep hf)
              have HS5 := Lib.hid ((HS4.out.keep hf).alloc #[.int .i64 p, .int .i64 (spendC c n)] 27)
              clear hf
              clear d1 x0 x1 xf0 xf1 xlt
              have d1 : w5.cell? ⟨wr.heap.size, 1, none⟩ = some (.int .i64 n) := (HS5k.out.blk 0 rfl).cell 1 rfl
              have x0 : w5.cell? ⟨w2.heap.size, 0, none⟩ = some (.int .i64 p) := (HS5k.out.blk 2 rfl).cell 0 rfl
              have x1 : w5.cell? ⟨w2.heap.size, 1, none⟩ = some (.int .i64 c) := (HS5k.out.blk 2 rfl).cell 1 rfl
              have xf0 := (HS5k.out.blk 2 rfl).free 0
              have xf1 := (HS5k.out.blk 2 rfl).free 1
              have xlt := (HS5k.out.blk 2 rfl).lt
              go_wp2_with fail
              clear d1 x0 x1 xf0 xf1 xlt
              have q0 := p0
              have q1 := p1
              have z01 : 0 ≤ spendC c n ∧ spendC c n ≤ 4800 := by exact spendC_in c n c0 c1
              obtain ⟨z0, z1⟩ := z01
              have HS6 : Hid (Sep [] w (((w5.setCell ⟨w2.heap.size, 0, none⟩ (.int .i64 p)).setCell ⟨w2.heap.size, 1, none⟩ (.int .i64 (spendC c n))).alloc (.cells #[.int .i64 p, .int .i64 (spendC c n)] 27)) [blkR wr.heap.size 30 #[.int .i64 2, .int .i64 n], blkR w1.heap.size 47 #[.int .i64 p, .int .i64 (spendC c n)], blkR w2.heap.size 27 #[.int .i64 p, .int .i64 (spendC c n)]]) := Lib.hid (((HS5k.out.put 2 rfl 0 _).put 2 rfl 1 _).skip _)
              have x0 : (((w5.setCell ⟨w2.heap.size, 0, none⟩ (.int .i64 p)).setCell ⟨w2.heap.size, 1, none⟩ (.int .i64 (spendC c n))).alloc (.cells #[.int .i64 p, .int .i64 (spendC c n)] 27)).cell? ⟨w2.heap.size, 0, none⟩ = some (.int .i64 p) := (HS6.out.blk 2 rfl).cell 0 rfl
              have x1 : (((w5.setCell ⟨w2.heap.size, 0, none⟩ (.int .i64 p)).setCell ⟨w2.heap.size, 1, none⟩ (.int .i64 (spendC c n))).alloc (.cells #[.int .i64 p, .int .i64 (spendC c n)] 27)).cell? ⟨w2.heap.size, 1, none⟩ = some (.int .i64 (spendC c n)) := (HS6.out.blk 2 rfl).cell 1 rfl
              have xlt := (HS6.out.blk 2 rfl).lt
              go_quiet ((first | (go_at_call 18; exact Calls.quiet_of_same (same_of (bcredit_c _ _ _ _ (HS6.out.drewN _ |>.blk 1 rfl)))) | (go_at_call 19; exact Calls.quiet_of_same (same_of (bpercent_c _ _ _ _ (HS6.out.drewN _ |>.blk 1 rfl)))) | (go_at_call 20; exact Calls.quiet_of_same (same_of (ballow_c _ _ _ _ (HS6.out.drewN _ |>.blk 1 rfl) z0 z1)))))
              clear x0 x1 xlt
              go_wp2_with fail
              go_roundw
              case rel => exact ⟨k + 1, _, _, by omega, by go_num, q0, q1, z0, z1, (HS6.out.drewN nq).sub (.cons _ (List.Sublist.refl _))⟩
              case measure => simp [intOf]; omega
            · have kb2 : (kind == 2) = false := beq_eq_false_iff_ne.2 k2
              clear k2
              by_cases k3 : kind = 3
              · subst k3

                have HS3 := Lib.hid (HS.out.alloc #[.int .i64 3, .int .i64 n] 30)
                go_wp2_with fail
                refine (bgrant_c _ _ _ _ _ (HS3.out.blk 1 rfl) c0 c1).mono ?_
                rintro e w4 ⟨rfl, hb, hf⟩
                have HS4 := Lib.hid (HS3.out.call 1 rfl hf hb)
                clear hb hf
                have d1 : w4.cell? ⟨wr.heap.size, 1, none⟩ = some (.int .i64 n) := (HS4.out.blk 0 rfl).cell 1 rfl
                have x0 : w4.cell? ⟨w2.heap.size, 0, none⟩ = some (.int .i64 p) := (HS4.out.blk 2 rfl).cell 0 rfl
                have x1 : w4.cell? ⟨w2.heap.size, 1, none⟩ = some (.int .i64 c) := (HS4.out.blk 2 rfl).cell 1 rfl
                have xf0 := (HS4.out.blk 2 rfl).free 0
                have xf1 := (HS4.out.blk 2 rfl).free 1
                have xlt := (HS4.out.blk 2 rfl).lt
                go_wp2_with fail
                refine (rgrant_c _ _ _ _ c0 c1).mono ?_
                rintro e w5 ⟨rfl, hf⟩
                have HS5k := Lib.hid (HS4.out.keep hf)
                have HS5 := Lib.hid ((HS4.out.keep hf).alloc #[.int .i64 p, .int .i64 (c - grantN c n * 100)] 27)
                clear hf
                clear d1 x0 x1 xf0 xf1 xlt
                have d1 : w5.cell? ⟨wr.heap.size, 1, none⟩ = some (.int .i64 n) := (HS5k.out.blk 0 rfl).cell 1 rfl
                have x0 : w5.cell? ⟨w2.heap.size, 0, none⟩ = some (.int .i64 p) := (HS5k.out.blk 2 rfl).cell 0 rfl
                have x1 : w5.cell? ⟨w2.heap.size, 1, none⟩ = some (.int .i64 c) := (HS5k.out.blk 2 rfl).cell 1 rfl
                have xf0 := (HS5k.out.blk 2 rfl).free 0
                have xf1 := (HS5k.out.blk 2 rfl).free 1
                have xlt := (HS5k.out.blk 2 rfl).lt
                go_wp2_with fail
                clear d1 x0 x1 xf0 xf1 xlt
                have q0 := p0
                have q1 := p1
                have z01 : 0 ≤ c - grantN c n * 100 ∧ c - grantN c n * 100 ≤ 4800 := by have := grantN_in c n c0 c1; omega
                obtain ⟨z0, z1⟩ := z01
                have HS6 : Hid (Sep [] w (((w5.setCell ⟨w2.heap.size, 0, none⟩ (.int .i64 p)).setCell ⟨w2.heap.size, 1, none⟩ (.int .i64 (c - grantN c n * 100))).alloc (.cells #[.int .i64 p, .int .i64 (c - grantN c n * 100)] 27)) [blkR wr.heap.size 30 #[.int .i64 3, .int .i64 n], blkR w1.heap.size 47 #[.int .i64 p, .int .i64 (c - grantN c n * 100)], blkR w2.heap.size 27 #[.int .i64 p, .int .i64 (c - grantN c n * 100)]]) := Lib.hid (((HS5k.out.put 2 rfl 0 _).put 2 rfl 1 _).skip _)
                have x0 : (((w5.setCell ⟨w2.heap.size, 0, none⟩ (.int .i64 p)).setCell ⟨w2.heap.size, 1, none⟩ (.int .i64 (c - grantN c n * 100))).alloc (.cells #[.int .i64 p, .int .i64 (c - grantN c n * 100)] 27)).cell? ⟨w2.heap.size, 0, none⟩ = some (.int .i64 p) := (HS6.out.blk 2 rfl).cell 0 rfl
                have x1 : (((w5.setCell ⟨w2.heap.size, 0, none⟩ (.int .i64 p)).setCell ⟨w2.heap.size, 1, none⟩ (.int .i64 (c - grantN c n * 100))).alloc (.cells #[.int .i64 p, .int .i64 (c - grantN c n * 100)] 27)).cell? ⟨w2.heap.size, 1, none⟩ = some (.int .i64 (c - grantN c n * 100)) := (HS6.out.blk 2 rfl).cell 1 rfl
                have xlt := (HS6.out.blk 2 rfl).lt
                go_quiet ((first | (go_at_call 18; exact Calls.quiet_of_same (same_of (bcredit_c _ _ _ _ (HS6.out.drewN _ |>.blk 1 rfl)))) | (go_at_call 19; exact Calls.quiet_of_same (same_of (bpercent_c _ _ _ _ (HS6.out.drewN _ |>.blk 1 rfl)))) | (go_at_call 20; exact Calls.quiet_of_same (same_of (ballow_c _ _ _ _ (HS6.out.drewN _ |>.blk 1 rfl) z0 z1)))))
                clear x0 x1 xlt
                go_wp2_with fail
                go_roundw
                case rel => exact ⟨k + 1, _, _, by omega, by go_num, q0, q1, z0, z1, (HS6.out.drewN nq).sub (.cons _ (List.Sublist.refl _))⟩
                case measure => simp [intOf]; omega
              · have kb3 : (kind == 3) = false := beq_eq_false_iff_ne.2 k3
                clear k3
                by_cases k4 : kind = 4
                · subst k4

                  have HS3 := Lib.hid (HS.out.alloc #[.int .i64 4, .int .i64 n] 30)
                  go_wp2_with fail
                  refine (bchange_c _ _ _ _ _ (HS3.out.blk 1 rfl)).mono ?_
                  rintro e w4 ⟨rfl, hb, hf⟩
                  have HS4 := Lib.hid (HS3.out.call 1 rfl hf hb)
                  clear hb hf
                  have d1 : w4.cell? ⟨wr.heap.size, 1, none⟩ = some (.int .i64 n) := (HS4.out.blk 0 rfl).cell 1 rfl
                  have x0 : w4.cell? ⟨w2.heap.size, 0, none⟩ = some (.int .i64 p) := (HS4.out.blk 2 rfl).cell 0 rfl
                  have x1 : w4.cell? ⟨w2.heap.size, 1, none⟩ = some (.int .i64 c) := (HS4.out.blk 2 rfl).cell 1 rfl
                  have xf0 := (HS4.out.blk 2 rfl).free 0
                  have xf1 := (HS4.out.blk 2 rfl).free 1
                  have xlt := (HS4.out.blk 2 rfl).lt
                  go_wp2_with fail
                  refine (rchange_c _ _ _ _).mono ?_
                  rintro e w5 ⟨rfl, hf⟩
                  have HS5 := Lib.hid (HS4.out.keep hf)
                  clear hf
                  clear d1 x0 x1 xf0 xf1 xlt
                  have d1 : w5.cell? ⟨wr.heap.size, 1, none⟩ = some (.int .i64 n) := (HS5.out.blk 0 rfl).cell 1 rfl
                  have x0 : w5.cell? ⟨w2.heap.size, 0, none⟩ = some (.int .i64 p) := (HS5.out.blk 2 rfl).cell 0 rfl
                  have x1 : w5.cell? ⟨w2.heap.size, 1, none⟩ = some (.int .i64 c) := (HS5.out.blk 2 rfl).cell 1 rfl
                  have xf0 := (HS5.out.blk 2 rfl).free 0
                  have xf1 := (HS5.out.blk 2 rfl).free 1
                  have xlt := (HS5.out.blk 2 rfl).lt
                  go_wp2_with fail
                  clear d1 x0 x1 xf0 xf1 xlt
                  have q0 := upTo_ge n 100 (by decide)
                  have q1 := upTo_le n 100
                  obtain ⟨z0, z1⟩ := changeC_in (upTo n 100) c c0 c1
                  have HS6 : Hid (Sep [] w ((w5.setCell ⟨w2.heap.size, 0, none⟩ (.int .i64 (upTo n 100))).setCell ⟨w2.heap.size, 1, none⟩ (.int .i64 (changeC (upTo n 100) c))) [blkR wr.heap.size 30 #[.int .i64 4, .int .i64 n], blkR w1.heap.size 47 #[.int .i64 (upTo n 100), .int .i64 (changeC (upTo n 100) c)], blkR w2.heap.size 27 #[.int .i64 (upTo n 100), .int .i64 (changeC (upTo n 100) c)]]) := Lib.hid ((HS5.out.put 2 rfl 0 _).put 2 rfl 1 _)
                  have x0 : ((w5.setCell ⟨w2.heap.size, 0, none⟩ (.int .i64 (upTo n 100))).setCell ⟨w2.heap.size, 1, none⟩ (.int .i64 (changeC (upTo n 100) c))).cell? ⟨w2.heap.size, 0, none⟩ = some (.int .i64 (upTo n 100)) := (HS6.out.blk 2 rfl).cell 0 rfl
                  have x1 : ((w5.setCell ⟨w2.heap.size, 0, none⟩ (.int .i64 (upTo n 100))).setCell ⟨w2.heap.size, 1, none⟩ (.int .i64 (changeC (upTo n 100) c))).cell? ⟨w2.heap.size, 1, none⟩ = some (.int .i64 (changeC (upTo n 100) c)) := (HS6.out.blk 2 rfl).cell 1 rfl
                  have xlt := (HS6.out.blk 2 rfl).lt
                  go_quiet ((first | (go_at_call 18; exact Calls.quiet_of_same (same_of (bcredit_c _ _ _ _ (HS6.out.drewN _ |>.blk 1 rfl)))) | (go_at_call 19; exact Calls.quiet_of_same (same_of (bpercent_c _ _ _ _ (HS6.out.drewN _ |>.blk 1 rfl)))) | (go_at_call 20; exact Calls.quiet_of_same (same_of (ballow_c _ _ _ _ (HS6.out.drewN _ |>.blk 1 rfl) z0 z1)))))
                  clear x0 x1 xlt
                  go_wp2_with fail
                  go_roundw
                  case rel => exact ⟨k + 1, _, _, by omega, by go_num, q0, q1, z0, z1, (HS6.out.drewN nq).sub (.cons _ (List.Sublist.refl _))⟩
                  case measure => simp [intOf]; omega
                · have kb4 : (kind == 4) = false := beq_eq_false_iff_ne.2 k4
                  clear k4

                  have HS3 := Lib.hid (HS.out.alloc #[.int .i64 kind, .int .i64 n] 30)
                  go_wp2_with fail
                  have q0 := p0
                  have q1 := p1
                  have z0 := c0
                  have z1 := c1
                  have x0 : (wr.alloc (.cells #[.int .i64 kind, .int .i64 n] 30)).cell? ⟨w2.heap.size, 0, none⟩ = some (.int .i64 p) := (HS3.out.blk 2 rfl).cell 0 rfl
                  have x1 : (wr.alloc (.cells #[.int .i64 kind, .int .i64 n] 30)).cell? ⟨w2.heap.size, 1, none⟩ = some (.int .i64 c) := (HS3.out.blk 2 rfl).cell 1 rfl
                  have xlt := (HS3.out.blk 2 rfl).lt
                  go_quiet ((first | (go_at_call 18; exact Calls.quiet_of_same (same_of (bcredit_c _ _ _ _ (HS3.out.drewN _ |>.blk 1 rfl)))) | (go_at_call 19; exact Calls.quiet_of_same (same_of (bpercent_c _ _ _ _ (HS3.out.drewN _ |>.blk 1 rfl)))) | (go_at_call 20; exact Calls.quiet_of_same (same_of (ballow_c _ _ _ _ (HS3.out.drewN _ |>.blk 1 rfl) z0 z1)))))
                  clear x0 x1 xlt
                  go_wp2_with fail
                  go_roundw
                  case rel => exact ⟨k + 1, _, _, by omega, by go_num, q0, q1, z0, z1, (HS3.out.drewN nq).sub (.cons _ (List.Sublist.refl _))⟩
                  case measure => simp [intOf]; omega
      · go_wp2_with fail
        go_ret
        exact ⟨rfl, HS.out.frm.below⟩

end Go.Proofs.Ytjmnbhcbgjigdaa
