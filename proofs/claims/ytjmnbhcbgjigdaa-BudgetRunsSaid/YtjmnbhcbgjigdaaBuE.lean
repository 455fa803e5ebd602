/-
  THE WALK of the law BudgetRuns.
-/
import Derived.Test.YtjmnbhcbgjigdaaBuC
set_option linter.unusedVariables false
set_option linter.unusedSimpArgs false
namespace Go.Proofs.Ytjmnbhcbgjigdaa
open Go.RowKit

theorem bv_and63 (m : BitVec 64) : (m &&& 63#64).toNat ≤ 63 := by
  rw [BitVec.toNat_and]
  exact Nat.and_le_right
theorem and63 (m : Int) : 0 ≤ bits .and .i64 m 63 ∧ bits .and .i64 m 63 ≤ 63 := by
  have h : bits .and .i64 m 63 = IntKind.i64.wrap ((BitVec.ofInt 64 m &&& 63#64).toNat : Int) := rfl
  have h2 := bv_and63 (BitVec.ofInt 64 m)
  rw [h, IntWalk.i64_in _ (by omega)]
  omega

/-- What a block does to packets, sent and credit. -/
theorem runs_step (p pk se c q : Int) (p0 : 0 ≤ p) (p1 : p ≤ 100) (k0 : 0 ≤ pk) (k1 : pk ≤ 2820) (s0 : 0 ≤ se) (hc : c = pk * p - se * 100) (c0 : 0 ≤ c) (c1 : c < 100) (q0 : 0 ≤ q) (q1 : q ≤ 47) :
    0 ≤ earnC p c q ∧ earnC p c q ≤ 4800 ∧ 0 ≤ grantN (earnC p c q) 1000 ∧ grantN (earnC p c q) 1000 ≤ 48 ∧
    (se + grantN (earnC p c q) 1000) * 100 ≤ (pk + q) * p ∧ (pk + q) * p < (se + grantN (earnC p c q) 1000) * 100 + 100 ∧
    earnC p c q - grantN (earnC p c q) 1000 * 100 = (pk + q) * p - (se + grantN (earnC p c q) 1000) * 100 ∧ (pk + q) * p ≤ 286700 ∧ 0 ≤ (pk + q) * p := by
  have a := prod2_in q p q0 (by omega) p0 p1
  have hq : upTo q 48 = q := by unfold upTo; omega
  have h1 : q * p ≤ 4700 := by
    have : q * p ≤ 47 * 100 := Int.mul_le_mul q1 p1 p0 (by decide)
    omega
  have h2 : (pk + q) * p = pk * p + q * p := Int.add_mul _ _ _
  have h3 := Int.mul_nonneg k0 p0
  have h4 : pk * p ≤ 2820 * 100 := Int.mul_le_mul k1 p1 p0 (by decide)
  have e : earnC p c q = c + q * p := by unfold earnC; rw [hq]; omega
  have g : grantN (earnC p c q) 1000 = earnC p c q / 100 := by rw [e]; unfold grantN; omega
  rw [g, e, h2]
  omega

set_option maxHeartbeats 2000000 in
theorem budgetRuns_w (w : World) (pct : Int) (wp : (Lit.int .i64 pct).wf = true) (a : Option Addr) (cap : Nat) (zs : List Int) (lc : zs.length ≤ cap) (mc : cap ≤ maxLen) (rd : RdI .i64 w a zs) (wf : ∀ x ∈ zs, (Lit.int .i64 x).wf = true) :
    Calls Try.prog 6 #[.int .i64 pct, .slice a zs.length cap] w fun e w' => e = .returned (.bool true) ∧ Below w.heap.size w w' := by
  clear wp wf
  unfold maxLen at mc
  have HR := Lib.hid rd
  clear rd
  have p0 := upTo_ge pct 100 (by decide)
  have p1 := upTo_le pct 100
  obtain ⟨p, hp⟩ : ∃ p, p = upTo pct 100 := ⟨_, rfl⟩
  rw [← hp] at p0 p1
  have HP := Lib.hid hp
  clear hp
  by_cases hbig : 60 < zs.length
  · go_enter Try.func6, Try.ntmps6
    go_wp2_with fail
    refine (alive_c _).mono ?_
    rintro e w1 ⟨rfl, hf⟩
    have HF1 := Lib.hid hf
    clear hf
    go_wp2_with fail
    go_ret
    exact ⟨rfl, HF1.out.below⟩
  · go_enter Try.func6, Try.ntmps6
    go_wp2_with fail
    refine (alive_c _).mono ?_
    rintro e w1 ⟨rfl, hf⟩
    have HS1 := Lib.hid ((Sep.init w).keep hf)
    clear hf
    go_wp2_with fail
    refine (bnew_c _ _).mono ?_
    rintro e w2 ⟨rfl, hb, hf⟩
    rw [← HP.out] at hb
    have HS2 := Lib.hid (HS1.out.add hf (r := blkR w1.heap.size 47 #[.int .i64 p, .int .i64 0]) hb (by simp [blkR]))
    clear hb hf
    go_wp2_with fail
    refine (bpercent_c _ _ _ _ (HS2.out.blk 0 rfl)).mono ?_
    rintro e w' ⟨rfl, rfl⟩
    go_wp2_with fail
    go_loopw [7, 8, 23] (fun pk se i wr => ∃ (k : Nat) (pks ses c : Int), k ≤ zs.length ∧ i = .int .i64 k ∧ pk = .int .i64 pks ∧ se = .int .i64 ses ∧ 0 ≤ pks ∧ pks ≤ 47 * k ∧ 0 ≤ ses ∧ c = pks * p - ses * 100 ∧ 0 ≤ c ∧ c < 100 ∧ Sep [] w wr [blkR w1.heap.size 47 #[.int .i64 p, .int .i64 c]]) (fun _ _ i _ => zs.length - (intOf i).toNat)
    case atStart => exact ⟨0, 0, 0, 0, Nat.zero_le _, rfl, rfl, rfl, by decide, by decide, by decide, by simp, by decide, by decide, HS2.out⟩
    case round =>
      obtain ⟨k, pks, ses, c, hk, rfl, rfl, rfl, k0, k1, s0, hc, c0, c1, hS⟩ := hrel
      have HS := Lib.hid hS
      have HC := Lib.hid hc
      clear hS hc
      by_cases hlt : k < zs.length
      · obtain ⟨b, off, x, hx, rfl, hb, hcell⟩ := (HR.out.below HS.out.frm.below).at_ k hlt
        obtain ⟨z, hz⟩ : ∃ z, bits .and .i64 x 63 = z := ⟨_, rfl⟩
        have hzb := and63 x
        rw [hz] at hzb
        obtain ⟨z0, z1⟩ := hzb
        have q0 : 0 ≤ z % 48 := by omega
        have q1 : z % 48 ≤ 47 := by omega
        obtain ⟨e0, e1, g0, g1, t1, t2, t3, t4, t5⟩ := runs_step p pks ses c (z % 48) p0 p1 k0 (by omega) s0 HC.out c0 c1 q0 q1
        obtain ⟨E, hE⟩ : ∃ E, E = earnC p c (z % 48) := ⟨_, rfl⟩
        obtain ⟨G, hG⟩ : ∃ G, G = grantN E 1000 := ⟨_, rfl⟩
        obtain ⟨N, hN⟩ : ∃ N, (pks + z % 48) * p = N := ⟨_, rfl⟩
        rw [← hE] at e0 e1 g0 g1 t1 t2 t3
        rw [← hG] at g0 g1 t1 t2 t3
        rw [hN] at t1 t2 t3 t4 t5
        have HE := Lib.hid hE
        have HG := Lib.hid hG
        have HN : Hid ((pks + z % 48) * p = N) := Lib.hid hN
        clear hx hb hE hG
        have t6 : (N - (ses + G) * 100) / 100 = 0 := by omega
        have T6 := Lib.hid t6
        have T3 := Lib.hid t3
        clear t6 t3
        go_wp2_with fail
        refine (bearn_c _ _ _ _ _ (HS.out.blk 0 rfl) p0 p1 c0 (by omega)).mono ?_
        rintro e w3 ⟨rfl, hb, hf⟩
        rw [← HE.out] at hb
        have HS3 := Lib.hid (HS.out.call 0 rfl hf hb)
        clear hb hf
        go_wp2_with fail
        refine (bgrant_c _ _ _ _ _ (HS3.out.blk 0 rfl) e0 e1).mono ?_
        rintro e w4 ⟨rfl, hb, hf⟩
        rw [← HG.out, T3.out] at hb
        rw [← HG.out]
        have HS4 := Lib.hid (HS3.out.call 0 rfl hf hb)
        clear hb hf
        go_wp2_with fail
        refine (bcredit_c _ _ _ _ (HS4.out.blk 0 rfl)).mono ?_
        rintro e w' ⟨rfl, rfl⟩
        go_wp2_with fail
        refine (ballow_c _ _ _ _ (HS4.out.blk 0 rfl) (by omega) (by omega)).mono ?_
        rintro e w' ⟨rfl, rfl⟩
        rw [T6.out]
        go_wp2_with fail
        go_roundw
        case rel => exact ⟨k + 1, _, _, _, by omega, by go_num, rfl, rfl, by omega, by omega, by omega, by rw [HN.out], by omega, by omega, HS4.out⟩
        case measure => simp [intOf]; omega
      · by_cases hz : p = 0
        · subst hz
          have hc0 : c = 0 := by have := HC.out; rw [Int.mul_zero] at this; omega
          subst hc0
          go_wp2_with fail
          refine (bclone_c _ _ _ _ (HS.out.blk 0 rfl)).mono ?_
          rintro e w3 ⟨rfl, hb, hf⟩
          have HS3 := Lib.hid (HS.out.add hf (r := blkR _ 47 #[.int .i64 0, .int .i64 0]) hb (by simp [blkR]))
          clear hb hf
          go_wp2_with fail
          refine (bchange_c _ _ _ _ _ (HS3.out.blk 0 rfl)).mono ?_
          rintro e w4 ⟨rfl, hb, hf⟩
          rw [← HP.out] at hb
          have HS4 := Lib.hid (HS3.out.call 0 rfl hf hb)
          clear hb hf
          go_wp2_with fail
          refine (bcredit_c _ _ _ _ (HS4.out.blk 0 rfl)).mono ?_
          rintro e w' ⟨rfl, rfl⟩
          rw [show changeC 0 0 = 0 from by decide +kernel]
          go_wp2_with fail
          refine (bcredit_c _ _ _ _ (HS4.out.blk 1 rfl)).mono ?_
          rintro e w' ⟨rfl, rfl⟩
          go_wp2_with fail
          go_ret
          exact ⟨rfl, HS4.out.frm.below⟩
        · have hcc : changeC p c = c := by unfold changeC; rw [if_neg hz]
          have HCC := Lib.hid hcc
          clear hcc hz
          go_wp2_with fail
          refine (bclone_c _ _ _ _ (HS.out.blk 0 rfl)).mono ?_
          rintro e w3 ⟨rfl, hb, hf⟩
          have HS3 := Lib.hid (HS.out.add hf (r := blkR _ 47 #[.int .i64 p, .int .i64 c]) hb (by simp [blkR]))
          clear hb hf
          go_wp2_with fail
          refine (bchange_c _ _ _ _ _ (HS3.out.blk 0 rfl)).mono ?_
          rintro e w4 ⟨rfl, hb, hf⟩
          rw [← HP.out, HCC.out] at hb
          have HS4 := Lib.hid (HS3.out.call 0 rfl hf hb)
          clear hb hf
          go_wp2_with fail
          refine (bcredit_c _ _ _ _ (HS4.out.blk 0 rfl)).mono ?_
          rintro e w' ⟨rfl, rfl⟩
          go_wp2_with fail
          refine (bcredit_c _ _ _ _ (HS4.out.blk 1 rfl)).mono ?_
          rintro e w' ⟨rfl, rfl⟩
          go_wp2_with fail
          go_ret
          exact ⟨rfl, HS4.out.frm.below⟩

end Go.Proofs.Ytjmnbhcbgjigdaa
