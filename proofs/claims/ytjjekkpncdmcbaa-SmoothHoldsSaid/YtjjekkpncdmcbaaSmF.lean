/-
  THE WALK of the law SmoothHolds.
-/
import Derived.Test.YtjjekkpncdmcbaaSmC
set_option linter.unusedVariables false
set_option linter.unusedSimpArgs false
namespace Go.Proofs.Ytjjekkpncdmcbaa
open Go.RowKit

/-- What is known behind k losses, the least and the greatest of them lo and hi. -/
def HoldsInv (k : Nat) (lo hi fine : Int) : Prop := 0 ≤ lo ∧ lo ≤ 255 ∧ 0 ≤ hi ∧ hi ≤ 255 ∧ 0 ≤ fine ∧ fine ≤ 65280 ∧ (0 < k → 256 * lo ≤ fine ∧ fine ≤ 256 * hi)
theorem HoldsInv.step {k : Nat} {lo hi fine : Int} (h : HoldsInv k lo hi fine) (l m M : Int) (hm : (if clamp l < lo then clamp l else lo) = m) (hM : (if hi < clamp l then clamp l else hi) = M) : HoldsInv (k + 1) m M (feed fine k l) ∧ m ≤ val (feed fine k l) ∧ val (feed fine k l) ≤ M := by
  obtain ⟨h1, h2, h3, h4, h5, h6, h7⟩ := h
  have c0 := clamp_ge l
  have c1 := clamp_le l
  have hb : 256 * m ≤ feed fine k l ∧ feed fine k l ≤ 256 * M := by
    by_cases hk : k = 0
    · subst hk
      have : feed fine ((0 : Nat) : Int) l = 256 * clamp l := by unfold feed; rw [if_pos (by rfl)]
      rw [this]
      split at hm <;> split at hM <;> omega
    · obtain ⟨h8, h9⟩ := h7 (by omega)
      have : feed fine (k : Int) l = stepF fine (256 * clamp l) := by unfold feed; rw [if_neg (by omega)]
      rw [this]
      exact ⟨stepF_lo _ _ _ (by split at hm <;> omega) (by split at hm <;> omega), stepF_hi _ _ _ (by split at hM <;> omega) (by split at hM <;> omega)⟩
  have hm1 : 0 ≤ m ∧ m ≤ 255 := by split at hm <;> omega
  have hM1 : 0 ≤ M ∧ M ≤ 255 := by split at hM <;> omega
  refine ⟨⟨hm1.1, hm1.2, hM1.1, hM1.2, by omega, by omega, fun _ => hb⟩, ?_, ?_⟩ <;> unfold val <;> omega

set_option maxHeartbeats 4000000 in
theorem smoothHolds_w (w : World) (a : Option Addr) (cap : Nat) (zs : List Int) (lc : zs.length ≤ cap) (mc : cap ≤ maxLen) (rd : RdI .i64 w a zs) (wf : ∀ x ∈ zs, (Lit.int .i64 x).wf = true) (to : Int) (wt : (Lit.int .i64 to).wf = true) :
    Calls Try.prog 4 #[.slice a zs.length cap, .int .i64 to] w fun e w' => e = .returned (.bool true) ∧ Below w.heap.size w w' := by
  clear wf wt
  unfold maxLen at mc
  have HR := Lib.hid rd
  clear rd
  by_cases hbig : 60 < zs.length ∨ zs.length = 0
  · rcases hbig with hbig | hz
    · go_enter Try.func4, Try.ntmps4
      go_wp2_with fail
      refine (alive_c _).mono ?_
      rintro e w1 ⟨rfl, hB⟩
      have HB1 := Lib.hid hB
      clear hB
      go_wp2_with fail
      go_ret
      exact ⟨rfl, HB1.out⟩
    · have hzb : ((zs.length : Int) == 0) = true := by simpa using hz
      have hz2 : (zs.length : Int) ≤ 60 := by omega
      have Hz := Lib.hid hz
      clear hz
      go_enter Try.func4, Try.ntmps4
      go_wp2_with fail
      refine (alive_c _).mono ?_
      rintro e w1 ⟨rfl, hB⟩
      have HB1 := Lib.hid hB
      clear hB
      go_wp2_with fail
      go_ret
      exact ⟨rfl, HB1.out⟩
  · have hl : zs.length ≤ 60 := by omega
    have hp : 0 < zs.length := by omega
    have hzb : ((zs.length : Int) == 0) = false := beq_eq_false_iff_ne.2 (by omega)
    clear hbig
    go_enter Try.func4, Try.ntmps4
    go_wp2_with fail
    refine (alive_c _).mono ?_
    rintro e w1 ⟨rfl, hB⟩
    have HB1 := Lib.hid hB
    clear hB
    go_wp2_with fail
    go_loopw [6, 7, 29] (fun lo hi i wr => ∃ (k : Nat) (l h fine : Int), k ≤ zs.length ∧ i = .int .i64 k ∧ lo = .int .i64 l ∧ hi = .int .i64 h ∧ HoldsInv k l h fine ∧ Fl wr w1.heap.size fine k ∧ Below w.heap.size w wr) (fun _ _ i _ => zs.length - (intOf i).toNat)
    case atStart => exact ⟨0, 255, 0, 0, Nat.zero_le _, rfl, rfl, rfl, ⟨by decide, by decide, by decide, by decide, by decide, by decide, fun h => absurd h (by decide)⟩, Blk.made w1 25 #[.int .i64 0, .int .i64 0], HB1.out.alloc HB1.out.size _⟩
    case round =>
      obtain ⟨k, l, h, fine, hk, rfl, rfl, rfl, hI, hF, hB⟩ := hrel
      have HF := Lib.hid hF
      have HB := Lib.hid hB
      have f0 : 0 ≤ fine := hI.2.2.2.2.1
      have f1 : fine ≤ 65280 := hI.2.2.2.2.2.1
      have HI := Lib.hid hI
      clear hF hB hI
      by_cases hlt : k < zs.length
      · obtain ⟨b, off, x, hx, rfl, hb, hc⟩ := (HR.out.below HB.out).at_ k hlt
        obtain ⟨m, hm⟩ : ∃ m, (if clamp x < l then clamp x else l) = m := ⟨_, rfl⟩
        obtain ⟨M, hM⟩ : ∃ M, (if h < clamp x then clamp x else h) = M := ⟨_, rfl⟩
        obtain ⟨hI2, v1, v2⟩ := HI.out.step x m M hm hM
        have HI2 := Lib.hid hI2
        clear hx hb hI2
        go_wp2_with fail
        refine (rheld255_c _ _).mono ?_
        rintro e w' ⟨rfl, rfl⟩
        go_wp2_with fail
        refine (feed_c _ _ _ _ _ HF.out f0 f1 (by omega) (by omega)).mono ?_
        rintro e w2 ⟨rfl, hF, hG⟩
        have HF2 := Lib.hid hF
        have HB2 := Lib.hid (HB.out.grown hG HB.out.size (fun j hj => by injection hj with hj; have := HB1.out.size; omega))
        clear hF hG hm hM
        go_wp2_with fail
        go_roundw
        case rel => exact ⟨k + 1, m, M, _, by omega, by go_num, rfl, rfl, HI2.out, by simpa using HF2.out, HB2.out⟩
        case measure => simp [intOf]; omega
      · obtain ⟨b, off, x, hx, rfl, hb, hc⟩ := HR.out.at_ 0 hp
        have HC : Hid (w.cell? ⟨b, off, none⟩ = some (.int .i64 x)) := Lib.hid hc
        have X0 := clamp_ge x
        have X1 := clamp_le x
        have t0 := clamp_ge to
        have t1 := clamp_le to
        obtain ⟨T, hT⟩ : ∃ T, T = clamp to := ⟨_, rfl⟩
        rw [← hT] at t0 t1
        have hTT : clamp T = T := clamp_of T t0 t1
        have HTT := Lib.hid hTT
        have HT := Lib.hid hT
        obtain ⟨S, hS⟩ : ∃ S, S = steps fine T := ⟨_, rfl⟩
        have s1 : S ≤ 100 := by rw [hS]; exact steps_le _ _
        have HS := Lib.hid hS
        clear hx hc hTT hT hS
        go_wp2_with fail
        refine (rheld255_c _ _).mono ?_
        rintro e w' ⟨rfl, rfl⟩
        rw [← HT.out]
        by_cases hr : val fine < T
        · have hrb : decide (val fine < T) = true := by simp; omega
          go_wp2_with fail
          refine (value_c _ _ _ _ HF.out f0 f1).mono ?_
          rintro e w' ⟨rfl, rfl⟩
          go_wp2_with fail
          go_loopw [13] (fun n wq => ∃ j : Nat, j ≤ S ∧ n = .int .i64 j ∧ Fl wq w1.heap.size (fsF (256 * T) j fine) (k + j) ∧ Below w.heap.size w wq) (fun n _ => S - (intOf n).toNat)
          case atStart => exact ⟨0, Nat.zero_le _, rfl, by simpa [fsF] using HF.out, HB.out⟩
          case round =>
            obtain ⟨j, hj, rfl, hF, hB⟩ := hrel
            have HF2 := Lib.hid hF
            have HB2 := Lib.hid hB
            have g0 := fsF_ge (256 * T) (by omega) fine f0 j
            have g1 := fsF_le (256 * T) (by omega) fine f1 j
            clear hF hB
            by_cases hv : val (fsF (256 * T) j fine) = T
            · have hvb : (val (fsF (256 * T) j fine) != T) = false := by simpa using hv
              have HV := Lib.hid hv
              clear hv
              go_wp2_with fail
              refine (value_c _ _ _ _ HF2.out g0 g1).mono ?_
              rintro e w' ⟨rfl, rfl⟩
              have hcq : wr.cell? ⟨b, off, none⟩ = some (.int .i64 x) := (HB2.out.cell (p := ⟨b, off, none⟩) hb).trans HC.out
              have hbq : b < wr.heap.size := Nat.lt_of_lt_of_le hb HB2.out.size
              go_wp2_with fail
              refine (feed_c _ _ _ _ _ (Blk.made wr 25 #[.int .i64 0, .int .i64 0]) (by omega) (by omega) (by omega) (by omega)).mono ?_
              rintro e w3 ⟨rfl, hF, hG⟩
              have HB3 := Lib.hid (HB2.out.trans ((below_new hG).mono HB2.out.size))
              rw [feed_zero] at hF
              have HF3 := Lib.hid hF
              have hcr : w3.cell? ⟨b, off, none⟩ = some (.int .i64 x) := (HB3.out.cell (p := ⟨b, off, none⟩) hb).trans HC.out
              clear hF hG
              go_wp2_with fail
              refine (steps_c _ _ _).mono ?_
              rintro e w4 ⟨rfl, hB⟩
              have HB4 := Lib.hid (HB3.out.trans (hB.mono HB3.out.size))
              have HF4 := Lib.hid (HF3.out.below hB HF3.out.lt)
              obtain ⟨S2, hS2⟩ : ∃ S2, S2 = steps (256 * clamp x) T := ⟨_, rfl⟩
              have s2 : S2 ≤ 100 := by rw [hS2]; exact steps_le _ _
              have hg := HB2.out.size
              rw [HTT.out, ← hS2]
              have HS2 := Lib.hid hS2
              clear hS2 hB hcq hcr
              go_wp2_with fail
              go_loopw [94] (fun n wz => ∃ i : Nat, i ≤ S2 ∧ n = .int .i64 i ∧ Fl wz wr.heap.size (fsF (256 * T) i (256 * clamp x)) (1 + i) ∧ Below w.heap.size w wz) (fun n _ => S2 - (intOf n).toNat)
              case atStart => exact ⟨0, Nat.zero_le _, rfl, by simpa [fsF] using HF4.out, HB4.out⟩
              case round =>
                obtain ⟨i, hi, rfl, hF, hB⟩ := hrel
                have HF5 := Lib.hid hF
                have HB5 := Lib.hid hB
                have r0 := fsF_ge (256 * T) (by omega) (256 * clamp x) (by omega) i
                have r1 := fsF_le (256 * T) (by omega) (256 * clamp x) (by omega) i
                clear hF hB
                by_cases hlt2 : i < S2
                · have hne := steps_before (256 * clamp x) T i (by rw [← HS2.out]; exact hlt2)
                  have hvb2 : (val (fsF (256 * T) i (256 * clamp x)) == T) = false := beq_eq_false_iff_ne.2 hne
                  clear hne
                  go_wp2_with fail
                  refine (value_c _ _ _ _ HF5.out r0 r1).mono ?_
                  rintro e w' ⟨rfl, rfl⟩
                  go_wp2_with fail
                  refine (feed_c _ _ _ _ _ HF5.out r0 r1 (by omega) (by omega)).mono ?_
                  rintro e w6 ⟨rfl, hF, hG⟩
                  rw [feed_step _ _ _ (by omega), HTT.out] at hF
                  have HF6 := Lib.hid hF
                  have HB6 := Lib.hid (HB5.out.grown hG HB5.out.size (fun j hj => by injection hj with hj; omega))
                  clear hF hG
                  go_wp2_with fail
                  go_roundw
                  case rel => exact ⟨i + 1, by omega, by go_num, by rw [show (1 + ((i + 1 : Nat) : Int)) = 1 + (i : Int) + 1 from by omega]; exact HF6.out, HB6.out⟩
                  case measure => simp [intOf]; omega
                · have he : i = S2 := by omega
                  have hvb2 : (val (fsF (256 * T) i (256 * clamp x)) == T) = true := by rw [he, HS2.out]; exact beq_iff_eq.2 (steps_at _ _ (by omega) (by omega) t0 t1)
                  have hle : S2 ≤ i := by omega
                  clear he
                  go_wp2_with fail
                  refine (value_c _ _ _ _ HF5.out r0 r1).mono ?_
                  rintro e w' ⟨rfl, rfl⟩
                  go_wp2_with fail
                  go_ret
                  exact ⟨rfl, HB5.out⟩
            · have hvb : (val (fsF (256 * T) j fine) != T) = true := by simpa using hv
              have hlt2 : j < S := by
                rcases Nat.lt_or_ge j S with h | h
                · exact h
                · exfalso
                  have he : j = S := by omega
                  rw [he, HS.out] at hv
                  exact hv (steps_at _ _ f0 f1 t0 t1)
              have hside := fsF_side T fine j hv
              have hmv : fsF (256 * T) j fine < stepF (fsF (256 * T) j fine) (256 * T) := (stepF_rise _ _ (hside.1 hr)).1
              obtain ⟨F1, hF1⟩ : ∃ F1, F1 = stepF (fsF (256 * T) j fine) (256 * T) := ⟨_, rfl⟩
              rw [← hF1] at hmv
              have hjk : 0 < (k : Int) + j := by omega
              have HF1 := Lib.hid hF1
              clear hv hside hF1
              go_wp2_with fail
              refine (value_c _ _ _ _ HF2.out g0 g1).mono ?_
              rintro e w' ⟨rfl, rfl⟩
              go_wp2_with fail
              refine (fine_c _ _ _ _ HF2.out).mono ?_
              rintro e w' ⟨rfl, rfl⟩
              go_wp2_with fail
              refine (feed_c _ _ _ _ _ HF2.out g0 g1 (by omega) (by omega)).mono ?_
              rintro e w3 ⟨rfl, hF, hG⟩
              rw [feed_step _ _ _ hjk, HTT.out, ← HF1.out] at hF
              have HF3 := Lib.hid hF
              have HB3 := Lib.hid (HB2.out.grown hG HB2.out.size (fun j hj => by injection hj with hj; have := HB1.out.size; omega))
              clear hF hG
              go_wp2_with fail
              refine (fine_c _ _ _ _ HF3.out).mono ?_
              rintro e w' ⟨rfl, rfl⟩
              go_wp2_with fail
              go_roundw
              case rel => exact ⟨j + 1, by omega, by go_num, by rw [show ((k : Int) + ((j + 1 : Nat) : Int)) = (k : Int) + j + 1 from by omega]; unfold fsF; rw [← HF1.out]; exact HF3.out, HB3.out⟩
              case measure => simp [intOf]; omega
        · have hrb : decide (val fine < T) = false := by simp; omega
          go_wp2_with fail
          refine (value_c _ _ _ _ HF.out f0 f1).mono ?_
          rintro e w' ⟨rfl, rfl⟩
          go_wp2_with fail
          go_loopw [13] (fun n wq => ∃ j : Nat, j ≤ S ∧ n = .int .i64 j ∧ Fl wq w1.heap.size (fsF (256 * T) j fine) (k + j) ∧ Below w.heap.size w wq) (fun n _ => S - (intOf n).toNat)
          case atStart => exact ⟨0, Nat.zero_le _, rfl, by simpa [fsF] using HF.out, HB.out⟩
          case round =>
            obtain ⟨j, hj, rfl, hF, hB⟩ := hrel
            have HF2 := Lib.hid hF
            have HB2 := Lib.hid hB
            have g0 := fsF_ge (256 * T) (by omega) fine f0 j
            have g1 := fsF_le (256 * T) (by omega) fine f1 j
            clear hF hB
            by_cases hv : val (fsF (256 * T) j fine) = T
            · have hvb : (val (fsF (256 * T) j fine) != T) = false := by simpa using hv
              have HV := Lib.hid hv
              clear hv
              go_wp2_with fail
              refine (value_c _ _ _ _ HF2.out g0 g1).mono ?_
              rintro e w' ⟨rfl, rfl⟩
              have hcq : wr.cell? ⟨b, off, none⟩ = some (.int .i64 x) := (HB2.out.cell (p := ⟨b, off, none⟩) hb).trans HC.out
              have hbq : b < wr.heap.size := Nat.lt_of_lt_of_le hb HB2.out.size
              go_wp2_with fail
              refine (feed_c _ _ _ _ _ (Blk.made wr 25 #[.int .i64 0, .int .i64 0]) (by omega) (by omega) (by omega) (by omega)).mono ?_
              rintro e w3 ⟨rfl, hF, hG⟩
              have HB3 := Lib.hid (HB2.out.trans ((below_new hG).mono HB2.out.size))
              rw [feed_zero] at hF
              have HF3 := Lib.hid hF
              have hcr : w3.cell? ⟨b, off, none⟩ = some (.int .i64 x) := (HB3.out.cell (p := ⟨b, off, none⟩) hb).trans HC.out
              clear hF hG
              go_wp2_with fail
              refine (steps_c _ _ _).mono ?_
              rintro e w4 ⟨rfl, hB⟩
              have HB4 := Lib.hid (HB3.out.trans (hB.mono HB3.out.size))
              have HF4 := Lib.hid (HF3.out.below hB HF3.out.lt)
              obtain ⟨S2, hS2⟩ : ∃ S2, S2 = steps (256 * clamp x) T := ⟨_, rfl⟩
              have s2 : S2 ≤ 100 := by rw [hS2]; exact steps_le _ _
              have hg := HB2.out.size
              rw [HTT.out, ← hS2]
              have HS2 := Lib.hid hS2
              clear hS2 hB hcq hcr
              go_wp2_with fail
              go_loopw [94] (fun n wz => ∃ i : Nat, i ≤ S2 ∧ n = .int .i64 i ∧ Fl wz wr.heap.size (fsF (256 * T) i (256 * clamp x)) (1 + i) ∧ Below w.heap.size w wz) (fun n _ => S2 - (intOf n).toNat)
              case atStart => exact ⟨0, Nat.zero_le _, rfl, by simpa [fsF] using HF4.out, HB4.out⟩
              case round =>
                obtain ⟨i, hi, rfl, hF, hB⟩ := hrel
                have HF5 := Lib.hid hF
                have HB5 := Lib.hid hB
                have r0 := fsF_ge (256 * T) (by omega) (256 * clamp x) (by omega) i
                have r1 := fsF_le (256 * T) (by omega) (256 * clamp x) (by omega) i
                clear hF hB
                by_cases hlt2 : i < S2
                · have hne := steps_before (256 * clamp x) T i (by rw [← HS2.out]; exact hlt2)
                  have hvb2 : (val (fsF (256 * T) i (256 * clamp x)) == T) = false := beq_eq_false_iff_ne.2 hne
                  clear hne
                  go_wp2_with fail
                  refine (value_c _ _ _ _ HF5.out r0 r1).mono ?_
                  rintro e w' ⟨rfl, rfl⟩
                  go_wp2_with fail
                  refine (feed_c _ _ _ _ _ HF5.out r0 r1 (by omega) (by omega)).mono ?_
                  rintro e w6 ⟨rfl, hF, hG⟩
                  rw [feed_step _ _ _ (by omega), HTT.out] at hF
                  have HF6 := Lib.hid hF
                  have HB6 := Lib.hid (HB5.out.grown hG HB5.out.size (fun j hj => by injection hj with hj; omega))
                  clear hF hG
                  go_wp2_with fail
                  go_roundw
                  case rel => exact ⟨i + 1, by omega, by go_num, by rw [show (1 + ((i + 1 : Nat) : Int)) = 1 + (i : Int) + 1 from by omega]; exact HF6.out, HB6.out⟩
                  case measure => simp [intOf]; omega
                · have he : i = S2 := by omega
                  have hvb2 : (val (fsF (256 * T) i (256 * clamp x)) == T) = true := by rw [he, HS2.out]; exact beq_iff_eq.2 (steps_at _ _ (by omega) (by omega) t0 t1)
                  have hle : S2 ≤ i := by omega
                  clear he
                  go_wp2_with fail
                  refine (value_c _ _ _ _ HF5.out r0 r1).mono ?_
                  rintro e w' ⟨rfl, rfl⟩
                  go_wp2_with fail
                  go_ret
                  exact ⟨rfl, HB5.out⟩
            · have hvb : (val (fsF (256 * T) j fine) != T) = true := by simpa using hv
              have hlt2 : j < S := by
                rcases Nat.lt_or_ge j S with h | h
                · exact h
                · exfalso
                  have he : j = S := by omega
                  rw [he, HS.out] at hv
                  exact hv (steps_at _ _ f0 f1 t0 t1)
              have hside := fsF_side T fine j hv
              have hmv : stepF (fsF (256 * T) j fine) (256 * T) < fsF (256 * T) j fine := (stepF_fall _ _ (hside.2 (by omega))).1
              obtain ⟨F1, hF1⟩ : ∃ F1, F1 = stepF (fsF (256 * T) j fine) (256 * T) := ⟨_, rfl⟩
              rw [← hF1] at hmv
              have hjk : 0 < (k : Int) + j := by omega
              have HF1 := Lib.hid hF1
              clear hv hside hF1
              go_wp2_with fail
              refine (value_c _ _ _ _ HF2.out g0 g1).mono ?_
              rintro e w' ⟨rfl, rfl⟩
              go_wp2_with fail
              refine (fine_c _ _ _ _ HF2.out).mono ?_
              rintro e w' ⟨rfl, rfl⟩
              go_wp2_with fail
              refine (feed_c _ _ _ _ _ HF2.out g0 g1 (by omega) (by omega)).mono ?_
              rintro e w3 ⟨rfl, hF, hG⟩
              rw [feed_step _ _ _ hjk, HTT.out, ← HF1.out] at hF
              have HF3 := Lib.hid hF
              have HB3 := Lib.hid (HB2.out.grown hG HB2.out.size (fun j hj => by injection hj with hj; have := HB1.out.size; omega))
              clear hF hG
              go_wp2_with fail
              refine (fine_c _ _ _ _ HF3.out).mono ?_
              rintro e w' ⟨rfl, rfl⟩
              go_wp2_with fail
              go_roundw
              case rel => exact ⟨j + 1, by omega, by go_num, by rw [show ((k : Int) + ((j + 1 : Nat) : Int)) = (k : Int) + j + 1 from by omega]; unfold fsF; rw [← HF1.out]; exact HF3.out, HB3.out⟩
              case measure => simp [intOf]; omega

end Go.Proofs.Ytjjekkpncdmcbaa
