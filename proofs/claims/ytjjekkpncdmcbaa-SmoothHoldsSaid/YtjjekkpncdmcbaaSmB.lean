/-
  THE WALKS of Steps, of the reference, of the document's example.
-/
import Derived.Test.YtjjekkpncdmcbaaSmA
set_option linter.unusedVariables false
set_option linter.unusedSimpArgs false
namespace Go.Proofs.Ytjjekkpncdmcbaa
open Go.RowKit

theorem feed_zero (fine loss : Int) : feed fine 0 loss = 256 * clamp loss := by unfold feed; rw [if_pos rfl]
theorem feed_step (fine count loss : Int) (h : 0 < count) : feed fine count loss = stepF fine (256 * clamp loss) := by unfold feed; rw [if_neg (by omega)]

/-- A new filter, its first loss told. -/
theorem below_new {w w1 : World} {o : Obj} (h : (w.alloc o).grownBy w1 (some w.heap.size)) : Below w.heap.size w w1 :=
  ((Below.refl _ _).alloc (Nat.le_refl _) o).grown h (by simp) (fun k hk => by injection hk with hk; omega)

set_option maxHeartbeats 1000000 in
theorem steps_c (a t : Int) (w : World) :
    Calls Try.prog 16 #[.int .i64 a, .int .i64 t] w fun e w' => e = .returned (.int .i64 (steps (256 * clamp a) (clamp t))) ∧ Below w.heap.size w w' := by
  have a0 := clamp_ge a
  have a1 := clamp_le a
  have t0 := clamp_ge t
  have t1 := clamp_le t
  obtain ⟨S, hS⟩ : ∃ S, S = steps (256 * clamp a) (clamp t) := ⟨_, rfl⟩
  have s1 : S ≤ 100 := by rw [hS]; exact steps_le _ _
  have HS := Lib.hid hS
  clear hS
  go_enter Try.func16, Try.ntmps16
  go_wp2_with fail
  refine (feed_c _ _ _ _ _ (Blk.made w 25 #[.int .i64 0, .int .i64 0]) (by omega) (by omega) (by omega) (by omega)).mono ?_
  rintro e w1 ⟨rfl, hF, hG⟩
  rw [feed_zero] at hF
  have hB := below_new hG
  clear hG
  go_wp2_with fail
  go_loopw [6] (fun n wr => ∃ k : Nat, k ≤ S ∧ n = .int .i64 k ∧ Fl wr w.heap.size (fsF (256 * clamp t) k (256 * clamp a)) (1 + k) ∧ Below w.heap.size w wr) (fun n _ => S - (intOf n).toNat)
  case atStart => exact ⟨0, Nat.zero_le _, rfl, hF, hB⟩
  case round =>
    obtain ⟨k, hk, rfl, hF, hB⟩ := hrel
    have g0 := fsF_ge (256 * clamp t) (by omega) (256 * clamp a) (by omega) k
    have g1 := fsF_le (256 * clamp t) (by omega) (256 * clamp a) (by omega) k
    have HF := Lib.hid hF
    have HB := Lib.hid hB
    clear hF hB
    by_cases hv : val (fsF (256 * clamp t) k (256 * clamp a)) = clamp t
    · have hvb : (val (fsF (256 * clamp t) k (256 * clamp a)) != clamp t) = false := by simpa using hv
      have HV := Lib.hid hv
      clear hv
      go_wp2_with (first | (go_at_call 11; refine (value_c _ _ _ _ HF.out g0 g1).mono ?_; rintro e w' ⟨rfl, rfl⟩) | (go_at_call 18; refine (held_c _ _).mono ?_; rintro e w' ⟨rfl, rfl⟩))
      go_ret
      have he : k = S := by
        rcases Nat.lt_or_ge k S with h | h
        · rw [HS.out] at h; exact absurd HV.out (steps_before _ _ k h)
        · omega
      rw [← HS.out, he]
      exact ⟨rfl, HB.out⟩
    · have hvb : (val (fsF (256 * clamp t) k (256 * clamp a)) != clamp t) = true := by simpa using hv
      have hlt : k < S := by
        rcases Nat.lt_or_ge k S with h | h
        · exact h
        · exfalso
          have he : k = S := by omega
          rw [he, HS.out] at hv
          exact hv (steps_at _ _ (by omega) (by omega) t0 t1)
      have HV := Lib.hid hv
      clear hv
      go_wp2_with (first | (go_at_call 11; refine (value_c _ _ _ _ HF.out g0 g1).mono ?_; rintro e w' ⟨rfl, rfl⟩) | (go_at_call 18; refine (held_c _ _).mono ?_; rintro e w' ⟨rfl, rfl⟩) | (go_at_call 9; refine (feed_c _ _ _ _ _ HF.out g0 g1 (by omega) (by omega)).mono ?_; rintro e w' ⟨rfl, hF', hG'⟩))
      rw [feed_step _ _ _ (by omega)] at hF'
      go_roundw
      case rel => exact ⟨k + 1, by omega, by go_num, by rw [show (1 + ((k + 1 : Nat) : Int)) = 1 + (k : Int) + 1 from by omega]; exact hF', HB.out.grown hG' HB.out.size (fun j hj => by injection hj with hj; omega)⟩
      case measure => simp [intOf]; omega

theorem steps_00 : steps (256 * clamp 0) (clamp 0) = 0 := by decide +kernel
theorem steps_01 : steps (256 * clamp 0) (clamp 1) = 1 := by decide +kernel

set_option maxHeartbeats 1000000 in
theorem alive_c (w : World) : Calls Try.prog 7 #[] w fun e w' => e = .returned (.bool true) ∧ Below w.heap.size w w' := by
  go_enter Try.func7, Try.ntmps7
  go_wp2_with fail
  refine (feed_c _ _ _ _ _ (Blk.made w 25 #[.int .i64 0, .int .i64 0]) (by omega) (by omega) (by omega) (by omega)).mono ?_
  rintro e w1 ⟨rfl, hF, hG⟩
  have hB := below_new hG
  clear hG
  have v1 : feed 0 0 0 = 0 := by decide +kernel
  rw [v1] at hF ⊢
  rw [show val 0 = 0 from by decide +kernel]
  have HF := Lib.hid hF
  have HB := Lib.hid hB
  clear hF hB v1
  go_wp2_with fail
  refine (feed_c _ _ _ _ _ HF.out (by omega) (by omega) (by omega) (by omega)).mono ?_
  rintro e w2 ⟨rfl, hF2, hG2⟩
  have v2 : feed 0 (0 + 1) 64 = 8192 := by decide +kernel
  rw [v2] at hF2 ⊢
  rw [show val 8192 = 32 from by decide +kernel]
  have HF2 := Lib.hid hF2
  have HB2 := Lib.hid (HB.out.grown hG2 HB.out.size (fun j hj => by injection hj with hj; omega))
  clear hF2 hG2 v2
  go_wp2_with fail
  refine (clone_c _ _ _ _ HF2.out).mono ?_
  rintro e w3 ⟨rfl, hB3⟩
  have hF3 := HF2.out.below hB3 HF2.out.lt
  have HB3 := Lib.hid (HB2.out.trans (hB3.mono HB2.out.size))
  have HF3 := Lib.hid hF3
  clear hB3 hF3
  go_wp2_with fail
  refine (count_c _ _ _ _ (HF3.out.alloc _)).mono ?_
  rintro e w' ⟨rfl, rfl⟩
  go_wp2_with fail
  refine (fine_c _ _ _ _ (HF3.out.alloc _)).mono ?_
  rintro e w' ⟨rfl, rfl⟩
  go_wp2_with fail
  refine (clear_c _ _ _ _ (HF3.out.alloc _)).mono ?_
  rintro e w4 ⟨rfl, hF4, hG4⟩
  have HC4 := Lib.hid ((Blk.made w3 25 #[.int .i64 8192, .int .i64 2]).grown hG4 (by have := HF3.out.lt; simp; omega))
  have HF4 := Lib.hid hF4
  have HB4 := Lib.hid ((HB3.out.alloc HB3.out.size _).grown hG4 (by have := HB3.out.size; simp; omega) (fun j hj => by injection hj with hj; omega))
  clear hF4 hG4
  go_wp2_with fail
  go_outline
  refine (value_c _ _ _ _ HC4.out (by omega) (by omega)).mono ?_
  rintro e w' ⟨rfl, rfl⟩
  rw [show val 8192 = 32 from by decide +kernel]
  go_wp2_with fail
  refine (value_c _ _ _ _ HF4.out (by omega) (by omega)).mono ?_
  rintro e w' ⟨rfl, rfl⟩
  rw [show val 0 = 0 from by decide +kernel]
  go_wp2_with fail
  refine (count_c _ _ _ _ HF4.out).mono ?_
  rintro e w' ⟨rfl, rfl⟩
  go_wp2_with fail
  refine (steps_c _ _ _).mono ?_
  rintro e w5 ⟨rfl, hB5⟩
  have HB5 := Lib.hid (HB4.out.trans (hB5.mono HB4.out.size))
  clear hB5
  rw [steps_00]
  go_wp2_with fail
  refine (steps_c _ _ _).mono ?_
  rintro e w6 ⟨rfl, hB6⟩
  have HB6 := Lib.hid (HB5.out.trans (hB6.mono HB5.out.size))
  clear hB6
  rw [steps_01]
  go_wp2_with fail
  go_ret
  exact ⟨rfl, HB6.out⟩

end Go.Proofs.Ytjjekkpncdmcbaa
