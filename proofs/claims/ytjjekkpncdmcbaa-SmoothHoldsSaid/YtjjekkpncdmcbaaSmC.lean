/-
  THE WALKS of the reference of smooth.
-/
import Derived.Test.YtjjekkpncdmcbaaSmB
set_option linter.unusedVariables false
set_option linter.unusedSimpArgs false
namespace Go.Proofs.Ytjjekkpncdmcbaa
open Go.RowKit

set_option maxHeartbeats 1000000 in
theorem rfine_c (a : Option Addr) (cap : Nat) (zs : List Int) (w : World) (h : RdI .i64 w a zs) (hl : zs.length ≤ 1000000) :
    Calls Try.prog 13 #[.slice a zs.length cap] w fun e w' => e = .returned (.int .i64 (fineR zs)) ∧ w = w' := by
  have HR := Lib.hid h
  clear h
  go_enter Try.func13, Try.ntmps13
  go_wp2_with fail
  go_loop [3, 4] (fun v i => ∃ k : Nat, k ≤ zs.length ∧ i = .int .i64 k ∧ v = .int .i64 (fineR (zs.take k))) (fun _ i => zs.length - (intOf i).toNat)
  case atStart => exact ⟨0, Nat.zero_le _, rfl, rfl⟩
  case round =>
    obtain ⟨k, hk, rfl, rfl⟩ := hrel
    have hF := fineR_in (zs.take k)
    obtain ⟨F, hFe⟩ : ∃ F, F = fineR (zs.take k) := ⟨_, rfl⟩
    rw [← hFe] at hF ⊢
    obtain ⟨f0, f1⟩ := hF
    by_cases hlt : k < zs.length
    · obtain ⟨b, off, x, hx, rfl, hb, hc⟩ := HR.out.at_ k hlt
      have hT := fineR_take zs k x hx
      rw [← hFe] at hT
      have HT := Lib.hid hT
      have HX := Lib.hid hx
      have HFe := Lib.hid hFe
      have x0 := clamp_ge x
      have x1 := clamp_le x
      clear hT hx hFe
      by_cases h0 : k = 0
      · have hz : ((k : Int) == 0) = true := by simpa using h0
        have H0 := Lib.hid h0
        clear h0
        go_wp2_with (go_at_call 15; refine (rheld255_c _ _).mono ?_; rintro e w' ⟨rfl, rfl⟩)
        go_round
        case rel => exact ⟨k + 1, by omega, by go_num, by rw [HT.out, if_pos H0.out]⟩
        case measure => simp [intOf]; omega
      · have hz : ((k : Int) == 0) = false := by simpa using h0
        have H0 := Lib.hid h0
        clear h0
        by_cases hg : F < 256 * clamp x
        · go_wp2_with (go_at_call 15; refine (rheld255_c _ _).mono ?_; rintro e w' ⟨rfl, rfl⟩)
          go_round
          case rel => exact ⟨k + 1, by omega, by go_num, by rw [HT.out, if_neg H0.out, stepF, if_pos hg]⟩
          case measure => simp [intOf]; omega
        · go_wp2_with (go_at_call 15; refine (rheld255_c _ _).mono ?_; rintro e w' ⟨rfl, rfl⟩)
          go_round
          case rel => exact ⟨k + 1, by omega, by go_num, by rw [HT.out, if_neg H0.out, stepF, if_neg (by omega)]⟩
          case measure => simp [intOf]; omega
    · have HFe := Lib.hid hFe
      clear hFe
      go_wp2
      go_ret
      exact ⟨ret_int (by rw [HFe.out, List.take_of_length_le (by omega)]), rfl⟩

set_option maxHeartbeats 1000000 in
theorem rvalue_c (a : Option Addr) (cap : Nat) (zs : List Int) (w : World) (h : RdI .i64 w a zs) (hl : zs.length ≤ 1000000) :
    Calls Try.prog 10 #[.slice a zs.length cap] w fun e w' => e = .returned (.int .i64 (val (fineR zs))) ∧ w = w' := by
  have HR := Lib.hid h
  have hF := fineR_in zs
  obtain ⟨f0, f1⟩ := hF
  clear h
  go_enter Try.func10, Try.ntmps10
  go_wp2_with (go_at_call 13; refine (rfine_c _ _ _ _ HR.out hl).mono ?_; rintro e w' ⟨rfl, rfl⟩)
  go_ret
  exact ⟨rfl, rfl⟩

end Go.Proofs.Ytjjekkpncdmcbaa
