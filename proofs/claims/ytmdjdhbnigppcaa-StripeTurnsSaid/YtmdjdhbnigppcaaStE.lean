/-
  THE WALKS of the reference of stripe: at, one.
-/
import Derived.Test.YtmdjdhbnigppcaaStD
set_option linter.unusedVariables false
set_option linter.unusedSimpArgs false
namespace Go.Proofs.Ytmdjdhbnigppcaa
open Go.RowKit

theorem bx_bit (a b i : Nat) : (a ^^^ b) / 2 ^ i % 2 = (a / 2 ^ i + b / 2 ^ i) % 2 := by
  have h := Nat.testBit_xor a b i
  rw [Nat.testBit_eq_decide_div_mod_eq, Nat.testBit_eq_decide_div_mod_eq, Nat.testBit_eq_decide_div_mod_eq] at h
  generalize (a ^^^ b) / 2 ^ i = x at *
  generalize a / 2 ^ i = y at *
  generalize b / 2 ^ i = z at *
  have h1 : x % 2 = 0 ∨ x % 2 = 1 := by omega
  have h2 : y % 2 = 0 ∨ y % 2 = 1 := by omega
  have h3 : z % 2 = 0 ∨ z % 2 = 1 := by omega
  rcases h1 with h1 | h1 <;> rcases h2 with h2 | h2 <;> rcases h3 with h3 | h3 <;> simp [h1, h2, h3] at h <;> omega
/-- A power of two up to 128. -/
def Pw (P : Int) : Prop := P = 1 ∨ P = 2 ∨ P = 4 ∨ P = 8 ∨ P = 16 ∨ P = 32 ∨ P = 64 ∨ P = 128
theorem bx_bit_at {a b P : Int} (a0 : 0 ≤ a) (b0 : 0 ≤ b) (hP : Pw P) : bx a b / P % 2 = (a / P + b / P) % 2 := by
  have key : ∀ i : Nat, ((a.toNat ^^^ b.toNat : Nat) : Int) / ((2 ^ i : Nat) : Int) % 2 = (a / ((2 ^ i : Nat) : Int) + b / ((2 ^ i : Nat) : Int)) % 2 := fun i => by
    have h := bx_bit a.toNat b.toNat i
    have ea : a = (a.toNat : Int) := by omega
    have eb : b = (b.toNat : Int) := by omega
    generalize a.toNat = m at *
    generalize b.toNat = n at *
    subst ea eb
    exact_mod_cast h
  unfold bx
  rcases hP with rfl | rfl | rfl | rfl | rfl | rfl | rfl | rfl
  · exact key 0
  · exact key 1
  · exact key 2
  · exact key 3
  · exact key 4
  · exact key 5
  · exact key 6
  · exact key 7
theorem one_step {a b P : Int} (a0 : 0 ≤ a) (b0 : 0 ≤ b) (hP : Pw P) : bx a b / (2 * P) * (2 * P) + (if a / P % 2 = b / P % 2 then 0 else P) = bx a b / P * P := by
  have h := bx_bit_at a0 b0 hP
  generalize bx a b = X at *
  rcases hP with rfl | rfl | rfl | rfl | rfl | rfl | rfl | rfl <;> split <;> omega

theorem one_le {X P : Int} (X0 : 0 ≤ X) (hP : Pw P) : 0 ≤ X / P * P ∧ X / P * P ≤ X := by
  rcases hP with rfl | rfl | rfl | rfl | rfl | rfl | rfl | rfl <;> omega
theorem one_next {X Z P : Int} (hP : Pw P) (h : Z = X / P * P) : P / 2 = 0 ∧ Z = X ∨ Pw (P / 2) ∧ Z = X / (2 * (P / 2)) * (2 * (P / 2)) := by
  unfold Pw
  rcases hP with rfl | rfl | rfl | rfl | rfl | rfl | rfl | rfl <;> simp <;> omega

set_option maxHeartbeats 1000000 in
theorem rat_c (a : Option Addr) (cap : Nat) (zs : List Int) (k : Nat) (w : World) (rd : RdI .u8 w a zs) :
    Calls Try.prog 31 #[.slice a zs.length cap, .int .i64 k] w fun e w' => e = .returned (.int .u8 (zs.getD k 0)) ∧ w = w' := by
  by_cases hlt : k < zs.length
  · obtain ⟨b, off, x, hx, rfl, hb, cx⟩ := rd.at_ k hlt
    have hk : zs.getD k 0 = x := by rw [List.getD_eq_getElem?_getD, hx]; rfl
    rw [hk]
    have i0 : (0 : Int) ≤ (k : Int) := by omega
    have i1 : (k : Int) < (zs.length : Int) := by omega
    clear hx hk rd hb
    go_enter Try.func31, Try.ntmps31
    go_wp2_with fail
    go_ret
    exact ⟨rfl, rfl⟩
  · rw [getD_out (by omega)]
    have g : decide ((k : Int) < (zs.length : Int)) = false := by rw [decide_eq_false_iff_not]; omega
    clear rd
    go_enter Try.func31, Try.ntmps31
    go_wp2_with fail
    go_ret
    exact ⟨rfl, rfl⟩

set_option maxRecDepth 100000 in
set_option maxHeartbeats 4000000 in
theorem one_c (a b : Int) (w : World) (a0 : 0 ≤ a) (a1 : a ≤ 255) (b0 : 0 ≤ b) (b1 : b ≤ 255) :
    Calls Try.prog 30 #[.int .u8 a, .int .u8 b] w fun e w' => e = .returned (.int .u8 (bx a b)) ∧ ∃ m, w' = w.drewN m := by
  have hX := bx_lt a0 a1 b0 b1
  have HSt := Lib.hid (fun P (hP : Pw P) => one_step (a := a) (b := b) a0 b0 hP)
  obtain ⟨X, hXe⟩ : ∃ X, X = bx a b := ⟨_, rfl⟩
  rw [← hXe] at hX HSt ⊢
  obtain ⟨X0, X1⟩ := hX
  clear hXe
  go_enter Try.func30, Try.ntmps30
  go_wp2_with fail
  go_loopw [5, 6] (fun o p wr => ∃ (P : Int) (m : Nat), wr = w.drewN m ∧ p = .int .i64 P ∧ (P = 0 ∧ o = .int .u8 X ∨ Pw P ∧ o = .int .u8 (X / (2 * P) * (2 * P)))) (fun _ p _ => (intOf p).toNat)
  case atStart => exact ⟨128, 0, rfl, rfl, .inr ⟨by unfold Pw; omega, by rw [show X / (2 * 128) * (2 * 128) = 0 from by omega]⟩⟩
  case round =>
    obtain ⟨P, m, hwr, rfl, ⟨rfl, rfl⟩ | ⟨hP, rfl⟩⟩ := hrel
    · go_wp2_with fail
      go_ret
      exact ⟨rfl, m, by first | exact hwr | rfl⟩
    · have hPb : 1 ≤ P ∧ P ≤ 128 := by unfold Pw at hP; omega
      obtain ⟨P0, P1⟩ := hPb
      obtain ⟨Y, hY⟩ : ∃ Y, Y = X / (2 * P) * (2 * P) := ⟨_, rfl⟩
      rw [← hY]
      have HP := Lib.hid hP
      have HYe := Lib.hid hY
      obtain ⟨wi, hwi⟩ : ∃ wi : World, wi = wr := ⟨_, rfl⟩
      rw [← hwi] at hwr ⊢
      have HWr := Lib.hid hwr
      clear hP hwi hwr hY
      go_wp2_with fail
      go_quiet (fail)
      go_wp2_with fail
      all_goals
        rename_i hb
        have hst := HSt.out P HP.out
        rw [← HYe.out] at hst
        have ea : (a / P).tmod 2 = a / P % 2 := Int.tmod_eq_emod_of_nonneg (Int.ediv_nonneg a0 (by omega))
        have eb : (b / P).tmod 2 = b / P % 2 := Int.tmod_eq_emod_of_nonneg (Int.ediv_nonneg b0 (by omega))
        rw [ea, eb] at hb
        have hX8 := one_le (X := X) X0 HP.out
        obtain ⟨Z, hZ⟩ : ∃ Z, Z = X / P * P := ⟨_, rfl⟩
      · rw [if_neg (by simpa using hb)] at hst
        refine ⟨⟨P / 2, m + nq, by rw [HWr.out]; simp, rfl, ?_⟩, by simp [intOf]; omega⟩
        rcases one_next (X := X) (Z := Y + P) HP.out hst with ⟨h1, h2⟩ | ⟨h1, h2⟩
        · exact .inl ⟨h1, by rw [← h2]; exact congrArg (Value.int .u8) (by rw [← hZ] at hst hX8; omega)⟩
        · exact .inr ⟨h1, by rw [← h2]; exact congrArg (Value.int .u8) (by rw [← hZ] at hst hX8; omega)⟩
      · rw [if_pos (by simpa using hb)] at hst
        refine ⟨⟨P / 2, m + nq, by rw [HWr.out]; simp, rfl, ?_⟩, by simp [intOf]; omega⟩
        rcases one_next (X := X) (Z := Y) HP.out (by omega) with ⟨h1, h2⟩ | ⟨h1, h2⟩
        · exact .inl ⟨h1, by rw [h2]⟩
        · exact .inr ⟨h1, by rw [← h2]⟩

end Go.Proofs.Ytmdjdhbnigppcaa
