/-
  THE WALKS of link.way, confluxref28.Way, confluxref13.Few, confluxref01.SameAll.
-/
import Derived.Test.YtekjpkppfcmjdaaLiP
set_option linter.unusedVariables false
set_option linter.unusedSimpArgs false
namespace Go.Proofs.Ytekjpkppfcmjdaa
open Go.RowKit

set_option maxHeartbeats 4000000 in
theorem way_c (a : Option Addr) (c : Nat) (ch : List Int) (i : Nat) (w : World) (rd : RdI .i64 w a ch) : Calls Try.prog 22 #[.slice a ch.length c, .int .i64 (i : Int)] w fun e w' => e = .returned (.int .i64 (wy ch i : Int)) ∧ w = w' := by
  by_cases hlt : i < ch.length
  · obtain ⟨b, off, x, hx, rfl, hb, hc⟩ := rd.at_ i hlt
    obtain ⟨z, hz, z1, z2, z3, _, _⟩ := tmod8 x
    have hk : (wy ch i : Int) = x % 8 := by
      unfold wy
      rw [if_pos hlt, List.getD_eq_getElem?_getD, hx]
      simp only [Option.getD_some]
      omega
    obtain ⟨k, hk2⟩ : ∃ k, k = wy ch i := ⟨_, rfl⟩
    rw [← hk2] at hk ⊢
    have e1 : IntKind.i64.wrap z = z := IntWalk.i64_in _ (by omega)
    have e2 : IntKind.i64.wrap (z + 8) = z + 8 := IntWalk.i64_in _ (by omega)
    have e3 : Int.tmod (z + 8) 8 = (k : Int) := by rw [Int.tmod_eq_emod_of_nonneg (by omega)]; omega
    have e4 : (z + 8) % 8 = (k : Int) := by omega
    have e5 : IntKind.i64.wrap (k : Int) = (k : Int) := IntWalk.i64_in _ (by omega)
    have t1 : decide (ch.length ≤ i) = false := decide_eq_false (by omega)
    have i1 : (0 : Int) ≤ (i : Int) := by omega
    have i2 : (i : Int) < (ch.length : Int) := by omega
    clear hx z3 hk hk2 rd
    go_enter Try.func22, Try.ntmps22
    go_wp2_with fail
    go_ret
    exact ⟨rfl, rfl⟩
  · have t1 : decide (ch.length ≤ i) = true := decide_eq_true (by omega)
    have hk : wy ch i = 0 := if_neg hlt
    rw [hk]
    clear hlt rd hk
    go_enter Try.func22, Try.ntmps22
    go_wp2_with fail
    go_ret
    exact ⟨rfl, rfl⟩
set_option maxHeartbeats 4000000 in
theorem rway_c (a : Option Addr) (c : Nat) (ch : List Int) (i : Nat) (w : World) (rd : RdI .i64 w a ch) : Calls Try.prog 12 #[.slice a ch.length c, .int .i64 (i : Int)] w fun e w' => e = .returned (.int .i64 (wy ch i : Int)) ∧ w = w' := by
  by_cases hlt : i < ch.length
  · obtain ⟨b, off, x, hx, rfl, hb, hc⟩ := rd.at_ i hlt
    obtain ⟨z, hz, z1, z2, z3, z4, z5⟩ := tmod8 x
    have hk : (wy ch i : Int) = x % 8 := by
      unfold wy
      rw [if_pos hlt, List.getD_eq_getElem?_getD, hx]
      simp only [Option.getD_some]
      omega
    obtain ⟨k, hk2⟩ : ∃ k, k = wy ch i := ⟨_, rfl⟩
    rw [← hk2] at hk ⊢
    have t1 : decide (ch.length ≤ i) = false := decide_eq_false (by omega)
    have i1 : (0 : Int) ≤ (i : Int) := by omega
    have i2 : (i : Int) < (ch.length : Int) := by omega
    by_cases hn : z < 0
    · have t2 : decide (z < 0) = true := decide_eq_true hn
      have e2 : IntKind.i64.wrap (z + 8) = z + 8 := IntWalk.i64_in _ (by omega)
      have e3 : z + 8 = (k : Int) := by omega
      clear hx z3 z4 z5 hk hk2 rd
      go_enter Try.func12, Try.ntmps12
      go_wp2_with fail
      go_ret
      exact ⟨by rw [← e3]; rfl, rfl⟩
    · have t2 : decide (z < 0) = false := decide_eq_false hn
      have e3 : z = (k : Int) := by omega
      clear hx z3 z4 z5 hk hk2 rd
      go_enter Try.func12, Try.ntmps12
      go_wp2_with fail
      go_ret
      exact ⟨by rw [← e3]; rfl, rfl⟩
  · have t1 : decide (ch.length ≤ i) = true := decide_eq_true (by omega)
    have hk : wy ch i = 0 := if_neg hlt
    rw [hk]
    clear hlt rd hk
    go_enter Try.func12, Try.ntmps12
    go_wp2_with fail
    go_ret
    exact ⟨rfl, rfl⟩
/-- Few byte strings of few bytes. -/
def fewY (bs : List Yt) (n m : Nat) : Bool := decide (bs.length ≤ n) && bs.all fun b => decide (b.zs.length ≤ m)
theorem few_yes {bs : List Yt} {n m : Nat} : fewY bs n m = true ↔ bs.length ≤ n ∧ ∀ b ∈ bs, b.zs.length ≤ m := by
  unfold fewY
  simp
set_option maxHeartbeats 4000000 in
theorem few_c (a : Option Addr) (c : Nat) (bs : List Yt) (n m : Nat) (w : World) (rd : RdYs w a bs) (hn : n ≤ 1000) (hm : m ≤ 1000000) (hl : bs.length ≤ 9223372036854775807) :
    Calls Try.prog 7 #[.slice a bs.length c, .int .i64 (n : Int), .int .i64 (m : Int)] w fun e w' => e = .returned (.bool (fewY bs n m) ) ∧ w = w' := by
  have HR := Lib.hid rd
  clear rd
  go_enter Try.func7, Try.ntmps7
  go_wp2_with fail
  go_loop [7] (fun i => ∃ k : Nat, k ≤ bs.length ∧ k ≤ n + 1 ∧ i = .int .i64 (k : Int) ∧ ∀ j b, j < k → bs[j]? = some b → b.zs.length ≤ m) (fun i => bs.length - (intOf i).toNat)
  case atStart => exact ⟨0, Nat.zero_le _, Nat.zero_le _, rfl, fun j b hj => absurd hj (Nat.not_lt_zero _)⟩
  case round =>
    obtain ⟨k, hk, hk2, rfl, hall⟩ := hrel
    by_cases hlt : k < bs.length
    · have t1 : decide (k < bs.length) = true := decide_eq_true (by omega)
      by_cases hle : k ≤ n
      · have t2 : decide (k ≤ n) = true := decide_eq_true (by omega)
        obtain ⟨b, hb⟩ : ∃ b, bs[k]? = some b := ⟨_, List.getElem?_eq_getElem hlt⟩
        obtain ⟨g, off, p, q, rfl, hc, -, -, -, -, -⟩ := HR.out.at_ hb
        have i1 : (0 : Int) ≤ (k : Int) := by omega
        have i2 : (k : Int) < (bs.length : Int) := by omega
        by_cases hgt : m < b.zs.length
        · have t3 : decide (m < b.zs.length) = true := decide_eq_true (by omega)
          have hf : fewY bs n m = false := by
            rw [Bool.eq_false_iff]
            intro h
            have := (few_yes.1 h).2 b (List.mem_of_getElem? hb)
            omega
          have HF := Lib.hid hf
          clear hall hb hf
          go_wp2_with fail
          go_ret
          exact ⟨by rw [HF.out]; rfl, rfl⟩
        · have t3 : decide (m < b.zs.length) = false := decide_eq_false (by omega)
          have HA := Lib.hid (show ∀ j d, j < k + 1 → bs[j]? = some d → d.zs.length ≤ m from fun j d hj hd => by
            by_cases he : j = k
            · subst he; rw [hb] at hd; injection hd with hd; subst hd; omega
            · exact hall j d (by omega) hd)
          clear hall hb
          go_wp2_with fail
          exact ⟨⟨k + 1, by omega, by omega, by go_num, HA.out⟩, by simp [intOf]; omega⟩
      · have t2 : decide (k ≤ n) = false := decide_eq_false (by omega)
        have t4 : decide (bs.length ≤ n) = false := decide_eq_false (by omega)
        have hf : fewY bs n m = false := by
          rw [Bool.eq_false_iff]
          intro h
          have := (few_yes.1 h).1
          omega
        have HF := Lib.hid hf
        clear hall hf
        go_wp2_with fail
        go_ret
        exact ⟨by rw [HF.out]; rfl, rfl⟩
    · have t1 : decide (k < bs.length) = false := decide_eq_false (by omega)
      have hf : fewY bs n m = decide (bs.length ≤ n) := by
        unfold fewY
        rw [show (bs.all fun b => decide (b.zs.length ≤ m)) = true from List.all_eq_true.2 fun b hb => by
          obtain ⟨j, hj⟩ := List.getElem?_of_mem hb
          have := (List.getElem?_eq_some_iff.1 hj).1
          exact decide_eq_true (hall j b (by omega) hj), Bool.and_true]
      obtain ⟨D, hD⟩ : ∃ D, D = decide (bs.length ≤ n) := ⟨_, rfl⟩
      have t4 : decide (bs.length ≤ n) = D := hD.symm
      rw [← hD] at hf
      have HF := Lib.hid hf
      clear hall hf hD
      go_wp2_with fail
      go_ret
      exact ⟨by rw [HF.out]; rfl, rfl⟩
end Go.Proofs.Ytekjpkppfcmjdaa
