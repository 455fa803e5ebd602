/-
  THE WALK of the law TableCosts.
-/
import Derived.Test.YthholboipbfklaaTaG
set_option linter.unusedVariables false
set_option linter.unusedSimpArgs false
namespace Go.Proofs.Ythholboipbfklaa
open Go.RowKit

theorem tcount_twice (kind l k : Int) (k0 : 1 ≤ k) (k1 : k ≤ 48) : tcount kind l (2 * k) ≤ 2 * tcount kind l k := by
  unfold tcount
  have hq : upTo k 48 = k := by unfold upTo; omega
  have hq2 : upTo (2 * k) 48 ≤ 2 * k := by unfold upTo; omega
  have hq3 : 1 ≤ upTo (2 * k) 48 := by unfold upTo; omega
  have l0 := upTo_ge l 255 (by decide)
  rw [hq]
  obtain ⟨L, hL⟩ : ∃ L, L = upTo l 255 := ⟨_, rfl⟩
  obtain ⟨q, hqq⟩ : ∃ q, q = upTo (2 * k) 48 := ⟨_, rfl⟩
  rw [← hL] at l0 ⊢
  rw [← hqq] at hq2 hq3 ⊢
  have hm : q * L ≤ 2 * (k * L) := by
    have := Int.mul_le_mul_of_nonneg_right hq2 l0
    rw [Int.mul_assoc] at this
    exact this
  have hp : 0 ≤ q * L := Int.mul_nonneg (by omega) l0
  have hp' : 0 ≤ k * L := Int.mul_nonneg (by omega) l0
  unfold tcnt
  by_cases h : L = 0
  · rw [if_pos (.inl h), if_pos (.inl h)]; omega
  · have h1 : ¬ (L = 0 ∨ q = 0) := by omega
    have h2 : ¬ (L = 0 ∨ k = 0) := by omega
    rw [if_neg h1, if_neg h2]
    split <;> omega

/-- What the two least losses have to do with each other. -/
theorem least_facts {kind k n l m : Int} {ok is : Bool} (h : isLeast kind k n l ok) (h' : isLeast kind k (n + 1) m is) :
    (ok = false ∧ is = false ∧ tcount kind 255 k < n) ∨ (ok = true ∧ n ≤ tcount kind 255 k ∧ 0 ≤ l ∧ l ≤ 255 ∧ n ≤ tcount kind l k ∧ (0 < l → tcount kind (l - 1) k < n) ∧ (is = false ∨ is = true ∧ l ≤ m)) := by
  rcases h with ⟨rfl, a, ha, rfl, hn, hl⟩ | ⟨rfl, rfl, hl⟩
  · refine .inr ⟨rfl, Int.le_trans hn (tcount_mono kind k (by omega)), by omega, by omega, hn, fun h0 => ?_, ?_⟩
    · have := hl (a - 1) (by omega)
      rwa [show ((a - 1 : Nat) : Int) = (a : Int) - 1 by omega] at this
    · rcases h' with ⟨rfl, b, hb, rfl, hn', hl'⟩ | ⟨rfl, _, _⟩
      · refine .inr ⟨rfl, ?_⟩
        by_cases hab : a ≤ b
        · omega
        · have := hl b (by omega); omega
      · exact .inl rfl
  · refine .inl ⟨rfl, ?_, hl 255 (by omega)⟩
    rcases h' with ⟨rfl, b, hb, rfl, hn', hl'⟩ | ⟨rfl, _, _⟩
    · have := hl b hb; omega
    · rfl

set_option maxRecDepth 100000 in
set_option maxHeartbeats 16000000 in
theorem tableCosts_w (w : World) (kind : Int) (wl : (Lit.int .i64 kind).wf = true) (k : Int) (wk : (Lit.int .i64 k).wf = true) (n : Int) (wm : (Lit.int .i64 n).wf = true) :
    Calls Try.prog 6 #[.int .i64 kind, .int .i64 k, .int .i64 n] w fun e w' => e = .returned (.bool true) ∧ Below w.heap.size w w' := by
  obtain ⟨z, hz⟩ : ∃ z, bits .and .i64 k 63 = z := ⟨_, rfl⟩
  have hzb := and_i64 k 63 (by omega) (by omega)
  obtain ⟨m, hm⟩ : ∃ z, bits .and .i64 n 63 = z := ⟨_, rfl⟩
  have hmb := and_i64 n 63 (by omega) (by omega)
  rw [hz] at hzb
  rw [hm] at hmb
  obtain ⟨z0, z1⟩ := hzb
  obtain ⟨m0, m1⟩ := hmb
  obtain ⟨q, hq⟩ : ∃ q, 1 + z % 48 = q := ⟨_, rfl⟩
  have q0 : 1 ≤ q := by omega
  have q1 : q ≤ 48 := by omega
  have q2 : q ≠ 0 := by omega
  clear wl wk wm
  go_enter Try.func6, Try.ntmps6
  go_wp2_with fail
  refine (alive_c _).mono ?_
  rintro e w1 ⟨rfl, hf⟩
  have HF := Lib.hid hf
  clear hf
  go_wp2_with fail
  refine (least_c kind q m w1).mono ?_
  rintro e w2 ⟨l, ok, rfl, hl, hf⟩
  have HF2 := Lib.hid (HF.out.trans hf)
  have HL := Lib.hid hl
  clear hf hl
  go_wp2_with fail
  refine (least_c kind q (m + 1) w2).mono ?_
  rintro e w3 ⟨l', is, rfl, hl', hf⟩
  have HF3 := Lib.hid (HF2.out.trans hf)
  have hfa := least_facts HL.out hl'
  clear hf hl'
  obtain ⟨T, hT⟩ : ∃ T, T = tcount kind 255 q := ⟨_, rfl⟩
  rw [← hT] at hfa
  have HT := Lib.hid hT
  clear hT
  go_wp2_with fail
  refine (tcount_c kind 255 q _).mono ?_
  rintro e w' ⟨rfl, rfl⟩
  rw [← HT.out]
  obtain ⟨X, hX⟩ : ∃ X, X = tcount kind l q := ⟨_, rfl⟩
  obtain ⟨Y, hY⟩ : ∃ Y, Y = tcount kind (l - 1) q := ⟨_, rfl⟩
  rw [← hX, ← hY] at hfa
  have HX := Lib.hid hX
  have HY := Lib.hid hY
  clear hX hY
  rcases hfa with ⟨rfl, rfl, h1⟩ | ⟨rfl, h1, h2, h2b, h3, h4, h5⟩
  case' inl =>
    have e1 : decide (m ≤ T) = false := by rw [decide_eq_false_iff_not]; omega
    go_wp2_with fail
  case' inr =>
    have e1 : decide (m ≤ T) = true := by simpa using h1
    have e2 : decide (X < m) = false := by rw [decide_eq_false_iff_not]; omega
    have hp : (decide (0 < l) = false ∧ True ∧ True) ∨ (decide (0 < l) = true ∧ decide (m ≤ Y) = false ∧ 0 < l) := by
      by_cases h : 0 < l
      · exact .inr ⟨by simpa using h, by rw [decide_eq_false_iff_not]; have := h4 h; omega, h⟩
      · exact .inl ⟨by simpa using h, trivial, trivial⟩
    have hi : (is = false ∧ True) ∨ (is = true ∧ decide (l' < l) = false) := by
      rcases h5 with h | ⟨h, h6⟩
      · exact .inl ⟨h, trivial⟩
      · exact .inr ⟨h, by rw [decide_eq_false_iff_not]; omega⟩
    have l3 : l ≤ 255 := h2b
    clear h4 h5
    rcases hp with ⟨g1, g2, g4⟩ | ⟨g1, g2, g4⟩ <;> rcases hi with ⟨rfl, g3⟩ | ⟨rfl, g3⟩
    all_goals
      go_wp2_with fail
      refine (tcount_c kind l q _).mono ?_
      rintro e w' ⟨rfl, rfl⟩
      rw [← HX.out]
      go_wp2_with fail
      try ((with_reducible refine (tcount_c kind (l - 1) q _).mono ?_); rintro e w' ⟨rfl, rfl⟩; rw [← HY.out]; go_wp2_with fail)
  all_goals
    go_loopw [11] (fun i wr => ∃ j d : Nat, j ≤ 18 ∧ i = .int .i64 ((15 * j : Nat) : Int) ∧ wr = w3.drewN d) (fun i _ => 270 - (intOf i).toNat)
    case atStart => exact ⟨0, 0, Nat.zero_le _, rfl, rfl⟩
    case round =>
      obtain ⟨j, d, hj, rfl, hwr⟩ := hrel
      obtain ⟨wi, hwi⟩ : ∃ wi : World, wi = wr := ⟨_, rfl⟩
      rw [← hwi] at hwr ⊢
      have HW := Lib.hid hwr
      clear hwi hwr
      obtain ⟨u, hu⟩ : ∃ u : Nat, u = 15 * j := ⟨_, rfl⟩
      rw [← hu]
      by_cases hlt : j < 18
      · have i1 : (u : Int) < 256 := by omega
        obtain ⟨A, hA⟩ : ∃ A, A = tcount kind u q := ⟨_, rfl⟩
        obtain ⟨B, hB⟩ : ∃ B, B = tcount kind u (2 * q) := ⟨_, rfl⟩
        obtain ⟨C, hC⟩ : ∃ C, C = A * 100 / q := ⟨_, rfl⟩
        have hb := tcount_bd kind u q
        rw [← hA] at hb
        obtain ⟨b0, b1⟩ := hb
        have b2 : A ≤ 48 := by unfold upTo at b1; omega
        have b3 : B ≤ 2 * A := by rw [hA, hB]; exact tcount_twice kind u q q0 q1
        have b4 : decide (2 * A < B) = false := by rw [decide_eq_false_iff_not]; omega
        have hcost : (if upTo q 48 = 0 then 0 else tcount kind u q * 100 / upTo q 48) = C := by
          have : upTo q 48 = q := by unfold upTo; omega
          rw [this, if_neg q2, hC, hA]
        have HCo := Lib.hid (fun w => same_of (hcost ▸ cost_c kind u q w))
        have c1 : (C != C) = false := by simp
        have HA := Lib.hid hA
        have HB := Lib.hid hB
        have HU := Lib.hid hu
        have hCd : A * 100 / q = C := hC.symm
        clear hA hB hC hcost hu b1
        go_wp2_with fail
        refine (tcount_c kind u q _).mono ?_
        rintro e w' ⟨rfl, rfl⟩
        rw [← HA.out]
        go_wp2_with fail
        refine (tcount_c kind u (2 * q) _).mono ?_
        rintro e w' ⟨rfl, rfl⟩
        rw [← HB.out]
        go_wp2_with fail
        go_quiet ((go_at_call 15; exact Calls.quiet_of_same (HCo.out _)))
        go_wp2_with fail
        refine ⟨⟨j + 1, d + nq, by omega, by have := HU.out; go_num, by rw [HW.out]; simp⟩, by simp [intOf]; omega⟩
      · have g1 : decide ((u : Int) < 256) = false := by rw [decide_eq_false_iff_not]; omega
        go_wp2_with fail
        go_ret
        exact ⟨rfl, by rw [HW.out]; exact (HF3.out.drewN d).below⟩

end Go.Proofs.Ythholboipbfklaa
