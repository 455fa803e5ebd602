/-
  THE PLAIN LAW of packets within half a round: the greatest counts, not the order.
-/
import Derived.Test.YtbodmoefogkciaaRpL
import Derived.IntWalk
set_option linter.unusedVariables false
set_option linter.unusedSimpArgs false
namespace Go.Proofs.Ytbodmoefogkciaa

theorem stP_any (j x r : Int) (j0 : 0 ≤ j) (j1 : j ≤ 1023) (x0 : 0 ≤ x) (x1 : x ≤ 1023) : (stP 1000 j r 0 0).note (1000 + x) 0 0 = stP 1000 (max j x) (r + 1) 0 0 := by
  have h1 : wOut (4294967296 + 1000 + j) (1000 + x) = 4294967296 + 1000 + x := by unfold wOut ah16; rw [if_neg (by omega)]; omega
  have h2 : wHi (4294967296 + 1000 + j) (1000 + x) = 4294967296 + 1000 + max j x := by unfold wHi; rw [h1]; split <;> omega
  have h3 : ¬ (4294967296 + 1000 + j < 0) := by omega
  simp only [St.note, stP, h1, h2, h3, if_false, St.shift]
  congr 1

theorem stM_ok (j r : Int) (j0 : 0 ≤ j) (j1 : j ≤ 1023) (r0 : 0 ≤ r) (r1 : r ≤ 1000) : (stP 1000 j r 0 0).ok 300 := by
  have z0 : (0 : Int) ≤ 0 := by decide
  have z1 : (0 : Int) ≤ 1125899906842624 := by decide
  have z2 : (0 : Int) ≤ 4294967295 := by decide
  have z3 : (0 : Int) ≤ 1099511627776 := by decide
  have z4 : (0 : Int) ≤ 70000000 := by decide
  have z5 : (0 : Int) ≤ 1000 := by decide
  refine ⟨?_, by decide, ?_, ?_, r0, r1, z0, z1, z0, z2, z0, z3, z0, z4, z0, z5, ?_⟩ <;> simp only [stP]
  · right; omega
  · omega
  · omega
  · intro _; omega
/-- The greatest of the first i. -/
def mx (g : Nat → Int) : Nat → Int
  | 0 => 0
  | i + 1 => max (mx g i) (g i)
theorem mx_in (g : Nat → Int) (hg : ∀ i, 0 ≤ g i ∧ g i ≤ 1023) (i : Nat) : 0 ≤ mx g i ∧ mx g i ≤ 1023 := by
  induction i with
  | zero => simp [mx]
  | succ i ih => have := hg i; simp only [mx]; omega
/-- With the k-th and the one behind it swapped. -/
def mz (g : Nat → Int) (k i : Nat) : Int := if i = k + 1 then max (mx g k) (g (k + 1)) else mx g i
def sw (k i : Nat) : Nat := if i = k + 1 then k else if i = k then k + 1 else i
theorem mz_zero (g : Nat → Int) (k : Nat) : mz g k 0 = 0 := by unfold mz; rw [if_neg (by omega)]; rfl
theorem mz_step (g : Nat → Int) (k i : Nat) : mz g k (i + 1) = max (mz g k i) (g (sw k i)) := by
  unfold mz sw
  by_cases h1 : i = k
  · subst h1; rw [if_pos rfl, if_neg (by omega), if_neg (by omega), if_pos rfl]
  · by_cases h2 : i = k + 1
    · subst h2; rw [if_neg (by omega), if_pos rfl, if_pos rfl]; simp only [mx]; omega
    · rw [if_neg (by omega), if_neg h2, if_neg h2, if_neg h1]; rfl
theorem mz_end (g : Nat → Int) (k n : Nat) (h : k + 2 ≤ n) : mz g k n = mx g n := by unfold mz; rw [if_neg (by omega)]
theorem mz_in (g : Nat → Int) (hg : ∀ i, 0 ≤ g i ∧ g i ≤ 1023) (k i : Nat) : 0 ≤ mz g k i ∧ mz g k i ≤ 1023 := by
  unfold mz
  have := mx_in g hg k
  have := mx_in g hg i
  have := hg (k + 1)
  split <;> omega

end Go.Proofs.Ytbodmoefogkciaa
