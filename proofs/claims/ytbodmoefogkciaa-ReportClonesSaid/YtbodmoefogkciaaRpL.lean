/-
  THE PLAIN LAWS of packets that come one after the other, some missing.
-/
import Derived.Test.YtbodmoefogkciaaRpP
set_option linter.unusedVariables false
set_option linter.unusedSimpArgs false
namespace Go.Proofs.Ytbodmoefogkciaa

/-- Packets from f on, the last one j behind it, r of them. -/
def stP (f j r ex ca : Int) : St := ⟨4294967296 + f + j, 4294967296 + f, r, 0, 0, 0, ex, ca⟩
theorem stP_ok (f j r ex ca : Int) (f0 : 0 ≤ f) (f1 : f ≤ 65535) (j0 : 0 ≤ j) (j1 : j ≤ 1000) (r0 : 0 ≤ r) (r1 : r ≤ 1000) (e0 : 0 ≤ ex) (e1 : ex ≤ 70000000) (c0 : 0 ≤ ca) (c1 : ca ≤ 1000) : (stP f j r ex ca).ok 300 := by
  have z0 : (0 : Int) ≤ 0 := by decide
  have z1 : (0 : Int) ≤ 1125899906842624 := by decide
  have z2 : (0 : Int) ≤ 4294967295 := by decide
  have z3 : (0 : Int) ≤ 1099511627776 := by decide
  refine ⟨?_, by decide, ?_, ?_, r0, r1, z0, z1, z0, z2, z0, z3, e0, e1, c0, c1, ?_⟩ <;> simp only [stP]
  · right; omega
  · omega
  · omega
  · intro _; omega
theorem stP_first (f : Int) (f0 : 0 ≤ f) (f1 : f ≤ 65535) : St.zero.note f 0 0 = stP f 0 1 0 0 := by
  have h1 : wOut (-1) f = 4294967296 + f := by unfold wOut; rw [if_pos (by decide)]
  have h2 : wHi (-1) f = 4294967296 + f := by unfold wHi; rw [h1, if_pos (by omega)]
  simp only [St.note, St.zero, stP, h1, h2]
  simp
  decide
theorem stP_note (f j i r ex ca : Int) (f0 : 0 ≤ f) (f1 : f ≤ 65535) (j0 : 0 ≤ j) (hj : j ≤ i) (hi : i ≤ 1000) : (stP f j r ex ca).note (add16 f i) 0 0 = stP f i (r + 1) ex ca := by
  have h1 : wOut (4294967296 + f + j) (add16 f i) = 4294967296 + f + i := by unfold wOut ah16 add16; rw [if_neg (by omega)]; omega
  have h2 : wHi (4294967296 + f + j) (add16 f i) = 4294967296 + f + i := by unfold wHi; rw [h1]; split <;> omega
  have h3 : ¬ (4294967296 + f + j < 0) := by omega
  simp only [St.note, stP, h1, h2, h3, if_false, St.shift]
  congr 1
theorem stP_expd (f j r ex ca : Int) (f0 : 0 ≤ f) (j0 : 0 ≤ j) : (stP f j r ex ca).expd = j + 1 := by
  have h3 : ¬ ((stP f j r ex ca).h < 0) := by simp only [stP]; omega
  unfold St.expd; rw [if_neg h3]; simp only [stP]; omega
theorem stP_lost (f j r ex ca : Int) (f0 : 0 ≤ f) (j0 : 0 ≤ j) (j1 : j ≤ 1000) (r0 : 0 ≤ r) (r1 : r ≤ 1000) : (stP f j r ex ca).lost = j + 1 - r := by
  unfold St.lost; rw [stP_expd _ _ _ _ _ f0 j0]; simp only [stP]; omega
theorem stP_high (f j r ex ca : Int) (f0 : 0 ≤ f) (f1 : f ≤ 65535) (j0 : 0 ≤ j) (j1 : j ≤ 1000) : (stP f j r ex ca).high = f + j := by
  have h3 : ¬ ((stP f j r ex ca).h < 0) := by simp only [stP]; omega
  unfold St.high; rw [if_neg h3]; simp only [stP]; omega
theorem stP_jit (f j r ex ca : Int) : (stP f j r ex ca).jitter = 0 := rfl
theorem stP_rep (f j r ex ca : Int) (f0 : 0 ≤ f) (j0 : 0 ≤ j) : (stP f j r ex ca).report = stP f j r (j + 1) r := by
  unfold St.report; rw [stP_expd _ _ _ _ _ f0 j0]; rfl
/-- The fraction: l lost of e since the last report. -/
theorem stP_frac (f j r ex ca e l : Int) (f0 : 0 ≤ f) (j0 : 0 ≤ j) (he : j + 1 - ex = e) (hl : e - (r - ca) = l) : (stP f j r ex ca).fraction = frac e l := by
  unfold St.fraction; rw [stP_expd _ _ _ _ _ f0 j0]; simp only [stP]; rw [he, hl]
theorem frac_low (e l : Int) (l0 : 0 ≤ l) (hl : l < e) : frac e l = l * 256 / e := by
  unfold frac
  by_cases h : l = 0
  · subst h; simp
  · rw [if_neg (by omega)]
    have : l * 256 / e < 256 := Int.ediv_lt_of_lt_mul (by omega) (by omega)
    omega
theorem frac_all (e l : Int) (l0 : 0 ≤ l) (e0 : 0 < e) : frac e l = min (l * 256 / e) 255 := by
  unfold frac
  by_cases h : l = 0
  · subst h; simp; decide
  · rw [if_neg (by omega)]
theorem frac_none (e : Int) : frac e 0 = 0 := by unfold frac; simp

end Go.Proofs.Ytbodmoefogkciaa
