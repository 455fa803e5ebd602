/-
  THE SIZE OF A CHAIN, IN PLAIN LEAN: as it is reckoned, and as it is.
-/
import Derived.Test.YtiknjkkphdncfaaReE
set_option linter.unusedVariables false
set_option linter.unusedSimpArgs false
namespace Go.Proofs.Ytiknjkkphdncfaa
open Go.RowKit

/-- The size as it is. -/
def trueS (n : Nat) (bs : List BkV) (k : Nat) : Int := 1 + 4 * ((if k < n then k else n - 1 : Nat) : Int) + ((catK (fun _ b => b.B) bs k).length : Int)
theorem sizK_true {n : Nat} {bs : List BkV} (hn : n = bs.length) (h0 : 0 < n) : ∀ k, k ≤ n → sizK n bs k = trueS n bs k ∨ (1500 < sizK n bs k ∧ 1500 < trueS n bs k) := by
  intro k
  induction k with
  | zero => intro _; left; unfold trueS; rw [if_pos h0]; simp [sizK, catK]
  | succ k ih =>
    intro hk
    have hx : bs[k]? = some (bs[k]'(by omega)) := List.getElem?_eq_getElem (by omega)
    have h1 := sizK_succ (n := n) hx
    have h2 := catK_succ (fun _ b => b.B) hx
    have hT : trueS n bs (k + 1) = trueS n bs k + ((bs[k]'(by omega)).B.length : Int) + (if k + 1 < n then 4 else 0) := by
      unfold trueS
      rw [h2, List.length_append, if_pos (show k < n by omega)]
      by_cases h : k + 1 < n
      · rw [if_pos h, if_pos h]; omega
      · rw [if_neg h, if_neg h]; omega
    rw [h1, hT]
    obtain ⟨x, hxx⟩ : ∃ x : Int, x = ((bs[k]'(by omega)).B.length : Int) := ⟨_, rfl⟩
    have hx0 : 0 ≤ x := by rw [hxx]; exact Int.natCast_nonneg _
    rw [← hxx]
    rcases ih (by omega) with h | ⟨h3, h4⟩
    · rw [h]
      by_cases hc : trueS n bs k + x < 1501
      · left; rw [if_pos hc]
      · right; rw [if_neg hc]; split <;> omega
    · right
      rw [if_neg (by omega)]
      split <;> omega
theorem hds_len {n : Nat} {bs : List BkV} (hn : n = bs.length) : ∀ k, k ≤ n → ((catK (hdB n) bs k).length : Int) = 4 * ((if k < n then k else n - 1 : Nat) : Int) + (if k < n then 0 else (if n = 0 then 0 else 1)) := by
  intro k
  induction k with
  | zero =>
    intro _
    by_cases h : 0 < n
    · rw [if_pos h, if_pos h]; simp [catK]
    · rw [if_neg h, if_neg h]
      have : n = 0 := by omega
      rw [if_pos this, this]; simp [catK]
  | succ k ih =>
    intro hk
    have hx : bs[k]? = some (bs[k]'(by omega)) := List.getElem?_eq_getElem (by omega)
    rw [catK_succ (hdB n) hx, List.length_append, Int.natCast_add, ih (by omega), if_pos (show k < n by omega), if_pos (show k < n by omega)]
    unfold hdB
    by_cases h : k + 1 = n
    · rw [if_pos h, if_neg (by omega), if_neg (by omega), if_neg (by omega)]
      simp
      omega
    · rw [if_neg h, if_pos (by omega), if_pos (by omega)]
      rw [List.length_cons, bigL_len]
      omega
/-- Too long as it is reckoned: too long as it is. -/
theorem long_iff {bs : List BkV} (h0 : 0 < bs.length) : 1500 < sizK bs.length bs bs.length ↔ 1500 < (((catK (hdB bs.length) bs bs.length).length : Int) + ((catK (fun _ b => b.B) bs bs.length).length : Int)) := by
  have h1 := hds_len (bs := bs) rfl bs.length (Nat.le_refl _)
  rw [if_neg (by omega), if_neg (by omega), if_neg (by omega)] at h1
  have h2 : trueS bs.length bs bs.length = ((catK (hdB bs.length) bs bs.length).length : Int) + ((catK (fun _ b => b.B) bs bs.length).length : Int) := by
    unfold trueS
    rw [if_neg (by omega)]
    omega
  rw [← h2]
  rcases sizK_true (bs := bs) rfl h0 bs.length (Nat.le_refl _) with h | ⟨h3, h4⟩
  · rw [h]
  · exact ⟨fun _ => h4, fun _ => h3⟩

end Go.Proofs.Ytiknjkkphdncfaa
