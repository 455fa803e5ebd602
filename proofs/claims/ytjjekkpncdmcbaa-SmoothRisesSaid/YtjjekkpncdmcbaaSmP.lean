/-
  THE PLAIN LAW of package smooth: what feeding does to the fine value; no program in sight.
-/
import Derived.Test.YtjjekkpncdmcbaaK
set_option linter.unusedVariables false
set_option linter.unusedSimpArgs false
namespace Go.Proofs.Ytjjekkpncdmcbaa

/-- A loss within its bounds. -/
def clamp (x : Int) : Int := min (max x 0) 255
theorem clamp_ge (x : Int) : 0 ≤ clamp x := by unfold clamp; omega
theorem clamp_le (x : Int) : clamp x ≤ 255 := by unfold clamp; omega
theorem clamp_of (x : Int) (h0 : 0 ≤ x) (h1 : x ≤ 255) : clamp x = x := by unfold clamp; omega
theorem clamp_mono {x y : Int} (h : x ≤ y) : clamp x ≤ clamp y := by unfold clamp; omega
theorem clamp_clamp (x : Int) : clamp (clamp x) = clamp x := by unfold clamp; omega

/-- What one more loss, told as x (256 times it), makes of the fine value. -/
def stepF (f x : Int) : Int := if f < x then f + (x - f + 1) / 2 else f - (f - x + 7) / 8
/-- The whole value. -/
def val (f : Int) : Int := (f + 255) / 256

theorem stepF_ge (f x : Int) (h0 : 0 ≤ f) (h1 : 0 ≤ x) : 0 ≤ stepF f x := by unfold stepF; split <;> omega
theorem stepF_le (f x : Int) (h0 : f ≤ 65280) (h1 : x ≤ 65280) : stepF f x ≤ 65280 := by unfold stepF; split <;> omega
theorem stepF_mono {f g x y : Int} (h : f ≤ g) (k : x ≤ y) : stepF f x ≤ stepF g y := by unfold stepF; split <;> split <;> omega
theorem val_mono {f g : Int} (h : f ≤ g) : val f ≤ val g := by unfold val; omega
theorem val_256 (x : Int) : val (256 * x) = x := by unfold val; omega
theorem stepF_lo (f x lo : Int) (h0 : lo ≤ f) (h1 : lo ≤ x) : lo ≤ stepF f x := by unfold stepF; split <;> omega
theorem stepF_hi (f x hi : Int) (h0 : f ≤ hi) (h1 : x ≤ hi) : stepF f x ≤ hi := by unfold stepF; split <;> omega

/-- Rising: told a loss whose value is not yet come to. -/
theorem stepF_rise (f b : Int) (h : val f < b) : f < stepF f (256 * b) ∧ stepF f (256 * b) ≤ 256 * b := by unfold val at h; unfold stepF; split <;> omega
theorem stepF_fall (f b : Int) (h : b < val f) : stepF f (256 * b) < f ∧ 256 * b ≤ stepF f (256 * b) := by unfold val at h; unfold stepF; split <;> omega

/-- The fine value behind k feeds of one loss. -/
def fsF (x : Int) : Nat → Int → Int
  | 0, f => f
  | k + 1, f => stepF (fsF x k f) x
theorem fsF_ge (x : Int) (h1 : 0 ≤ x) (f : Int) (h0 : 0 ≤ f) : ∀ k, 0 ≤ fsF x k f
  | 0 => h0
  | k + 1 => stepF_ge _ _ (fsF_ge x h1 f h0 k) h1
theorem fsF_le (x : Int) (h1 : x ≤ 65280) (f : Int) (h0 : f ≤ 65280) : ∀ k, fsF x k f ≤ 65280
  | 0 => h0
  | k + 1 => stepF_le _ _ (fsF_le x h1 f h0 k) h1

/-- How far above: it falls as from the greatest distance, or faster. -/
def fallD (d : Int) : Nat → Int
  | 0 => d
  | k + 1 => fallD d k - (fallD d k + 7) / 8
def riseD (d : Int) : Nat → Int
  | 0 => d
  | k + 1 => riseD d k / 2
theorem fallD_mono {d e : Int} (h : d ≤ e) : ∀ k, fallD d k ≤ fallD e k
  | 0 => h
  | k + 1 => by have := fallD_mono h k; simp only [fallD]; omega
theorem riseD_mono {d e : Int} (h : d ≤ e) : ∀ k, riseD d k ≤ riseD e k
  | 0 => h
  | k + 1 => by have := riseD_mono h k; simp only [riseD]; omega
theorem fallD_end : fallD 65280 100 = 0 := by decide +kernel
theorem riseD_end : riseD 65280 100 = 0 := by decide +kernel
theorem fallD_nonneg {d : Int} (h : 0 ≤ d) : ∀ k, 0 ≤ fallD d k
  | 0 => h
  | k + 1 => by have := fallD_nonneg h k; simp only [fallD]; omega
theorem fsF_fall (b f : Int) (h : 256 * b ≤ f) : ∀ k, fsF (256 * b) k f = 256 * b + fallD (f - 256 * b) k
  | 0 => by simp only [fsF, fallD]; omega
  | k + 1 => by
    have h1 := fsF_fall b f h k
    have h2 := fallD_nonneg (d := f - 256 * b) (by omega) k
    simp only [fsF, fallD, h1, stepF]
    rw [if_neg (by omega)]
    congr 1
    omega
theorem riseD_nonneg {d : Int} (h : 0 ≤ d) : ∀ k, 0 ≤ riseD d k
  | 0 => h
  | k + 1 => by have := riseD_nonneg h k; simp only [riseD]; omega
theorem fsF_rise (b f : Int) (h : f ≤ 256 * b) : ∀ k, fsF (256 * b) k f = 256 * b - riseD (256 * b - f) k
  | 0 => by simp only [fsF, riseD]; omega
  | k + 1 => by
    have h1 := fsF_rise b f h k
    have h2 := riseD_nonneg (d := 256 * b - f) (by omega) k
    simp only [fsF, riseD, h1, stepF]
    split <;> omega

/-- Behind 100 feeds the value is come to. -/
theorem fsF_100 (b f : Int) (h0 : 0 ≤ f) (h1 : f ≤ 65280) (h2 : 0 ≤ b) (h3 : b ≤ 255) : val (fsF (256 * b) 100 f) = b := by
  by_cases h : 256 * b ≤ f
  · rw [fsF_fall b f h]
    have a := fallD_mono (d := f - 256 * b) (e := 65280) (by omega) 100
    have c := fallD_nonneg (d := f - 256 * b) (by omega) 100
    rw [fallD_end] at a
    unfold val; omega
  · rw [fsF_rise b f (by omega)]
    have a := riseD_mono (d := 256 * b - f) (e := 65280) (by omega) 100
    have c := riseD_nonneg (d := 256 * b - f) (by omega) 100
    rw [riseD_end] at a
    unfold val; omega

/-- The least count of feeds at which the value is come to, m at most. -/
def nstF (b f : Int) : Nat → Nat
  | 0 => 0
  | m + 1 => if val (fsF (256 * b) (nstF b f m) f) = b then nstF b f m else m + 1
theorem nstF_le (b f : Int) : ∀ m, nstF b f m ≤ m
  | 0 => Nat.le_refl _
  | m + 1 => by have := nstF_le b f m; simp only [nstF]; split <;> omega
theorem nstF_before (b f : Int) : ∀ m k, k < nstF b f m → val (fsF (256 * b) k f) ≠ b
  | 0, k, h => by simp [nstF] at h
  | m + 1, k, h => by
    simp only [nstF] at h
    split at h
    · exact nstF_before b f m k h
    · rename_i hn
      by_cases hk : k < nstF b f m
      · exact nstF_before b f m k hk
      · -- the value was not come to at nstF m; were it come to at some place behind, below m + 1, take the shape of nstF
        have hm : nstF b f m = m := by
          cases m with
          | zero => rfl
          | succ m =>
            simp only [nstF] at hn ⊢
            split at hn
            · rename_i hy; exact absurd hy hn
            · rename_i hy; rw [if_neg hy]
        have : k = m := by omega
        rw [this, ← hm]
        exact hn
theorem nstF_at (b f : Int) (m : Nat) (h : val (fsF (256 * b) m f) = b) : val (fsF (256 * b) (nstF b f m) f) = b := by
  cases m with
  | zero => exact h
  | succ m =>
    simp only [nstF]
    split
    · assumption
    · exact h
/-- Steps from a fine value to a loss. -/
def steps (f b : Int) : Nat := nstF b f 100
theorem steps_le (f b : Int) : steps f b ≤ 100 := nstF_le b f 100
theorem steps_before (f b : Int) (k : Nat) (h : k < steps f b) : val (fsF (256 * b) k f) ≠ b := nstF_before b f 100 k h
theorem steps_at (f b : Int) (h0 : 0 ≤ f) (h1 : f ≤ 65280) (h2 : 0 ≤ b) (h3 : b ≤ 255) : val (fsF (256 * b) (steps f b) f) = b := nstF_at b f 100 (fsF_100 b f h0 h1 h2 h3)
theorem steps_zero (f b : Int) (h : val f = b) : steps f b = 0 := by
  rcases Nat.eq_zero_or_pos (steps f b) with h0 | h0
  · exact h0
  · exact absurd h (steps_before f b 0 h0)
/-- On the way: which side. -/
theorem fsF_side (b f : Int) (k : Nat) (h : val (fsF (256 * b) k f) ≠ b) : (val f < b → val (fsF (256 * b) k f) < b) ∧ (¬ val f < b → b < val (fsF (256 * b) k f)) := by
  constructor
  · intro hv
    have := fsF_rise b f (by unfold val at hv; omega) k
    have h2 := riseD_nonneg (d := 256 * b - f) (by unfold val at hv; omega) k
    rw [this] at h ⊢
    unfold val at h ⊢
    omega
  · intro hv
    by_cases hb : 256 * b ≤ f
    · have := fsF_fall b f hb k
      have h2 := fallD_nonneg (d := f - 256 * b) (by omega) k
      rw [this] at h ⊢
      unfold val at h ⊢
      omega
    · exfalso
      have := fsF_rise b f (by omega) k
      have h2 := riseD_nonneg (d := 256 * b - f) (by omega) k
      have h3 : ∀ j, riseD (256 * b - f) j ≤ 256 * b - f := by
        intro j
        induction j with
        | zero => exact Int.le_refl _
        | succ j ih => have := riseD_nonneg (d := 256 * b - f) (by omega) j; simp only [riseD]; omega
      have h4 := h3 k
      rw [this] at h
      unfold val at h hv
      omega

/-- All losses told, from a state: the fine value. -/
def fineL : List Int → Int → Int
  | [], f => f
  | l :: r, f => fineL r (stepF f (256 * clamp l))
/-- Fine of a row of losses. -/
def fineR : List Int → Int
  | [] => 0
  | l :: r => fineL r (256 * clamp l)
theorem fineL_snoc : ∀ (l : List Int) (f x : Int), fineL (l ++ [x]) f = stepF (fineL l f) (256 * clamp x)
  | [], _, _ => rfl
  | _ :: r, f, x => fineL_snoc r _ x
theorem fineR_snoc (l : List Int) (x : Int) (h : l ≠ []) : fineR (l ++ [x]) = stepF (fineR l) (256 * clamp x) := by
  cases l with
  | nil => exact absurd rfl h
  | cons y r => exact fineL_snoc r _ x
theorem fineL_in : ∀ (l : List Int) (f : Int), 0 ≤ f → f ≤ 65280 → 0 ≤ fineL l f ∧ fineL l f ≤ 65280
  | [], _, h0, h1 => ⟨h0, h1⟩
  | l :: r, f, h0, h1 => by
    have a := clamp_ge l
    have b := clamp_le l
    exact fineL_in r _ (stepF_ge _ _ h0 (by omega)) (stepF_le _ _ h1 (by omega))
theorem fineR_in (l : List Int) : 0 ≤ fineR l ∧ fineR l ≤ 65280 := by
  cases l with
  | nil => exact ⟨by decide, by decide⟩
  | cons y r =>
    have a := clamp_ge y
    have b := clamp_le y
    exact fineL_in r _ (by omega) (by omega)

theorem fineR_take (zs : List Int) (k : Nat) (x : Int) (h : zs[k]? = some x) : fineR (zs.take (k + 1)) = if k = 0 then 256 * clamp x else stepF (fineR (zs.take k)) (256 * clamp x) := by
  have hk : k < zs.length := by
    rcases Nat.lt_or_ge k zs.length with h' | h'
    · exact h'
    · rw [List.getElem?_eq_none h'] at h; cases h
  rw [List.take_add_one, h]
  by_cases h0 : k = 0
  · subst h0; simp [fineR, fineL]
  · rw [if_neg h0]
    exact fineR_snoc _ _ (by intro he; have := congrArg List.length he; rw [List.length_take, List.length_nil] at this; omega)

end Go.Proofs.Ytjjekkpncdmcbaa
