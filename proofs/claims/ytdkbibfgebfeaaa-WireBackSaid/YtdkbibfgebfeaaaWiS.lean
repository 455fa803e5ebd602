/-
  WHAT IS WRITTEN IS READ, IN PLAIN LEAN.
-/
import Derived.Test.YtdkbibfgebfeaaaWiR
set_option linter.unusedVariables false
set_option linter.unusedSimpArgs false
namespace Go.Proofs.Ytdkbibfgebfeaaa
open Go.RowKit

theorem bigL_succ (n : Int) (k : Nat) : bigL n (k + 1) = n / 256 ^ k % 256 :: bigL n k := bigN'_succ n k
theorem foldl_base (zs : List Int) : ∀ a : Int, zs.foldl (fun a z => a * 256 + z) a = a * 256 ^ zs.length + bigN zs := by
  induction zs with
  | nil => intro a; simp [bigN]
  | cons z zs ih =>
    intro a
    have h1 : bigN (z :: zs) = z * 256 ^ zs.length + bigN zs := by
      unfold bigN
      rw [List.foldl_cons, ih]
      rw [show (0 : Int) * 256 + z = z by omega]
      rfl
    rw [List.foldl_cons, ih, h1, List.length_cons, Int.pow_succ, Int.add_mul, Int.mul_assoc, Int.mul_comm 256 (256 ^ zs.length)]
    omega
theorem bigN_cons (z : Int) (zs : List Int) : bigN (z :: zs) = z * 256 ^ zs.length + bigN zs := by
  show (z :: zs).foldl (fun a z => a * 256 + z) 0 = _
  rw [List.foldl_cons, foldl_base]
  rw [show (0 : Int) * 256 + z = z by omega]
theorem bigN_bigL (n : Int) : ∀ k : Nat, bigN (bigL n k) = n % 256 ^ k := by
  intro k
  induction k with
  | zero => simp [bigL, bigN, Int.emod_one]
  | succ k ih =>
    rw [bigL_succ, bigN_cons, ih, bigL_len, Int.pow_succ]
    have hp : (0 : Int) < 256 ^ k := Int.pow_pos (by decide)
    have h1 := Int.emod_add_mul_ediv n (256 ^ k)
    have h2 := Int.emod_add_mul_ediv (n / 256 ^ k) 256
    have h3 := Int.emod_nonneg n (Int.ne_of_gt hp)
    have h4 := Int.emod_lt_of_pos n hp
    have h5 := Int.emod_nonneg (n / 256 ^ k) (show (256 : Int) ≠ 0 by decide)
    have h6 := Int.emod_lt_of_pos (n / 256 ^ k) (show (0 : Int) < 256 by decide)
    have key : n = (n / 256 ^ k % 256 * 256 ^ k + n % 256 ^ k) + (256 ^ k * 256) * (n / 256 ^ k / 256) := by
      have : 256 ^ k * (n / 256 ^ k) = 256 ^ k * (n / 256 ^ k % 256) + 256 ^ k * (256 * (n / 256 ^ k / 256)) := by rw [← Int.mul_add, h2]
      rw [Int.mul_comm (n / 256 ^ k % 256) (256 ^ k), Int.mul_assoc]
      omega
    have hlt : n / 256 ^ k % 256 * 256 ^ k + n % 256 ^ k < 256 ^ k * 256 := by
      have : n / 256 ^ k % 256 * 256 ^ k ≤ 255 * 256 ^ k := Int.mul_le_mul_of_nonneg_right (by omega) (Int.le_of_lt hp)
      omega
    have hge : 0 ≤ n / 256 ^ k % 256 * 256 ^ k + n % 256 ^ k := Int.add_nonneg (Int.mul_nonneg h5 (Int.le_of_lt hp)) h3
    have e := Int.add_mul_emod_self_left (n / 256 ^ k % 256 * 256 ^ k + n % 256 ^ k) (256 ^ k * 256) (n / 256 ^ k / 256)
    rw [← key] at e
    rw [e, Int.emod_eq_of_lt hge hlt]

/-- Steps and things that fit: numbers alone. -/
def Fits (ss : List Stp) (gs : List GtV) : Prop := ss.length = gs.length ∧ ∀ (i : Nat) (s : Stp) (g : GtV), ss[i]? = some s → gs[i]? = some g → numK s.k = true ∧ 0 ≤ g.N ∧ g.N < 256 ^ s.k.toNat ∧ g.B = []
theorem numK_nat {k : Int} (h : numK k = true) : k.toNat ≤ 8 ∧ 1 ≤ k.toNat := by
  simp only [numK, decide_eq_true_eq] at h
  omega
theorem oneL_num {zs : List Int} {p : Nat} {s : Stp} (h : numK s.k = true) : oneL zs p s = if zs.length < p + s.k.toNat then .error 20 else .ok (⟨bigN (cut zs p s.k.toNat), []⟩, p + s.k.toNat) := by
  unfold oneL
  rw [if_pos h]
theorem wrO_num {s : Stp} {g : GtV} (h : numK s.k = true) : wrO s g = bigL g.N s.k.toNat := by unfold wrO; rw [if_pos h]
theorem wrL_pre {ss : List Stp} {gs : List GtV} (k : Nat) : ∃ r, wrL ss gs ss.length = wrL ss gs k ++ r := by
  unfold wrL
  have hl := List.length_zip (l₁ := ss) (l₂ := gs)
  refine ⟨((ss.zip gs).drop k).flatMap fun p => wrO p.1 p.2, ?_⟩
  rw [← List.flatMap_append, List.take_append_drop, List.take_of_length_le (by rw [hl]; omega)]
theorem run_written {ss : List Stp} {gs : List GtV} (hf : Fits ss gs) (tail : List Int) : ∀ k, k ≤ ss.length → runL (wrL ss gs ss.length ++ tail) (ss.take k) = .ok ((gs.take k).map GtV.gt, (wrL ss gs k).length) := by
  intro k
  induction k with
  | zero => intro _; simp [runL, wrL]
  | succ k ih =>
    intro hk
    have hkg : k < gs.length := by have := hf.1; omega
    have hs : ss[k]? = some ss[k] := List.getElem?_eq_getElem (by omega)
    have hg : gs[k]? = some gs[k] := List.getElem?_eq_getElem hkg
    obtain ⟨hn, g0, g1, gB⟩ := hf.2 k _ _ hs hg
    have hst := wrL_step hs hg
    rw [wrO_num hn] at hst
    obtain ⟨r, hr⟩ := wrL_pre (ss := ss) (gs := gs) (k + 1)
    have hz : wrL ss gs ss.length ++ tail = wrL ss gs k ++ (bigL gs[k].N ss[k].k.toNat ++ (r ++ tail)) := by rw [hr, hst]; simp only [List.append_assoc]
    have hcut : cut (wrL ss gs ss.length ++ tail) (wrL ss gs k).length ss[k].k.toNat = bigL gs[k].N ss[k].k.toNat := by
      unfold cut
      rw [hz, List.drop_left, List.take_left' (bigL_len _ _)]
    have hlen : ¬ (wrL ss gs ss.length ++ tail).length < (wrL ss gs k).length + ss[k].k.toNat := by
      rw [hz, List.length_append, List.length_append, bigL_len]
      omega
    refine (runL_at hs (ih (by omega)) (N := gs[k].gt) (m := (wrL ss gs (k + 1)).length) ?_).trans ?_
    · rw [oneL_num hn, if_neg hlen, hcut, bigN_bigL, Int.emod_eq_of_lt g0 g1, hst, List.length_append, bigL_len]
      unfold GtV.gt
      rw [gB]
    · rw [List.take_add_one, hg, List.map_append]
      rfl
theorem whole_written {ss : List Stp} {gs : List GtV} (hf : Fits ss gs) : wholeL (wrL ss gs ss.length) ss = .ok (gs.map GtV.gt) := by
  have h := run_written hf [] ss.length (Nat.le_refl _)
  rw [List.append_nil, List.take_length, List.take_of_length_le (by have := hf.1; omega)] at h
  unfold wholeL
  rw [h]
  simp
theorem whole_more {ss : List Stp} {gs : List GtV} (hf : Fits ss gs) (x : Int) : wholeL (wrL ss gs ss.length ++ [x]) ss = .error 22 := by
  have h := run_written hf [x] ss.length (Nat.le_refl _)
  rw [List.take_length] at h
  unfold wholeL
  rw [h]
  simp
theorem run_cut {ss : List Stp} {gs : List GtV} (hf : Fits ss gs) (zs : List Int) : ∀ k, k ≤ ss.length → runL zs (ss.take k) = .error 20 ∨ ((wrL ss gs k).length ≤ zs.length ∧ ∃ o, runL zs (ss.take k) = .ok (o, (wrL ss gs k).length)) := by
  intro k
  induction k with
  | zero => intro _; exact .inr ⟨by simp [wrL], [], by simp [runL, wrL]⟩
  | succ k ih =>
    intro hk
    have hkg : k < gs.length := by have := hf.1; omega
    have hs : ss[k]? = some ss[k] := List.getElem?_eq_getElem (by omega)
    have hg : gs[k]? = some gs[k] := List.getElem?_eq_getElem hkg
    obtain ⟨hn, _⟩ := hf.2 k _ _ hs hg
    have hst := wrL_step hs hg
    rw [wrO_num hn] at hst
    have htk := runL_take zs ss k (by omega)
    rcases ih (by omega) with h | ⟨h1, o, h⟩
    · exact .inl (by rw [htk, h]; rfl)
    · by_cases hl : zs.length < (wrL ss gs k).length + ss[k].k.toNat
      · exact .inl (by rw [htk, h]; simp only [stpL]; rw [oneL_num hn, if_pos hl])
      · refine .inr ⟨by rw [hst, List.length_append, bigL_len]; omega, o ++ [⟨bigN (cut zs (wrL ss gs k).length ss[k].k.toNat), []⟩], ?_⟩
        rw [htk, h]
        simp only [stpL]
        rw [oneL_num hn, if_neg hl, hst, List.length_append, bigL_len]
theorem whole_short {ss : List Stp} {gs : List GtV} (hf : Fits ss gs) {zs : List Int} (h : zs.length < (wrL ss gs ss.length).length) : wholeL zs ss = .error 20 := by
  rcases run_cut hf zs ss.length (Nat.le_refl _) with h1 | ⟨h1, _⟩
  · rw [List.take_length] at h1
    unfold wholeL
    rw [h1]
  · omega

end Go.Proofs.Ytdkbibfgebfeaaa
