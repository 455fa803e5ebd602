/-
  PLAIN: a number written as so many bytes is read back.
-/
import Derived.Test.YtjflcijiaennkaaDoorBb
import Derived.Test.YtjflcijiaennkaaDoorBa
set_option linter.unusedVariables false
set_option linter.unusedSimpArgs false
namespace Go.Proofs.YtjflcijiaennkaaDoor
open Go.RowKit

theorem bigL_snoc' (n : Int) (k : Nat) : bigL n (k + 1) = bigL (n / 256) k ++ [n % 256] := by
  unfold bigL
  rw [List.range_succ, List.map_append]
  congr 1
  · refine List.map_congr_left fun j hj => ?_
    have hj := List.mem_range.1 hj
    unfold dig
    rw [show k + 1 - 1 - j = (k - 1 - j) + 1 by omega, Int.pow_succ, Int.mul_comm, ← Int.ediv_ediv_of_nonneg (show (0 : Int) ≤ 256 by decide)]
  · simp [dig]
theorem bigN_bigL (n : Int) : ∀ k : Nat, bigN (bigL n k) = n % 256 ^ k := by
  intro k
  induction k generalizing n with
  | zero => simp [bigL, bigN, Int.emod_one]
  | succ k ih =>
    rw [bigL_snoc', bigN_snoc, ih, Int.pow_succ]
    have hp : (0 : Int) < 256 ^ k := Int.pow_pos (by decide)
    have h1 := Int.emod_add_mul_ediv n 256
    have h2 := Int.emod_add_mul_ediv (n / 256) (256 ^ k)
    have h3 := Int.emod_nonneg (n / 256) (Int.ne_of_gt hp)
    have h4 := Int.emod_lt_of_pos (n / 256) hp
    have key : n = (n / 256 % 256 ^ k * 256 + n % 256) + (256 ^ k * 256) * (n / 256 / 256 ^ k) := by
      have : 256 * (n / 256) = 256 * (n / 256 % 256 ^ k) + 256 * (256 ^ k * (n / 256 / 256 ^ k)) := by rw [← Int.mul_add, h2]
      rw [Int.mul_comm (256 ^ k) 256, Int.mul_assoc]
      omega
    have e := Int.add_mul_emod_self_left (n / 256 % 256 ^ k * 256 + n % 256) (256 ^ k * 256) (n / 256 / 256 ^ k)
    have e2 : n % (256 ^ k * 256) = (n / 256 % 256 ^ k * 256 + n % 256) % (256 ^ k * 256) := (congrArg (· % ((256 : Int) ^ k * 256)) key).trans e
    exact (e2.trans (Int.emod_eq_of_lt (by omega) (by omega))).symm
theorem bigL_bigN' : ∀ (n : Nat) {zs : List Int}, zs.length = n → Byt zs → bigL (bigN zs) zs.length = zs
  | 0, zs, hn, _ => by
    have : zs = [] := by simpa using hn
    subst this
    simp [bigL]
  | n + 1, zs, hn, h => by
    rcases List.eq_nil_or_concat zs with e | ⟨t, z, e⟩
    · subst e; simp at hn
    · rw [List.concat_eq_append] at e
      subst e
      have hz := h z (by simp)
      have hl : t.length = n := by simpa using hn
      rw [List.length_append, List.length_cons, List.length_nil, bigL_snoc', bigN_snoc, show (bigN t * 256 + z) / 256 = bigN t by omega, show (bigN t * 256 + z) % 256 = z by omega, bigL_bigN' n hl (fun x hx => h x (by simp [hx]))]
theorem bigL_bigN {zs : List Int} (h : Byt zs) : bigL (bigN zs) zs.length = zs := bigL_bigN' _ rfl h
theorem cut_app {pre zs rest : List Int} {p n : Nat} (hp : pre.length = p) (hn : zs.length = n) : cut (pre ++ zs ++ rest) p n = zs := by
  subst hp hn
  unfold cut
  rw [List.append_assoc, List.drop_left, List.take_left]
end Go.Proofs.YtjflcijiaennkaaDoor
