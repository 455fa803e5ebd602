/-
  READING AGAIN AND AGAIN, IN PLAIN LEAN. No program is named here.
-/
import Derived.Test.YtdkbibfgebfeaaaWiP
set_option linter.unusedVariables false
set_option linter.unusedSimpArgs false
namespace Go.Proofs.Ytdkbibfgebfeaaa
open Go.RowKit

/-- What is read again and again, or the error. -/
def eachF {β : Type} (rd : List Int → Except Int (β × Nat)) (most : Int) : Nat → List Int → List β → Except Int (List β)
  | 0, _, out => .ok out
  | f + 1, zs, out =>
    if zs.length = 0 then .ok out
    else match rd zs with
      | .error e => .error e
      | .ok (x, n) => if n = 0 then .error 21 else if most ≤ (out.length : Int) then .error 3 else eachF rd most f (zs.drop n) (out ++ [x])
theorem eachF_end {β : Type} {rd : List Int → Except Int (β × Nat)} {most : Int} (f : Nat) {zs : List Int} {out : List β} (h : zs.length = 0) : eachF rd most f zs out = .ok out := by
  cases f with
  | zero => rfl
  | succ f => unfold eachF; rw [if_pos h]
theorem eachF_error {β : Type} {rd : List Int → Except Int (β × Nat)} {most : Int} {f : Nat} {zs : List Int} {out : List β} {e : Int} (hf : zs.length ≤ f) (h : 0 < zs.length) (hr : rd zs = .error e) : eachF rd most f zs out = .error e := by
  cases f with
  | zero => omega
  | succ f => unfold eachF; rw [if_neg (by omega), hr]
theorem eachF_form {β : Type} {rd : List Int → Except Int (β × Nat)} {most : Int} {f : Nat} {zs : List Int} {out : List β} {x : β} (hf : zs.length ≤ f) (h : 0 < zs.length) (hr : rd zs = .ok (x, 0)) : eachF rd most f zs out = .error 21 := by
  cases f with
  | zero => omega
  | succ f => unfold eachF; rw [if_neg (by omega), hr]; rfl
theorem eachF_many {β : Type} {rd : List Int → Except Int (β × Nat)} {most : Int} {f : Nat} {zs : List Int} {out : List β} {x : β} {n : Nat} (hf : zs.length ≤ f) (h : 0 < zs.length) (hr : rd zs = .ok (x, n)) (hn : 0 < n) (hm : most ≤ (out.length : Int)) : eachF rd most f zs out = .error 3 := by
  cases f with
  | zero => omega
  | succ f => unfold eachF; rw [if_neg (by omega), hr]; simp only; rw [if_neg (by omega), if_pos hm]
theorem eachF_step {β : Type} {rd : List Int → Except Int (β × Nat)} {most : Int} {f : Nat} {zs : List Int} {out : List β} {x : β} {n : Nat} (hf : zs.length ≤ f) (h : 0 < zs.length) (hr : rd zs = .ok (x, n)) (hn : 0 < n) (hm : ¬ most ≤ (out.length : Int)) :
    ∃ f', (zs.drop n).length ≤ f' ∧ eachF rd most f zs out = eachF rd most f' (zs.drop n) (out ++ [x]) := by
  cases f with
  | zero => omega
  | succ f => exact ⟨f, by rw [List.length_drop]; omega, by conv => lhs; unfold eachF
                                                            rw [if_neg (by omega), hr]; simp only; rw [if_neg (by omega), if_neg hm]⟩
/-- What is read of all bytes. -/
def eachL {β : Type} (rd : List Int → Except Int (β × Nat)) (most : Int) (zs : List Int) : Except Int (List β) := eachF rd most zs.length zs []

end Go.Proofs.Ytdkbibfgebfeaaa
