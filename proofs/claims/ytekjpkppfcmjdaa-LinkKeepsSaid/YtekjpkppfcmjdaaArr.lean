/-
  'append(s, x)' of one element of many cells, s among the call's own things. No program is named here.
-/
import Derived.Test.YtekjpkppfcmjdaaApp
import Derived.Test.YtekjpkppfcmjdaaBld
set_option linter.unusedVariables false
set_option linter.unusedSimpArgs false
namespace Go.Proofs.Ytekjpkppfcmjdaa
open Go.RowKit

/-- 'append(s, x)' of one element of many cells. -/
theorem wpList_append_arr {P : Program} {S : List Nat} {w0 w : World} {L : List Res} {ops : Array Oper} {rest : List Oper} {o : Oper} {a : Act} {Q : Exit → Act → World → Prop} (hgd : o.guard = none) (s x : Operand) (t : TypeId)
    (ho : o.op = .call { callee := .builtin .append, args := #[s, x], argTypes := #[t, t] }) (i : Nat)
    (e : TypeId) (inf : TypeInfo) (z : Value) (size bytes : Nat) (ht : P.underlying t = some (.slice e)) (hi : P.info? e = some inf) (hz : inf.zero = some z)
    (hsize : inf.size = size) (hby : inf.bytes = bytes) (hzs : z.cells.size = size) (hsz : 0 < size)
    (v : Value) (n : Nat) (xs : List Value) (hs : a.eval s = v) (hS : Sep S w0 w L) (hL : L[i]? = some (ownR e size v n xs))
    (g : Nat) (C : Array Value) (hC : C.size = size) (hx : a.eval x = .slice (some ⟨g, 0, none⟩) 1 1) (hb : Blk w g e C) (h1 : ∀ u ∈ C, u.oneCell' = true)
    (h63 : n + 1 ≤ maxLen) (hbytes : (n + 1) * bytes ≤ 140737488355328)
    (h : ∀ v' w', Sep S w0 w' (L.set i (ownR e size v' (n + 1) (xs ++ C.toList))) → wpList P ops Q rest (a.put o.dst v') w') : wpList P ops Q (o :: rest) a w := by
  refine wpList_plain hgd fun K hK => ?_
  refine wp_append_rows (P := P) s x t ho e inf z size bytes ht hi hz hsize hby hzs hsz v n xs hs (hS.own i hL) (some ⟨g, 0, none⟩) 1 [C.toList] hx (fun h => by cases h) (fun r hr => by simp at hr; subst hr; simpa using hC) (fun j row hj => ?_) (fun r hr u hu => by simp at hr; subst hr; exact h1 u (by simpa using hu)) h63 hbytes ?_
  · cases j with
    | zero =>
      simp at hj
      subst hj
      refine ⟨g, 0, rfl, hb.lt, fun k u hk => ?_⟩
      rw [Nat.zero_mul, Nat.add_zero, Nat.zero_add]
      exact hb.cell k (by simpa using hk)
    | succ j => simp at hj
  · intro v' w' h2 h3 h4
    rw [List.flatten_cons, List.flatten_nil, List.append_nil] at h2
    exact hK _ _ (h v' w' (hS.grow i hL h3 h2 h4))

end Go.Proofs.Ytekjpkppfcmjdaa
