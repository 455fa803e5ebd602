/-
  'append(s, xs...)' of one-cell values, s among the call's own things, xs whatever slice. No program is named here.
-/
import Derived.Test.YtekjpkppfcmjdaaApp
import Derived.Test.YtekjpkppfcmjdaaOr
set_option linter.unusedVariables false
set_option linter.unusedSimpArgs false
namespace Go.Proofs.Ytekjpkppfcmjdaa
open Go.RowKit

theorem RdV.rows {w : World} {a : Option Addr} {vs : List Value} (h : RdV w a vs) : RdS 1 w a (vs.map fun v => [v]) := fun i row hi => by
  rw [List.getElem?_map] at hi
  cases hz : vs[i]? with
  | none => rw [hz] at hi; simp at hi
  | some x =>
    rw [hz] at hi
    simp at hi
    subst hi
    obtain ⟨b, off, ha, hb, hc⟩ := h i x hz
    refine ⟨b, off, ha, hb, fun j v hj => ?_⟩
    cases j with
    | zero => simp at hj; subst hj; rw [Nat.mul_one, Nat.add_zero]; exact hc
    | succ j => simp at hj
theorem flatten_ones (vs : List Value) : (vs.map fun v => [v]).flatten = vs := by
  induction vs with
  | nil => rfl
  | cons z zs ih => simp only [List.map_cons, List.flatten_cons, ih, List.singleton_append]
theorem wpList_append_vals {P : Program} {S : List Nat} {w0 w : World} {L : List Res} {ops : Array Oper} {rest : List Oper} {o : Oper} {a : Act} {Q : Exit → Act → World → Prop} (hgd : o.guard = none) (s x : Operand) (t : TypeId)
    (ho : o.op = .call { callee := .builtin .append, args := #[s, x], argTypes := #[t, t] }) (i : Nat)
    (e : TypeId) (inf : TypeInfo) (z : Value) (bytes : Nat) (ht : P.underlying t = some (.slice e)) (hi : P.info? e = some inf) (hz : inf.zero = some z)
    (hsize : inf.size = 1) (hby : inf.bytes = bytes) (hzs : z.cells.size = 1)
    (v : Value) (n : Nat) (xs : List Value) (hs : a.eval s = v) (hS : Sep S w0 w L) (hL : L[i]? = some (ownR e 1 v n xs))
    (ad : Option Addr) (c : Nat) (vs : List Value) (hx : a.eval x = .slice ad vs.length c) (hc : ad = none → c = 0) (hrd : RdV w ad vs) (h1 : ∀ u ∈ vs, u.oneCell' = true)
    (h63 : n + vs.length ≤ maxLen) (hbytes : (n + vs.length) * bytes ≤ 140737488355328)
    (h : ∀ v' w', Sep S w0 w' (L.set i (ownR e 1 v' (n + vs.length) (xs ++ vs))) → wpList P ops Q rest (a.put o.dst v') w') : wpList P ops Q (o :: rest) a w := by
  refine wpList_plain hgd fun K hK => ?_
  have hl : (vs.map fun v => [v]).length = vs.length := List.length_map _
  refine wp_append_rows (P := P) s x t ho e inf z 1 bytes ht hi hz hsize hby hzs (by decide) v n xs hs (hS.own i hL) ad c (vs.map fun v => [v]) (by rw [hl]; exact hx) hc (fun r hr => by obtain ⟨z, _, rfl⟩ := List.mem_map.1 hr; rfl) hrd.rows (fun r hr u hu => by obtain ⟨z, hz, rfl⟩ := List.mem_map.1 hr; simp at hu; subst hu; exact h1 _ hz) (by rw [hl]; exact h63) (by rw [hl]; exact hbytes) ?_
  intro v' w' h2 h3 h4
  rw [hl, flatten_ones] at h2
  exact hK _ _ (h v' w' (hS.grow i hL h3 h2 h4))

end Go.Proofs.Ytekjpkppfcmjdaa
