/-
  append of one element to an owned slice, in the fenced walk (within a range over a function). No program is named here.
-/
import Derived.Test.YtjflcijiaennkaaDoorBa
import Derived.Maps.OwnIn
set_option linter.unusedVariables false
set_option linter.unusedSimpArgs false
namespace Go.Proofs.YtjflcijiaennkaaDoor
open Go.RowKit Go.Maps

theorem wpListIn_append_sep {F : Fence} {nF : Nat} {P : Program} {S : List Nat} {w0 w : World} {L : List Res} {ops : Array Oper} {rest : List Oper} {o : Oper} {a : Act} {Q : Exit → Act → World → Prop} (hgd : o.guard = none) (s x : Operand) (t : TypeId)
    (ho : o.op = .call { callee := .builtin .append, args := #[s, x], argTypes := #[t, t] }) (i : Nat)
    (e : TypeId) (inf : TypeInfo) (z : Value) (bytes : Nat) (ht : P.underlying t = some (.slice e)) (hi : P.info? e = some inf) (hz : inf.zero = some z)
    (hsize : inf.size = 1) (hby : inf.bytes = bytes) (hzs : z.cells.size = 1)
    (v : Value) (n : Nat) (xs : List Value) (hs : a.eval s = v) (hS : Sep S w0 w L) (hL : L[i]? = some (ownR e 1 v n xs))
    (g c : Nat) (u : Value) (hx : a.eval x = .slice (some ⟨g, 0, none⟩) 1 c) (hu : w.cell? ⟨g, 0, none⟩ = some u) (h1 : u.oneCell' = true)
    (h63 : n + 1 ≤ maxLen) (hbytes : (n + 1) * bytes ≤ 140737488355328)
    (h : ∀ (g' c' : Nat) w', Sep S w0 w' (L.set i (ownR e 1 (.slice (some ⟨g', 0, none⟩) (n + 1) c') (n + 1) (xs ++ [u]))) → w.heap.size ≤ w'.heap.size → wpListIn F nF P ops Q rest (a.put o.dst (.slice (some ⟨g', 0, none⟩) (n + 1) c')) w') : wpListIn F nF P ops Q (o :: rest) a w :=
  wpListIn_append_own_at w hgd s x t ho 0 e inf z 1 bytes ht hi hz hsize hby hzs (by decide) v n xs hs (hS.own i hL) ⟨g, 0, none⟩ 1 c [u] hx rfl
    (fun j y hj => by
      match j, hj with
      | 0, hj => simp at hj; subst hj; simpa [Addr.add] using hu)
    (fun y hy => by simp at hy; subst hy; exact h1) h63 hbytes (Nat.zero_le _) (fun v' w' h2 h3 _ h5 => by
      have hv : ∃ g' c', v' = .slice (some ⟨g', 0, none⟩) (n + 1) c' := by
        rcases h2.2 with ⟨hv, he⟩ | ⟨g', cap, cur, hv, _⟩
        · simp at he
        · exact ⟨g', cap, hv⟩
      obtain ⟨g', c', rfl⟩ := hv
      exact h g' c' w' (hS.grow i hL h3 h2 h5) h3.size)
/-- The same in the plain walk. -/
theorem wpList_append_siz {P : Program} {S : List Nat} {w0 w : World} {L : List Res} {ops : Array Oper} {rest : List Oper} {o : Oper} {a : Act} {Q : Exit → Act → World → Prop} (hgd : o.guard = none) (s x : Operand) (t : TypeId)
    (ho : o.op = .call { callee := .builtin .append, args := #[s, x], argTypes := #[t, t] }) (i : Nat)
    (e : TypeId) (inf : TypeInfo) (z : Value) (bytes : Nat) (ht : P.underlying t = some (.slice e)) (hi : P.info? e = some inf) (hz : inf.zero = some z)
    (hsize : inf.size = 1) (hby : inf.bytes = bytes) (hzs : z.cells.size = 1)
    (v : Value) (n : Nat) (xs : List Value) (hs : a.eval s = v) (hS : Sep S w0 w L) (hL : L[i]? = some (ownR e 1 v n xs))
    (g c : Nat) (u : Value) (hx : a.eval x = .slice (some ⟨g, 0, none⟩) 1 c) (hu : w.cell? ⟨g, 0, none⟩ = some u) (h1 : u.oneCell' = true)
    (h63 : n + 1 ≤ maxLen) (hbytes : (n + 1) * bytes ≤ 140737488355328)
    (h : ∀ (g' c' : Nat) w', Sep S w0 w' (L.set i (ownR e 1 (.slice (some ⟨g', 0, none⟩) (n + 1) c') (n + 1) (xs ++ [u]))) → w.heap.size ≤ w'.heap.size → wpList P ops Q rest (a.put o.dst (.slice (some ⟨g', 0, none⟩) (n + 1) c')) w') : wpList P ops Q (o :: rest) a w :=
  wpList_append_own_at w hgd s x t ho 0 e inf z 1 bytes ht hi hz hsize hby hzs (by decide) v n xs hs (hS.own i hL) ⟨g, 0, none⟩ 1 c [u] hx rfl
    (fun j y hj => by
      match j, hj with
      | 0, hj => simp at hj; subst hj; simpa [Addr.add] using hu)
    (fun y hy => by simp at hy; subst hy; exact h1) h63 hbytes (Nat.zero_le _) (fun v' w' h2 h3 _ h5 => by
      have hv : ∃ g' c', v' = .slice (some ⟨g', 0, none⟩) (n + 1) c' := by
        rcases h2.2 with ⟨hv, he⟩ | ⟨g', cap, cur, hv, _⟩
        · simp at he
        · exact ⟨g', cap, hv⟩
      obtain ⟨g', c', rfl⟩ := hv
      exact h g' c' w' (hS.grow i hL h3 h2 h5) h3.size)

end Go.Proofs.YtjflcijiaennkaaDoor
