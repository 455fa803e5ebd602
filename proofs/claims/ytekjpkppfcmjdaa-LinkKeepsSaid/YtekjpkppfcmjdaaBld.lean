/-
  A SLICE LITERAL OF ONE ELEMENT OF MANY CELLS ('append(s, x)' of a struct or an array): the new block is the element's cells. No program is named here.
-/
import Derived.Test.YtekjpkppfcmjdaaK
import Derived.Great.BuildSlice
set_option linter.unusedVariables false
set_option linter.unusedSimpArgs false
namespace Go.Proofs.Ytekjpkppfcmjdaa
open Go.RowKit

theorem fill_one {s : Nat} (hs : 0 < s) (cells C : Array Value) (hc : cells.size = s) (hC : C.size = s) : Instr.fill (fun i => some (i * s, s)) cells [(0, .agg C)] = some C := by
  obtain ⟨r, hr, hsz, hk⟩ := Great.fill_dense hs [.agg C] 0 cells (fun v hv => by simp at hv; subst hv; exact hC) (by simp; omega)
  rw [show ([(0, Value.agg C)] : List (Nat × Value)) = ([Value.agg C].zipIdx 0).map fun x => (x.2, x.1) from rfl, hr]
  congr 1
  apply Array.ext_getElem?
  intro k
  rw [hk k]
  by_cases h : k < s
  · rw [if_pos (by simp; exact h)]
    have h1 : k / s = 0 := Nat.div_eq_of_lt h
    have h2 : k % s = k := Nat.mod_eq_of_lt h
    simp [h1, h2, Value.cells]
  · rw [if_neg (by simp; omega), Array.getElem?_eq_none (by omega), Array.getElem?_eq_none (by omega)]
theorem wpList_build_one {P : Program} {ops : Array Oper} {rest : List Oper} {o : Oper} {a : Act} {w : World} {Q : Exit → Act → World → Prop} (hg : o.guard = none) (t e : TypeId) (x : Operand) (ho : o.op = .buildSlice t 1 #[(0, x)])
    (C : Array Value) (hx : a.eval x = .agg C) (ie : TypeInfo) (z : Value) (s : Nat)
    (hu : P.underlying t = some (.slice e)) (hie : P.info? e = some ie) (hz : ie.zero = some z) (hs : ie.size = s) (hpos : 0 < s) (hsmall : s ≤ 16777216) (hC : C.size = s)
    (h : wpList P ops Q rest (a.put o.dst (.slice (some ⟨w.heap.size, 0, none⟩) 1 1)) (w.alloc (.cells C e))) : wpList P ops Q (o :: rest) a w := by
  subst hs
  refine wpList_buildSlice hg t e 1 _ ho C ie z hu hie hz (by omega) (by omega) ?_ h
  have e1 : ((#[(0, x)] : Array (Nat × Operand)).map fun (i, x) => (i, a.eval x)).toList = [(0, .agg C)] := by simp [hx]
  rw [e1]
  exact fill_one hpos _ C (by simp) hC

end Go.Proofs.Ytekjpkppfcmjdaa
