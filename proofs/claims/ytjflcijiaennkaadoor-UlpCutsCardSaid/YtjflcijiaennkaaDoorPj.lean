/-
  WORDS ON VALUES for region_pm: bytes that are read; two, three slices of bytes in a new block.
-/
import Derived.Test.YtjflcijiaennkaaDoorBb
import Derived.Test.YtjflcijiaennkaaDoorJon
set_option linter.unusedVariables false
set_option linter.unusedSimpArgs false
namespace Go.Proofs.YtjflcijiaennkaaDoor
open Go.RowKit

def AtSum (z : List Int) (v : Value) (X : World) : Prop := ∃ a c, v = .slice a z.length c ∧ RdI .u8 X a z ∧ (a = none → c = 0)
/-- Bytes that are read. -/
def Pr.sum (z : List Int) : Pr := ⟨AtSum z, fun v X X' hf ⟨a, c, hv, hr, hn⟩ => ⟨a, c, hv, hr.frm hf (by simp), hn⟩⟩
theorem AtSum.of {w X : World} {v : Value} {z : List Int} (h : Sep [] w X [sumR v z]) : AtSum z v X := by
  obtain ⟨a, c, rfl, _, hn⟩ := own_shape (h.own 0 rfl)
  obtain ⟨a', c', e, _, hr⟩ := RdI.of_own (k := .u8) (h.own 0 rfl)
  injection e with e1 e2 e3
  subst e1 e3
  exact ⟨a, c, rfl, hr, hn⟩
def AtTwo (z1 z2 : List Int) (v : Value) (X : World) : Prop := ∃ g a1 c1 a2 c2, v = .slice (some ⟨g, 0, none⟩) 2 2 ∧ Blk X g 22 #[.slice a1 z1.length c1, .slice a2 z2.length c2] ∧ RdI .u8 X a1 z1 ∧ RdI .u8 X a2 z2
def Pr.two (z1 z2 : List Int) : Pr := ⟨AtTwo z1 z2, fun v X X' hf ⟨g, a1, c1, a2, c2, hv, hb, h1, h2⟩ => ⟨g, a1, c1, a2, c2, hv, hf.blk hb (by simp), h1.frm hf (by simp), h2.frm hf (by simp)⟩⟩
def AtThree (z1 z2 z3 : List Int) (v : Value) (X : World) : Prop := ∃ g a1 c1 a2 c2 a3 c3, v = .slice (some ⟨g, 0, none⟩) 3 3 ∧ Blk X g 22 #[.slice a1 z1.length c1, .slice a2 z2.length c2, .slice a3 z3.length c3] ∧ RdI .u8 X a1 z1 ∧ RdI .u8 X a2 z2 ∧ RdI .u8 X a3 z3
def Pr.three (z1 z2 z3 : List Int) : Pr := ⟨AtThree z1 z2 z3, fun v X X' hf ⟨g, a1, c1, a2, c2, a3, c3, hv, hb, h1, h2, h3⟩ => ⟨g, a1, c1, a2, c2, a3, c3, hv, hf.blk hb (by simp), h1.frm hf (by simp), h2.frm hf (by simp), h3.frm hf (by simp)⟩⟩

end Go.Proofs.YtjflcijiaennkaaDoor
