/-
  THE REFERENCES' Join of two parts, and of three, that lie in one new block.
-/
import Derived.Test.YtjflcijiaennkaaDoorJoi
set_option linter.unusedVariables false
set_option linter.unusedSimpArgs false
namespace Go.Proofs.YtjflcijiaennkaaDoor
open Go.RowKit

theorem RdI.own {k : IntKind} {w : World} {base e n m c : Nat} {a : Option Addr} {zs : List Int} (h : w.ownsRow base e 1 (.slice a n c) m (zs.map (Value.int k))) : RdI k w a zs := by
  obtain ⟨a', c', e1, _, hr⟩ := RdI.of_own h
  injection e1 with e1 _ _
  rw [e1]
  exact hr
theorem join2_c {w : World} {g c1 c2 n1 n2 cap : Nat} {a1 a2 : Option Addr} {z1 z2 : List Int} (hb : Blk w g 22 #[.slice a1 n1 c1, .slice a2 n2 c2]) (r1 : RdI .u8 w a1 z1) (r2 : RdI .u8 w a2 z2) (h1 : z1.length = n1) (h2 : z2.length = n2) (hl : n1 + n2 ≤ 1000000) :
    Calls Tryd.prog 32 #[.slice (some ⟨g, 0, none⟩) 2 cap] w fun e w' => ∃ v, e = .returned v ∧ Sep [] w w' [sumR v (z1 ++ z2)] := by
  subst h1 h2
  have h := join_c (some ⟨g, 0, none⟩) cap [⟨a1, c1, z1⟩, ⟨a2, c2, z2⟩] w (fun i p hi => by
    match i, hi with
    | 0, hi => simp at hi; subst hi; exact ⟨g, 0, rfl, hb.lt, hb.cell 0 rfl, r1⟩
    | 1, hi => simp at hi; subst hi; exact ⟨g, 0, rfl, hb.lt, hb.cell 1 rfl, r2⟩
    | _ + 2, hi => simp at hi) (by simp) (by simp [flatZ]; exact hl)
  simp only [flatZ, List.flatMap_cons, List.flatMap_nil, List.append_nil] at h
  exact h
theorem join3_c {w : World} {g c1 c2 c3 n1 n2 n3 cap : Nat} {a1 a2 a3 : Option Addr} {z1 z2 z3 : List Int} (hb : Blk w g 22 #[.slice a1 n1 c1, .slice a2 n2 c2, .slice a3 n3 c3]) (r1 : RdI .u8 w a1 z1) (r2 : RdI .u8 w a2 z2) (r3 : RdI .u8 w a3 z3)
    (h1 : z1.length = n1) (h2 : z2.length = n2) (h3 : z3.length = n3) (hl : n1 + (n2 + n3) ≤ 1000000) :
    Calls Tryd.prog 32 #[.slice (some ⟨g, 0, none⟩) 3 cap] w fun e w' => ∃ v, e = .returned v ∧ Sep [] w w' [sumR v (z1 ++ (z2 ++ z3))] := by
  subst h1 h2 h3
  have h := join_c (some ⟨g, 0, none⟩) cap [⟨a1, c1, z1⟩, ⟨a2, c2, z2⟩, ⟨a3, c3, z3⟩] w (fun i p hi => by
    match i, hi with
    | 0, hi => simp at hi; subst hi; exact ⟨g, 0, rfl, hb.lt, hb.cell 0 rfl, r1⟩
    | 1, hi => simp at hi; subst hi; exact ⟨g, 0, rfl, hb.lt, hb.cell 1 rfl, r2⟩
    | 2, hi => simp at hi; subst hi; exact ⟨g, 0, rfl, hb.lt, hb.cell 2 rfl, r3⟩
    | _ + 3, hi => simp at hi) (by simp) (by simp [flatZ]; exact hl)
  simp only [flatZ, List.flatMap_cons, List.flatMap_nil, List.append_nil] at h
  exact h

end Go.Proofs.YtjflcijiaennkaaDoor
