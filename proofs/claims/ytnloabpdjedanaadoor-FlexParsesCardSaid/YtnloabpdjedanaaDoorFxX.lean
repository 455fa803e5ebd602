/-
  PLAIN laws and small words for the laws' walks; the walk of the law FlexGrids.
-/
import Derived.Test.YtnloabpdjedanaaDoorFxW
import Derived.Test.YtnloabpdjedanaaDoorFxQ
import Derived.Test.YtnloabpdjedanaaDoorBits
set_option linter.unusedVariables false
set_option linter.unusedSimpArgs false
namespace Go.Proofs.YtnloabpdjedanaaDoor
open Go.RowKit

theorem sl_of {k : IntKind} {w : World} {e : TypeId} {v : Value} {n : Nat} {xs : List Int} (h : w.ownsRow 0 e 1 v n (xs.map (Value.int k))) :
    ∃ a c, v = .slice a xs.length c ∧ RdI k w a xs ∧ (a = none → c = 0) ∧ xs.length ≤ c ∧ c ≤ 9223372036854775807 := by
  obtain ⟨a, c, hv, hl, hr⟩ := RdI.of_own h
  subst hv
  have hn : n = xs.length := by have := h.1; simpa using this.symm
  subst hn
  refine ⟨a, c, rfl, hr, own_zero h, hl, ?_⟩
  rcases h.2 with ⟨h1, _⟩ | ⟨g, cp, cur, h1, h2, h3, h4, h5, _⟩
  · injection h1 with h1 _ h3; subst h3; decide
  · injection h1 with h1 _ h3; subst h3; unfold maxLen at *; omega
theorem byX_byt {x : Fx} (ho : x.Ok) (hg : x.Good) : Byt (byX x) := by
  have r0 := ho.r0
  have h3 := ho.r1
  intro y hy
  unfold byX at hy
  rcases List.mem_append.1 hy with hy | hy
  · rcases List.mem_append.1 hy with hy | hy
    · rcases List.mem_append.1 hy with hy | hy
      · simp only [List.mem_cons, List.not_mem_nil, or_false] at hy
        rcases hy with rfl | rfl | rfl | rfl | rfl | rfl | rfl | rfl
        · cases x.fx <;> simp <;> omega
        · exact ho.r1
        · exact ho.r6
        · exact ho.r7
        · exact ho.r2
        · exact ho.r3
        · exact ho.r4
        · exact ho.r5
      · exact bigL_byt _ _ y hy
    · cases hf : x.fx with
      | true =>
        rw [hf] at hy
        obtain ⟨g1, g2, g3, g4, _⟩ := hg.fix hf
        simp at hy
        omega
      | false =>
        rw [hf] at hy
        exact mkB_byt 3 0 y hy
  · exact ho.rB y hy
theorem we_zero {x : Fx} (hw : weX x = 0) : wrX x = 0 ∧ (byX x).length ≤ 1500 := by
  have hw0 : wrX x = 0 := by
    by_cases h : wrX x = 0
    · exact h
    · unfold weX at hw; rw [if_pos h] at hw; exact absurd hw h
  refine ⟨hw0, ?_⟩
  by_cases h : 1500 < (byX x).length
  · have := (we_long hw0 h).1; omega
  · omega
theorem woX_byt {x : Fx} (ho : x.Ok) : Byt (woX x) ∧ (woX x).length ≤ 1500 := by
  by_cases hw : weX x = 0
  · obtain ⟨h1, h2⟩ := we_zero hw
    rw [(we_good h1 (by omega)).2]
    exact ⟨byX_byt ho (good_of ho.rh ho.rl h1), h2⟩
  · unfold woX
    rw [if_pos hw]
    exact ⟨Byt.nil, by simp⟩
theorem same_low (x : Fx) : sameX x (low x) = true := by simp [sameX, low]
theorem same_self (x : Fx) : sameX x x = true := by simp [sameX]

theorem gL_at (b l d : Int) {n k : Nat} (h : k < n) : (gL b l d n)[k]? = some (add16 b ((k : Int) * gS l d)) := by simp [gL, h]
/-- A fixed pack of the law. -/
def fixP (b L D : Int) : Fx := ⟨0, 0, 0, 0, 0, 0, 0, 0, b, 0, 0, true, L, D, []⟩
theorem z8 : (0 : Int) ≤ 0 ∧ (0 : Int) ≤ 255 := by decide
theorem fixP_ok {b L D : Int} (hb : 0 ≤ b ∧ b ≤ 65535) (hL : 1 ≤ L ∧ L ≤ 255) (hD : 0 ≤ D ∧ D ≤ 255) : (fixP b L D).Ok :=
  ⟨z8, z8, z8, z8, z8, z8, z8, z8, hb, (by show (0 : Nat) < 18446744073709551616; decide), (by show (0 : Nat) < 18446744073709551616; decide), (by show -9223372036854775808 ≤ L ∧ L ≤ 9223372036854775807; omega), (by show -9223372036854775808 ≤ D ∧ D ≤ 9223372036854775807; omega), fun x hx => by simp [fixP] at hx⟩
theorem fixP_w {b L D : Int} (hb : 0 ≤ b ∧ b ≤ 65535) (hL : 1 ≤ L ∧ L ≤ 255) (hD : 0 ≤ D ∧ D ≤ 255) : weX (fixP b L D) = 0 ∧ (woX (fixP b L D)).length = 12 ∧ flE (fixP b L D) = 30 ∧ low (fixP b L D) = fixP b L D := by
  have hw : wrX (fixP b L D) = 0 := by
    unfold wrX fixP
    rw [if_neg (by simp [gridB]; omega), if_neg (by rw [show laN 0 0 = -1 from (la_none (by decide) (by decide)).2 ⟨rfl, rfl⟩]; simp [show cnt 0 64 + cnt 0 64 = 0 from (cnt_none (by decide) (by decide)).2 ⟨rfl, rfl⟩]), if_neg (by simp)]
  have hl : (byX (fixP b L D)).length = 12 := by unfold byX fixP; simp [bigL_len]
  obtain ⟨e1, e2⟩ := we_good hw (by omega)
  refine ⟨e1, by rw [e2]; exact hl, ?_, rfl⟩
  unfold flE
  rw [e1]
  rfl

end Go.Proofs.YtnloabpdjedanaaDoor
