/-
  WHAT IS WRONG WITH BLOCKS, AND THEIR BYTES, hang on what the blocks say alone.
-/
import Derived.Test.YtiknjkkphdncfaaReH
set_option linter.unusedVariables false
set_option linter.unusedSimpArgs false
namespace Go.Proofs.Ytiknjkkphdncfaa
open Go.RowKit

theorem at_bk {bs cs : List BkV} (h : bs.map BkV.bk = cs.map BkV.bk) (i : Nat) : (bs[i]? = none ∧ cs[i]? = none) ∨ ∃ b c, bs[i]? = some b ∧ cs[i]? = some c ∧ b.bk = c.bk := by
  have h1 := congrArg (fun l => l[i]?) h
  simp only [List.getElem?_map] at h1
  cases hb : bs[i]? with
  | none =>
    cases hc : cs[i]? with
    | none => exact .inl ⟨rfl, rfl⟩
    | some c => rw [hb, hc] at h1; simp at h1
  | some b =>
    cases hc : cs[i]? with
    | none => rw [hb, hc] at h1; simp at h1
    | some c => rw [hb, hc] at h1; simp at h1; exact .inr ⟨b, c, rfl, rfl, h1⟩
theorem anyK_map {f : Nat → BkV → Bool} (hf : ∀ i b c, b.bk = c.bk → f i b = f i c) {bs cs : List BkV} (h : bs.map BkV.bk = cs.map BkV.bk) (k : Nat) : anyK f bs k = anyK f cs k := by
  unfold anyK
  congr 1
  funext i
  rcases at_bk h i with ⟨h1, h2⟩ | ⟨b, c, h1, h2, h3⟩
  · rw [h1, h2]
  · rw [h1, h2]; exact hf i b c h3
theorem catK_map {f : Nat → BkV → List Int} (hf : ∀ i b c, b.bk = c.bk → f i b = f i c) {bs cs : List BkV} (h : bs.map BkV.bk = cs.map BkV.bk) (k : Nat) : catK f bs k = catK f cs k := by
  unfold catK
  congr 1
  funext i
  rcases at_bk h i with ⟨h1, h2⟩ | ⟨b, c, h1, h2, h3⟩
  · rw [h1, h2]
  · rw [h1, h2]; exact hf i b c h3
theorem sizK_map {bs cs : List BkV} (n : Nat) (h : bs.map BkV.bk = cs.map BkV.bk) : ∀ k, sizK n bs k = sizK n cs k := by
  intro k
  induction k with
  | zero => rfl
  | succ k ih =>
    have e : (match bs[k]? with | some b => (b.B.length : Int) | none => 0) = (match cs[k]? with | some b => (b.B.length : Int) | none => 0) := by
      rcases at_bk h k with ⟨h1, h2⟩ | ⟨b, c, h1, h2, h3⟩
      · rw [h1, h2]
      · rw [h1, h2]
        have h4 : b.bk.B = c.bk.B := by rw [h3]
        exact congrArg (fun l : List Int => (l.length : Int)) h4
    show (if sizK n bs k + (match bs[k]? with | some b => (b.B.length : Int) | none => 0) < 1501 then sizK n bs k + (match bs[k]? with | some b => (b.B.length : Int) | none => 0) else 1501) + _ = (if sizK n cs k + (match cs[k]? with | some b => (b.B.length : Int) | none => 0) < 1501 then sizK n cs k + (match cs[k]? with | some b => (b.B.length : Int) | none => 0) else 1501) + _
    rw [e, ih]
theorem oddB_bk (n i : Nat) (b c : BkV) (h : b.bk = c.bk) : oddB n i b = oddB n i c := by
  have h1 : b.bk.pt = c.bk.pt := by rw [h]
  have h2 : b.bk.off = c.bk.off := by rw [h]
  simp only [BkV.bk] at h1 h2
  unfold oddB
  rw [h1, h2]
theorem longB_bk (n i : Nat) (b c : BkV) (h : b.bk = c.bk) : longB n i b = longB n i c := by
  have h1 : b.bk.B = c.bk.B := by rw [h]
  simp only [BkV.bk] at h1
  unfold longB
  rw [h1]
theorem hdB_bk (n i : Nat) (b c : BkV) (h : b.bk = c.bk) : hdB n i b = hdB n i c := by
  have h0 : b.bk.pt = c.bk.pt := by rw [h]
  have h1 : b.bk.B = c.bk.B := by rw [h]
  have h2 : b.bk.off = c.bk.off := by rw [h]
  simp only [BkV.bk] at h0 h1 h2
  unfold hdB
  rw [h0, h1, h2]
theorem wrongE_map {bs cs : List BkV} (h : bs.map BkV.bk = cs.map BkV.bk) : wrongE bs = wrongE cs := by
  have hl : bs.length = cs.length := by have := congrArg List.length h; simpa using this
  unfold wrongE
  rw [hl, anyK_map (oddB_bk _) h, anyK_map (longB_bk _) h, sizK_map _ h]
theorem bytesB_map {bs cs : List BkV} (h : bs.map BkV.bk = cs.map BkV.bk) : bytesB bs = bytesB cs := by
  have hl : bs.length = cs.length := by have := congrArg List.length h; simpa using this
  unfold bytesB
  rw [hl, catK_map (hdB_bk _) h, catK_map (fun i b c h => by have h1 : b.bk.B = c.bk.B := by rw [h]
                                                             exact h1) h]
theorem outB_map {bs cs : List BkV} (h : bs.map BkV.bk = cs.map BkV.bk) : outB bs = outB cs := by
  unfold outB
  rw [wrongE_map h, bytesB_map h]

end Go.Proofs.Ytiknjkkphdncfaa
