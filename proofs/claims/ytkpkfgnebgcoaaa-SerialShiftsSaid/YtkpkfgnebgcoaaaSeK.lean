/-
  Plain: numbers that are all moved on by as much have the same span and are sorted alike.
-/
import Derived.Test.YtkpkfgnebgcoaaaSeJ
set_option linter.unusedVariables false
set_option linter.unusedSimpArgs false
namespace Go.Proofs.Ytkpkfgnebgcoaaa
open Go.RowKit

/-- Within 16000 steps of each other. -/
def Near (A : List Int) : Prop := ∃ F, ∀ x ∈ A, ∃ d : Int, 0 ≤ d ∧ d < 16000 ∧ x = add16 F d
theorem Near.mono {A B : List Int} (h : Near A) (hs : ∀ x ∈ B, x ∈ A) : Near B := by
  obtain ⟨F, h⟩ := h
  exact ⟨F, fun x hx => h x (hs x hx)⟩
theorem Near.bound {A : List Int} (h : Near A) : ∀ x ∈ A, 0 ≤ x ∧ x ≤ 65535 := fun x hx => by
  obtain ⟨F, h⟩ := h
  obtain ⟨d, d0, d1, rfl⟩ := h x hx
  unfold add16
  omega
/-- Keys are far less than half a round: differences are told truly. -/
theorem Near.diff {A : List Int} (h : Near A) {x y f : Int} (hx : x ∈ A) (hy : y ∈ A) (hf : f ∈ A) : ah16 x y = ah16 x f - ah16 y f := by
  obtain ⟨F, h⟩ := h
  obtain ⟨d, d0, d1, rfl⟩ := h x hx
  obtain ⟨e, e0, e1, rfl⟩ := h y hy
  obtain ⟨g, g0, g1, rfl⟩ := h f hf
  unfold ah16 add16
  omega
theorem ah16_shift (x f b : Int) : ah16 (add16 x b) (add16 f b) = ah16 x f := by unfold ah16 add16; omega
theorem getD_map {A : List Int} {b : Int} {i : Nat} (hi : i < A.length) : (A.map (add16 · b)).getD i 0 = add16 (A.getD i 0) b := by
  rw [List.getD_eq_getElem?_getD, List.getD_eq_getElem?_getD, List.getElem?_map, List.getElem?_eq_getElem hi]
  rfl
theorem Near.shift {A : List Int} (h : Near A) (b : Int) : Near (A.map (add16 · b)) := by
  obtain ⟨F, h⟩ := h
  refine ⟨add16 F b, fun x hx => ?_⟩
  obtain ⟨y, hy, rfl⟩ := List.mem_map.1 hx
  obtain ⟨d, d0, d1, rfl⟩ := h y hy
  exact ⟨d, d0, d1, by unfold add16; omega⟩
theorem spans {A R : List Int} (h : Near A) (hp : R.Perm A) (h0 : 0 < A.length) (hs : SoOn (fun x => ah16 x (A.getD 0 0)) R 0 A.length) :
    spanL A = R.getD 0 0 ∧ spanN A = ah16 (R.getD (A.length - 1) 0) (R.getD 0 0) := by
  have e1 := low_is hp h0 hs
  have e2 := high_is hp h0 hs
  have hl := hp.length_eq
  have m0 := hp.mem_iff.1 (mem_of_getD (l := R) (i := 0) (by omega))
  have m1 := hp.mem_iff.1 (mem_of_getD (l := R) (i := A.length - 1) (by omega))
  have mf := mem_of_getD (l := A) h0
  have b0 := h.bound _ m0
  have bf := h.bound _ mf
  unfold spanL spanN
  rw [if_neg (by omega), if_neg (by omega), e1, e2, h.diff m1 m0 mf]
  exact ⟨by unfold add16 ah16; omega, rfl⟩
theorem shift_law {A LA LB : List Int} {b : Int} {n : Nat} (h : Near A) (hn : A.length = n) (h0 : 0 < n) (pA : LA.Perm A) (pB : LB.Perm (A.map (add16 · b)))
    (sA : SoOn (fun x => ah16 x (A.getD 0 0)) LA 0 n) (sB : SoOn (fun x => ah16 x ((A.map (add16 · b)).getD 0 0)) LB 0 n) :
    LB = LA.map (add16 · b) ∧ (∀ i, 0 < i → i < n → ah16 (LA.getD (i - 1) 0) (LA.getD i 0) ≤ 0) ∧ spanN (A.map (add16 · b)) = spanN A ∧ spanL (A.map (add16 · b)) = add16 (spanL A) b ∧ LA.getD 0 0 = spanL A ∧ ah16 (LA.getD (n - 1) 0) (spanL A) = spanN A := by
  subst hn
  have hl := pA.length_eq
  have hBl : (A.map (add16 · b)).length = A.length := List.length_map _
  have hlB : LB.length = A.length := by rw [pB.length_eq, hBl]
  have hk := getD_map (A := A) (b := b) h0
  have hs := h.shift b
  have mf := mem_of_getD (l := A) h0
  have bf := (h.shift b).bound _ (mem_of_getD (l := A.map (add16 · b)) (i := 0) (by omega))
  have eL : LB = LA.map (add16 · b) := by
    refine sorted_one (pB.trans (pA.map _).symm) hlB sB (fun i j h1 h2 h3 => ?_) (fun x hx y hy he => ?_)
    · show ah16 ((LA.map (add16 · b)).getD i 0) _ ≤ ah16 ((LA.map (add16 · b)).getD j 0) _
      rw [hk, getD_map (A := LA) (i := i) (by omega), getD_map (A := LA) (i := j) (by omega), ah16_shift, ah16_shift]
      exact sA i j h1 h2 h3
    · have bx := hs.bound x (pB.mem_iff.1 hx)
      have b_y := hs.bound y (pB.mem_iff.1 hy)
      exact ah16_inj bx.1 bx.2 b_y.1 b_y.2 bf.1 bf.2 he
  obtain ⟨a1, a2⟩ := spans h pA h0 sA
  obtain ⟨b1, b2⟩ := spans hs pB (by rw [hBl]; exact h0) (by rw [hBl]; exact sB)
  rw [eL, getD_map (A := LA) (by omega)] at b1
  rw [hBl, eL, getD_map (A := LA) (i := A.length - 1) (by omega), getD_map (A := LA) (i := 0) (by omega), ah16_shift] at b2
  refine ⟨eL, fun i i0 i1 => ?_, by rw [b2, a2], by rw [b1, a1], a1.symm, by rw [a1, a2]⟩
  have m0 := pA.mem_iff.1 (mem_of_getD (l := LA) (i := i - 1) (by omega))
  have m1 := pA.mem_iff.1 (mem_of_getD (l := LA) (i := i) (by omega))
  rw [h.diff m0 m1 mf]
  have := sA (i - 1) i (Nat.zero_le _) (by omega) i1
  simp only at this
  omega

/-- The numbers of the law: each step added. -/
def shA (F : Int) (ss : List Int) : List Int := ss.map fun s => add16 F (s % 16000)
theorem shA_near (F : Int) (ss : List Int) : Near (shA F ss) := ⟨F, fun x hx => by
  obtain ⟨s, _, rfl⟩ := List.mem_map.1 hx
  exact ⟨s % 16000, by omega, by omega, rfl⟩⟩
theorem shA_snoc (F : Int) (ss : List Int) (k : Nat) (s : Int) (h : ss[k]? = some s) : shA F (ss.take (k + 1)) = shA F (ss.take k) ++ [add16 F (s % 16000)] := by
  unfold shA
  rw [take_snoc _ _ _ h]
  simp
theorem bv_and65535 (m : BitVec 64) : (m &&& 65535#64).toNat ≤ 65535 := by
  rw [BitVec.toNat_and]
  exact Nat.and_le_right
theorem and65535 (m : Int) : 0 ≤ bits .and .i64 m 65535 ∧ bits .and .i64 m 65535 ≤ 65535 := by
  have h : bits .and .i64 m 65535 = IntKind.i64.wrap ((BitVec.ofInt 64 m &&& 65535#64).toNat : Int) := rfl
  have h2 := bv_and65535 (BitVec.ofInt 64 m)
  rw [h, IntWalk.i64_in _ (by omega)]
  omega

end Go.Proofs.Ytkpkfgnebgcoaaa
