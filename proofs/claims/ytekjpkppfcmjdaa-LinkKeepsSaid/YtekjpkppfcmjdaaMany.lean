/-
  MANY THINGS AS ONE. No program is named here.
-/
import Derived.Test.YtekjpkppfcmjdaaSep
set_option linter.unusedVariables false
set_option linter.unusedSimpArgs false
namespace Go.Proofs.Ytekjpkppfcmjdaa
open Go.RowKit

def manyR (rs : List Res) : Res :=
  ⟨rs.flatMap Res.bl, fun w => ∀ r ∈ rs, r.P w, fun w w' h hp r hr => r.stays w w' (fun k hk => h k (List.mem_flatMap.2 ⟨r, hr, hk⟩)) (hp r hr),
   fun w hp k hk => by
      obtain ⟨r, hr, hk'⟩ := List.mem_flatMap.1 hk
      exact r.lies w (hp r hr) k hk'⟩
theorem Sep.none {S : List Nat} {w0 w : World} {L : List Res} (h : Sep S w0 w L) : Sep S w0 w (manyR [] :: L) :=
  h.add (Frm.refl _ _) (fun r hr => by simp at hr) (by simp [manyR])
/-- A thing goes to the many. -/
theorem Sep.into {S : List Nat} {w0 w : World} {r o : Res} {rs : List Res} {L : List Res} (h : Sep S w0 w (r :: o :: manyR rs :: L)) : Sep S w0 w (o :: manyR (rs ++ [r]) :: L) := by
  have hp := h.apart
  rw [List.pairwise_cons, List.pairwise_cons, List.pairwise_cons] at hp
  obtain ⟨h1, h2, h3, h4⟩ := hp
  have hb : ∀ k, k ∈ (manyR (rs ++ [r])).bl ↔ k ∈ (manyR rs).bl ∨ k ∈ r.bl := fun k => by simp [manyR, List.flatMap_append]
  refine ⟨h.frm, fun s hs => ?_, ?_, fun s hs k hk => ?_⟩
  · rcases List.mem_cons.1 hs with rfl | hs
    · exact h.holds s (by simp)
    · rcases List.mem_cons.1 hs with rfl | hs
      · intro q hq
        rcases List.mem_append.1 hq with hq | hq
        · exact h.holds (manyR rs) (by simp) q hq
        · simp at hq; subst hq; exact h.holds q (by simp)
      · exact h.holds s (by simp [hs])
  · rw [List.pairwise_cons, List.pairwise_cons]
    refine ⟨fun s hs k hko hks => ?_, fun s hs k hkm hks => ?_, h4⟩
    · rcases List.mem_cons.1 hs with rfl | hs
      · rcases (hb k).1 hks with hk | hk
        · exact h2 (manyR rs) (by simp) k hko hk
        · exact h1 o (by simp) k hk hko
      · exact h2 s (by simp [hs]) k hko hks
    · rcases (hb k).1 hkm with hk | hk
      · exact h3 s hs k hk hks
      · exact h1 s (by simp [hs]) k hk hks
  · rcases List.mem_cons.1 hs with rfl | hs
    · exact h.mine s (by simp) k hk
    · rcases List.mem_cons.1 hs with rfl | hs
      · rcases (hb k).1 hk with hk | hk
        · exact h.mine (manyR rs) (by simp) k hk
        · exact h.mine r (by simp) k hk
      · exact h.mine s (by simp [hs]) k hk

end Go.Proofs.Ytekjpkppfcmjdaa
