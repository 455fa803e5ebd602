/-
  A CALL THAT TURNS ONE THING INTO MANY: what lies apart lies apart still. No program is named here.
-/
import Derived.Test.YtekjpkppfcmjdaaSep
set_option linter.unusedVariables false
set_option linter.unusedSimpArgs false
namespace Go.Proofs.Ytekjpkppfcmjdaa
open Go.RowKit

theorem Sep.callMany {S F : List Nat} {w0 w w' : World} {A : Res} {L0 L1 : List Res} (h : Sep S w0 w (A :: L0)) (k : Sep F w w' L1) (hF : ∀ g ∈ F, g ∈ A.bl) : Sep S w0 w' (L1 ++ L0) := by
  have hA : ∀ s ∈ L0, ∀ g ∈ A.bl, g ∉ s.bl := (List.pairwise_cons.1 h.apart).1
  refine ⟨h.frm.after k.frm (fun g hg => h.mine A (by simp) g (hF g hg)), fun r hr => ?_, ?_, fun r hr g hg => ?_⟩
  · rcases List.mem_append.1 hr with hr | hr
    · exact k.holds r hr
    · have hP := h.holds r (by simp [hr])
      exact r.stays w w' (fun g hg => k.frm.block g (r.lies w hP g hg) (fun hgF => hA r hr g (hF g hgF) hg)) hP
  · rw [List.pairwise_append]
    refine ⟨k.apart, (List.pairwise_cons.1 h.apart).2, fun r hr s hs g hg hgs => ?_⟩
    rcases k.mine r hr g hg with h1 | h1
    · exact hA s hs g (hF g h1) hgs
    · have := s.lies w (h.holds s (by simp [hs])) g hgs
      omega
  · rcases List.mem_append.1 hr with hr | hr
    · rcases k.mine r hr g hg with h1 | h1
      · exact h.mine A (by simp) g (hF g h1)
      · exact .inr (Nat.le_trans h.frm.size h1)
    · exact h.mine r (by simp [hr]) g hg

end Go.Proofs.Ytekjpkppfcmjdaa
