/-
  MANY THINGS AS ONE, that lie apart from each other, too. No program is named here.
-/
import Derived.Test.YtekjpkppfcmjdaaSep
set_option linter.unusedVariables false
set_option linter.unusedSimpArgs false
namespace Go.Proofs.Ytekjpkppfcmjdaa
open Go.RowKit

def apartR (r s : Res) : Prop := ∀ k : Nat, k ∈ r.bl → k ∉ s.bl
def eachR (rs : List Res) : Res :=
  ⟨rs.flatMap Res.bl, fun w => (∀ r ∈ rs, r.P w) ∧ rs.Pairwise apartR, fun w w' h hp => ⟨fun r hr => r.stays w w' (fun k hk => h k (List.mem_flatMap.2 ⟨r, hr, hk⟩)) (hp.1 r hr), hp.2⟩,
   fun w hp k hk => by
      obtain ⟨r, hr, hk'⟩ := List.mem_flatMap.1 hk
      exact r.lies w (hp.1 r hr) k hk'⟩
/-- The one thing falls apart. -/
theorem Sep.explode {S : List Nat} {w0 w : World} {rs L : List Res} (h : Sep S w0 w (eachR rs :: L)) : Sep S w0 w (rs ++ L) := by
  have hp := List.pairwise_cons.1 h.apart
  have hP : (∀ r ∈ rs, r.P w) ∧ rs.Pairwise apartR := h.holds (eachR rs) (by simp)
  refine ⟨h.frm, fun r hr => ?_, List.pairwise_append.2 ⟨hP.2, hp.2, fun r hr s hs k hk => hp.1 s hs k (List.mem_flatMap.2 ⟨r, hr, hk⟩)⟩, fun r hr k hk => ?_⟩
  · rcases List.mem_append.1 hr with hr | hr
    · exact hP.1 r hr
    · exact h.holds r (by simp [hr])
  · rcases List.mem_append.1 hr with hr | hr
    · exact h.mine (eachR rs) (by simp) k (List.mem_flatMap.2 ⟨r, hr, hk⟩)
    · exact h.mine r (by simp [hr]) k hk
theorem Sep.gather1 {S : List Nat} {w0 w : World} {rs L : List Res} (h : Sep S w0 w (rs ++ L)) : Sep S w0 w (eachR rs :: L) := by
  obtain ⟨h1, h2, h3⟩ := List.pairwise_append.1 h.apart
  refine ⟨h.frm, fun r hr => ?_, List.Pairwise.cons (fun s hs k hk hks => ?_) h2, fun r hr k hk => ?_⟩
  · rcases List.mem_cons.1 hr with rfl | hr
    · exact ⟨fun r hr => h.holds r (by simp [hr]), h1⟩
    · exact h.holds r (by simp [hr])
  · obtain ⟨r, hr, hk'⟩ := List.mem_flatMap.1 hk
    exact h3 r hr s hs k hk' hks
  · rcases List.mem_cons.1 hr with rfl | hr
    · obtain ⟨r, hr, hk'⟩ := List.mem_flatMap.1 hk
      exact h.mine r (by simp [hr]) k hk'
    · exact h.mine r (by simp [hr]) k hk
theorem Sep.shuffle {S : List Nat} {w0 w : World} {L L' : List Res} (h : Sep S w0 w L) (hp : L.Perm L') : Sep S w0 w L' :=
  ⟨h.frm, fun r hr => h.holds r (hp.mem_iff.2 hr), (hp.pairwise_iff (fun {a b} hab => fun k hk hk' => hab k hk' hk)).1 h.apart, fun r hr => h.mine r (hp.mem_iff.2 hr)⟩
theorem Sep.enone {S : List Nat} {w0 w : World} {L : List Res} (h : Sep S w0 w L) : Sep S w0 w (eachR [] :: L) := Sep.gather1 (rs := []) h
/-- A thing goes to the many. -/
theorem Sep.einto {S : List Nat} {w0 w : World} {r o : Res} {rs : List Res} {L : List Res} (h : Sep S w0 w (r :: o :: eachR rs :: L)) : Sep S w0 w (o :: eachR (rs ++ [r]) :: L) := by
  have h1 : Sep S w0 w (eachR rs :: r :: o :: L) := h.shuffle (((List.Perm.swap _ _ _).cons _).trans (List.Perm.swap _ _ _))
  have h2 : Sep S w0 w ((rs ++ [r]) ++ (o :: L)) := by
    have := h1.explode
    rwa [List.append_assoc]
  exact h2.gather1.shuffle (List.Perm.swap _ _ _)
/-- Two many things as one. -/
theorem Sep.ejoin {S : List Nat} {w0 w : World} {r : Res} {rs : List Res} {L : List Res} (h : Sep S w0 w (r :: eachR rs :: L)) : Sep S w0 w (eachR (r :: rs) :: L) := by
  have h1 : Sep S w0 w (eachR rs :: r :: L) := h.shuffle (List.Perm.swap _ _ _)
  have h2 := h1.explode
  exact Sep.gather1 (rs := r :: rs) (h2.shuffle List.perm_middle)
theorem Sep.epart {S : List Nat} {w0 w : World} {r : Res} {rs : List Res} {L : List Res} (h : Sep S w0 w (eachR (r :: rs) :: L)) : Sep S w0 w (r :: eachR rs :: L) := by
  have h2 : Sep S w0 w ((r :: rs) ++ L) := h.explode
  have h3 : Sep S w0 w (rs ++ r :: L) := h2.shuffle List.perm_middle.symm
  exact h3.gather1.shuffle (List.Perm.swap _ _ _)
/-- One of the many, taken out and put back. -/
theorem Sep.eout {S : List Nat} {w0 w : World} {r : Res} {A B : List Res} {L : List Res} (h : Sep S w0 w (eachR (A ++ r :: B) :: L)) : Sep S w0 w (r :: eachR (A ++ B) :: L) := by
  have h2 : Sep S w0 w ((A ++ r :: B) ++ L) := h.explode
  have h3 : Sep S w0 w ((A ++ B) ++ r :: L) := h2.shuffle (by
    have h1 : (A ++ r :: B ++ L).Perm (r :: (A ++ B) ++ L) := (List.perm_middle).append_right L
    exact h1.trans (List.perm_middle).symm)
  exact h3.gather1.shuffle (List.Perm.swap _ _ _)
theorem Sep.eback {S : List Nat} {w0 w : World} {r : Res} {A B : List Res} {L : List Res} (h : Sep S w0 w (r :: eachR (A ++ B) :: L)) : Sep S w0 w (eachR (A ++ r :: B) :: L) := by
  have h1 : Sep S w0 w (eachR (A ++ B) :: r :: L) := h.shuffle (List.Perm.swap _ _ _)
  have h2 : Sep S w0 w ((A ++ B) ++ r :: L) := h1.explode
  exact Sep.gather1 (h2.shuffle (by
    have h1 : (A ++ r :: B ++ L).Perm (r :: (A ++ B) ++ L) := (List.perm_middle).append_right L
    exact (h1.trans (List.perm_middle).symm).symm))

end Go.Proofs.Ytekjpkppfcmjdaa
