/-
  What is open, by what was seen. No program is named here.
-/
import Derived.Test.YtdcpimnjdggabaaSet
import Derived.Test.YtdcpimnjdggabaaEqP
set_option linter.unusedVariables false
set_option linter.unusedSimpArgs false
namespace Go.Proofs.Ytdcpimnjdggabaa

theorem opn_seen {α : Type} [DecidableEq α] (K eq : List α) (x : α) : (x ∈ K ∨ x ∈ addAll [] eq) ↔ (x ∈ K ∨ x ∈ opn K eq) := by
  rw [addAll_mem, opn_mem]
  constructor
  · rintro (h | h)
    · exact .inl h
    · by_cases hk : x ∈ K
      · exact .inl hk
      · exact .inr ⟨by simpa using h, hk⟩
  · rintro (h | h)
    · exact .inl h
    · exact .inr (.inr h.1)

end Go.Proofs.Ytdcpimnjdggabaa
