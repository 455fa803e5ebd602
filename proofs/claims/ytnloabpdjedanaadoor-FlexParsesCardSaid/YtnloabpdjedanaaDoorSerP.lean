/-
  THE PLAIN LAW of package serial: numbers that go round, and numbers that don't; no program in sight.
-/
import Derived.Test.YtnloabpdjedanaaDoorBa
set_option linter.unusedVariables false
set_option linter.unusedSimpArgs false
namespace Go.Proofs.YtnloabpdjedanaaDoor

/-- By how much a is ahead of b, of 16 and of 32 bits. -/
def ah16 (a b : Int) : Int := (a - b + 32768) % 65536 - 32768
def ah32 (a b : Int) : Int := (a - b + 2147483648) % 4294967296 - 2147483648
def add16 (a n : Int) : Int := (a + n) % 65536
def add32 (a n : Int) : Int := (a + n) % 4294967296

theorem ah16_in (a b : Int) : -32768 ≤ ah16 a b ∧ ah16 a b ≤ 32767 := by unfold ah16; omega
theorem ah32_in (a b : Int) : -2147483648 ≤ ah32 a b ∧ ah32 a b ≤ 2147483647 := by unfold ah32; omega

/-- What a number n is told as, behind the highest one h (below 0: none yet). -/
def wOut (h n : Int) : Int := if h < 0 then 4294967296 + n else h + ah16 n (h % 65536)
def wHi (h n : Int) : Int := if h < wOut h n then wOut h n else h
/-- What is known of the highest one behind k numbers. -/
def WIn (h : Int) (k : Nat) : Prop := h = -1 ∨ (4294967296 ≤ h ∧ h ≤ 4294967296 + 65536 * k)
theorem WIn.start (k : Nat) : WIn (-1) k := .inl rfl
theorem WIn.out {h : Int} {k : Nat} (w : WIn h k) (n : Int) (n0 : 0 ≤ n) (n1 : n ≤ 65535) : 4294900000 ≤ wOut h n ∧ wOut h n ≤ 4294967296 + 65536 * (k + 1) := by
  unfold wOut
  have := ah16_in n (h % 65536)
  rcases w with rfl | ⟨h0, h1⟩
  · rw [if_pos (by decide)]; omega
  · rw [if_neg (by omega)]; omega
theorem WIn.step {h : Int} {k : Nat} (w : WIn h k) (n : Int) (n0 : 0 ≤ n) (n1 : n ≤ 65535) : WIn (wHi h n) (k + 1) ∧ 4294967296 ≤ wHi h n ∧ h ≤ wHi h n ∧ wOut h n ≤ wHi h n := by
  have ho := w.out n n0 n1
  unfold wHi
  rcases w with rfl | ⟨h0, h1⟩
  · have : wOut (-1) n = 4294967296 + n := by unfold wOut; rw [if_pos (by decide)]
    rw [this] at ho ⊢
    rw [if_pos (by omega)]
    exact ⟨.inr (by omega), by omega, by omega, by omega⟩
  · split
    · exact ⟨.inr (by omega), by omega, by omega, by omega⟩
    · exact ⟨.inr (by omega), by omega, by omega, by omega⟩
/-- The number goes round to n again. -/
theorem wOut_mod (h n : Int) (n0 : 0 ≤ n) (n1 : n ≤ 65535) : wOut h n % 65536 = n := by
  unfold wOut ah16
  split <;> omega

/-- Of a row of numbers: what each is told as; the highest one behind them. -/
def wOuts : Int → List Int → List Int
  | _, [] => []
  | h, n :: r => wOut h n :: wOuts (wHi h n) r
def wHis : Int → List Int → Int
  | h, [] => h
  | h, n :: r => wHis (wHi h n) r
theorem wOuts_length (h : Int) (l : List Int) : (wOuts h l).length = l.length := by
  induction l generalizing h with
  | nil => rfl
  | cons n r ih => simp [wOuts, ih]
theorem wOuts_snoc (h : Int) (l : List Int) (n : Int) : wOuts h (l ++ [n]) = wOuts h l ++ [wOut (wHis h l) n] := by
  induction l generalizing h with
  | nil => rfl
  | cons m r ih => simp [wOuts, wHis, ih]
theorem wHis_snoc (h : Int) (l : List Int) (n : Int) : wHis h (l ++ [n]) = wHi (wHis h l) n := by
  induction l generalizing h with
  | nil => rfl
  | cons m r ih => simp [wHis, ih]
theorem WIn.rows {h : Int} {k : Nat} (w : WIn h k) (l : List Int) (hl : ∀ n ∈ l, 0 ≤ n ∧ n ≤ 65535) : WIn (wHis h l) (k + l.length) := by
  induction l generalizing h k with
  | nil => exact w
  | cons n r ih =>
    have hn := hl n (by simp)
    have := ih (w.step n hn.1 hn.2).1 (fun m hm => hl m (by simp [hm]))
    simpa [wHis, Nat.add_assoc, Nat.add_comm 1] using this

end Go.Proofs.YtnloabpdjedanaaDoor
