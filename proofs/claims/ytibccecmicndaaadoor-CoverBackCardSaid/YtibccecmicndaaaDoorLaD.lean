/-
  WHAT THE ROW's CONDITION ON THE LISTED VARIABLE GIVES THE WALKS: the table's cells; the door's own heap meets it.
-/
import Derived.Test.YtibccecmicndaaaDoorCoJ
import Derived.Test.YtibccecmicndaaaDoorRows
import Derived.LaidSub
import Derived.Lib.LaidTab
import Derived.MakeChecks
import Derived.LaidMore
import Derived.ProofKit
set_option linter.unusedVariables false
set_option linter.unusedSimpArgs false
namespace Go.Proofs.YtibccecmicndaaaDoor
open Go.RowKit

def laidL : List (String × DataW Unit) := [("math/bits.deBruijn64tab", Rows.laid_math_bits_deBruijn64tab)]

/-- The door's own heap meets the condition. -/
theorem door_met (os : Os) (args : Array Value) : laidMetH Tryd.prog laidL ((World.doorLaid Tryd.prog 400 os).forCall (fun _ _ => 0) ⟨#[], args, []⟩).memory :=
  laidMetH_of_parts3 (fuel := 8) (laidMet_of_run' 8 (by kernel_rfl) (by kernel_rfl)) (by kernel_rfl) (by kernel_rfl)

theorem g64 : Tryd.prog.globalNamed "math/bits.deBruijn64tab" = some 0 := by kernel_rfl
theorem tabs_of {W : World} (h : laidMetH Tryd.prog laidL W) : Tabs W := by
  rw [MakeChecks.laidMetH_plain _ _ _ (by kernel_rfl)] at h
  have h1 : laidMet Tryd.prog [("math/bits.deBruijn64tab", Lib.tabData .u8 (Lib.deBruijn64tab.map fun x : Nat => (x : Int)))] W := h
  have t1 := Lib.tabIs_of_head g64 (t := 82) (e := 5) (n := 64) (by kernel_rfl) Tryd.underlying82 Tryd.underlying5 (by kernel_rfl) (by kernel_rfl) h1
  refine ⟨fun j hj => ?_, ?_⟩
  · have := t1.cell g64 j (by simpa using hj)
    rw [this]
    congr 2
    simp [List.getD, hj]
  · have := t1.cell g64 0 (by decide)
    exact World.block_lt_of_cell? _ _ this

theorem u64_nat {x : Int} (h : (Lit.int .u64 x).wf = true) : ∃ k : Nat, x = (k : Int) ∧ k < 18446744073709551616 := by
  have h2 : 0 ≤ x ∧ x ≤ 18446744073709551615 := by simpa [Lit.wf, IntKind.min, IntKind.max, IntKind.bits, IntKind.signed] using h
  exact ⟨x.toNat, by omega, by omega⟩
theorem u16_nat {x : Int} (h : (Lit.int .u16 x).wf = true) : ∃ k : Nat, x = (k : Int) ∧ k < 65536 := by
  have h2 : 0 ≤ x ∧ x ≤ 65535 := by simpa [Lit.wf, IntKind.min, IntKind.max, IntKind.bits, IntKind.signed] using h
  exact ⟨x.toNat, by omega, by omega⟩
theorem u16_in {x : Int} (h : (Lit.int .u16 x).wf = true) : 0 ≤ x ∧ x ≤ 65535 := by
  simpa [Lit.wf, IntKind.min, IntKind.max, IntKind.bits, IntKind.signed] using h
theorem i64_in {x : Int} (h : (Lit.int .i64 x).wf = true) : -9223372036854775808 ≤ x ∧ x ≤ 9223372036854775807 := by
  simpa [Lit.wf, IntKind.min, IntKind.max, IntKind.bits, IntKind.signed] using h

/-- The numbers of a base and the bits R. -/
def sqL (b : Nat) (R : List Nat) : List Int := R.map fun x => ((adN b x : Nat) : Int)
theorem sq_enc (b : Nat) (R : List Nat) : R.map (encU b) = (sqL b R).map (Value.int .u16) := by unfold sqL encU; rw [List.map_map]; rfl
theorem sq_len (b : Nat) (R : List Nat) : (sqL b R).length = R.length := by simp [sqL]
theorem sq_in {b : Nat} {R : List Nat} {n : Int} (h : n ∈ sqL b R) : 0 ≤ n ∧ n ≤ 65535 := by
  obtain ⟨x, _, rfl⟩ := List.mem_map.1 h
  have := adN_lt b x
  omega
theorem sq_fi (b : Nat) (known : List Int) (R : List Nat) : sqL b (fiL (fun x => decide (((adN b x : Nat) : Int) ∈ known)) R) = miL known (sqL b R) := by
  unfold sqL fiL miL
  rw [List.filter_map]
  rfl
theorem sq_mem {b k : Nat} (hb : b < 65536) (hk : k < 65536) (h l : Nat) : decide ((k : Int) ∈ sqL b (bitsOf h l)) = (decide (ahN b k < 128) && bt h l (ahN b k)) := by
  rw [Bool.eq_iff_iff, decide_eq_true_eq, Bool.and_eq_true, decide_eq_true_eq]
  unfold sqL
  rw [List.mem_map]
  constructor
  · rintro ⟨x, hx, e⟩
    obtain ⟨h1, h2⟩ := bitsOf_mem.1 hx
    have e2 : ahN b k = x := by unfold ahN; unfold adN at e; omega
    rw [e2]
    exact ⟨h1, h2⟩
  · rintro ⟨h1, h2⟩
    exact ⟨ahN b k, bitsOf_mem.2 ⟨h1, h2⟩, by unfold ahN adN; unfold ahN at h1; omega⟩
theorem own_sq {w : World} {v : Value} {n b : Nat} {R : List Nat} (h : w.ownsRow 0 22 1 v n (R.map (encU b))) : ∃ a c, v = .slice a R.length c ∧ n = R.length ∧ (a = none → c = 0) ∧ RdI .u16 w a (sqL b R) := by
  rw [sq_enc] at h
  have hn : n = R.length := by have h1 := h.1; rw [List.length_map, sq_len] at h1; omega
  obtain ⟨a, c, rfl, hc⟩ := own_cases h
  refine ⟨a, c, by rw [hn], hn, hc, ?_⟩
  exact fun i x hx => rdv_own h i (.int .u16 x) (by rw [List.getElem?_map, hx]; rfl)

end Go.Proofs.YtibccecmicndaaaDoor
