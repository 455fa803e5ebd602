/-
  THE WALKS of sort.SearchInts over a row of 256 numbers; table's Least; the reference's Least.
-/
import Derived.Test.YthholboipbfklaaTaA
set_option linter.unusedVariables false
set_option linter.unusedSimpArgs false
namespace Go.Proofs.Ythholboipbfklaa
open Go.RowKit

set_option maxHeartbeats 1000000 in
theorem scl_c (p q g : Nat) (t : TypeId) (f : Nat → Int) (x : Int) (i : Nat) (hi : i < 256) (w : World) (h1 : w.cell? ⟨p, 0, none⟩ = some (.slice (some ⟨g, 0, none⟩) 256 256)) (h2 : w.cell? ⟨q, 0, none⟩ = some (.int .i64 x)) (h3 : Blk w g t (arr f)) :
    Calls Try.prog 22 #[.int .i64 i, .pointer (some ⟨p, 0, none⟩), .pointer (some ⟨q, 0, none⟩)] w fun e w' => e = .returned (.bool (decide (x ≤ f i))) ∧ ∃ m, w' = w.drewN m := by
  have c1 := h3.cell i (arr_get f i hi)
  obtain ⟨y, hy⟩ : ∃ y, y = f i := ⟨_, rfl⟩
  rw [← hy] at c1 ⊢
  clear h3 hy
  have i0 : (0 : Int) ≤ (i : Int) := by omega
  have i1 : (i : Int) < 256 := by omega
  go_enter Try.func22, Try.ntmps22
  go_wp2_with fail
  go_quiet (fail)
  go_wp2_with fail
  go_ret
  exact ⟨rfl, nq, rfl⟩

set_option maxRecDepth 100000 in
set_option maxHeartbeats 4000000 in
theorem search_c (p q g : Nat) (t : TypeId) (f : Nat → Int) (x : Int) (w : World) (h1 : w.cell? ⟨p, 0, none⟩ = some (.slice (some ⟨g, 0, none⟩) 256 256)) (h2 : w.cell? ⟨q, 0, none⟩ = some (.int .i64 x)) (h3 : Blk w g t (arr f)) (hf : ∀ a b, a ≤ b → b < 256 → f a ≤ f b) :
    Calls Try.prog 21 #[.int .i64 256, .func (.func 22) #[] #[.pointer (some ⟨p, 0, none⟩), .pointer (some ⟨q, 0, none⟩)]] w fun e w' => ∃ n : Nat, e = .returned (.int .i64 n) ∧ n ≤ 256 ∧ (∀ a, a < n → f a < x) ∧ (∀ a, n ≤ a → a < 256 → x ≤ f a) ∧ ∃ m, w' = w.drewN m := by
  have H1 := Lib.hid h1
  have H2 := Lib.hid h2
  have H3 := Lib.hid h3
  have HF := Lib.hid hf
  clear h1 h2 h3 hf
  go_enter Try.func21, Try.ntmps21
  go_wp2_with fail
  go_loopw [5, 6] (fun u v wr => ∃ (i j m : Nat), i ≤ j ∧ j ≤ 256 ∧ u = .int .i64 i ∧ v = .int .i64 j ∧ (∀ a, a < i → f a < x) ∧ (∀ a, j ≤ a → a < 256 → x ≤ f a) ∧ wr = w.drewN m) (fun u v _ => (intOf v).toNat - (intOf u).toNat)
  case atStart => exact ⟨0, 256, 0, by omega, by omega, rfl, rfl, fun a h => by omega, fun a h1 h2 => by omega, rfl⟩
  case round =>
    obtain ⟨i, j, m, hij, hj, rfl, rfl, hlo, hhi, hwr⟩ := hrel
    have HW := Lib.hid hwr
    have HLo := Lib.hid hlo
    have HHi := Lib.hid hhi
    clear hlo hhi
    by_cases hlt : i < j
    · have u1 : IntKind.u64.wrap ((i : Int) + (j : Int)) = (i : Int) + (j : Int) := IntWalk.u64_in _ (by omega)
      obtain ⟨h, hh⟩ : ∃ h : Nat, ((i : Int) + (j : Int)) / 2 = (h : Int) := ⟨(i + j) / 2, by omega⟩
      have hb1 : i ≤ h := by omega
      have hb2 : h < j := by omega
      have HC := Lib.hid (scl_c p q g t f x h (by omega) wr (by rw [hwr]; exact H1.out) (by rw [hwr]; exact H2.out) (by rw [hwr]; exact H3.out.drewN m))
      have b1 : (0 : Int) ≤ (h : Int) := by omega
      clear hwr
      by_cases hd : x ≤ f h
      · rw [show decide (x ≤ f h) = true by simpa using hd] at HC
        have HD := Lib.hid hd
        clear hd
        go_wp2_with fail
        refine HC.out.mono ?_
        rintro e w2 ⟨rfl, m2, rfl⟩
        go_wp2_with fail
        go_roundw
        case rel => exact ⟨i, h, m + m2, hb1, by omega, rfl, rfl, HLo.out, fun a h1 h2 => Int.le_trans HD.out (HF.out _ _ h1 h2), by rw [HW.out]; simp⟩
        case measure => simp [intOf]; omega
      · rw [show decide (x ≤ f h) = false by simpa using hd] at HC
        have HD := Lib.hid hd
        clear hd
        go_wp2_with fail
        refine HC.out.mono ?_
        rintro e w2 ⟨rfl, m2, rfl⟩
        go_wp2_with fail
        go_roundw
        case rel => exact ⟨h + 1, j, m + m2, by omega, hj, by go_num, rfl, fun a h1 => (by have := HF.out a h (by omega) (by omega); have := HD.out; omega), HHi.out, by rw [HW.out]; simp⟩
        case measure => simp [intOf]; omega
    · obtain rfl : i = j := by omega
      clear hwr
      go_wp2_with fail
      go_ret
      exact ⟨i, rfl, hj, HLo.out, HHi.out, m, HW.out⟩

set_option maxHeartbeats 2000000 in
theorem searchInts_c (g : Nat) (t : TypeId) (f : Nat → Int) (x : Int) (w : World) (h3 : Blk w g t (arr f)) (hf : ∀ a b, a ≤ b → b < 256 → f a ≤ f b) :
    Calls Try.prog 17 #[.slice (some ⟨g, 0, none⟩) 256 256, .int .i64 x] w fun e w' => ∃ n : Nat, e = .returned (.int .i64 n) ∧ n ≤ 256 ∧ (∀ a, a < n → f a < x) ∧ (∀ a, n ≤ a → a < 256 → x ≤ f a) ∧ Frm [] w w' := by
  have HS := Lib.hid (((Sep.init w).alloc #[.slice (some ⟨g, 0, none⟩) 256 256] 36).alloc #[.int .i64 x] 3)
  simp only [World.size_alloc] at HS
  have HB := Lib.hid ((h3.alloc (.cells #[.slice (some ⟨g, 0, none⟩) 256 256] 36)).alloc (.cells #[.int .i64 x] 3))
  have HF := Lib.hid hf
  clear h3 hf
  obtain ⟨w1, hw1⟩ : ∃ w1, w1 = (w.alloc (.cells #[.slice (some ⟨g, 0, none⟩) 256 256] 36)).alloc (.cells #[.int .i64 x] 3) := ⟨_, rfl⟩
  rw [← hw1] at HS HB
  go_enter Try.func17, Try.ntmps17
  go_wp2_with fail
  rw [← hw1]
  clear hw1
  refine (search_c w.heap.size (w.heap.size + 1) g t f x w1 ((HS.out.blk 1 rfl).cell 0 rfl) ((HS.out.blk 0 rfl).cell 0 rfl) HB.out HF.out).mono ?_
  rintro e w2 ⟨n, rfl, hn, hlo, hhi, m, rfl⟩
  have HLo := Lib.hid hlo
  have HHi := Lib.hid hhi
  clear hlo hhi
  go_wp2_with fail
  go_ret
  exact ⟨n, rfl, hn, HLo.out, HHi.out, (HS.out.drewN m).frm⟩

end Go.Proofs.Ythholboipbfklaa
