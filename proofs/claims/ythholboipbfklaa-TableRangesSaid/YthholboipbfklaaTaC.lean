/-
  THE WALKS: table's Least, the reference's Least.
-/
import Derived.Test.YthholboipbfklaaTaB
set_option linter.unusedVariables false
set_option linter.unusedSimpArgs false
namespace Go.Proofs.Ythholboipbfklaa
open Go.RowKit

theorem tcnt_mono {kind q l l' : Int} (q0 : 0 ≤ q) (l0 : 0 ≤ l) (h : l ≤ l') : tcnt kind q l ≤ tcnt kind q l' := by
  have hm : q * l ≤ q * l' := Int.mul_le_mul_of_nonneg_left h q0
  have hp : 0 ≤ q * l := Int.mul_nonneg q0 l0
  have hp' : 0 ≤ q * l' := Int.mul_nonneg q0 (by omega)
  unfold tcnt
  by_cases h1 : l = 0 ∨ q = 0
  · rw [if_pos h1]
    split
    · omega
    · split <;> omega
  · have h2 : ¬ (l' = 0 ∨ q = 0) := by omega
    rw [if_neg h1, if_neg h2]
    split <;> omega
theorem tcount_mono (kind k : Int) {l l' : Int} (h : l ≤ l') : tcount kind l k ≤ tcount kind l' k := by
  unfold tcount
  exact tcnt_mono (upTo_ge k 48 (by decide)) (upTo_ge l 255 (by decide)) (by unfold upTo; omega)

/-- The least loss for which there are so many. -/
def isLeast (kind k n l : Int) (b : Bool) : Prop :=
  (b = true ∧ ∃ a : Nat, a < 256 ∧ l = a ∧ n ≤ tcount kind a k ∧ ∀ c : Nat, c < a → tcount kind c k < n) ∨ (b = false ∧ l = 0 ∧ ∀ c : Nat, c < 256 → tcount kind c k < n)
theorem isLeast.one {kind k n l l' : Int} {b b' : Bool} (h : isLeast kind k n l b) (h' : isLeast kind k n l' b') : l = l' ∧ b = b' := by
  rcases h with ⟨rfl, a, ha, rfl, hn, hl⟩ | ⟨rfl, rfl, hl⟩
  · rcases h' with ⟨rfl, a', ha', rfl, hn', hl'⟩ | ⟨rfl, rfl, hl'⟩
    · rcases Nat.lt_trichotomy a a' with h1 | h1 | h1
      · have := hl' a h1; omega
      · rw [h1]; exact ⟨rfl, rfl⟩
      · have := hl a' h1; omega
    · have := hl' a ha; omega
  · rcases h' with ⟨rfl, a', ha', rfl, hn', hl'⟩ | ⟨rfl, rfl, hl'⟩
    · have := hl a' ha'; omega
    · exact ⟨rfl, rfl⟩
def LeastPost (kind k n : Int) (w : World) (e : Ending) (w' : World) : Prop := ∃ l b, e = .returned (.tuple #[.int .i64 l, .bool b]) ∧ isLeast kind k n l b ∧ Frm [] w w'

set_option maxHeartbeats 4000000 in
theorem least_c (kind k n : Int) (w : World) : Calls Try.prog 8 #[.int .i64 kind, .int .i64 k, .int .i64 n] w (LeastPost kind k n w) := by
  obtain ⟨Z, hZ⟩ : ∃ Z, Z = arr fun _ => 0 := ⟨_, rfl⟩
  have hz := zero256
  rw [← hZ] at hz
  have HZ := Lib.hid hZ
  clear hZ
  go_enter Try.func8, Try.ntmps8
  go_wp2_with fail
  refine (row_c kind k w).mono ?_
  rintro e w1 ⟨rfl, hf⟩
  obtain ⟨C, hC⟩ : ∃ C, C = arr fun l => tcount kind l k := ⟨_, rfl⟩
  have hCs : C.size = 256 := by rw [hC]; exact arr_size _
  have hC1 : C.all (·.oneCell') = true := by rw [hC]; exact arr_one _
  have hZs : Z.size = 256 := by rw [HZ.out]; exact arr_size _
  rw [← hC]
  have HC := Lib.hid hC
  have HCs := Lib.hid (And.intro hCs (And.intro hC1 hZs))
  have HS := Lib.hid (((Sep.init w).keep hf).alloc Z 26)
  clear hC hCs hC1 hZs hf
  go_wp2_with (refine wpList_store_row rfl 26 _ _ rfl w1.heap.size C rfl rfl 26 Z (HS.out.blk 0 rfl) (by rw [HCs.out.1]; exact info256) (by rw [HCs.out.1, HCs.out.2.2]) HCs.out.2.1 ?_)
  have HS2 := Lib.hid (HS.out.setRow 0 rfl C)
  obtain ⟨w2, hw2⟩ : ∃ w2, w2 = (w1.alloc (.cells Z 26)).setRow w1.heap.size C := ⟨_, rfl⟩
  rw [← hw2] at HS2 ⊢
  clear hw2 hz
  refine (searchInts_c w1.heap.size 26 (fun l => tcount kind l k) n w2 (HC.out ▸ HS2.out.blk 0 rfl) (fun a b h _ => tcount_mono kind k (by omega))).mono ?_
  rintro e w3 ⟨a, rfl, ha, hlo, hhi, hf⟩
  have HLo := Lib.hid hlo
  have HHi := Lib.hid hhi
  have HF := Lib.hid (HS2.out.keep hf).frm
  clear hlo hhi hf
  by_cases h : a = 256
  · have e1 : ((a : Int) == 256) = true := by rw [beq_iff_eq]; omega
    have HA := Lib.hid h
    clear h
    go_wp2_with fail
    go_ret2
    exact ⟨_, _, rfl, .inr ⟨rfl, rfl, fun c hc => HLo.out c (by have := HA.out; omega)⟩, HF.out⟩
  · have e1 : ((a : Int) == 256) = false := by rw [beq_eq_false_iff_ne]; omega
    have HA := Lib.hid h
    clear h
    go_wp2_with fail
    go_ret2
    exact ⟨_, _, rfl, .inl ⟨rfl, a, by have := HA.out; omega, rfl, HHi.out a (Nat.le_refl _) (by have := HA.out; omega), HLo.out⟩, HF.out⟩

set_option maxHeartbeats 4000000 in
theorem rleast_c (kind k n : Int) (w : World) : Calls Try.prog 9 #[.int .i64 kind, .int .i64 k, .int .i64 n] w (LeastPost kind k n w) := by
  go_enter Try.func9, Try.ntmps9
  go_wp2_with fail
  go_loopw [8] (fun i wr => ∃ (a : Nat), a ≤ 256 ∧ i = .int .i64 a ∧ w = wr ∧ ∀ c : Nat, c < a → tcount kind c k < n) (fun i _ => 256 - (intOf i).toNat)
  case atStart => exact ⟨0, Nat.zero_le _, rfl, rfl, fun c h => by omega⟩
  case round =>
    obtain ⟨a, ha, rfl, rfl, hlo⟩ := hrel
    have HLo := Lib.hid hlo
    clear hlo
    by_cases hlt : a < 256
    · have i1 : (a : Int) < 256 := by omega
      by_cases hd : n ≤ tcount kind a k
      · have hdd : decide (n ≤ tcount kind a k) = true := by simpa using hd
        have HD := Lib.hid hd
        clear hd
        go_wp2_with fail
        refine (rcount_c kind a k _).mono ?_
        rintro e w' ⟨rfl, rfl⟩
        go_wp2_with fail
        go_ret2
        exact ⟨_, _, rfl, .inl ⟨rfl, a, hlt, rfl, HD.out, HLo.out⟩, Frm.refl _ _⟩
      · have hdd : decide (n ≤ tcount kind a k) = false := by simpa using hd
        have HD := Lib.hid hd
        clear hd
        go_wp2_with fail
        refine (rcount_c kind a k _).mono ?_
        rintro e w' ⟨rfl, rfl⟩
        go_wp2_with fail
        go_roundw
        case rel =>
          refine ⟨a + 1, by omega, by go_num, by first | rfl | trivial, fun c hc => ?_⟩
          by_cases h : c = a
          · subst h; have := HD.out; omega
          · exact HLo.out c (by omega)
        case measure => simp [intOf]; omega
    · obtain rfl : a = 256 := by omega
      go_wp2_with fail
      go_ret2
      exact ⟨_, _, rfl, .inr ⟨rfl, rfl, HLo.out⟩, Frm.refl _ _⟩

end Go.Proofs.Ythholboipbfklaa
