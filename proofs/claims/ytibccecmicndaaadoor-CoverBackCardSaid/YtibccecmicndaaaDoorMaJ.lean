/-
  THE WALKS of mask.Bits, slices.AppendSeq, slices.Collect, mask.List.
-/
import Derived.Test.YtibccecmicndaaaDoorMaI
import Derived.Test.YtibccecmicndaaaDoorSpi
import Derived.Test.YtibccecmicndaaaDoorCel
set_option linter.unusedVariables false
set_option linter.unusedSimpArgs false
namespace Go.Proofs.YtibccecmicndaaaDoor
open Go.RowKit Go.Maps Go.Shelf
attribute [local go_sem] Oper.semAt_some

def encI (x : Nat) : Value := .int .i64 x
theorem own_nil1 (w : World) (e : TypeId) : w.ownsRow 0 e 1 (.slice none 0 0) 0 [] := ⟨by simp, .inl ⟨rfl, rfl⟩⟩
theorem info_int : (Tryd.prog.info? 3).map (fun i => (i.zero, i.size, i.bytes)) = some (some (.int .i64 0), 1, 8) := by kernel_rfl
theorem own_cases {w : World} {base e size : Nat} {v : Value} {n : Nat} {xs : List Value} (h : w.ownsRow base e size v n xs) : ∃ a c, v = .slice a n c ∧ (a = none → c = 0) := by
  rcases h.2 with ⟨rfl, h0⟩ | ⟨g, c, cur, rfl, _, _, hc, _⟩
  · exact ⟨none, 0, by rw [h0], fun _ => rfl⟩
  · exact ⟨_, c, rfl, fun h => by cases h⟩
theorem bears_ex {α β : Type} {F0 : List Nat} {J : α → β → List Nat → World → Prop} (h : ∀ v, Bears F0 (J v)) : Bears F0 (fun b F W => ∃ v, J v b F W) :=
  ⟨fun b F X Y ⟨v, hj⟩ hg => ⟨v, (h v).grow _ _ _ _ hj hg⟩, fun b F X Y m ⟨v, hj⟩ hg h1 h2 => ⟨v, (h v).more _ _ _ _ _ hj hg h1 h2⟩, fun b F X Y m ⟨v, hj⟩ hm h0 hg => ⟨v, (h v).put _ _ _ _ _ hj hm h0 hg⟩⟩
theorem pre_len {pre : List Nat} {x h l : Nat} (e : (pre ++ [x]) <+: bitsOf h l) : pre.length + 1 ≤ 128 := by
  have h1 := e.length_le
  have h2 : (bitsOf h l).length ≤ 128 := by unfold bitsOf; exact Nat.le_trans (List.length_filter_le _ _) (by simp)
  simp at h1
  omega

set_option maxHeartbeats 1000000 in
theorem bits_c (h l : Nat) (w : World) :
    Calls Tryd.prog 49 #[mV h l] w fun e w' => e = .returned (.func (.func 55) #[] #[.pointer (some ⟨w.heap.size, 0, none⟩)]) ∧ w' = w.alloc (.cells #[.int .u64 (h : Int), .int .u64 (l : Int)] 27) := by
  unfold mV
  go_enter Tryd.func49, Tryd.ntmps49
  go_wp2_with fail
  go_ret
  exact ⟨rfl, rfl⟩


end Go.Proofs.YtibccecmicndaaaDoor
