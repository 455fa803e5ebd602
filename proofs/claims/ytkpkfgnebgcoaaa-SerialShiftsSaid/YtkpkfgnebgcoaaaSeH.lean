/-
  THE WALKS of serial: Sort, whole; the reference's Span and SameSeqs; what is sorted twice is the same.
-/
import Derived.Test.YtkpkfgnebgcoaaaSeG
set_option linter.unusedVariables false
set_option linter.unusedSimpArgs false
namespace Go.Proofs.Ytkpkfgnebgcoaaa
open Go.RowKit

set_option maxHeartbeats 1000000 in
theorem sortfunc_c (g c cap : Nat) (f : Int) (L : List Int) (tl : List Value) (w : World) (hg : Blk w g 22 (srtCells L tl)) (hc : Blk w c 22 #[.int .u16 f]) (hne : c ≠ g)
    (hb : L.length ≤ 1000) (hl : L.length ≤ cap ∧ L.length ≤ 1000000) (hm : cap ≤ 9223372036854775807) (hL : ∀ x ∈ L, 0 ≤ x ∧ x ≤ 65535) (f0 : 0 ≤ f) (f1 : f ≤ 65535) :
    Calls Try.prog 30 #[.slice (some ⟨g, 0, none⟩) L.length cap, cmpV c] w fun e w' => e = .returned (.tuple #[]) ∧ ∃ L', Turned L L' 0 L.length ∧ SoOn (fun x => ah16 x f) L' 0 L.length ∧ Blk w' g 22 (srtCells L' tl) ∧ Frm [g] w w' := by
  have HST := Lib.hid (stable_c g c cap f L tl w hg hc hne hb hl hm hL f0 f1)
  clear hg hc hL hne
  unfold cmpV at HST ⊢
  go_enter Try.func30, Try.ntmps30
  go_wp2_with fail
  refine HST.out.mono ?_
  rintro e w1 ⟨rfl, L', h1, h2, h3, h4⟩
  have HX := Lib.hid (And.intro h1 (And.intro h2 (And.intro h3 h4)))
  clear h1 h2 h3 h4
  go_wp2_with fail
  go_end0
  exact ⟨rfl, L', HX.out.1, HX.out.2.1, HX.out.2.2.1, HX.out.2.2.2⟩

set_option maxHeartbeats 2000000 in
theorem sort_c (g cap : Nat) (L : List Int) (tl : List Value) (w : World) (hg : Blk w g 22 (srtCells L tl)) (h0 : 0 < L.length)
    (hb : L.length ≤ 1000) (hl : L.length ≤ cap ∧ L.length ≤ 1000000) (hm : cap ≤ 9223372036854775807) (hL : ∀ x ∈ L, 0 ≤ x ∧ x ≤ 65535) :
    Calls Try.prog 27 #[.slice (some ⟨g, 0, none⟩) L.length cap] w fun e w' => e = .returned (.tuple #[]) ∧ ∃ L', Turned L L' 0 L.length ∧ SoOn (fun x => ah16 x (L.getD 0 0)) L' 0 L.length ∧ Blk w' g 22 (srtCells L' tl) ∧ Frm [g] w w' := by
  obtain ⟨f, hf⟩ : ∃ f, f = L.getD 0 0 := ⟨_, rfl⟩
  have hfr : 0 ≤ f ∧ f ≤ 65535 := hL f (by rw [hf, List.getD_eq_getElem?_getD, List.getElem?_eq_getElem h0]; exact List.getElem_mem h0)
  obtain ⟨f0, f1⟩ := hfr
  have c0 : w.cell? ⟨g, 0, none⟩ = some (.int .u16 f) := by rw [hf]; exact hg.cell 0 (srt_at L tl 0 h0)
  rw [← hf]
  have hzb : ((L.length : Int) == 0) = false := beq_eq_false_iff_ne.2 (by omega)
  have gl := hg.lt
  have HST := Lib.hid (sortfunc_c g w.heap.size cap f L tl (w.alloc (.cells #[.int .u16 f] 22)) (hg.alloc _) (Blk.made _ _ _) (by omega) hb hl hm hL f0 f1)
  clear hf hg hL
  unfold cmpV at HST
  go_enter Try.func27, Try.ntmps27
  go_wp2_with fail
  refine HST.out.mono ?_
  rintro e w1 ⟨rfl, L', h1, h2, h3, h4⟩
  have HX := Lib.hid (And.intro h1 (And.intro h2 (And.intro h3 h4)))
  clear h1 h2 h3 h4
  go_wp2_with fail
  go_end0
  have hf2 : Frm [g] w w1 := ((Frm.refl [g] w).alloc _).trans HX.out.2.2.2
  exact ⟨rfl, L', HX.out.1, HX.out.2.1, HX.out.2.2.1, hf2⟩


/-- Two rows of the same numbers, each sorted by a key that tells them apart: one row. -/
theorem sorted_one {key : Int → Int} {L R : List Int} {n : Nat} (hp : L.Perm R) (hl : L.length = n) (h1 : SoOn key L 0 n) (h2 : SoOn key R 0 n) (inj : ∀ x ∈ L, ∀ y ∈ L, key x = key y → x = y) : L = R := by
  have s1 : L.Pairwise (fun x y => key x ≤ key y) := by
    rw [List.pairwise_iff_getElem]
    intro i j hi hj hij
    have := h1 i j (Nat.zero_le _) hij (by omega)
    simpa [List.getD_eq_getElem?_getD, List.getElem?_eq_getElem hi, List.getElem?_eq_getElem hj] using this
  have hr : R.length = n := by rw [← hp.length_eq, hl]
  have s2 : R.Pairwise (fun x y => key x ≤ key y) := by
    rw [List.pairwise_iff_getElem]
    intro i j hi hj hij
    have := h2 i j (Nat.zero_le _) hij (by omega)
    simpa [List.getD_eq_getElem?_getD, List.getElem?_eq_getElem hi, List.getElem?_eq_getElem hj] using this
  exact hp.eq_of_pairwise (fun a b ha hb h3 h4 => inj a ha b (hp.mem_iff.2 hb) (Int.le_antisymm h3 h4)) s1 s2
theorem ah16_inj {x y f : Int} (x0 : 0 ≤ x) (x1 : x ≤ 65535) (y0 : 0 ≤ y) (y1 : y ≤ 65535) (f0 : 0 ≤ f) (f1 : f ≤ 65535) (h : ah16 x f = ah16 y f) : x = y := by
  unfold ah16 at h
  omega

end Go.Proofs.Ytkpkfgnebgcoaaa
