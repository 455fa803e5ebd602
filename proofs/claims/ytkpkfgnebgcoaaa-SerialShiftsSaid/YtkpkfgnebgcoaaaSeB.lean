/-
  THE WALKS of package serial: sorting; the document's examples.
-/
import Derived.Test.YtkpkfgnebgcoaaaSeA
set_option linter.unusedVariables false
set_option linter.unusedSimpArgs false
namespace Go.Proofs.Ytkpkfgnebgcoaaa
open Go.RowKit

set_option maxHeartbeats 1000000 in
theorem sortfunc_few_c (g c cap : Nat) (f : Int) (L : List Int) (tl : List Value) (w : World) (hg : Blk w g 22 (srtCells L tl)) (hc : Blk w c 22 #[.int .u16 f]) (hne : c ≠ g)
    (hb : L.length ≤ 19) (hl : L.length ≤ cap ∧ L.length ≤ 1000000) (hm : cap ≤ 9223372036854775807) (hL : ∀ x ∈ L, 0 ≤ x ∧ x ≤ 65535) (f0 : 0 ≤ f) (f1 : f ≤ 65535) :
    Calls Try.prog 30 #[.slice (some ⟨g, 0, none⟩) L.length cap, cmpV c] w fun e w' => e = .returned (.tuple #[]) ∧ ∃ L', Turned L L' 0 L.length ∧ SoOn (fun x => ah16 x f) L' 0 L.length ∧ Blk w' g 22 (srtCells L' tl) ∧ Frm [g] w w' := by
  have HST := Lib.hid (stable_few_c g c cap f L tl w hg hc hne hb hl hm hL f0 f1)
  clear hg hc hL hne
  unfold cmpV at HST ⊢
  go_enter Try.func30, Try.ntmps30
  go_wp2_with fail
  refine HST.out.mono ?_
  rintro e w1 ⟨rfl, L', h1, h2, h3, h4⟩
  have HX := Lib.hid (And.intro h1 (And.intro h2 (And.intro h3 h4)))
  clear h1 h2 h3 h4
  go_wp2_with fail
  go_end0
  exact ⟨rfl, L', HX.out.1, HX.out.2.1, HX.out.2.2.1, HX.out.2.2.2⟩

set_option maxHeartbeats 2000000 in
theorem sort_few_c (g cap : Nat) (L : List Int) (tl : List Value) (w : World) (hg : Blk w g 22 (srtCells L tl)) (h0 : 0 < L.length)
    (hb : L.length ≤ 19) (hl : L.length ≤ cap ∧ L.length ≤ 1000000) (hm : cap ≤ 9223372036854775807) (hL : ∀ x ∈ L, 0 ≤ x ∧ x ≤ 65535) :
    Calls Try.prog 27 #[.slice (some ⟨g, 0, none⟩) L.length cap] w fun e w' => e = .returned (.tuple #[]) ∧ ∃ L', Turned L L' 0 L.length ∧ SoOn (fun x => ah16 x (L.getD 0 0)) L' 0 L.length ∧ Blk w' g 22 (srtCells L' tl) ∧ Frm [g] w w' := by
  obtain ⟨f, hf⟩ : ∃ f, f = L.getD 0 0 := ⟨_, rfl⟩
  have hfr : 0 ≤ f ∧ f ≤ 65535 := hL f (by rw [hf, List.getD_eq_getElem?_getD, List.getElem?_eq_getElem h0]; exact List.getElem_mem h0)
  obtain ⟨f0, f1⟩ := hfr
  have c0 : w.cell? ⟨g, 0, none⟩ = some (.int .u16 f) := by rw [hf]; exact hg.cell 0 (srt_at L tl 0 h0)
  rw [← hf]
  have hzb : ((L.length : Int) == 0) = false := beq_eq_false_iff_ne.2 (by omega)
  have gl := hg.lt
  have HST := Lib.hid (sortfunc_few_c g w.heap.size cap f L tl (w.alloc (.cells #[.int .u16 f] 22)) (hg.alloc _) (Blk.made _ _ _) (by omega) hb hl hm hL f0 f1)
  clear hf hg hL
  unfold cmpV at HST
  go_enter Try.func27, Try.ntmps27
  go_wp2_with fail
  refine HST.out.mono ?_
  rintro e w1 ⟨rfl, L', h1, h2, h3, h4⟩
  have HX := Lib.hid (And.intro h1 (And.intro h2 (And.intro h3 h4)))
  clear h1 h2 h3 h4
  go_wp2_with fail
  go_end0
  have hf2 : Frm [g] w w1 := ((Frm.refl [g] w).alloc _).trans HX.out.2.2.2
  exact ⟨rfl, L', HX.out.1, HX.out.2.1, HX.out.2.2.1, hf2⟩

/-- Three numbers, sorted. -/
theorem three (L : List Int) (h : Turned [65535, 2, 65534] L 0 3) (hs : SoOn (fun x => ah16 x 65535) L 0 3) : L = [65534, 65535, 2] := by
  have hl := h.len
  have hm : ∀ x, x ∈ L ↔ x ∈ ([65535, 2, 65534] : List Int) := fun x => h.perm.mem_iff
  have hnd : L.Nodup := h.perm.nodup_iff.2 (by decide)
  match L, hl with
  | [x, y, z], _ =>
    have hx := (hm x).1 (by simp)
    have hy := (hm y).1 (by simp)
    have hz := (hm z).1 (by simp)
    have h01 := hs 0 1 (by decide) (by decide) (by decide)
    have h12 := hs 1 2 (by decide) (by decide) (by decide)
    simp at hx hy hz hnd h01 h12
    have e1 : ah16 65535 65535 = 0 := by decide
    have e2 : ah16 2 65535 = 3 := by decide
    have e3 : ah16 65534 65535 = -1 := by decide
    rcases hx with rfl | rfl | rfl <;> rcases hy with rfl | rfl | rfl <;> rcases hz with rfl | rfl | rfl <;> simp [e1, e2, e3] at h01 h12 hnd <;> first | rfl | omega

set_option maxRecDepth 100000 in
set_option maxHeartbeats 8000000 in
theorem alive_c (w : World) :
    Calls Try.prog 9 #[] w fun e w' => e = .returned (.bool true) ∧ Frm [] w w' := by
  go_enter Try.func9, Try.ntmps9
  go_wp2_with fail
  have HS := Lib.hid ((Sep.init w).alloc #[wHead (-1), wFlag (-1)] 34)
  refine (peek_c w.heap.size 34 _ (-1) 65535 0 _ (HS.out.blk 0 rfl) rfl rfl (WIn.start 0) (by decide) (by decide) (by decide)).mono ?_
  rintro e w' ⟨rfl, m, rfl⟩
  rw [show wOut (-1) 65535 = 4295032831 from by decide]
  have HS1 := Lib.hid (HS.out.drewN m)
  go_wp2_with fail
  refine (started_c w.heap.size 34 _ (-1) _ (HS1.out.blk 0 rfl) rfl).mono ?_
  rintro e w' ⟨rfl, rfl⟩
  rw [show wFlag (-1) = .bool false from rfl]
  go_wp2_with fail
  refine (of_c w.heap.size 34 _ (-1) 65535 0 _ (HS1.out.blk 0 rfl) rfl rfl (WIn.start 0) (by decide) (by decide) (by decide)).mono ?_
  rintro e w2 ⟨rfl, hb, hf⟩
  rw [show wOut (-1) 65535 = 4295032831 from by decide]
  have hb2 : Blk w2 w.heap.size 34 #[wHead 4295032831, wFlag 4295032831] := hb
  have HS2 := Lib.hid (HS1.out.call 0 rfl hf hb2)
  clear hb hf hb2
  go_wp2_with fail
  refine (of_c w.heap.size 34 _ 4295032831 1 1 _ (HS2.out.blk 0 rfl) rfl rfl (.inr ⟨by decide, by decide⟩) (by decide) (by decide) (by decide)).mono ?_
  rintro e w3 ⟨rfl, hb, hf⟩
  rw [show wOut 4295032831 1 = 4295032833 from by decide]
  have hb2 : Blk w3 w.heap.size 34 #[wHead 4295032833, wFlag 4295032833] := hb
  have HS3 := Lib.hid ((HS2.out.call 0 rfl hf hb2).alloc (srtCells [65535, 2, 65534] []) 22)
  clear hb hf hb2
  go_wp2_with fail
  have hrd : RdI .u16 (w3.alloc (.cells (srtCells [65535, 2, 65534] []) 22)) (some ⟨w3.heap.size, 0, none⟩) [65535, 2, 65534] := fun i x hx => ⟨w3.heap.size, 0, rfl, (HS3.out.blk 0 rfl).lt, by
    rw [Nat.zero_add]
    refine (HS3.out.blk 0 rfl).cell i ?_
    have hi := (List.getElem?_eq_some_iff.1 hx).1
    rw [srt_at [65535, 2, 65534] [] i hi, List.getD_eq_getElem?_getD, hx]
    rfl⟩
  refine (span_c (some ⟨w3.heap.size, 0, none⟩) 3 [65535, 2, 65534] _ hrd (by decide) (by decide)).mono ?_
  rintro e w' ⟨rfl, rfl⟩
  rw [show spanL [65535, 2, 65534] = 65534 from by decide, show spanN [65535, 2, 65534] = 4 from by decide]
  clear hrd
  go_wp2_with fail
  refine (sort_few_c w3.heap.size 3 [65535, 2, 65534] [] _ (HS3.out.blk 0 rfl) (by decide) (by decide) (by decide) (by decide) (by decide)).mono ?_
  rintro e w4 ⟨rfl, L', h1, h2, h3, h4⟩
  rw [three L' h1 h2] at h3
  have HS4 := Lib.hid (HS3.out.call 0 rfl h4 h3)
  clear h1 h2 h3 h4
  go_wp2_with fail
  have d0 : w4.cell? ⟨w3.heap.size, 0, none⟩ = some (.int .u16 65534) := (HS4.out.blk 0 rfl).cell 0 rfl
  have d2 : w4.cell? ⟨w3.heap.size, 2, none⟩ = some (.int .u16 2) := (HS4.out.blk 0 rfl).cell 2 rfl
  refine (ahead_c 2 65535 _ (by decide) (by decide) (by decide) (by decide)).mono ?_
  rintro e w' ⟨rfl, rfl⟩
  rw [show ah16 2 65535 = 3 from by decide]
  go_wp2_with fail
  refine (ahead32_c 0 4294967295 _ (by decide) (by decide) (by decide) (by decide)).mono ?_
  rintro e w' ⟨rfl, rfl⟩
  rw [show ah32 0 4294967295 = 1 from by decide]
  go_wp2_with fail
  refine (newer_c 2 65535 _ (by decide) (by decide) (by decide) (by decide)).mono ?_
  rintro e w' ⟨rfl, rfl⟩
  rw [show newer 2 65535 = true from by decide]
  go_wp2_with fail
  refine (newer_c 5 5 _ (by decide) (by decide) (by decide) (by decide)).mono ?_
  rintro e w' ⟨rfl, rfl⟩
  rw [show newer 5 5 = false from by decide]
  go_wp2_with fail
  refine (max_c 1 65535 _ (by decide) (by decide) (by decide) (by decide)).mono ?_
  rintro e w' ⟨rfl, rfl⟩
  rw [show later 1 65535 = 1 from by decide]
  go_wp2_with fail
  refine (add_c 65535 3 _ (by decide) (by decide)).mono ?_
  rintro e w' ⟨rfl, rfl⟩
  rw [show add16 65535 3 = 2 from by decide]
  go_wp2_with fail
  refine (add32_c 1 (-2) _ (by decide) (by decide)).mono ?_
  rintro e w' ⟨rfl, rfl⟩
  rw [show add32 1 (-2) = 4294967295 from by decide]
  go_wp2_with fail
  refine (started_c w.heap.size 34 _ 4295032833 _ (HS4.out.blk 1 rfl) rfl).mono ?_
  rintro e w' ⟨rfl, rfl⟩
  rw [show wFlag 4295032833 = .bool true from rfl]
  go_wp2_with fail
  refine (highest_c w.heap.size 34 _ 4295032833 _ (HS4.out.blk 1 rfl) rfl).mono ?_
  rintro e w' ⟨rfl, rfl⟩
  rw [show wHead 4295032833 = .int .i64 4295032833 from rfl]
  go_wp2_with fail
  go_ret
  exact ⟨rfl, HS4.out.frm⟩

end Go.Proofs.Ytkpkfgnebgcoaaa
