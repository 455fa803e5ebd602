/-
  THE WALK of the document's example.
-/
import Derived.Test.YtmdjdhbnigppcaaStI
set_option linter.unusedVariables false
set_option linter.unusedSimpArgs false
namespace Go.Proofs.Ytmdjdhbnigppcaa
open Go.RowKit Go.Shelf

theorem Sep.far2 {S : List Nat} {w0 w : World} {L : List Res} {A B : Res} (h : Sep S w0 w (A :: B :: L)) {r : Res} (hr : r ∈ L) {g : Nat} (hg : g ∈ r.bl) : g ∉ A.bl ++ B.bl := fun hm => by
  rcases List.mem_append.1 hm with h1 | h1
  · exact (List.pairwise_cons.1 h.apart).1 r (by simp [hr]) g h1 hg
  · exact (List.pairwise_cons.1 (List.pairwise_cons.1 h.apart).2).1 r hr g h1 hg
theorem Sep.old2 {w0 w : World} {L : List Res} {A B : Res} (h : Sep [] w0 w (A :: B :: L)) {g : Nat} (hg : g < w0.heap.size) : g ∉ A.bl ++ B.bl := fun hm => by
  rcases List.mem_append.1 hm with h1 | h1
  · rcases h.mine A (by simp) g h1 with h2 | h2
    · simp at h2
    · omega
  · rcases h.mine B (by simp) g h1 with h2 | h2
    · simp at h2
    · omega

/-- Add, among other things. -/
theorem sadd_sep {S : List Nat} {w0 w : World} {L : List Res} {s : Nat} {v : Value} {xs : List Int} {cnt : Int} (HS : Sep S w0 w (sumR v xs :: sumB s v cnt :: L)) (a : Option Addr) (cap : Nat) (zs : List Int)
    (rd : RdI .u8 w a zs) (hap : 0 < zs.length → ∀ p, a = some p → p.block ∉ (sumR v xs).bl ++ (sumB s v cnt).bl) (bx0 : Byt xs) (bz0 : Byt zs) (hx : xs.length ≤ 1000000) (hz : zs.length ≤ 1000000) (c0 : 0 ≤ cnt) (c1 : cnt ≤ 1000000) :
    Calls Try.prog 11 #[.pointer (some ⟨s, 0, none⟩), .slice a zs.length cap] w fun e w' => e = .returned (.tuple #[]) ∧ ∃ v', Sep S w0 w' (sumR v' (xo xs zs) :: sumB s v' (cnt + 1) :: L) := by
  refine (sadd_c s v xs cnt a cap zs w _ HS.part2 rd hap (fun _ h => h) bx0 bz0 hx hz c0 c1).mono ?_
  rintro e w' ⟨rfl, v', k⟩
  exact ⟨rfl, v', HS.call2 k (fun g hg => List.mem_append.1 hg)⟩

theorem exAll : xo (xo [] [1, 2]) [3] = [2, 2] := by decide
theorem ex22 : strOfNums [2, 2] = ⟨#[2, 2]⟩ := by kernel_rfl
theorem ex70 : strOfNums [7, 0] = ⟨#[7, 0]⟩ := by kernel_rfl

theorem RdI.made_at (w : World) (g : Nat) (hg : w.heap.size = g) (t : TypeId) (k : IntKind) (zs : List Int) (hz : 0 < zs.length) : RdI k (w.alloc (.cells (zs.map (Value.int k)).toArray t)) (some ⟨g, 0, none⟩) zs := hg ▸ RdI.made w t k zs hz
theorem Sep.new2 {S : List Nat} {w0 w w1 : World} {L : List Res} {A B : Res} (h : Sep S w0 w (A :: B :: L)) {g : Nat} (hg : w.heap.size ≤ g) : g ∉ A.bl ++ B.bl := fun hm => by
  rcases List.mem_append.1 hm with h1 | h1
  · have := A.lies w (h.holds A (by simp)) g h1; omega
  · have := B.lies w (h.holds B (by simp)) g h1; omega

set_option maxRecDepth 100000 in
set_option maxHeartbeats 16000000 in
theorem alive_c (w : World) : Calls Try.prog 7 #[] w fun e w' => e = .returned (.bool true) ∧ Frm [] w w' := by
  have he : ((#[2, 2] : Array UInt8) == #[2, 2]) = true := by decide
  go_enter Try.func7, Try.ntmps7
  have HS0 := Lib.hid ((((Sep.init w).alloc #[.slice none 0 0, .int .i64 0] 28).nil 5 1).keep ((Frm.refl _ _).alloc (.cells #[.int .u8 1, .int .u8 2] 5)))
  go_wp2_with fail
  refine (sadd_sep (v := .slice none 0 0) (xs := []) (cnt := 0) HS0.out (some ⟨w.heap.size + 1, 0, none⟩) 2 [1, 2] ?_ ?_ Byt.nil (by unfold Byt; simp) (by simp) (by simp) (by omega) (by omega)).mono ?_
  · exact RdI.made_at (w.alloc (.cells #[.slice none 0 0, .int .i64 0] 28)) _ (by simp) 5 .u8 [1, 2] (by simp)
  · intro _ p hp
    injection hp with hp
    subst hp
    simp [sumR, ownR, sumB, blkR, Value.ownBlock]
  rintro e w1 ⟨rfl, v1, hS⟩
  have HS1 := Lib.hid hS
  have HS1' := Lib.hid (hS.keep ((Frm.refl _ _).alloc (.cells #[.int .u8 3] 5)))
  clear hS HS0
  go_wp2_with fail
  refine (sadd_sep HS1'.out (some ⟨w1.heap.size, 0, none⟩) 1 [3] ?_ ?_ (by unfold Byt; decide) (by unfold Byt; simp) (by decide) (by simp) (by omega) (by omega)).mono ?_
  · exact RdI.made w1 5 .u8 [3] (by simp)
  · intro _ p hp
    injection hp with hp
    subst hp
    exact HS1.out.new2 (w1 := w1) (Nat.le_refl _)
  rintro e w2 ⟨rfl, v2, hS⟩
  rw [exAll] at hS
  have HS2 := Lib.hid hS
  clear hS HS1 HS1'
  go_wp2_with fail
  refine (fold_c 27 #[] _ 2 (by omega) w2 (exseq 4 (by omega) w2) (enters_of Try.func27 (by kernel_rfl) rfl)).mono ?_
  rintro e w3 ⟨vf, xs, rfl, hxs, hS⟩
  rw [hxs, show xoAll [[1, 2], [3]] = [2, 2] from by decide] at hS
  have HS3 := Lib.hid (HS2.out.gains hS)
  clear hS HS2 hxs
  go_wp2_with fail
  refine (xor_c ⟨some ⟨w3.heap.size, 0, none⟩, 2, [1, 2]⟩ ⟨some ⟨w3.heap.size + 1, 0, none⟩, 1, [3]⟩ _ ⟨(RdI.made w3 5 .u8 [1, 2] (by simp)).alloc _, by unfold Bs.fit Byt; simp⟩ ⟨RdI.made_at _ _ (by simp) 5 .u8 [3] (by simp), by unfold Bs.fit Byt; simp⟩).mono ?_
  rintro e w4 ⟨v4, rfl, hS⟩
  rw [show xo [1, 2] [3] = [2, 2] from by decide] at hS
  have HS4 := Lib.hid (((HS3.out.skip _).skip _).keep hS.frm)
  have hcv := str_of (hS.get 0 rfl)
  rw [ex22] at hcv
  clear hS HS3
  go_wp2_with fail
  clear hcv
  have hsx : ([2, 2] : List Int).length ≤ 1000000 := by simp
  refine (bytes_c w.heap.size v2 [2, 2] 2 w4 (HS4.out.blk 2 rfl) (HS4.out.get 1 rfl) hsx).mono ?_
  rintro e w5 ⟨v5, rfl, hS⟩
  have HS5 := Lib.hid (HS4.out.keep hS.frm)
  have hcv := str_of (hS.get 0 rfl)
  rw [ex22] at hcv
  clear hS HS4
  go_wp2_with fail
  clear hcv
  refine (count_c w.heap.size v2 2 w5 (HS5.out.blk 2 rfl)).mono ?_
  rintro e w' ⟨rfl, rfl⟩
  go_wp2_with fail
  refine (longest_c w.heap.size v2 [2, 2] 2 w5 (HS5.out.blk 2 rfl) (HS5.out.get 1 rfl)).mono ?_
  rintro e w' ⟨rfl, rfl⟩
  have hcv := str_of (HS5.out.get 0 rfl)
  rw [ex22] at hcv
  go_wp2_with fail
  clear hcv
  refine (fit_c (some ⟨w5.heap.size, 0, none⟩) 1 [7] 2 _ (RdI.made w5 5 .u8 [7] (by simp)) (by simp) (fun h => by cases h)).mono ?_
  rintro e w6 ⟨v6, rfl, hS⟩
  rw [show fitL [7] (held 2 0 65536).toNat = [7, 0] from by decide] at hS
  have HS6 := Lib.hid ((HS5.out.skip _).keep hS.frm)
  have hcv := str_of (hS.get 0 rfl)
  rw [ex70] at hcv
  clear hS HS5
  go_wp2_with fail
  clear hcv
  refine (all_c none 0 [] w6 (RdRows.nil _ _) (by simp)).mono ?_
  rintro e w7 ⟨v7, rfl, hS⟩
  have HS7 := Lib.hid (HS6.out.keep hS.frm)
  obtain ⟨a7, c7, rfl, _, _⟩ := RdI.of_own (hS.own 0 rfl)
  clear hS HS6
  go_wp2_with fail
  refine (zero_c ⟨some ⟨w7.heap.size, 0, none⟩, 2, [0, 0]⟩ _ ⟨RdI.made w7 5 .u8 [0, 0] (by simp), by unfold Bs.fit Byt; simp⟩).mono ?_
  rintro e w8 ⟨rfl, hf⟩
  have HS8 := Lib.hid ((HS7.out.skip _).keep hf)
  rw [show decide (gapOf [0, 0] [] < 0) = true from by decide]
  clear hf HS7
  go_wp2_with fail
  refine (zero_c ⟨some ⟨w8.heap.size, 0, none⟩, 2, [0, 1]⟩ _ ⟨RdI.made w8 5 .u8 [0, 1] (by simp), by unfold Bs.fit Byt; simp⟩).mono ?_
  rintro e w9 ⟨rfl, hf⟩
  have HS9 := Lib.hid ((HS8.out.skip _).keep hf)
  rw [show decide (gapOf [0, 1] [] < 0) = false from by decide]
  clear hf HS8
  go_wp2_with fail
  refine (gap_c ⟨some ⟨w9.heap.size, 0, none⟩, 2, [1, 2]⟩ ⟨some ⟨w9.heap.size + 1, 0, none⟩, 1, [1]⟩ _ ⟨(RdI.made w9 5 .u8 [1, 2] (by simp)).alloc _, by unfold Bs.fit Byt; simp⟩ ⟨RdI.made_at _ _ (by simp) 5 .u8 [1] (by simp), by unfold Bs.fit Byt; simp⟩).mono ?_
  rintro e w10 ⟨rfl, hf⟩
  have HS10 := Lib.hid (((HS9.out.skip _).skip _).keep hf)
  rw [show gapOf [1, 2] [1] = 1 from by decide]
  clear hf HS9
  go_wp2_with fail
  refine (gap_c ⟨some ⟨w10.heap.size, 0, none⟩, 2, [1, 0]⟩ ⟨some ⟨w10.heap.size + 1, 0, none⟩, 1, [1]⟩ _ ⟨(RdI.made w10 5 .u8 [1, 0] (by simp)).alloc _, by unfold Bs.fit Byt; simp⟩ ⟨RdI.made_at _ _ (by simp) 5 .u8 [1] (by simp), by unfold Bs.fit Byt; simp⟩).mono ?_
  rintro e w11 ⟨rfl, hf⟩
  have HS11 := Lib.hid (((HS10.out.skip _).skip _).keep hf)
  rw [show gapOf [1, 0] [1] = -1 from by decide]
  clear hf HS10
  go_wp2_with fail
  go_ret
  exact ⟨rfl, HS11.out.frm⟩

end Go.Proofs.Ytmdjdhbnigppcaa
