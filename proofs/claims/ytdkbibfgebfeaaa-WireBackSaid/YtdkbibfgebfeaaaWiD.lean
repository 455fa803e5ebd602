/-
  THE WALK of confluxlaw03.alive: the document's example.
-/
import Derived.Test.YtdkbibfgebfeaaaWiC
import Derived.Laws.BytesArg
import Derived.Deep.DeepMust
import Derived.Lib.SlBytesConst
set_option linter.unusedVariables false
set_option linter.unusedSimpArgs false
namespace Go.Proofs.Ytdkbibfgebfeaaa
open Go.RowKit

theorem byt123 : Byt [1, 2, 3] := fun x hx => by simp at hx; omega
theorem rd1 {W : World} {b : Nat} (hb : Blk W b 5 #[.int .u8 1, .int .u8 2, .int .u8 3]) :
    Calls Try.prog 23 #[.slice (some ⟨b, 0, none⟩) 3 3, .func (.func 24) #[] #[]] W fun x W' => x = .returned (.tuple #[.int .i64 258003, .int .i64 0]) ∧ Frm [] W W' := by
  refine (readI_ok (zs := [1, 2, 3]) (c1_ok W _ 3) callsF_1 (RdI.of_blk hb rfl) byt123 (by simp) (by omega) (fun h => by cases h) (by simp)).mono ?_
  rintro x W' ⟨v, L, n, ⟨rfl, rfl, rfl⟩, _, hS, ⟨_, rfl⟩ | ⟨h, _⟩⟩
  · exact ⟨rfl, hS.frm⟩
  · simp at h
theorem rd2 {W : World} {b : Nat} (hb : Blk W b 5 #[.int .u8 1, .int .u8 2, .int .u8 3]) :
    Calls Try.prog 23 #[.slice (some ⟨b, 0, none⟩) 3 3, .func (.func 27) #[] #[]] W fun x W' => x = .returned (.tuple #[.int .i64 0, .int .i64 20]) ∧ Frm [] W W' :=
  readI_err (zs := [1, 2, 3]) (by decide) (c2_err W _ 3) callsF_2 (RdI.of_blk hb rfl) byt123 (by simp) (by omega) (fun h => by cases h) (by simp)
theorem rd3 {W : World} {b : Nat} (hb : Blk W b 5 #[.int .u8 1, .int .u8 2, .int .u8 3]) :
    Calls Try.prog 23 #[.slice (some ⟨b, 0, none⟩) 3 3, .func (.func 29) #[] #[]] W fun x W' => x = .returned (.tuple #[.int .i64 0, .int .i64 22]) ∧ Frm [] W W' := by
  refine (readI_ok (zs := [1, 2, 3]) (c3_ok W _ 3) callsF_3 (RdI.of_blk hb rfl) byt123 (by simp) (by omega) (fun h => by cases h) (by simp)).mono ?_
  rintro x W' ⟨v, L, n, ⟨rfl, rfl, rfl⟩, _, hS, ⟨h, _⟩ | ⟨_, rfl⟩⟩
  · simp at h
  · exact ⟨rfl, hS.frm⟩
theorem rd4 {W : World} {b : Nat} (hb : Blk W b 5 #[.int .u8 1, .int .u8 2, .int .u8 3]) :
    Calls Try.prog 30 #[.slice (some ⟨b, 0, none⟩) 3 3, .func (.func 31) #[] #[]] W fun x W' => x = .returned (.tuple #[.int .i64 1, .int .i64 1, .int .i64 0]) ∧ Frm [] W W' := by
  refine (partI_ok (zs := [1, 2, 3]) (b4_ok W _ 3 [1, 2, 3] (by simp)) callsF_4 (RdI.of_blk hb rfl) byt123 (by simp) (by omega) (fun h => by cases h) (by simp)).mono ?_
  rintro x W' ⟨v, L, n, rfl, ⟨rfl, m, rfl, rfl, rfl⟩, _, hS⟩
  exact ⟨rfl, hS.frm⟩
theorem rdB_err {zs : List Int} {e : Int} (h : rdB zs = .error e) : zs.length = 0 ∧ e = 20 := by
  unfold rdB at h
  split at h
  · injection h with h; exact ⟨by assumption, h.symm⟩
  · cases h
theorem rdB_ok {zs : List Int} {x : Int} {n : Nat} (h : rdB zs = .ok (x, n)) : 0 < zs.length ∧ x = bigN (cut zs 0 1) ∧ n = 1 := by
  unfold rdB at h
  split at h
  · cases h
  · injection h with h; injection h with h1 h2; exact ⟨by omega, h1.symm, h2.symm⟩
theorem rd5 {W : World} {b : Nat} (hb : Blk W b 5 #[.int .u8 1, .int .u8 2, .int .u8 3]) :
    Calls Try.prog 32 #[.slice (some ⟨b, 0, none⟩) 3 3, .int .i64 3, .func (.func 33) #[] #[]] W fun x W' => ∃ g c, x = .returned (.tuple #[.slice (some ⟨g, 0, none⟩) 3 c, .int .i64 0]) ∧ W'.cell? ⟨g, 2, none⟩ = some (.int .i64 3) ∧ g < W'.heap.size ∧ Frm [] W W' := by
  refine (eachI_c W (fun m : Int => m) (fun m : Int => m) (fun _ => []) rdB (some ⟨b, 0, none⟩) 3 [1, 2, 3] 3 (fun X _ a' c' zs' x n _ h => ?_) (fun X _ a' c' zs' e _ h => ?_) callsF_5 (RdI.of_blk hb rfl) byt123 (by simp) (by omega) (fun h => by cases h) (by simp)).mono ?_
  · obtain ⟨h1, rfl, rfl⟩ := rdB_ok h
    exact b5_ok X a' c' zs' h1
  · obtain ⟨h1, rfl⟩ := rdB_err h
    exact ⟨by decide, b5_err X a' c' zs' h1⟩
  · rintro x W' (⟨e, h, _⟩ | ⟨v, ms, h, rfl, hS⟩)
    · cases h
    · have h2 : (Except.ok [1, 2, 3] : Except Int (List Int)) = .ok (ms.map fun m => m) := h
      injection h2 with h2
      rw [List.map_id'] at h2
      subst h2
      have ho : W'.ownsRow 0 3 1 v 3 ([1, 2, 3].map (Value.int .i64)) := hS.own 0 rfl
      obtain ⟨g, c, rfl⟩ := row_slice ho (by omega)
      exact ⟨g, c, rfl, row_cell ho 2 (by simp), hS.lt 0 rfl g (by simp [ownR, Value.ownBlock]), hS.frm⟩
theorem rd6 {W : World} {b : Nat} (hb : Blk W b 5 #[.int .u8 1, .int .u8 2, .int .u8 3]) :
    Calls Try.prog 32 #[.slice (some ⟨b, 0, none⟩) 3 3, .int .i64 2, .func (.func 34) #[] #[]] W fun x W' => x = .returned (.tuple #[.slice none 0 0, .int .i64 3]) ∧ Frm [] W W' := by
  refine (eachI_c W (fun m : Int => m) (fun m : Int => m) (fun _ => []) rdB (some ⟨b, 0, none⟩) 3 [1, 2, 3] 2 (fun X _ a' c' zs' x n _ h => ?_) (fun X _ a' c' zs' e _ h => ?_) callsF_6 (RdI.of_blk hb rfl) byt123 (by simp) (by omega) (fun h => by cases h) (by simp)).mono ?_
  · obtain ⟨h1, rfl, rfl⟩ := rdB_ok h
    exact b6_ok X a' c' zs' h1
  · obtain ⟨h1, rfl⟩ := rdB_err h
    exact ⟨by decide, b6_err X a' c' zs' h1⟩
  · rintro x W' (⟨e, h, _, rfl, hF⟩ | ⟨v, ms, h, _⟩)
    · injection h with h
      subst h
      exact ⟨rfl, hF⟩
    · cases h

theorem str_of {w : World} {v : Value} {xs : List Int} (ho : (sumR v xs).P w) : (convert 26 9 v).run Try.prog w = .ok (.string (strOfNums xs)) w := by
  rcases ho.2 with ⟨rfl, h0⟩ | ⟨g, c, cur, rfl, _, hh, _⟩
  · have : xs = [] := by simpa using h0
    subst this
    exact run_convert_bytes_nil w 26 5 Try.underlying26 Try.underlying5 0 0 9 Try.underlying9
  · exact run_convert_bytes_arg w 26 5 Try.underlying26 Try.underlying5 g 0 xs.length c xs rfl (fun i hi => by rw [Nat.zero_add]; exact row_cell (g := g) ho i hi) 9 Try.underlying9

set_option maxRecDepth 100000 in
set_option maxHeartbeats 16000000 in
theorem alive_c (w : World) :
    Calls Try.prog 8 #[] w fun e w' => e = .returned (.bool true) ∧ Frm [] w w' := by
  have HS := Lib.hid ((Sep.init w).alloc #[.int .u8 1, .int .u8 2, .int .u8 3] 5)
  obtain ⟨b, hb⟩ : ∃ b, b = w.heap.size := ⟨_, rfl⟩
  rw [← hb] at HS
  have HBe := Lib.hid hb
  clear hb
  have kc := fun (w : World) (C : Array Value) (n c : Nat) => Lib.run_convert_bytes_const (P := Try.prog) w 26 5 C n c Try.underlying26 Try.underlying5
  go_enter Try.func8, Try.ntmps8
  go_wp2_with fail
  rw [← HBe.out]
  refine (rd1 (HS.out.blk 0 rfl)).mono ?_
  rintro e w1 ⟨rfl, hF⟩
  have HS1 := Lib.hid (HS.out.keep hF)
  clear hF
  go_wp2_with fail
  refine (rd2 (HS1.out.blk 0 rfl)).mono ?_
  rintro e w2 ⟨rfl, hF⟩
  have HS2 := Lib.hid (HS1.out.keep hF)
  clear hF
  go_wp2_with fail
  refine (rd3 (HS2.out.blk 0 rfl)).mono ?_
  rintro e w3 ⟨rfl, hF⟩
  have HS3 := Lib.hid (HS2.out.keep hF)
  clear hF
  go_wp2_with fail
  refine (rd4 (HS3.out.blk 0 rfl)).mono ?_
  rintro e w4 ⟨rfl, hF⟩
  have HS4 := Lib.hid (HS3.out.keep hF)
  clear hF
  go_wp2_with fail
  refine (rd5 (HS4.out.blk 0 rfl)).mono ?_
  rintro e w5 ⟨g5, c5, rfl, k5, l5, hF⟩
  have HS5 := Lib.hid (HS4.out.keep hF)
  have HC5 := Lib.hid (fun X (hX : Frm [] w5 X) => (show X.cell? ⟨g5, 2, none⟩ = some (.int .i64 3) from (hX.cell l5 (by simp)).trans k5))
  clear hF k5 l5
  go_wp2_with fail
  refine (rd6 (HS5.out.blk 0 rfl)).mono ?_
  rintro e w6 ⟨rfl, hF⟩
  have HS6 := Lib.hid (show Sep [] w5 _ [sumR (.slice none 0 0) [], wtrR w6.heap.size (.slice none 0 0)] from (((Sep.init w5).keep hF).alloc #[.slice none 0 0] 74).nil 5 1)
  clear hF
  go_wp2_with fail
  refine (HS6.out.wr (wbyte_c _ _ [] _ _ HS6.out.part2 (by simp) 1 (by decide) (by decide))).mono ?_
  rintro e w7 ⟨rfl, v7, h⟩
  have HS7 := Lib.hid h
  obtain ⟨s, hs⟩ : ∃ s, s = w6.heap.size := ⟨_, rfl⟩
  rw [← hs] at HS7 ⊢
  clear h hs
  go_wp2_with fail
  refine (HS7.out.wr (wword_c _ _ _ _ _ HS7.out.part2 (by simp [bigL]) 2 (by decide) (by decide))).mono ?_
  rintro e w8 ⟨rfl, v8, h⟩
  have HS8 := Lib.hid (h.skip (.cells #[.int .u8 120] 5 (1, 2)))
  have HR8 := Lib.hid (show RdI .u8 (w8.alloc (.cells #[.int .u8 120] 5 (1, 2))) (some ⟨w8.heap.size, 0, none⟩) [120] from fun i x hx => by
    cases i with
    | zero => simp at hx; subst hx; exact ⟨_, 0, rfl, by simp, by unfold World.cell?; simp only []; rw [heap_alloc_new w8]; rfl⟩
    | succ i => simp at hx)
  clear h
  go_wp2_with fail
  refine (HS8.out.wr (wput_c _ _ _ _ _ HS8.out.part2 (by simp [bigL]) (some ⟨w8.heap.size, 0, none⟩) 1 [120] HR8.out (fun h => by cases h) (by simp))).mono ?_
  rintro e w9 ⟨rfl, v9, h⟩
  rw [show [] ++ bigL 1 1 ++ bigL 2 2 ++ [120] = [1, 0, 2, 120] from rfl] at h
  have HS9 := Lib.hid h
  have k9 := HC5.out _ h.frm
  clear h
  go_wp2_with fail
  refine (wdone_c s v9 [1, 0, 2, 120] w9 HS9.out (by simp)).mono ?_
  rintro e w10 ⟨v10, rfl, hD⟩
  have hcv := str_of (hD.get 0 rfl)
  rw [show strOfNums [1, 0, 2, 120] = ⟨#[1, 0, 2, 120]⟩ from by kernel_rfl] at hcv
  have HS10 := Lib.hid (HS9.out.keep hD.frm)
  clear hD
  go_wp2_with fail
  refine (wlen_c s v9 [1, 0, 2, 120] w10 HS10.out).mono ?_
  rintro e w11 ⟨rfl, rfl⟩
  go_wp2_with fail
  go_ret
  exact ⟨rfl, HS5.out.frm.trans HS10.out.frm⟩

end Go.Proofs.Ytdkbibfgebfeaaa
