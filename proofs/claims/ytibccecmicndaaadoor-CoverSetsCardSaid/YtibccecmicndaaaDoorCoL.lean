/-
  THE WALK of CoverSets.
-/
import Derived.Test.YtibccecmicndaaaDoorLaD
set_option linter.unusedVariables false
set_option linter.unusedSimpArgs false
namespace Go.Proofs.YtibccecmicndaaaDoor
open Go.RowKit

set_option maxRecDepth 100000 in
set_option maxHeartbeats 16000000 in
theorem coverSets_f (w : World) (hT : Tabs w) (a : Option Addr) (c : Nat) (ns : List Int) (lc : ns.length ≤ c) (mc : c ≤ maxLen) (rd : RdI .u16 w a ns) (wf : ∀ x ∈ ns, (Lit.int .u16 x).wf = true) (b : Int) (wb : (Lit.int .u16 b).wf = true) :
    Calls Tryd.prog 4 #[.slice a ns.length c, .int .u16 b] w fun e w' => e = .returned (.bool true) ∧ Below w.heap.size w w' := by
  have hn : ∀ n ∈ ns, 0 ≤ n ∧ n ≤ 65535 := fun n h => u16_in (wf n h)
  obtain ⟨b0, b1⟩ := u16_in wb
  have HT := Lib.hid (alive_c w hT)
  clear wb wf lc hT
  by_cases hz : 150 < ns.length
  · have t1 : decide ((150 : Int) < (ns.length : Int)) = true := decide_eq_true (by omega)
    clear hz
    go_enter Tryd.func4, Tryd.ntmps4
    go_wp2_with fail
    refine HT.out.mono ?_
    rintro e w2 ⟨rfl, hf⟩
    have HF := Lib.hid hf
    clear hf
    go_wp2_with fail
    go_ret
    exact ⟨rfl, HF.out.below⟩
  have t1 : decide ((150 : Int) < (ns.length : Int)) = false := decide_eq_false (by omega)
  have H1 := Lib.hid (fun W (hW : Frm [] w W) => cof_c a c ns W (rd.below hW.below) (by omega) hn)
  have H2 := Lib.hid (fun W (hW : Frm [] w W) => rcof_c a c ns W (rd.below hW.below) (by omega) hn)
  have H3 := Lib.hid (fun W (hW : Frm [] w W) => from_c a c b ns W (rd.below hW.below) (by omega) hn b0 b1)
  have H4 := Lib.hid (fun W (hW : Frm [] w W) => rfr_c a c b ns W (rd.below hW.below) (by omega) hn b0 b1)
  obtain ⟨B, hB⟩ : ∃ B, B = coB ns := ⟨_, rfl⟩
  obtain ⟨E, hE⟩ : ∃ E, E = coE ns := ⟨_, rfl⟩
  obtain ⟨H, hH⟩ : ∃ H, H = coH ns := ⟨_, rfl⟩
  obtain ⟨L, hL⟩ : ∃ L, L = coL ns := ⟨_, rfl⟩
  obtain ⟨FE, hFE⟩ : ∃ FE, FE = frE b ns := ⟨_, rfl⟩
  obtain ⟨FH, hFH⟩ : ∃ FH, FH = frH b ns := ⟨_, rfl⟩
  obtain ⟨FL, hFL⟩ : ∃ FL, FL = frL b ns := ⟨_, rfl⟩
  rw [← hB, ← hE, ← hH, ← hL] at H1 H2
  rw [← hFE, ← hFH, ← hFL] at H3 H4
  unfold mV at *
  clear hB hE hH hL hFE hFH hFL rd hn hz
  go_enter Tryd.func4, Tryd.ntmps4
  go_wp2_with fail
  refine HT.out.mono ?_
  rintro e w2 ⟨rfl, hf⟩
  have HF := Lib.hid hf
  clear hf HT
  go_wp2_with fail
  refine (H1.out _ HF.out).mono ?_
  rintro e w3 ⟨rfl, hf⟩
  have HS1 := Lib.hid (((Sep.init w).keep (HF.out.trans hf)).alloc #[.int .u64 (H : Int), .int .u64 (L : Int)] 27)
  clear hf HF H1 t1
  go_upto_region 6 with fail
  obtain ⟨p, hp⟩ : ∃ p, p = w3.heap.size := ⟨_, rfl⟩
  obtain ⟨w4, hw4⟩ : ∃ w4, w4 = w3.alloc (.cells #[.int .u64 (H : Int), .int .u64 (L : Int)] 27) := ⟨_, rfl⟩
  rw [← hw4, ← hp] at HS1
  rw [← hw4, ← hp]
  clear hw4 hp
  go_wp2_with fail
  refine (H2.out _ HS1.out.frm).mono ?_
  rintro e w5 ⟨rfl, hf⟩
  have HS2 := Lib.hid (HS1.out.keep hf)
  clear hf HS1 H2
  go_wp2_with fail
  refine (H3.out _ HS2.out.frm).mono ?_
  rintro e w6 ⟨rfl, hf⟩
  have HS3 := Lib.hid ((HS2.out.keep hf).alloc #[.int .u64 (FH : Int), .int .u64 (FL : Int)] 27)
  clear hf HS2 H3
  go_upto_region 8 with fail
  obtain ⟨q, hq⟩ : ∃ q, q = w6.heap.size := ⟨_, rfl⟩
  obtain ⟨w7, hw7⟩ : ∃ w7, w7 = w6.alloc (.cells #[.int .u64 (FH : Int), .int .u64 (FL : Int)] 27) := ⟨_, rfl⟩
  rw [← hw7, ← hq] at HS3
  rw [← hw7, ← hq]
  clear hw7 hq
  go_wp2_with fail
  refine (H4.out _ HS3.out.frm).mono ?_
  rintro e w8 ⟨rfl, hf⟩
  have HS4 := Lib.hid (HS3.out.keep hf)
  clear hf HS3 H4
  have c0 := (HS4.out.blk 1 rfl).cell 0 rfl
  have c1 := (HS4.out.blk 1 rfl).cell 1 rfl
  have d0 := (HS4.out.blk 0 rfl).cell 0 rfl
  have d1 := (HS4.out.blk 0 rfl).cell 1 rfl
  go_wp2_with fail
  go_ret
  exact ⟨ret_bool (by simp), HS4.out.frm.below⟩

end Go.Proofs.YtibccecmicndaaaDoor
