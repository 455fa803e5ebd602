/-
  THE WALK of mask.Of.
-/
import Derived.Test.YtibccecmicndaaaDoorMaJ
import Derived.Test.YtibccecmicndaaaDoorOr
set_option linter.unusedVariables false
set_option linter.unusedSimpArgs false
namespace Go.Proofs.YtibccecmicndaaaDoor
open Go.RowKit

/-- A slice of ints. -/
def RdZ (w : World) (a : Option Addr) (zs : List Int) : Prop := RdV w a (zs.map (Value.int .i64))
theorem RdZ.at_ {w : World} {a : Option Addr} {zs : List Int} (h : RdZ w a zs) {j : Nat} (hj : j < zs.length) : ∃ b off x, x = zs[j] ∧ a = some ⟨b, off, none⟩ ∧ b < w.heap.size ∧ w.cell? ⟨b, off + j, none⟩ = some (.int .i64 x) := by
  obtain ⟨b, off, ha, hb, hc⟩ := h j (.int .i64 zs[j]) (by rw [List.getElem?_map, List.getElem?_eq_getElem hj]; rfl)
  exact ⟨b, off, _, rfl, ha, hb, hc⟩
theorem RdZ.below {w w' : World} {a : Option Addr} {zs : List Int} (h : RdZ w a zs) (hb : Below w.heap.size w w') : RdZ w' a zs := RdV.below h hb

/-- The mask of bits: its halves. -/
def ofH (zs : List Int) : Nat := zs.foldl (fun m i => m ||| bH i) 0
def ofL (zs : List Int) : Nat := zs.foldl (fun m i => m ||| bL i) 0
theorem fold_lt {f : Int → Nat} (hf : ∀ i, f i < 18446744073709551616) (zs : List Int) : ∀ s, s < 18446744073709551616 → zs.foldl (fun m i => m ||| f i) s < 18446744073709551616 := by
  induction zs with
  | nil => exact fun s h => h
  | cons z zs ih => exact fun s h => ih _ (or_lt h (hf z))
theorem ofH_lt (zs : List Int) : ofH zs < 18446744073709551616 := fold_lt bH_lt zs 0 (by decide)
theorem ofL_lt (zs : List Int) : ofL zs < 18446744073709551616 := fold_lt bL_lt zs 0 (by decide)
theorem ofH_snoc (zs : List Int) (x : Int) : ofH (zs ++ [x]) = ofH zs ||| bH x := by simp [ofH]
theorem ofL_snoc (zs : List Int) (x : Int) : ofL (zs ++ [x]) = ofL zs ||| bL x := by simp [ofL]

set_option maxRecDepth 100000 in
set_option maxHeartbeats 4000000 in
theorem of_c (a : Option Addr) (c : Nat) (zs : List Int) (w : World) (h : RdZ w a zs) (hl : zs.length ≤ 1000000) (hz : ∀ z ∈ zs, -9223372036854775808 ≤ z ∧ z ≤ 9223372036854775807) :
    Calls Tryd.prog 33 #[.slice a zs.length c] w fun e w' => e = .returned (mV (ofH zs) (ofL zs)) ∧ Frm [] w w' := by
  have HR := Lib.hid h
  have HZ := Lib.hid hz
  have HS0 := Lib.hid (((Sep.init w).alloc #[.int .u64 0, .int .u64 0] 27).alloc #[.int .u64 0, .int .u64 0] 27)
  clear h hz
  go_enter Tryd.func33, Tryd.ntmps33
  go_upto_region 2 with fail
  obtain ⟨w1, hw1⟩ : ∃ w1, w1 = (w.alloc (.cells #[.int .u64 0, .int .u64 0] 27)).alloc (.cells #[.int .u64 0, .int .u64 0] 27) := ⟨_, rfl⟩
  obtain ⟨p, hp⟩ : ∃ p, p = w.heap.size := ⟨_, rfl⟩
  simp only [World.size_alloc] at HS0
  rw [← hw1, ← hp] at HS0
  rw [← hw1, ← hp]
  clear hw1 hp
  go_wp2_with fail
  go_loopw [8] (fun i wr => ∃ j : Nat, j ≤ zs.length ∧ i = .int .i64 j ∧ Sep [] w wr [blkR (p + 1) 27 #[.int .u64 (ofH (zs.take j) : Int), .int .u64 (ofL (zs.take j) : Int)], blkR p 27 #[.int .u64 0, .int .u64 0]]) (fun i _ => zs.length - (intOf i).toNat)
  case atStart => exact ⟨0, Nat.zero_le _, rfl, HS0.out⟩
  case round =>
    obtain ⟨j, hj, rfl, hS⟩ := hrel
    have HS := Lib.hid hS
    by_cases hlt : j < zs.length
    · obtain ⟨b, off, x, hx, rfl, hb, hc⟩ := (HR.out.below hS.frm.below).at_ hlt
      have i0 : (0 : Int) ≤ (j : Int) := by omega
      have i1 : (j : Int) < (zs.length : Int) := by omega
      have hzx := HZ.out x (hx ▸ List.getElem_mem hlt)
      have HSn := Lib.hid (show ofH (zs.take (j + 1)) = ofH (zs.take j) ||| bH x ∧ ofL (zs.take (j + 1)) = ofL (zs.take j) ||| bL x from by
        rw [List.take_succ_eq_append_getElem hlt, ← hx]; exact ⟨ofH_snoc _ _, ofL_snoc _ _⟩)
      have hH := ofH_lt (zs.take j)
      have hL := ofL_lt (zs.take j)
      obtain ⟨H, hHH⟩ : ∃ H, H = ofH (zs.take j) := ⟨_, rfl⟩
      obtain ⟨L, hLL⟩ : ∃ L, L = ofL (zs.take j) := ⟨_, rfl⟩
      rw [← hHH, ← hLL] at HS HSn
      rw [← hHH] at hH
      rw [← hLL] at hL
      have HW := Lib.hid (fun X => with_c H L x X hH hL hzx.1 hzx.2)
      unfold mV at HW
      have c0 := (HS.out.blk 0 rfl).cell 0 rfl
      have c1 := (HS.out.blk 0 rfl).cell 1 rfl
      clear hS hx hb hHH hLL hH hL hzx HR HZ HS0
      go_wp2_with fail
      refine (HW.out _).mono ?_
      rintro e w2 ⟨rfl, hf⟩
      have HS2 := Lib.hid (HS.out.keep hf)
      clear hf c0 c1
      have c0 := (HS2.out.blk 0 rfl).cell 0 rfl
      have c1 := (HS2.out.blk 0 rfl).cell 1 rfl
      have f0 := (HS2.out.blk 0 rfl).free 0
      have f1 := (HS2.out.blk 0 rfl).free 1
      go_wp2_with fail
      have h5 := (HS2.out.put 0 rfl 0 (.int .u64 ((H ||| bH x : Nat) : Int))).put 0 rfl 1 (.int .u64 ((L ||| bL x : Nat) : Int))
      go_roundw
      case rel => exact ⟨j + 1, by omega, by go_num, by rw [HSn.out.1, HSn.out.2]; exact h5⟩
      case measure => simp [intOf]; omega
    · obtain rfl : j = zs.length := by omega
      rw [List.take_length] at HS
      have c0 := (HS.out.blk 0 rfl).cell 0 rfl
      have c1 := (HS.out.blk 0 rfl).cell 1 rfl
      have d0 := (HS.out.blk 1 rfl).cell 0 rfl
      have d1 := (HS.out.blk 1 rfl).cell 1 rfl
      have f0 := (HS.out.blk 1 rfl).free 0
      have f1 := (HS.out.blk 1 rfl).free 1
      clear hS
      go_wp2_with fail
      have h5 := (HS.out.put 1 rfl 0 (.int .u64 (ofH zs : Int))).put 1 rfl 1 (.int .u64 (ofL zs : Int))
      have e0 := (h5.blk 1 rfl).cell 0 rfl
      have e1 := (h5.blk 1 rfl).cell 1 rfl
      obtain ⟨wx, hwx⟩ : ∃ wx, wx = (wr.setCell ⟨p, 0, none⟩ (.int .u64 (ofH zs : Int))).setCell ⟨p, 1, none⟩ (.int .u64 (ofL zs : Int)) := ⟨_, rfl⟩
      rw [← hwx] at h5 e0 e1 ⊢
      refine bodyPost_ret (v := mV (ofH zs) (ofL zs)) ?_ rfl ⟨rfl, h5.frm⟩
      simp [results, Tryd.results33, go_sem, e0, e1, mV]

end Go.Proofs.YtibccecmicndaaaDoor
