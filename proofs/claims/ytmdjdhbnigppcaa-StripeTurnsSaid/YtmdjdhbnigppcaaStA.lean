/-
  THE WALKS of stripe: Add, Count, Longest, Bytes.
-/
import Derived.Test.YtmdjdhbnigppcaaStP
import Derived.Test.YtmdjdhbnigppcaaRow
import Derived.Test.YtmdjdhbnigppcaaApp
set_option linter.unusedVariables false
set_option linter.unusedSimpArgs false
namespace Go.Proofs.Ytmdjdhbnigppcaa
open Go.RowKit

theorem info_u8 : (Try.prog.info? 5).map (fun i => (i.zero, i.size, i.bytes)) = some (some (.int .u8 0), 1, 1) := by kernel_rfl
/-- The row of a sum, and the sum. -/
def sumR (v : Value) (xs : List Int) : Res := ownR 5 1 v xs.length (xs.map (Value.int .u8))
def sumB (s : Nat) (v : Value) (n : Int) : Res := blkR s 28 #[v, .int .i64 n]

set_option maxRecDepth 100000 in
set_option maxHeartbeats 8000000 in
theorem sadd_c (s : Nat) (v : Value) (xs : List Int) (cnt : Int) (a : Option Addr) (cap : Nat) (zs : List Int) (w : World) (F : List Nat)
    (h : Sep F w w [sumR v xs, sumB s v cnt]) (rd : RdI .u8 w a zs) (hap : 0 < zs.length → ∀ p, a = some p → p.block ∉ F) (hF : ∀ g ∈ v.ownBlock.toList ++ [s], g ∈ F)
    (bx0 : Byt xs) (bz0 : Byt zs) (hx : xs.length ≤ 1000000) (hz : zs.length ≤ 1000000) (c0 : 0 ≤ cnt) (c1 : cnt ≤ 1000000) :
    Calls Try.prog 11 #[.pointer (some ⟨s, 0, none⟩), .slice a zs.length cap] w fun e w' => e = .returned (.tuple #[]) ∧ ∃ v', Sep F w w' [sumR v' (xo xs zs), sumB s v' (cnt + 1)] := by
  obtain ⟨i0, hi, hz0, hz1, hz2⟩ := info_parts info_u8
  unfold sumR sumB at h
  have HS := Lib.hid h
  have HR := Lib.hid rd
  have HA := Lib.hid hap
  have HBx := Lib.hid bx0
  have HBz := Lib.hid bz0
  have cb := h.blk 1 rfl
  have cf := cb.free 1
  have cc := cb.cell 1 rfl
  have cv := cb.cell 0 rfl
  have e1 : IntKind.i64.wrap (cnt + 1) = cnt + 1 := IntWalk.i64_in _ (by omega)
  have hlen : ∃ ad c, v = .slice ad xs.length c := by
    rcases row_form (h.own 0 rfl) with ⟨h1, h2⟩ | ⟨g, c, h1⟩
    · exact ⟨_, _, by rw [h1, h2]⟩
    · exact ⟨_, _, h1⟩
  obtain ⟨ad, c, rfl⟩ := hlen
  clear h rd hap bx0 bz0 cb
  go_enter Try.func11, Try.ntmps11
  by_cases hgt : xs.length < zs.length
  · have e2 : IntKind.i64.wrap ((zs.length : Int) - (xs.length : Int)) = (zs.length : Int) - (xs.length : Int) := IntWalk.i64_in _ (by omega)
    have g1 : decide (0 < (zs.length : Int) - (xs.length : Int)) = true := by rw [decide_eq_true_eq]; omega
    have HS1 := Lib.hid (HS.out.put 1 rfl 1 (.int .i64 (cnt + 1)))
    go_wp2_with (at_builtin; refine wpList_append_zeros rfl _ _ 25 3 rfl 0 5 i0 (.int .u8 0) 1 .i64 .i64 Try.underlying25 Try.underlying3 hi hz0 hz1 hz2 rfl rfl _ _ _ rfl HS1.out rfl (zs.length - xs.length) _ rfl (by omega) (by omega) (by unfold maxLen; omega) (by omega) zs.length (by omega) ?_; intro v4 w4 hS4; obtain ⟨g4, c4, rfl⟩ := row_slice (hS4.own 0 rfl) (by omega); have cb4 := hS4.blk 1 rfl; have cf4 := cb4.free 0; have cc4 := cb4.cell 0 rfl; have HS4 := Lib.hid hS4; clear hS4 cb4)
    obtain ⟨ys, hys⟩ : ∃ ys, ys = xs ++ List.replicate (zs.length - xs.length) 0 := ⟨_, rfl⟩
    have hyl : ys.length = zs.length := by rw [hys, List.length_append, List.length_replicate]; omega
    have hxo : xo ys zs = xo xs zs := by rw [hys]; exact xo_pad HBx.out HBz.out _ (by omega)
    have hby : Byt ys := by rw [hys]; exact HBx.out.pad _
    have HS5 : Hid (Sep F w (w4.setCell ⟨s, 0, none⟩ (.slice (some ⟨g4, 0, none⟩) zs.length c4)) [ownR 5 1 (.slice (some ⟨g4, 0, none⟩) zs.length c4) zs.length (ys.map (Value.int .u8)), blkR s 28 #[.slice (some ⟨g4, 0, none⟩) zs.length c4, .int .i64 (cnt + 1)]]) := Lib.hid (by
      have h5 := HS4.out.put 1 rfl 0 (.slice (some ⟨g4, 0, none⟩) zs.length c4)
      rw [hys, List.map_append, List.map_replicate]
      exact h5)
    obtain ⟨w5, hw5⟩ : ∃ w5, w5 = w4.setCell ⟨s, 0, none⟩ (.slice (some ⟨g4, 0, none⟩) zs.length c4) := ⟨_, rfl⟩
    rw [← hw5] at HS5 ⊢
    have HY := Lib.hid (And.intro hyl (And.intro hxo hby))
    clear hys hyl hxo hby hw5 HS4 HS1 cf4 cc4
    go_loopw [35] (fun i wr => ∃ (k : Nat), k ≤ zs.length ∧ i = .int .i64 k ∧ Sep F w wr [ownR 5 1 (.slice (some ⟨g4, 0, none⟩) zs.length c4) zs.length ((xo ys (zs.take k)).map (Value.int .u8)), blkR s 28 #[.slice (some ⟨g4, 0, none⟩) zs.length c4, .int .i64 (cnt + 1)]]) (fun i _ => zs.length - (intOf i).toNat)
    case atStart => exact ⟨0, Nat.zero_le _, rfl, by rw [List.take_zero, xo_nil]; exact HS5.out⟩
    case round =>
      obtain ⟨k, hk, rfl, hS⟩ := hrel
      have HS6 := Lib.hid hS
      clear hS
      by_cases hlt : k < zs.length
      · obtain ⟨b, off, z, hz', rfl, hb, cz⟩ := (HR.out.frm HS6.out.frm (HA.out (by omega))).at_ k hlt
        have hzk : zs.getD k 0 = z := by rw [List.getD_eq_getElem?_getD, hz']; rfl
        have cy := row_cell (HS6.out.own 0 rfl) k (by have := HY.out.1; rw [xo_length]; omega)
        rw [xo_at HY.out.2.2 HBz.out k] at cy
        have cfk := row_free (HS6.out.own 0 rfl) k
        have hz2' := HBz.out.get k
        rw [hzk] at hz2'
        have hy2 := HY.out.2.2.get k
        have hst := xo_step HY.out.2.2 HBz.out k hlt (by have := HY.out.1; omega)
        rw [hzk] at hst
        obtain ⟨y, hy⟩ : ∃ y, y = ys.getD k 0 := ⟨_, rfl⟩
        rw [← hy] at cy hy2 hst
        obtain ⟨y0, y1⟩ := hy2
        obtain ⟨z0, z1⟩ := hz2'
        have hbx := bits_xor_u8 y0 y1 z0 z1
        have cs := (HS6.out.blk 1 rfl).cell 0 rfl
        have i0' : (0 : Int) ≤ (k : Int) := by omega
        have i1' : (k : Int) < (zs.length : Int) := by omega
        have HSt := Lib.hid hst
        have HBx2 := Lib.hid hbx
        clear hz' hzk hb hy hst
        go_wp2_with fail
        go_roundw
        case rel =>
          refine ⟨k + 1, by omega, by go_num, ?_⟩
          have h := HS6.out.putRow 0 rfl k (bx y z)
          rw [← HSt.out] at h
          first | exact h | (rw [HBx2.out]; exact h)
        case measure => simp [intOf]; omega
      · obtain rfl : k = zs.length := by omega
        go_wp2_with fail
        go_end0
        refine ⟨rfl, .slice (some ⟨g4, 0, none⟩) zs.length c4, ?_⟩
        have h := HS6.out
        rw [List.take_length, HY.out.2.1] at h
        unfold sumR sumB
        rw [show (xo xs zs).length = zs.length from by rw [xo_length]; omega]
        exact h
  · have e2 : IntKind.i64.wrap ((zs.length : Int) - (xs.length : Int)) = (zs.length : Int) - (xs.length : Int) := IntWalk.i64_in _ (by omega)
    have g1 : decide (0 < (zs.length : Int) - (xs.length : Int)) = false := by rw [decide_eq_false_iff_not]; omega
    have HS5 := Lib.hid (HS.out.put 1 rfl 1 (.int .i64 (cnt + 1)))
    go_wp2_with fail
    obtain ⟨w5, hw5⟩ : ∃ w5, w5 = w.setCell ⟨s, 1, none⟩ (.int .i64 (cnt + 1)) := ⟨_, rfl⟩
    rw [← hw5] at HS5 ⊢
    clear hw5
    go_loopw [35] (fun i wr => ∃ (k : Nat), k ≤ zs.length ∧ i = .int .i64 k ∧ Sep F w wr [ownR 5 1 (.slice ad xs.length c) xs.length ((xo xs (zs.take k)).map (Value.int .u8)), blkR s 28 #[.slice ad xs.length c, .int .i64 (cnt + 1)]]) (fun i _ => zs.length - (intOf i).toNat)
    case atStart => exact ⟨0, Nat.zero_le _, rfl, by rw [List.take_zero, xo_nil]; exact HS5.out⟩
    case round =>
      obtain ⟨k, hk, rfl, hS⟩ := hrel
      have HS6 := Lib.hid hS
      clear hS
      by_cases hlt : k < zs.length
      · obtain ⟨g4, c4, hv⟩ := row_slice (HS6.out.own 0 rfl) (by omega)
        injection hv with hv1 _ hv3
        subst hv1 hv3
        obtain ⟨b, off, z, hz', rfl, hb, cz⟩ := (HR.out.frm HS6.out.frm (HA.out (by omega))).at_ k hlt
        have hzk : zs.getD k 0 = z := by rw [List.getD_eq_getElem?_getD, hz']; rfl
        have cy := row_cell (HS6.out.own 0 rfl) k (by rw [xo_length]; omega)
        rw [xo_at HBx.out HBz.out k] at cy
        have cfk := row_free (HS6.out.own 0 rfl) k
        have hz2' := HBz.out.get k
        rw [hzk] at hz2'
        have hy2 := HBx.out.get k
        have hst := xo_step HBx.out HBz.out k hlt (by omega)
        rw [hzk] at hst
        obtain ⟨y, hy⟩ : ∃ y, y = xs.getD k 0 := ⟨_, rfl⟩
        rw [← hy] at cy hy2 hst
        obtain ⟨y0, y1⟩ := hy2
        obtain ⟨z0, z1⟩ := hz2'
        have hbx := bits_xor_u8 y0 y1 z0 z1
        have cs := (HS6.out.blk 1 rfl).cell 0 rfl
        have i0' : (0 : Int) ≤ (k : Int) := by omega
        have i1' : (k : Int) < (xs.length : Int) := by omega
        have i2' : (k : Int) < (zs.length : Int) := by omega
        have HSt := Lib.hid hst
        have HBx2 := Lib.hid hbx
        clear hz' hzk hb hy hst
        go_wp2_with fail
        go_roundw
        case rel =>
          refine ⟨k + 1, by omega, by go_num, ?_⟩
          have h := HS6.out.putRow 0 rfl k (bx y z)
          rw [← HSt.out] at h
          first | exact h | (rw [HBx2.out]; exact h)
        case measure => simp [intOf]; omega
      · obtain rfl : k = zs.length := by omega
        go_wp2_with fail
        go_end0
        refine ⟨rfl, .slice ad xs.length c, ?_⟩
        have h := HS6.out
        rw [List.take_length] at h
        unfold sumR sumB
        rw [show (xo xs zs).length = xs.length from by rw [xo_length]; omega]
        exact h

end Go.Proofs.Ytmdjdhbnigppcaa
