/-
  THE WALKS of merging in place: ranges exchanged, a piece turned round.
-/
import Derived.Test.YtkpkfgnebgcoaaaSrt
import Derived.Test.YtkpkfgnebgcoaaaSrtQ
set_option linter.unusedVariables false
set_option linter.unusedSimpArgs false
namespace Go.Proofs.Ytkpkfgnebgcoaaa
open Go.RowKit

set_option maxRecDepth 100000 in
set_option maxHeartbeats 8000000 in
theorem swapRange_c (g cap : Nat) (V : Value) (L : List Int) (tl : List Value) (a b n : Nat) (w : World) (hg : Blk w g 22 (srtCells L tl))
    (hab : a + n ≤ b) (hb : b + n ≤ L.length) (hl : L.length ≤ cap ∧ L.length ≤ 1000000) (hm : cap ≤ 9223372036854775807) :
    Calls Try.prog 36 #[.slice (some ⟨g, 0, none⟩) L.length cap, .int .i64 a, .int .i64 b, .int .i64 n, V] w fun e w' => e = .returned (.tuple #[]) ∧ ∃ L', By L L' (swpIx a b n) ∧ Turned L L' a (b + n) ∧ Blk w' g 22 (srtCells L' tl) ∧ Frm [g] w w' := by
  have HG := Lib.hid hg
  clear hg
  go_enter Try.func36, Try.ntmps36
  go_wp2_with fail
  go_loopw [10] (fun i wr => ∃ (k : Nat) (M : List Int), k ≤ n ∧ i = .int .i64 k ∧ By L M (swpIx a b k) ∧ Turned L M a (b + n) ∧ Blk wr g 22 (srtCells M tl) ∧ Frm [g] w wr) (fun i _ => n - (intOf i).toNat)
  case atStart => exact ⟨0, L, Nat.zero_le _, rfl, fun k => by rw [swpIx_zero], Turned.refl _ _ _, HG.out, Frm.refl _ _⟩
  case round =>
    obtain ⟨k, M, hk, rfl, hby, ht, hbl, hfr⟩ := hrel
    have hlen := ht.len
    have hl1 : M.length ≤ L.length := by omega
    have hl2 : L.length ≤ M.length := by omega
    have HBy := Lib.hid hby
    have HT := Lib.hid ht
    have HB := Lib.hid hbl
    have HF := Lib.hid hfr
    clear hby ht hbl hfr hlen
    by_cases hlt : k < n
    · obtain ⟨x, hx⟩ : ∃ x, x = M.getD (a + k) 0 := ⟨_, rfl⟩
      obtain ⟨y, hy⟩ : ∃ y, y = M.getD (b + k) 0 := ⟨_, rfl⟩
      have cx : wr.cell? ⟨g, a + k, none⟩ = some (.int .u16 x) := by rw [hx]; exact HB.out.cell (a + k) (srt_at M tl (a + k) (by omega))
      have cy : wr.cell? ⟨g, b + k, none⟩ = some (.int .u16 y) := by rw [hy]; exact HB.out.cell (b + k) (srt_at M tl (b + k) (by omega))
      have fx := HB.out.free (a + k)
      have fy := HB.out.free (b + k)
      have gl := HB.out.lt
      have i1 : IntKind.i64.wrap ((a : Int) + (k : Int)) = ((a + k : Nat) : Int) := by rw [show ((a + k : Nat) : Int) = (a : Int) + (k : Int) from by omega]; exact IntWalk.i64_in _ (by omega)
      have i2 : IntKind.i64.wrap ((b : Int) + (k : Int)) = ((b + k : Nat) : Int) := by rw [show ((b + k : Nat) : Int) = (b : Int) + (k : Int) from by omega]; exact IntWalk.i64_in _ (by omega)
      have i3 : (0 : Int) ≤ ((a + k : Nat) : Int) := by omega
      have i4 : ((a + k : Nat) : Int) < (L.length : Int) := by omega
      have i5 : (0 : Int) ≤ ((b + k : Nat) : Int) := by omega
      have i6 : ((b + k : Nat) : Int) < (L.length : Int) := by omega
      have hne : a + k ≠ b + k := by omega
      have HX := Lib.hid hx
      have HY := Lib.hid hy
      clear hx hy
      go_wp2_with fail
      go_region
      clear i1 i2
      go_wp2_with fail
      go_roundw
      case rel =>
        refine ⟨k + 1, swp M (a + k) (b + k), by omega, by go_num, HBy.out.swp_step (by omega) (by omega), HT.out.swp hb (by omega) (by omega) (by omega) (by omega), ?_, ?_⟩
        · have h1 := (HB.out.put (a + k) (.int .u16 y)).put (b + k) (.int .u16 x)
          rw [srt_set M tl (a + k) y (by omega), srt_set _ tl (b + k) x (by rw [List.length_set]; omega)] at h1
          have hsw : swp M (a + k) (b + k) = (M.set (a + k) y).set (b + k) x := by unfold swp; rw [HX.out, HY.out]
          rw [hsw]
          first | exact h1 | exact h1.drew
        · first | exact ((HF.out.put (.inl (by simp)) _ _ _).put (.inl (by simp)) _ _ _) | exact ((HF.out.put (.inl (by simp)) _ _ _).put (.inl (by simp)) _ _ _).drew
      case measure => simp [intOf]; omega
    · obtain rfl : k = n := by omega
      go_wp2_with fail
      go_end0
      exact ⟨rfl, M, HBy.out, HT.out, HB.out, HF.out⟩

set_option maxRecDepth 100000 in
set_option maxHeartbeats 8000000 in
theorem rotate_c (g cap : Nat) (V : Value) (L : List Int) (tl : List Value) (a m b : Nat) (w : World) (hg : Blk w g 22 (srtCells L tl))
    (ham : a < m) (hmb : m < b) (hb : b ≤ L.length) (hl : L.length ≤ cap ∧ L.length ≤ 1000000) (hm : cap ≤ 9223372036854775807) :
    Calls Try.prog 35 #[.slice (some ⟨g, 0, none⟩) L.length cap, .int .i64 a, .int .i64 m, .int .i64 b, V] w fun e w' => e = .returned (.tuple #[]) ∧ ∃ L', By L L' (rotIx a m b) ∧ Turned L L' a b ∧ Blk w' g 22 (srtCells L' tl) ∧ Frm [g] w w' := by
  have HG := Lib.hid hg
  clear hg
  go_enter Try.func35, Try.ntmps35
  go_wp2_with fail
  go_loopw [10, 11] (fun x y wr => ∃ (i j : Nat) (M : List Int), 0 < i ∧ 0 < j ∧ i ≤ m - a ∧ j ≤ b - m ∧ x = .int .i64 i ∧ y = .int .i64 j ∧ (∀ k, M.getD (rotIx (m - i) m (m + j) k) 0 = L.getD (rotIx a m b k) 0) ∧ Turned L M a b ∧ Blk wr g 22 (srtCells M tl) ∧ Frm [g] w wr) (fun x y _ => (intOf x).toNat + (intOf y).toNat)
  case atStart => exact ⟨m - a, b - m, L, by omega, by omega, Nat.le_refl _, Nat.le_refl _, by exact congrArg (Value.int .i64) (by omega), by exact congrArg (Value.int .i64) (by omega), fun k => by rw [show m - (m - a) = a from by omega, show m + (b - m) = b from by omega], Turned.refl _ _ _, HG.out, Frm.refl _ _⟩
  case round =>
    obtain ⟨i, j, M, hi, hj, him, hjb, rfl, rfl, hby, ht, hbl, hfr⟩ := hrel
    have hlen := ht.len
    have HSw : Hid (∀ (p q n : Nat) (P Q N : Int), P = p → Q = q → N = n → p + n ≤ q → q + n ≤ M.length → Calls Try.prog 36 #[.slice (some ⟨g, 0, none⟩) L.length cap, .int .i64 P, .int .i64 Q, .int .i64 N, V] wr fun e w' => e = .returned (.tuple #[]) ∧ ∃ L', By M L' (swpIx p q n) ∧ Turned M L' p (q + n) ∧ Blk w' g 22 (srtCells L' tl) ∧ Frm [g] wr w') := Lib.hid fun p q n P Q N hP hQ hN h1 h2 => by
      subst hP hQ hN
      have h := swapRange_c g cap V M tl p q n wr hbl h1 h2 (by omega) hm
      rw [hlen] at h
      exact h
    have HBy := Lib.hid hby
    have HT := Lib.hid ht
    have HF := Lib.hid hfr
    have hl1 : M.length ≤ L.length := by omega
    have hl2 : L.length ≤ M.length := by omega
    clear hby ht hbl hfr hlen
    by_cases hij : i = j
    · subst hij
      have n1 : ((i : Int) != (i : Int)) = false := by simp
      go_wp2_with fail
      refine (HSw.out (m - i) m i _ _ _ (by omega) rfl rfl (by omega) (by omega)).mono ?_
      rintro e w1 ⟨rfl, N, h1, h2, h3, h4⟩
      have HX := Lib.hid (And.intro h1 (And.intro h2 (And.intro h3 h4)))
      clear h1 h2 h3 h4
      go_wp2_with fail
      go_end0
      refine ⟨rfl, N, fun k => ?_, HT.out.trans (HX.out.2.1.wide (by omega) (by omega)), HX.out.2.2.1, HF.out.trans HX.out.2.2.2⟩
      rw [HX.out.1 k, rot_eq i m k (by omega)]
      exact HBy.out k
    · by_cases hgt : j < i
      · have n1 : ((i : Int) != (j : Int)) = true := by rw [bne_iff_ne]; omega
        clear hij
        go_wp2_with fail
        refine (HSw.out (m - i) m j _ _ _ (by omega) rfl rfl (by omega) (by omega)).mono ?_
        rintro e w1 ⟨rfl, N, h1, h2, h3, h4⟩
        have HX := Lib.hid (And.intro h1 (And.intro h2 (And.intro h3 h4)))
        clear h1 h2 h3 h4
        go_wp2_with fail
        go_roundw
        case rel =>
          refine ⟨i - j, j, N, by omega, hj, by omega, hjb, by exact congrArg (Value.int .i64) (by omega), rfl, fun k => ?_, HT.out.trans (HX.out.2.1.wide (by omega) (by omega)), HX.out.2.2.1, HF.out.trans HX.out.2.2.2⟩
          rw [HX.out.1, rot_gt i j m k (by omega) hgt]
          exact HBy.out k
        case measure => simp [intOf]; omega
      · have hlt : i < j := by omega
        have n1 : ((i : Int) != (j : Int)) = true := by rw [bne_iff_ne]; omega
        clear hij
        go_wp2_with fail
        refine (HSw.out (m - i) (m + j - i) i _ _ _ (by omega) (by omega) rfl (by omega) (by omega)).mono ?_
        rintro e w1 ⟨rfl, N, h1, h2, h3, h4⟩
        have HX := Lib.hid (And.intro h1 (And.intro h2 (And.intro h3 h4)))
        clear h1 h2 h3 h4
        go_wp2_with fail
        go_roundw
        case rel =>
          refine ⟨i, j - i, N, hi, by omega, him, by omega, rfl, by exact congrArg (Value.int .i64) (by omega), fun k => ?_, HT.out.trans (HX.out.2.1.wide (by omega) (by omega)), HX.out.2.2.1, HF.out.trans HX.out.2.2.2⟩
          rw [HX.out.1, rot_lt i j m k (by omega) hlt]
          exact HBy.out k
        case measure => simp [intOf]; omega

end Go.Proofs.Ytkpkfgnebgcoaaa
