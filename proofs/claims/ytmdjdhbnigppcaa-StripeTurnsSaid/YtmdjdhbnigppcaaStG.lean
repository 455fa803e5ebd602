/-
  THE WALKS: Same, Copy, SameAll, Held, small; stripe: IndexFunc, Gap, Zero, Fit.
-/
import Derived.Test.YtmdjdhbnigppcaaStF
import Derived.Laws.CopyOwn
set_option linter.unusedVariables false
set_option linter.unusedSimpArgs false
namespace Go.Proofs.Ytmdjdhbnigppcaa
open Go.RowKit

set_option maxRecDepth 100000 in
set_option maxHeartbeats 4000000 in
theorem bsame_c (a b : Option Addr) (ca cb : Nat) (xs ys : List Int) (w : World) (rx : RdI .u8 w a xs) (ry : RdI .u8 w b ys) (hx : xs.length ≤ 1000000) (hy : ys.length ≤ 1000000) :
    Calls Try.prog 13 #[.slice a xs.length ca, .slice b ys.length cb] w fun e w' => e = .returned (.bool (decide (xs = ys))) ∧ ∃ m, w' = w.drewN m := by
  have HX := Lib.hid rx
  have HY := Lib.hid ry
  clear rx ry
  obtain ⟨T, hT⟩ : ∃ T, T = decide (xs = ys) := ⟨_, rfl⟩
  rw [← hT]
  have HT := Lib.hid hT
  clear hT
  by_cases hl : xs.length = ys.length
  · have g1 : ((xs.length : Int) != (ys.length : Int)) = false := by simp; omega
    have g2 : ys.length ≤ xs.length ∧ xs.length ≤ ys.length := ⟨by omega, by omega⟩
    have HL := Lib.hid hl
    obtain ⟨g3, g4⟩ := g2
    clear hl
    go_enter Try.func13, Try.ntmps13
    go_wp2_with fail
    go_loopw [5] (fun i wr => ∃ (k m : Nat), k ≤ xs.length ∧ i = .int .i64 k ∧ wr = w.drewN m ∧ xs.take k = ys.take k) (fun i _ => xs.length - (intOf i).toNat)
    case atStart => exact ⟨0, 0, Nat.zero_le _, rfl, rfl, rfl⟩
    case round =>
      obtain ⟨k, m, hk, rfl, hwr, htk⟩ := hrel
      by_cases hlt : k < xs.length
      · obtain ⟨b1, o1, x, hx1, rfl, _, cx⟩ := HX.out.at_ k hlt
        obtain ⟨b2, o2, y, hy1, rfl, _, cy⟩ := HY.out.at_ k (by omega)
        have cx2 : wr.cell? ⟨b1, o1 + k, none⟩ = some (.int .u8 x) := by rw [hwr]; exact cx
        have cy2 : wr.cell? ⟨b2, o2 + k, none⟩ = some (.int .u8 y) := by rw [hwr]; exact cy
        have i1 : (0 : Int) ≤ (k : Int) := by omega
        have i2 : (k : Int) < (xs.length : Int) := by omega
        have i3 : (k : Int) < (ys.length : Int) := by omega
        have HW := Lib.hid hwr
        have HTk := Lib.hid htk
        have HXY := Lib.hid (And.intro hx1 hy1)
        obtain ⟨wi, hwi⟩ : ∃ wi : World, wi = wr := ⟨_, rfl⟩
        rw [← hwi] at HW cx2 cy2 ⊢
        clear hwi hwr htk hx1 hy1 cx cy
        by_cases hxy : x = y
        · have g5 : (x != y) = false := by simp [hxy]
          have hnext : xs.take (k + 1) = ys.take (k + 1) := by rw [List.take_add_one, List.take_add_one, HXY.out.1, HXY.out.2, HTk.out, hxy]
          have HNx := Lib.hid hnext
          clear hnext hxy
          go_wp2_with fail
          go_quiet (fail)
          go_wp2_with fail
          go_roundw
          case rel => exact ⟨k + 1, m + nq, by omega, by go_num, by rw [HW.out]; simp, HNx.out⟩
          case measure => simp [intOf]; omega
        · have g5 : (x != y) = true := by simp [hxy]
          have hno : T = false := by
            rw [HT.out, decide_eq_false_iff_not]
            intro h
            have h2 := HXY.out
            rw [h, h2.2] at h2
            exact hxy (by injection h2.1 with e; exact e.symm)
          have HNo := Lib.hid hno
          clear hno hxy
          go_wp2_with fail
          go_quiet (fail)
          go_wp2_with fail
          go_ret
          exact ⟨by rw [HNo.out]; rfl, m + nq, by rw [HW.out]; simp⟩
      · obtain rfl : k = xs.length := by omega
        have hyes : T = true := by
          rw [HT.out, decide_eq_true_eq]
          have h2 := htk
          rw [List.take_length, HL.out, List.take_length] at h2
          exact h2
        have HW := Lib.hid hwr
        have HYs := Lib.hid hyes
        clear hwr htk hyes
        go_wp2_with fail
        go_ret
        exact ⟨by rw [HYs.out]; rfl, m, HW.out⟩
  · have g1 : ((xs.length : Int) != (ys.length : Int)) = true := by simp; omega
    have hno : T = false := by
      rw [HT.out, decide_eq_false_iff_not]
      intro h
      exact hl (by rw [h])
    have HNo := Lib.hid hno
    clear hno hl
    go_enter Try.func13, Try.ntmps13
    go_wp2_with fail
    go_ret
    exact ⟨by rw [HNo.out]; rfl, 0, rfl⟩

set_option maxRecDepth 100000 in
set_option maxHeartbeats 4000000 in
theorem bcopy_c (a : Option Addr) (cap : Nat) (zs : List Int) (w : World) (rd : RdI .u8 w a zs) (hn : zs.length ≤ 1000000) :
    Calls Try.prog 10 #[.slice a zs.length cap] w fun e w' => ∃ g c, e = .returned (.slice (some ⟨g, 0, none⟩) zs.length c) ∧ Sep [] w w' [sumR (.slice (some ⟨g, 0, none⟩) zs.length c) zs] := by
  obtain ⟨i0, hi, hz0, hz1, hz2⟩ := info_parts info_u8
  have HR := Lib.hid rd
  have HS := Lib.hid ((Sep.init w).made 5 1 0 #[] (by unfold maxLen; omega) rfl)
  clear rd
  go_enter Try.func10, Try.ntmps10
  go_wp2_with fail
  go_loopw [3, 4] (fun v i wr => ∃ (k g c : Nat), k ≤ zs.length ∧ v = .slice (some ⟨g, 0, none⟩) k c ∧ i = .int .i64 k ∧ Sep [] w wr [ownR 5 1 (.slice (some ⟨g, 0, none⟩) k c) k ((zs.take k).map (Value.int .u8))]) (fun _ i _ => zs.length - (intOf i).toNat)
  case atStart => exact ⟨0, _, 0, Nat.zero_le _, rfl, rfl, HS.out⟩
  case round =>
    obtain ⟨k, g, c, hk, rfl, rfl, hS⟩ := hrel
    have HS2 := Lib.hid hS
    clear hS
    by_cases hlt : k < zs.length
    · obtain ⟨b, off, x, hx, rfl, _, cx⟩ := (HR.out.below HS2.out.frm.below).at_ k hlt
      have HSn := Lib.hid (show zs.take (k + 1) = zs.take k ++ [x] by rw [List.take_add_one, hx]; rfl)
      have i1 : (0 : Int) ≤ (k : Int) := by omega
      have i2 : (k : Int) < (zs.length : Int) := by omega
      clear hx
      go_wp2_with (at_builtin; refine wpList_append_sep rfl _ _ 25 rfl 0 5 i0 (.int .u8 0) 1 Try.underlying25 hi hz0 hz1 hz2 rfl _ _ _ rfl (HS2.out.skip _) rfl _ 1 (.int .u8 x) rfl (World.cell?_alloc_at _ _ _ _ rfl) rfl (by unfold maxLen; omega) (by omega) ?_; intro g4 c4 w4 hS4; have HS4 := Lib.hid hS4; clear hS4)
      go_roundw
      case rel => exact ⟨k + 1, g4, c4, by omega, rfl, by go_num, by rw [HSn.out]; simpa using HS4.out⟩
      case measure => simp [intOf]; omega
    · obtain rfl : k = zs.length := by omega
      rw [List.take_length] at HS2
      go_wp2_with fail
      go_ret
      exact ⟨_, _, rfl, HS2.out⟩

/-- A slice of slices, its elements' headers alone. -/
def RdHs (w : World) (ad : Option Addr) (xs : List Bs) : Prop :=
  ∀ i x, xs[i]? = some x → ∃ b off, ad = some ⟨b, off, none⟩ ∧ b < w.heap.size ∧ w.cell? ⟨b, off + i, none⟩ = some x.val
theorem RdRows.heads {w : World} {ad : Option Addr} {xs : List Bs} (h : RdRows w ad xs) : RdHs w ad xs := fun i x hx => (h i x hx).1
theorem RdHs.below {w w' : World} {ad : Option Addr} {xs : List Bs} (h : RdHs w ad xs) (hb : Below w.heap.size w w') : RdHs w' ad xs := fun i x hx => by
  obtain ⟨b, off, h1, h2, h3⟩ := h i x hx
  exact ⟨b, off, h1, Nat.lt_of_lt_of_le h2 hb.size, (hb.cell (p := ⟨b, off + i, none⟩) h2).trans h3⟩

set_option maxRecDepth 100000 in
set_option maxHeartbeats 4000000 in
theorem small_c (ad : Option Addr) (c : Nat) (xs : List Bs) (w : World) (hr : RdHs w ad xs) (hm : xs.length ≤ 9223372036854775807) :
    Calls Try.prog 8 #[.slice ad xs.length c] w fun e w' => w = w' ∧ ((e = .returned (.bool true) ∧ (∀ x ∈ xs, x.zs.length ≤ 500) ∧ xs.length ≤ 30) ∨ e = .returned (.bool false) ∧ ¬ ((∀ x ∈ xs, x.zs.length ≤ 500) ∧ xs.length ≤ 30)) := by
  have HR := Lib.hid hr
  clear hr
  go_enter Try.func8, Try.ntmps8
  go_wp2_with fail
  go_loopw [7] (fun i wr => ∃ (k : Nat), k ≤ xs.length ∧ i = .int .i64 k ∧ w = wr ∧ ∀ x ∈ xs.take k, x.zs.length ≤ 500) (fun i _ => xs.length - (intOf i).toNat)
  case atStart => exact ⟨0, Nat.zero_le _, rfl, rfl, by simp⟩
  case round =>
    obtain ⟨k, hk, rfl, rfl, hall⟩ := hrel
    by_cases hlt : k < xs.length
    · obtain ⟨x, hx⟩ : ∃ x, xs[k]? = some x := ⟨_, List.getElem?_eq_getElem hlt⟩
      obtain ⟨b, off, rfl, hb2, hb3⟩ := HR.out k x hx
      have i0 : (0 : Int) ≤ (k : Int) := by omega
      have i1 : (k : Int) < (xs.length : Int) := by omega
      have i2 : IntKind.i64.wrap ((k : Int) + 1) = (k : Int) + 1 := IntWalk.i64_in _ (by omega)
      unfold Bs.val at hb3
      have HX := Lib.hid hx
      have HAll := Lib.hid hall
      clear hx hb2 hall
      by_cases h5 : 500 < x.zs.length
      · have g5 : decide (500 < (x.zs.length : Int)) = true := by rw [decide_eq_true_eq]; omega
        go_wp2_with fail
        go_ret
        refine ⟨rfl, .inr ⟨rfl, fun h => ?_⟩⟩
        have := h.1 x (List.mem_of_getElem? HX.out)
        omega
      · have g5 : decide (500 < (x.zs.length : Int)) = false := by rw [decide_eq_false_iff_not]; omega
        go_wp2_with fail
        go_roundw
        case rel =>
          refine ⟨k + 1, by omega, by go_num, by first | rfl | trivial, fun y hy => ?_⟩
          rw [List.take_add_one, HX.out] at hy
          rcases List.mem_append.1 hy with h | h
          · exact HAll.out y h
          · simp at h; subst h; omega
        case measure => simp [intOf]; omega
    · obtain rfl : k = xs.length := by omega
      rw [List.take_length] at hall
      have HAll := Lib.hid hall
      clear hall
      by_cases h3 : xs.length ≤ 30
      · have g3 : decide ((xs.length : Int) ≤ 30) = true := by rw [decide_eq_true_eq]; omega
        go_wp2_with fail
        go_ret
        exact ⟨rfl, .inl ⟨by first | rfl | exact congrArg _ (congrArg _ g3), HAll.out, h3⟩⟩
      · have g3 : decide ((xs.length : Int) ≤ 30) = false := by rw [decide_eq_false_iff_not]; omega
        go_wp2_with fail
        go_ret
        exact ⟨rfl, .inr ⟨by first | rfl | exact congrArg _ (congrArg _ g3), fun h => h3 h.2⟩⟩

end Go.Proofs.Ytmdjdhbnigppcaa
