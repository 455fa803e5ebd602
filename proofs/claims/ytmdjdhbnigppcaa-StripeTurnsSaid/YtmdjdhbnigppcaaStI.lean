/-
  THE WALKS: SameAll; the iterator of the document's example; a row as a string.
-/
import Derived.Test.YtmdjdhbnigppcaaStH
import Derived.Laws.BytesArg
set_option linter.unusedVariables false
set_option linter.unusedSimpArgs false
namespace Go.Proofs.Ytmdjdhbnigppcaa
open Go.RowKit Go.Shelf
attribute [local go_sem] Oper.semAt_some

theorem str_of {w : World} {v : Value} {xs : List Int} (ho : (sumR v xs).P w) : (convert 25 9 v).run Try.prog w = .ok (.string (strOfNums xs)) w := by
  rcases ho.2 with ⟨rfl, h0⟩ | ⟨g, c, cur, rfl, _, hh, _⟩
  · have : xs = [] := by simpa using h0
    subst this
    exact run_convert_bytes_nil w 25 5 Try.underlying25 Try.underlying5 0 0 9 Try.underlying9
  · exact run_convert_bytes_arg w 25 5 Try.underlying25 Try.underlying5 g 0 xs.length c xs rfl (fun i hi => by rw [Nat.zero_add]; exact row_cell (g := g) ho i hi) 9 Try.underlying9

set_option maxRecDepth 100000 in
set_option maxHeartbeats 4000000 in
theorem sameall_c (a b : Option Addr) (ca cb : Nat) (xs ys : List Bs) (w : World) (rx : RdRows w a xs) (ry : RdRows w b ys) (hx : xs.length ≤ 1000) (hy : ys.length ≤ 1000) (heq : xs.map Bs.zs = ys.map Bs.zs) :
    Calls Try.prog 17 #[.slice a xs.length ca, .slice b ys.length cb] w fun e w' => e = .returned (.bool true) ∧ ∃ m, w' = w.drewN m := by
  have HX := Lib.hid rx
  have HY := Lib.hid ry
  have hl : xs.length = ys.length := by have := congrArg List.length heq; simpa using this
  have HE := Lib.hid heq
  clear rx ry heq
  have g1 : ((xs.length : Int) != (ys.length : Int)) = false := by simp; omega
  have g2 : ys.length ≤ xs.length ∧ xs.length ≤ ys.length := ⟨by omega, by omega⟩
  have HL := Lib.hid hl
  obtain ⟨g3, g4⟩ := g2
  clear hl
  go_enter Try.func17, Try.ntmps17
  go_wp2_with fail
  go_loopw [5] (fun i wr => ∃ (k m : Nat), k ≤ xs.length ∧ i = .int .i64 k ∧ wr = w.drewN m) (fun i _ => xs.length - (intOf i).toNat)
  case atStart => exact ⟨0, 0, Nat.zero_le _, rfl, rfl⟩
  case round =>
    obtain ⟨k, m, hk, rfl, hwr⟩ := hrel
    by_cases hlt : k < xs.length
    · obtain ⟨x, hx'⟩ : ∃ x, xs[k]? = some x := ⟨_, List.getElem?_eq_getElem hlt⟩
      obtain ⟨y, hy'⟩ : ∃ y, ys[k]? = some y := ⟨_, List.getElem?_eq_getElem (by omega)⟩
      obtain ⟨⟨b1, o1, rfl, _, cx⟩, okx⟩ := HX.out k x hx'
      obtain ⟨⟨b2, o2, rfl, _, cy⟩, oky⟩ := HY.out k y hy'
      have cx2 : wr.cell? ⟨b1, o1 + k, none⟩ = some x.val := by rw [hwr]; exact cx
      have cy2 : wr.cell? ⟨b2, o2 + k, none⟩ = some y.val := by rw [hwr]; exact cy
      have hz : x.zs = y.zs := by
        have h := congrArg (fun l => l[k]?) HE.out
        simp only [List.getElem?_map, hx', hy', Option.map_some, Option.some.injEq] at h
        exact h
      have i1 : (0 : Int) ≤ (k : Int) := by omega
      have i2 : (k : Int) < (xs.length : Int) := by omega
      have i3 : (k : Int) < (ys.length : Int) := by omega
      have HW := Lib.hid hwr
      have HC : Hid (∀ n : Nat, Calls Try.prog 13 #[x.val, y.val] (wr.drewN n) fun e w' => e = .returned (.bool true) ∧ ∃ m, w' = (wr.drewN n).drewN m) := Lib.hid (fun n => by
        have h := bsame_c x.a y.a x.c y.c x.zs y.zs (wr.drewN n) (by rw [hwr]; exact okx.1) (by rw [hwr]; exact oky.1) okx.2.2 oky.2.2
        rw [decide_eq_true hz] at h
        exact h)
      unfold Bs.val at cx2 cy2 HC
      obtain ⟨wi, hwi⟩ : ∃ wi : World, wi = wr := ⟨_, rfl⟩
      rw [← hwi] at HW cx2 cy2 HC ⊢
      clear hwi hwr cx cy hx' hy' okx oky hz
      go_wp2_with fail
      go_quiet ((go_at_call 13; exact Calls.quiet_of (HC.out _)))
      go_wp2_with fail
      go_roundw
      case rel => exact ⟨k + 1, m + nq, by omega, by go_num, by rw [HW.out]; simp⟩
      case measure => simp [intOf]; omega
    · obtain rfl : k = xs.length := by omega
      have HW := Lib.hid hwr
      clear hwr
      go_wp2_with fail
      go_ret
      exact ⟨rfl, m, HW.out⟩

theorem RdI.made (w : World) (t : TypeId) (k : IntKind) (zs : List Int) (hz : 0 < zs.length) : RdI k (w.alloc (.cells (zs.map (Value.int k)).toArray t)) (some ⟨w.heap.size, 0, none⟩) zs := fun i x hx =>
  ⟨w.heap.size, 0, rfl, by simp, (Blk.made w t _).cell _ (by simp [hx])⟩

/-- The example's rows. -/
def exA (w : World) : Bs := ⟨some ⟨w.heap.size, 0, none⟩, 2, [1, 2]⟩
def exB (w : World) : Bs := ⟨some ⟨w.heap.size, 0, none⟩, 1, [3]⟩
theorem exA_val (w : World) : (exA w).val = .slice (some ⟨w.heap.size, 0, none⟩) 2 2 := rfl
theorem exB_val (w : World) : (exB w).val = .slice (some ⟨w.heap.size, 0, none⟩) 1 1 := rfl
theorem exA_rd (n0 B : Nat) (w : World) (t : TypeId) (hB : B ≤ w.heap.size) : RdB n0 B (exA w) (w.alloc (.cells #[.int .u8 1, .int .u8 2] t)) :=
  ⟨⟨RdI.made w t .u8 [1, 2] (by simp), by unfold exA Bs.fit Byt; simp⟩, fun _ p hp => by injection hp with hp; subst hp; exact .inr hB⟩
theorem exB_rd (n0 B : Nat) (w : World) (t : TypeId) (hB : B ≤ w.heap.size) : RdB n0 B (exB w) (w.alloc (.cells #[.int .u8 3] t)) :=
  ⟨⟨RdI.made w t .u8 [3] (by simp), by unfold exB Bs.fit Byt; simp⟩, fun _ p hp => by injection hp with hp; subst hp; exact .inr hB⟩

set_option maxRecDepth 100000 in
set_option maxHeartbeats 2000000 in
theorem exseq (n : Nat) (hn : 1 ≤ n) (w : World) :
    SeqRd n Try.prog 27 #[] (fun x : Bs => #[x.val]) (Below w.heap.size) (RdB w.heap.size) (fun ys => ys.map Bs.zs = [[1, 2], [3]]) 2 w := by
  intro l J W B0 hW hB0 hal hY h0
  have ha := exA_rd w.heap.size B0 W 5 hB0
  have hJ0 := hal _ _ _ _ h0 (grown_alloc (grown_refl W none) (.cells #[.int .u8 1, .int .u8 2] 5))
  obtain ⟨fn, tmps, assign, body, hy, hR⟩ := hY [] B0 (exA W) _ hJ0 ha (by simp)
  have HR := Lib.hid hR
  have HY := Lib.hid hY
  have HAl := Lib.hid hal
  have HW := Lib.hid hW
  clear hR hY hal h0 hJ0 ha hW
  simp only [exA_val] at hy
  refine callsIn_of_wp Try.func27 rfl trivial ?_ rfl
  simp only [Try.ntmps27, List.size_toArray, List.length_cons, List.length_nil, Nat.reduceAdd, Nat.reduceSub, Array.replicate_succ, Array.replicate_zero, List.push_toArray, List.append_toArray, List.nil_append, List.cons_append]
  gi_wp2
  refine HR.out.mono ?_
  rintro e W3 ⟨rfl, hJ3, hk3⟩
  clear hy HR
  have hb := exB_rd w.heap.size W3.heap.size W3 5 (Nat.le_refl _)
  have hJ4 := HAl.out _ _ _ _ hJ3 (grown_alloc (grown_refl W3 none) (.cells #[.int .u8 3] 5))
  obtain ⟨fn, tmps, assign, body, hy, hR⟩ := HY.out ([] ++ [exA W]) W3.heap.size (exB W3) _ hJ4 hb (by simp)
  have HR := Lib.hid hR
  clear hR hJ3 hJ4 hb hk3
  simp only [exB_val] at hy
  gi_wp2
  refine HR.out.mono ?_
  rintro e W5 ⟨rfl, hJ5, hk5⟩
  clear hy HR
  have HJ := Lib.hid hJ5
  clear hJ5 hk5
  gi_wp2
  go_end0
  exact ⟨⟨_, rfl⟩, [exA W, exB W3], _, rfl, HJ.out⟩

end Go.Proofs.Ytmdjdhbnigppcaa
