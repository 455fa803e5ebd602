/-
  THE WALKS of sorting: the comparison, the insertion sort.
-/
import Derived.Test.YtkpkfgnebgcoaaaSer
import Derived.Test.YtkpkfgnebgcoaaaSrtP
set_option linter.unusedVariables false
set_option linter.unusedSimpArgs false
namespace Go.Proofs.Ytkpkfgnebgcoaaa
open Go.RowKit

/-- The array's cells: the numbers, and what lies behind them. -/
def srtCells (l : List Int) (tl : List Value) : Array Value := (l.map (Value.int .u16) ++ tl).toArray
theorem srt_at (l : List Int) (tl : List Value) (j : Nat) (hj : j < l.length) : (srtCells l tl)[j]? = some (.int .u16 (l.getD j 0)) := by
  simp [srtCells, List.getElem?_append_left, hj]
theorem srt_set (l : List Int) (tl : List Value) (j : Nat) (x : Int) (hj : j < l.length) : (srtCells l tl).setIfInBounds j (.int .u16 x) = srtCells (l.set j x) tl := by
  simp only [srtCells]
  rw [List.setIfInBounds_toArray, List.set_append, if_pos (by simpa using hj), List.map_set]
/-- The comparison: by how far they are ahead of the number in block c. -/
def cmpV (c : Nat) : Value := .func (.func 31) #[] #[.pointer (some ⟨c, 0, none⟩)]

set_option maxHeartbeats 1000000 in
theorem cmp_c (c : Nat) (f x y : Int) (w : World) (hc : Blk w c 22 #[.int .u16 f]) (f0 : 0 ≤ f) (f1 : f ≤ 65535) (x0 : 0 ≤ x) (x1 : x ≤ 65535) (y0 : 0 ≤ y) (y1 : y ≤ 65535) :
    Calls Try.prog 31 #[.int .u16 x, .int .u16 y, .pointer (some ⟨c, 0, none⟩)] w fun e w' => e = .returned (.int .i64 (ah16 x f - ah16 y f)) ∧ ∃ m, w' = w.drewN m := by
  have c0 : w.cell? ⟨c, 0, none⟩ = some (.int .u16 f) := hc.cell 0 rfl
  have hx := ah16_in x f
  have hy := ah16_in y f
  obtain ⟨p, hp⟩ : ∃ p, p = ah16 x f := ⟨_, rfl⟩
  obtain ⟨q, hq⟩ : ∃ q, q = ah16 y f := ⟨_, rfl⟩
  rw [← hp] at hx ⊢
  rw [← hq] at hy ⊢
  obtain ⟨p0, p1⟩ := hx
  obtain ⟨q0, q1⟩ := hy
  have HCp : Hid (∀ W, Calls Try.prog 11 #[.int .u16 x, .int .u16 f] W fun e w' => e = .returned (.int .i64 p) ∧ w' = W) := Lib.hid fun W => by rw [hp]; exact same_of (ahead_c x f W x0 x1 f0 f1)
  have HCq : Hid (∀ W, Calls Try.prog 11 #[.int .u16 y, .int .u16 f] W fun e w' => e = .returned (.int .i64 q) ∧ w' = W) := Lib.hid fun W => by rw [hq]; exact same_of (ahead_c y f W y0 y1 f0 f1)
  have e1 : IntKind.i64.wrap (p - q) = p - q := IntWalk.i64_in _ (by omega)
  clear hc hp hq
  go_enter Try.func31, Try.ntmps31
  go_wp2_with fail
  go_quiet ((first | (exact Calls.quiet_of_same (HCp.out _)) | (exact Calls.quiet_of_same (HCq.out _))))
  go_wp2_with fail
  go_ret
  exact ⟨rfl, nq, rfl⟩

set_option maxRecDepth 100000 in
set_option maxHeartbeats 8000000 in
theorem insertion_c (g c cap : Nat) (f : Int) (L : List Int) (tl : List Value) (a b : Nat) (w : World) (hg : Blk w g 22 (srtCells L tl)) (hc : Blk w c 22 #[.int .u16 f]) (hne : c ≠ g)
    (hab : a ≤ b) (hb : b ≤ L.length) (hl : L.length ≤ cap ∧ L.length ≤ 1000000) (hm : cap ≤ 9223372036854775807) (hL : ∀ x ∈ L, 0 ≤ x ∧ x ≤ 65535) (f0 : 0 ≤ f) (f1 : f ≤ 65535) :
    Calls Try.prog 33 #[.slice (some ⟨g, 0, none⟩) L.length cap, .int .i64 a, .int .i64 b, cmpV c] w fun e w' => e = .returned (.tuple #[]) ∧ ∃ L', Turned L L' a b ∧ SoOn (fun x => ah16 x f) L' a b ∧ Blk w' g 22 (srtCells L' tl) ∧ Frm [g] w w' := by
  have HC := Lib.hid hc
  have HNe := Lib.hid hne
  have HG := Lib.hid hg
  have HLr := Lib.hid hL
  clear hc hne hg hL
  unfold cmpV
  go_enter Try.func33, Try.ntmps33
  go_wp2_with fail
  go_loopw [8] (fun i wr => ∃ (k : Nat) (M : List Int), a + 1 ≤ k ∧ (k ≤ b ∨ k = a + 1) ∧ i = .int .i64 k ∧ Turned L M a b ∧ SoOn (fun x => ah16 x f) M a k ∧ Blk wr g 22 (srtCells M tl) ∧ Frm [g] w wr) (fun i _ => b - (intOf i).toNat)
  case atStart => exact ⟨a + 1, L, by omega, .inr rfl, by go_num, Turned.refl _ _ _, SoOn.one _ _ _, HG.out, Frm.refl _ _⟩
  case round =>
    obtain ⟨k, M, hk1, hk2, rfl, ht, hso, hbl, hfr⟩ := hrel
    by_cases hlt : k < b
    · have HT := Lib.hid ht
      have HM := Lib.hid (Mid.start hso)
      have HB := Lib.hid hbl
      have HF := Lib.hid hfr
      clear ht hso hbl hfr
      obtain ⟨wo, rfl⟩ : ∃ wo : World, wo = wr := ⟨_, rfl⟩
      go_wp2_with fail
      go_loopw [9] (fun j wr => ∃ (p : Nat) (N : List Int), a ≤ p ∧ p ≤ k ∧ j = .int .i64 p ∧ Turned L N a b ∧ Mid (fun x => ah16 x f) N a k p ∧ Blk wr g 22 (srtCells N tl) ∧ Frm [g] w wr) (fun j _ => (intOf j).toNat)
      case atStart => exact ⟨k, M, by omega, Nat.le_refl _, rfl, HT.out, HM.out, HB.out, HF.out⟩
      case round =>
        obtain ⟨p, N, hp1, hp2, rfl, ht, hmid, hbl, hfr⟩ := hrel
        have hlen := ht.len
        have hl1 : N.length ≤ L.length := by omega
        have hl2 : L.length ≤ N.length := by omega
        have HT2 := Lib.hid ht
        have HM2 := Lib.hid hmid
        have HB2 := Lib.hid hbl
        have HF2 := Lib.hid hfr
        have hNr : ∀ j, j < N.length → 0 ≤ N.getD j 0 ∧ N.getD j 0 ≤ 65535 := fun j hj => HLr.out _ (by
          have : N.getD j 0 ∈ N := by rw [List.getD_eq_getElem?_getD, List.getElem?_eq_getElem hj]; exact List.getElem_mem hj
          exact ht.perm.mem_iff.1 this)
        have HNr := Lib.hid hNr
        clear ht hmid hbl hfr hlen hNr
        by_cases hap : a < p
        · obtain ⟨x, hx⟩ : ∃ x, x = N.getD p 0 := ⟨_, rfl⟩
          obtain ⟨y, hy⟩ : ∃ y, y = N.getD (p - 1) 0 := ⟨_, rfl⟩
          have hxr := HNr.out p (by omega)
          have hyr := HNr.out (p - 1) (by omega)
          rw [← hx] at hxr
          rw [← hy] at hyr
          obtain ⟨x0, x1⟩ := hxr
          obtain ⟨y0, y1⟩ := hyr
          have cx : wr.cell? ⟨g, p, none⟩ = some (.int .u16 x) := by rw [hx]; exact HB2.out.cell p (srt_at N tl p (by omega))
          have cy : wr.cell? ⟨g, p - 1, none⟩ = some (.int .u16 y) := by rw [hy]; exact HB2.out.cell (p - 1) (srt_at N tl (p - 1) (by omega))
          have fx := HB2.out.free p
          have fy := HB2.out.free (p - 1)
          have gl := HB2.out.lt
          have HCc : Hid (∀ n, Calls Try.prog 31 #[.int .u16 x, .int .u16 y, .pointer (some ⟨c, 0, none⟩)] (wr.drewN n) fun e w' => e = .returned (.int .i64 (ah16 x f - ah16 y f)) ∧ ∃ m, w' = (wr.drewN n).drewN m) := Lib.hid fun n => cmp_c c f x y _ ((HF2.out.blk HC.out (by simpa using HNe.out)).drewN n) f0 f1 x0 x1 y0 y1
          obtain ⟨D, hD⟩ : ∃ D, D = ah16 x f - ah16 y f := ⟨_, rfl⟩
          rw [← hD] at HCc
          have HX := Lib.hid hx
          have HY := Lib.hid hy
          have HD := Lib.hid hD
          have i0 : (0 : Int) ≤ (p : Int) := by omega
          have i1 : (p : Int) < (L.length : Int) := by omega
          have i2 : IntKind.i64.wrap ((p : Int) - 1) = ((p - 1 : Nat) : Int) := by rw [show ((p - 1 : Nat) : Int) = (p : Int) - 1 from by omega]; exact IntWalk.i64_in _ (by omega)
          have i3 : (0 : Int) ≤ ((p - 1 : Nat) : Int) := by omega
          have i4 : ((p - 1 : Nat) : Int) < (L.length : Int) := by omega
          have hgt : decide ((a : Int) < (p : Int)) = true := by simp; omega
          clear hx hy hD
          by_cases hd : D < 0
          · have hdd : decide (D < 0) = true := by simpa using hd
            go_wp2_with fail
            go_quiet ((exact Calls.quiet_of (HCc.out _)))
            clear HCc hgt hdd
            go_wp2_with fail
            go_region
            go_wp2_with fail
            go_roundw
            case rel =>
              have hkey : ah16 (N.getD p 0) f < ah16 (N.getD (p - 1) 0) f := by rw [← HX.out, ← HY.out]; have := HD.out; omega
              refine ⟨p - 1, swp N p (p - 1), by omega, by omega, by go_num, HT2.out.swp hb (by omega) (by omega) (by omega) (by omega), HM2.out.step hap hp2 (by omega) hkey, ?_, ?_⟩
              · have h1 := (HB2.out.put p (.int .u16 y)).put (p - 1) (.int .u16 x)
                rw [srt_set N tl p y (by omega), srt_set _ tl (p - 1) x (by rw [List.length_set]; omega)] at h1
                have hsw : swp N p (p - 1) = (N.set p y).set (p - 1) x := by unfold swp; rw [HX.out, HY.out]
                rw [hsw]
                first | exact h1.drewN _ | exact (h1.drewN _).drew | exact h1
              · first | exact ((HF2.out.put (.inl (by simp)) _ _ _).put (.inl (by simp)) _ _ _).drewN _ | exact (((HF2.out.put (.inl (by simp)) _ _ _).put (.inl (by simp)) _ _ _).drewN _).drew
            case measure => simp [intOf]; omega
          · have hdd : decide (D < 0) = false := by simpa using hd
            go_wp2_with fail
            go_quiet ((exact Calls.quiet_of (HCc.out _)))
            clear HCc hgt hdd
            go_wp2_with fail
            go_roundw
            case rel => exact ⟨k + 1, N, by omega, .inl (by omega), by go_num, HT2.out, HM2.out.done (.inr ⟨hap, by have := HD.out; rw [← HX.out, ← HY.out]; omega⟩), HB2.out.drewN _, HF2.out.drewN _⟩
            case measure => simp [intOf]; omega
        · have hgt : decide ((a : Int) < (p : Int)) = false := by simp; omega
          go_wp2_with fail
          go_quiet (fail)
          clear hgt
          go_wp2_with fail
          go_roundw
          case rel => exact ⟨k + 1, N, by omega, .inl (by omega), by go_num, HT2.out, HM2.out.done (.inl (by omega)), HB2.out.drewN _, HF2.out.drewN _⟩
          case measure => simp [intOf]; omega
    · have hsb : SoOn (fun x => ah16 x f) M a b := by
        rcases hk2 with hk2 | hk2
        · have : k = b := by omega
          rw [← this]; exact hso
        · intro i j h1 h2 h3; omega
      have HX := Lib.hid (And.intro ht (And.intro hsb (And.intro hbl hfr)))
      clear ht hsb hbl hfr hso
      go_wp2_with fail
      go_end0
      exact ⟨rfl, M, HX.out.1, HX.out.2.1, HX.out.2.2.1, HX.out.2.2.2⟩

end Go.Proofs.Ytkpkfgnebgcoaaa
