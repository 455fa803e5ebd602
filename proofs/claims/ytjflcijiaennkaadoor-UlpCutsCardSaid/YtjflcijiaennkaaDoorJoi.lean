/-
  THE REFERENCES' Join AND Big: parts one behind the other; a number as bytes.
-/
import Derived.Test.YtjflcijiaennkaaDoorBb
import Derived.Deep.DeepMust
set_option linter.unusedVariables false
set_option linter.unusedSimpArgs false
namespace Go.Proofs.YtjflcijiaennkaaDoor
open Go.RowKit

/-- A part: where it lies, what it reads. -/
structure Bz where
  a : Option Addr
  c : Nat
  zs : List Int
def Bz.val (p : Bz) : Value := .slice p.a p.zs.length p.c
/-- Parts in memory. -/
def RdZs (w : World) (ad : Option Addr) (ps : List Bz) : Prop :=
  ∀ i p, ps[i]? = some p → ∃ b off, ad = some ⟨b, off, none⟩ ∧ b < w.heap.size ∧ w.cell? ⟨b, off + i, none⟩ = some p.val ∧ RdI .u8 w p.a p.zs
theorem RdZs.frm {w w' : World} {ad : Option Addr} {ps : List Bz} (h : RdZs w ad ps) (hf : Frm [] w w') : RdZs w' ad ps := fun i p hi => by
  obtain ⟨b, off, h1, h2, h3, h4⟩ := h i p hi
  exact ⟨b, off, h1, Nat.lt_of_lt_of_le h2 hf.size, (hf.cell h2 (by simp)).trans h3, h4.below hf.below⟩
def flatZ (ps : List Bz) : List Int := ps.flatMap Bz.zs
theorem flatZ_take {ps : List Bz} {k : Nat} {p : Bz} (h : ps[k]? = some p) : flatZ (ps.take (k + 1)) = flatZ (ps.take k) ++ p.zs := by
  unfold flatZ
  rw [List.take_add_one, h, List.flatMap_append]
  simp
theorem flatZ_le (ps : List Bz) (k : Nat) : (flatZ (ps.take k)).length ≤ (flatZ ps).length := by
  unfold flatZ
  conv => rhs; rw [← List.take_append_drop k ps, List.flatMap_append, List.length_append]
  omega

set_option maxRecDepth 100000 in
set_option maxHeartbeats 8000000 in
theorem join_c (ad : Option Addr) (cap : Nat) (ps : List Bz) (w : World) (rd : RdZs w ad ps) (hn : ps.length ≤ 1000000) (hl : (flatZ ps).length ≤ 1000000) :
    Calls Tryd.prog 32 #[.slice ad ps.length cap] w fun e w' => ∃ v, e = .returned v ∧ Sep [] w w' [sumR v (flatZ ps)] := by
  obtain ⟨i0, hi, hz0, hz1, hz2⟩ := info_parts info_u8
  have HR := Lib.hid (fun X (hX : Frm [] w X) => rd.frm hX)
  have HS := Lib.hid ((Sep.init w).made 5 1 0 #[] (by unfold maxLen; omega) rfl)
  clear rd
  go_enter Tryd.func32, Tryd.ntmps32
  go_wp2_with fail
  go_loopw [3, 4] (fun v i wr => ∃ (k g c : Nat) (m : Nat), k ≤ ps.length ∧ m = (flatZ (ps.take k)).length ∧ v = .slice (some ⟨g, 0, none⟩) m c ∧ i = .int .i64 k ∧ Sep [] w wr [ownR 5 1 (.slice (some ⟨g, 0, none⟩) m c) m ((flatZ (ps.take k)).map (Value.int .u8))]) (fun _ i _ => ps.length - (intOf i).toNat)
  case atStart => exact ⟨0, _, 0, 0, Nat.zero_le _, rfl, rfl, rfl, HS.out⟩
  case round =>
    obtain ⟨k, g, c, m, hk, hm, rfl, rfl, hS⟩ := hrel
    have HT := Lib.hid hS
    have HM := Lib.hid hm
    have hm2 : m ≤ 1000000 := by have := flatZ_le ps k; omega
    clear hS hm
    obtain ⟨wo, hwo⟩ : ∃ wo : World, wo = wr := ⟨_, rfl⟩
    rw [← hwo] at HT ⊢
    clear hwo
    by_cases hlt : k < ps.length
    · obtain ⟨p, hp⟩ : ∃ p, ps[k]? = some p := ⟨_, List.getElem?_eq_getElem hlt⟩
      obtain ⟨b, off, rfl, _, _, _⟩ := HR.out wo HT.out.frm k p hp
      have hft := flatZ_take hp
      have HFt := Lib.hid hft
      have hpl : m + p.zs.length ≤ 1000000 := by
        have h1 := flatZ_le ps (k + 1)
        rw [hft, List.length_append, ← HM.out] at h1
        omega
      have HCp := Lib.hid (show ∀ X, Frm [] w X → X.cell? ⟨b, off + k, none⟩ = some (.slice p.a p.zs.length p.c) ∧ RdI .u8 X p.a p.zs from fun X hX => by
        obtain ⟨b', off', h1, _, h3, h4⟩ := HR.out X hX k p hp
        injection h1 with h1
        injection h1 with h1 h2 _
        subst h1 h2
        exact ⟨h3, h4⟩)
      have i1 : (0 : Int) ≤ (k : Int) := by omega
      have i2 : (k : Int) < (ps.length : Int) := by omega
      obtain ⟨P, hP⟩ : ∃ P, P = flatZ (ps.take k) := ⟨_, rfl⟩
      rw [← hP] at HT HM HFt
      clear hp hft hP
      go_wp2_with fail
      go_loopw [3, 5] (fun v i wr => ∃ (j g c : Nat), j ≤ p.zs.length ∧ v = .slice (some ⟨g, 0, none⟩) (m + j) c ∧ i = .int .i64 j ∧ Sep [] w wr [ownR 5 1 (.slice (some ⟨g, 0, none⟩) (m + j) c) (m + j) ((P ++ p.zs.take j).map (Value.int .u8))]) (fun _ i _ => p.zs.length - (intOf i).toNat)
      case atStart => exact ⟨0, g, c, Nat.zero_le _, rfl, rfl, by rw [List.take_zero, List.append_nil]; exact HT.out⟩
      case round =>
        obtain ⟨j, g2, c2, hj, rfl, rfl, hS⟩ := hrel
        have HT2 := Lib.hid hS
        clear hS
        obtain ⟨hc1, hc2⟩ := HCp.out _ HT2.out.frm
        by_cases hlt2 : j < p.zs.length
        · obtain ⟨b2, off2, x, hx, ha, hb2, cx⟩ := hc2.at_ j hlt2
          rw [ha] at hc1
          have HSn := Lib.hid (show p.zs.take (j + 1) = p.zs.take j ++ [x] by rw [List.take_add_one, hx]; rfl)
          have j1 : (0 : Int) ≤ (j : Int) := by omega
          have j2 : (j : Int) < (p.zs.length : Int) := by omega
          clear hc2 hx ha
          go_wp2_with (at_builtin; go_must (refine wpList_append_sep rfl _ _ 22 rfl 0 5 i0 (.int .u8 0) 1 Tryd.underlying22 hi hz0 hz1 hz2 rfl _ _ _ rfl (HT2.out.skip _) rfl _ 1 (.int .u8 x) rfl (World.cell?_alloc_at _ _ _ _ rfl) rfl (by unfold maxLen; omega) (by omega) ?_); intro g4 c4 w4 hS4; have HS4 := Lib.hid hS4; clear hS4)
          go_roundw
          case rel => exact ⟨j + 1, g4, c4, by omega, rfl, by go_num, by rw [HSn.out, ← List.append_assoc, List.map_append]; exact HS4.out⟩
          case measure => simp [intOf]; omega
        · obtain rfl : j = p.zs.length := by omega
          rw [List.take_length] at HT2
          clear hc2
          go_wp2_with fail
          go_roundw
          case rel => exact ⟨k + 1, g2, c2, _, by omega, by rw [HFt.out, List.length_append, HM.out], rfl, by go_num, by rw [HFt.out]; exact HT2.out⟩
          case measure => simp [intOf]; omega
    · obtain rfl : k = ps.length := by omega
      rw [List.take_length] at HT HM
      go_wp2_with fail
      go_ret
      refine ⟨.slice (some ⟨g, 0, none⟩) m c, rfl, ?_⟩
      unfold sumR
      rw [← HM.out]
      exact HT.out
/-- The j-th byte of a number of k bytes. -/
def digN (n : Int) (k j : Nat) : Int := n / 256 ^ (k - 1 - j) % 256
def bigN' (n : Int) (k : Nat) : List Int := (List.range k).map (digN n k)
theorem bigN'_succ (n : Int) (k : Nat) : bigN' n (k + 1) = n / 256 ^ k % 256 :: bigN' n k := by
  unfold bigN'
  rw [List.range_succ_eq_map, List.map_cons, List.map_map]
  congr 1
  apply List.map_congr_left
  intro j hj
  have := List.mem_range.1 hj
  show n / 256 ^ (k + 1 - 1 - (j + 1)) % 256 = n / 256 ^ (k - 1 - j) % 256
  rw [show k + 1 - 1 - (j + 1) = k - 1 - j by omega]
theorem bigN'_len (n : Int) (k : Nat) : (bigN' n k).length = k := by simp [bigN']
theorem own_lit {w : World} {g : Nat} {e : TypeId} {x : Value} (h : Blk w g e #[x]) : w.ownsRow 0 e 1 (.slice (some ⟨g, 0, none⟩) 1 1) 1 [x] :=
  ⟨rfl, .inr ⟨g, 1, #[x], rfl, Nat.zero_le _, h, Nat.le_refl _, by unfold maxLen; omega, rfl, rfl⟩⟩
theorem sep_lit {S : List Nat} {w0 w : World} {L : List Res} (h : Sep S w0 w L) (e : TypeId) (x : Value) : Sep S w0 (w.alloc (.cells #[x] e)) (ownR e 1 (.slice (some ⟨w.heap.size, 0, none⟩) 1 1) 1 [x] :: L) :=
  h.add ((Frm.refl _ _).alloc _) (own_lit (Blk.made w e #[x])) (by simp [ownR, Value.ownBlock])

set_option maxRecDepth 100000 in
set_option maxHeartbeats 8000000 in
theorem rbig_c (n : Int) (k : Nat) (K : Int) (hK : K = k) (hk : k ≤ 8) (n0 : 0 ≤ n) (n1 : n < 18446744073709551616) (w : World) :
    Calls Tryd.prog 33 #[.int .u64 n, .int .i64 K] w fun e w' => ∃ v, e = .returned v ∧ Sep [] w w' [sumR v (bigN' n k)] := by
  subst hK
  obtain ⟨i0, hi, hz0, hz1, hz2⟩ := info_parts info_u8
  have HS := Lib.hid ((Sep.init w).made 5 1 0 #[] (by unfold maxLen; omega) rfl)
  go_enter Tryd.func33, Tryd.ntmps33
  go_wp2_with fail
  go_loopw [0, 5, 6] (fun m v i wr => ∃ (j g c : Nat) (y : Int), j ≤ k ∧ y = n / 256 ^ j ∧ m = .int .u64 y ∧ v = .slice (some ⟨g, 0, none⟩) j c ∧ i = .int .i64 j ∧ Sep [] w wr [ownR 5 1 (.slice (some ⟨g, 0, none⟩) j c) j ((bigN' n j).map (Value.int .u8))]) (fun _ _ i _ => k - (intOf i).toNat)
  case atStart => exact ⟨0, _, 0, n, Nat.zero_le _, by simp, rfl, rfl, rfl, HS.out⟩
  case round =>
    obtain ⟨j, g, c, y, hj, hy, rfl, rfl, rfl, hS⟩ := hrel
    have HT := Lib.hid hS
    have HY := Lib.hid hy
    have y0 : 0 ≤ y := by rw [hy]; exact Int.ediv_nonneg n0 (Int.pow_nonneg (by decide))
    have y1 : y < 18446744073709551616 := by rw [hy]; exact Int.lt_of_le_of_lt (Int.ediv_le_self _ n0) n1
    clear hS hy
    obtain ⟨wo, hwo⟩ : ∃ wo : World, wo = wr := ⟨_, rfl⟩
    rw [← hwo] at HT ⊢
    clear hwo
    by_cases hlt : j < k
    · have k1 : (j : Int) < (k : Int) := by omega
      have d1 : IntKind.u8.wrap (y % 256) = y % 256 := by rw [IntKind.wrap_u8]; omega
      have HSn := Lib.hid (bigN'_succ n j)
      have HL := Lib.hid (bigN'_len n j)
      have HRd : Hid (RdI .u8 (wo.alloc (.cells #[.int .u8 (y % 256)] 5)) (some ⟨g, 0, none⟩) (bigN' n j)) := Lib.hid (by
        have h := (HT.out.skip (.cells #[.int .u8 (y % 256)] 5)).own 0 rfl
        have h2 : (wo.alloc (.cells #[.int .u8 (y % 256)] 5)).ownsRow 0 5 1 (.slice (some ⟨g, 0, none⟩) j c) j ((bigN' n j).map (Value.int .u8)) := h
        obtain ⟨a', c', e1, _, hr⟩ := RdI.of_own h2
        injection e1 with e1 _ _
        rw [e1]
        exact hr)
      go_wp2_with (at_builtin; go_must (refine wpList_append_said rfl _ _ 22 rfl 0 5 i0 (.int .u8 0) 1 Tryd.underlying22 hi hz0 hz1 hz2 rfl .u8 _ 1 [.int .u8 (y % 256)] rfl (sep_lit HT.out 5 (.int .u8 (y % 256))) rfl (some ⟨g, 0, none⟩) c j (bigN' n j) HL.out rfl (fun h => by cases h) HRd.out (j + 1) (by omega) ((bigN' n (j + 1)).map (Value.int .u8)) (by rw [HSn.out, ← HY.out]; rfl) (by unfold maxLen; omega) (by omega) ?_); intro v4 w4 hS4; obtain ⟨g4, c4, rfl⟩ := row_slice (hS4.own 0 rfl) (by omega); have HS4 := Lib.hid hS4; clear hS4)
      go_roundw
      case rel => exact ⟨j + 1, g4, c4, y / 256, by omega, by rw [HY.out, Int.pow_succ, Int.ediv_ediv_of_nonneg (Int.pow_nonneg (by decide))], rfl, rfl, by go_num, HS4.out.only 0 rfl⟩
      case measure => simp [intOf]; omega
    · obtain rfl : j = k := by omega
      go_wp2_with fail
      go_ret
      exact ⟨.slice (some ⟨g, 0, none⟩) j c, rfl, by unfold sumR; rw [bigN'_len]; exact HT.out⟩
end Go.Proofs.YtjflcijiaennkaaDoor
