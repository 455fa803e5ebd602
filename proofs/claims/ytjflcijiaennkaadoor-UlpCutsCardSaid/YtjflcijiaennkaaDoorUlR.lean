/-
  What the reference's Parse needs. Printed by gen_ulr.py.
-/
import Derived.Test.YtjflcijiaennkaaDoorUlE
import Derived.Test.YtjflcijiaennkaaDoorUlU
import Derived.Test.YtjflcijiaennkaaDoorMsr
set_option linter.unusedVariables false
set_option linter.unusedSimpArgs false
namespace Go.Proofs.YtjflcijiaennkaaDoor
open Go.RowKit

set_option maxHeartbeats 2000000 in
theorem urnumber_c (a : Option Addr) (cap m : Nat) (zs : List Int) (hm : zs.length = m) (w : World) (rd : RdI .u8 w a zs) (hb : Byt zs) (hl : m ≤ 8) :
    Calls Tryd.prog 27 #[.slice a m cap] w fun e w' => e = .returned (.int .u64 (bigN zs)) ∧ w = w' := by
  subst hm
  have HR := Lib.hid rd
  have HB := Lib.hid hb
  clear rd hb
  go_enter Tryd.func27, Tryd.ntmps27
  go_wp2_with fail
  go_loop [3, 4] (fun v i => ∃ j : Nat, j ≤ zs.length ∧ i = .int .i64 j ∧ v = .int .u64 (bigN (zs.take j))) (fun _ i => zs.length - (intOf i).toNat)
  case atStart => exact ⟨0, Nat.zero_le _, rfl, rfl⟩
  case round =>
    obtain ⟨j, hj, rfl, rfl⟩ := hrel
    by_cases hlt : j < zs.length
    · obtain ⟨b, off, x, hx, rfl, hb, hc⟩ := HR.out.at_ j hlt
      have hb1 := HB.out x (List.mem_of_getElem? hx)
      have hsn : bigN (zs.take (j + 1)) = bigN (zs.take j) * 256 + x := by rw [List.take_add_one, hx]; exact bigN_snoc _ _
      obtain ⟨v0, v1⟩ := bigN_small (HB.out.take j) (k := 7) (by rw [List.length_take]; omega) (Nat.le_refl _)
      obtain ⟨v, hv⟩ : ∃ v, v = bigN (zs.take j) := ⟨_, rfl⟩
      rw [← hv] at hsn v0 v1 ⊢
      have e1 : IntKind.u64.wrap (v * 256) = v * 256 := wrapU64 (by omega) (by omega)
      have e2 : IntKind.u64.wrap (v * 256 + x) = v * 256 + x := wrapU64 (by omega) (by omega)
      have e3 : IntKind.u64.wrap x = x := wrapU64 (by omega) (by omega)
      have i1 : (0 : Int) ≤ (j : Int) := by omega
      have i2 : (j : Int) < (zs.length : Int) := by omega
      have HS := Lib.hid hsn
      clear hx hsn hv v0 v1 hb1
      go_wp2_with fail
      exact ⟨⟨j + 1, by omega, by go_num, by rw [HS.out]⟩, by simp [intOf]; omega⟩
    · obtain rfl : j = zs.length := by omega
      rw [List.take_length]
      go_wp2_with fail
      go_ret
      exact ⟨rfl, rfl⟩
theorem urd_cell {w : World} {b off : Nat} {zs : List Int} (h : RdI .u8 w (some ⟨b, off, none⟩) zs) {k : Nat} {y : Int} (hk : zs[k]? = some y) : w.cell? ⟨b, off + k, none⟩ = some (.int .u8 y) := by
  obtain ⟨b', off', ha, _, hc⟩ := h k y hk
  injection ha with ha
  injection ha with h1 h2
  subst h1 h2
  exact hc
/-- A slice's rest, under one name. -/
theorem usl_from (a : Option Addr) (n c k : Nat) (K : Int) (hK : K = (k : Int)) (hk : k ≤ n) (hn : n ≤ c) (hc : c ≤ 9223372036854775807) : ∃ q : Option Addr, (∀ W, (Instr.slice 22 (.slice a n c) (some (.int .i64 K)) none none).run Tryd.prog W = .ok (.slice q (n - k) (c - k)) W) ∧
    (∀ W zs, zs.length = n → RdI .u8 W a zs → RdI .u8 W q (zs.drop k)) := by
  subst hK
  refine ⟨if c = k then a else a.map (·.add (k * 1)), fun W => ?_, fun W zs hz hb => ?_⟩
  · have hsz : (sizeOf (Tryd.prog.elem 22)).run Tryd.prog W = .ok 1 W := by kernel_rfl
    rw [run_slice_l W 22 a n c (by kernel_rfl) .i64 (k : Int) (by omega) (by omega), hsz]
    simp [sliced]
  · have hlen : (zs.drop k).length = n - k := by rw [List.length_drop, hz]
    by_cases h : c = k
    · rw [List.eq_nil_of_length_eq_zero (show (zs.drop k).length = 0 by omega)]
      exact RdI.nil _ _ _
    · rw [if_neg h]
      intro i x hx
      rw [List.getElem?_drop] at hx
      obtain ⟨b, off, rfl, hl, hcell⟩ := hb (k + i) x hx
      exact ⟨b, off + k, by rw [Option.map_some, Nat.mul_one, add_addr], hl, by rw [Nat.add_assoc]; exact hcell⟩
/-- A slice's part, under one name. -/
theorem usl_mid (a : Option Addr) (n c lo hi : Nat) (L H : Int) (hL : L = (lo : Int)) (hH : H = (hi : Int)) (h1 : lo ≤ hi) (h2 : hi ≤ n) (hn : n ≤ c) (hc : c ≤ 9223372036854775807) : ∃ q : Option Addr, (∀ W, (Instr.slice 22 (.slice a n c) (some (.int .i64 L)) (some (.int .i64 H)) none).run Tryd.prog W = .ok (.slice q (hi - lo) (c - lo)) W) ∧
    (∀ W zs, zs.length = n → RdI .u8 W a zs → RdI .u8 W q ((zs.drop lo).take (hi - lo))) := by
  subst hL hH
  refine ⟨if c = lo then a else a.map (·.add (lo * 1)), fun W => ?_, fun W zs hz hb => ?_⟩
  · have hsz : (sizeOf (Tryd.prog.elem 22)).run Tryd.prog W = .ok 1 W := by kernel_rfl
    rw [run_slice_lh W 22 a n c (by kernel_rfl) .i64 .i64 (lo : Int) (hi : Int) (by omega) (by omega) (by omega), hsz]
    simp [sliced]
  · have hlen : (zs.drop lo).length = n - lo := by rw [List.length_drop, hz]
    by_cases h : c = lo
    · rw [List.eq_nil_of_length_eq_zero (show ((zs.drop lo).take (hi - lo)).length = 0 by rw [List.length_take]; omega)]
      exact RdI.nil _ _ _
    · rw [if_neg h]
      intro i x hx
      have hx' : (zs.drop lo)[i]? = some x := by
        rw [List.getElem?_take] at hx
        split at hx
        · exact hx
        · cases hx
      rw [List.getElem?_drop] at hx'
      obtain ⟨b, off, rfl, hl, hcell⟩ := hb (lo + i) x hx'
      exact ⟨b, off + lo, by rw [Option.map_some, Nat.mul_one, add_addr], hl, by rw [Nat.add_assoc]; exact hcell⟩
theorem ulay_mid (A N X : Nat) (hA : A ≤ 200) (hN : N ≤ 64) : lyK (A : Int) (N : Int) X N = bools (lyH (A : Int) (N : Int) X) (lyL (A : Int) (N : Int) X) := by
  have h := lay_ref (A : Int) (N : Int) X
  have e1 : held (A : Int) (-200) 200 = (A : Int) := by unfold held; split <;> (try split) <;> omega
  have e2 : held (N : Int) 0 64 = (N : Int) := by unfold held; split <;> (try split) <;> omega
  rw [e1, e2] at h
  exact h.symm
theorem ubig_cut2 {zs : List Int} (hb : Byt zs) (p : Nat) (h : p + 2 ≤ zs.length) : 0 ≤ bigN (cut zs p 2) ∧ bigN (cut zs p 2) ≤ 65535 := by
  have h1 := bigN_lt (hb.cut p 2)
  rw [cut_len h] at h1
  simp at h1
  omega
theorem lyL_low (N X : Nat) (hN : N ≤ 64) : lyL 0 (N : Int) X = 0 := by
  have h := ulay_mid 0 N X (by decide) hN
  have h1 := nb_lo (h := lyH ((0 : Nat) : Int) (N : Int) X) (l := lyL ((0 : Nat) : Int) (N : Int) X) (lyL_lt _ _ _)
  rw [← h] at h1
  have h2 : (lyK ((0 : Nat) : Int) (N : Int) X N).drop 64 = (bools 0 0).drop 64 := by
    apply List.ext_getElem?
    intro i
    rw [List.getElem?_drop, List.getElem?_drop]
    by_cases hi : 64 + i < 128
    · rw [bools_at hi]
      simp only [lyK, List.getElem?_map, List.getElem?_range hi, Option.map_some]
      rw [decide_eq_false (by omega)]
      simp [bt, pb]
    · rw [List.getElem?_eq_none (by simp [lyK]; omega), List.getElem?_eq_none (by simp [bools]; omega)]
  rw [h2, nb_lo (by decide)] at h1
  exact h1.symm
theorem lvAt_low (zs : List Int) (lg : Bool) (p : Nat) : (lvAt zs lg p).l = 0 := by
  show lyL 0 ((wid lg : Nat) : Int) _ = 0
  exact lyL_low _ _ (by cases lg <;> decide)

end Go.Proofs.YtjflcijiaennkaaDoor
