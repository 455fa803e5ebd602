/-
  THE WALK of confluxref01.Number.
-/
import Derived.Test.YtnloabpdjedanaaDoorFxE
import Derived.Test.YtnloabpdjedanaaDoorMsr
set_option linter.unusedVariables false
set_option linter.unusedSimpArgs false
namespace Go.Proofs.YtnloabpdjedanaaDoor
open Go.RowKit

set_option maxHeartbeats 2000000 in
theorem rnumber_c (a : Option Addr) (cap m : Nat) (zs : List Int) (hm : zs.length = m) (w : World) (rd : RdI .u8 w a zs) (hb : Byt zs) (hl : m ≤ 8) :
    Calls Tryd.prog 30 #[.slice a m cap] w fun e w' => e = .returned (.int .u64 (bigN zs)) ∧ w = w' := by
  subst hm
  have HR := Lib.hid rd
  have HB := Lib.hid hb
  clear rd hb
  go_enter Tryd.func30, Tryd.ntmps30
  go_wp2_with fail
  go_loop [3, 4] (fun v i => ∃ j : Nat, j ≤ zs.length ∧ i = .int .i64 j ∧ v = .int .u64 (bigN (zs.take j))) (fun _ i => zs.length - (intOf i).toNat)
  case atStart => exact ⟨0, Nat.zero_le _, rfl, rfl⟩
  case round =>
    obtain ⟨j, hj, rfl, rfl⟩ := hrel
    by_cases hlt : j < zs.length
    · obtain ⟨b, off, x, hx, rfl, hb, hc⟩ := HR.out.at_ j hlt
      have hb1 := HB.out x (List.mem_of_getElem? hx)
      have hsn : bigN (zs.take (j + 1)) = bigN (zs.take j) * 256 + x := by rw [List.take_add_one, hx]; exact bigN_snoc _ _
      obtain ⟨v0, v1⟩ := bigN_small (HB.out.take j) (k := 7) (by rw [List.length_take]; omega) (Nat.le_refl _)
      obtain ⟨v, hv⟩ : ∃ v, v = bigN (zs.take j) := ⟨_, rfl⟩
      rw [← hv] at hsn v0 v1 ⊢
      have e1 : IntKind.u64.wrap (v * 256) = v * 256 := wrapU64 (by omega) (by omega)
      have e2 : IntKind.u64.wrap (v * 256 + x) = v * 256 + x := wrapU64 (by omega) (by omega)
      have e3 : IntKind.u64.wrap x = x := wrapU64 (by omega) (by omega)
      have i1 : (0 : Int) ≤ (j : Int) := by omega
      have i2 : (j : Int) < (zs.length : Int) := by omega
      have HS := Lib.hid hsn
      clear hx hsn hv v0 v1 hb1
      go_wp2_with fail
      exact ⟨⟨j + 1, by omega, by go_num, by rw [HS.out]⟩, by simp [intOf]; omega⟩
    · obtain rfl : j = zs.length := by omega
      rw [List.take_length]
      go_wp2_with fail
      go_ret
      exact ⟨rfl, rfl⟩


end Go.Proofs.YtnloabpdjedanaaDoor
