/-
  math/bits.OnesCount64.
-/
import Derived.Test.YtibccecmicndaaaDoorPop
import Derived.Test.YtibccecmicndaaaDoorU64
import Derived.Test.YtibccecmicndaaaDoorProg
set_option linter.unusedVariables false
set_option linter.unusedSimpArgs false
namespace Go.Proofs.YtibccecmicndaaaDoor
open Go.RowKit

set_option maxRecDepth 100000 in
set_option maxHeartbeats 4000000 in
theorem ones_c (x : Nat) (w : World) (hx : x < 18446744073709551616) :
    Calls Tryd.prog 42 #[.int .u64 (x : Int)] w fun e w' => e = .returned (.int .i64 (cnt x 64 : Int)) ∧ w = w' := by
  obtain ⟨a, ha⟩ : ∃ a, a = s1 x 6148914691236517205 := ⟨_, rfl⟩
  obtain ⟨b, hb⟩ : ∃ b, b = s2 a 3689348814741910323 := ⟨_, rfl⟩
  obtain ⟨c, hc⟩ : ∃ c, c = s3 b 1085102592571150095 := ⟨_, rfl⟩
  obtain ⟨y, hy⟩ : ∃ y, y = c + c / 256 := ⟨_, rfl⟩
  obtain ⟨z, hz⟩ : ∃ z, z = y + y / 65536 := ⟨_, rfl⟩
  obtain ⟨u, hu⟩ : ∃ u, u = z + z / 4294967296 := ⟨_, rfl⟩
  obtain ⟨la, lb, lc, ly, lz, lu, hf⟩ := pop_all hx ha hb hc hy hz hu
  obtain ⟨p1, h1⟩ : ∃ p, p = x / 2 &&& 6148914691236517205 := ⟨_, rfl⟩
  obtain ⟨p2, h2⟩ : ∃ p, p = x &&& 6148914691236517205 := ⟨_, rfl⟩
  obtain ⟨p3, h3⟩ : ∃ p, p = a / 4 &&& 3689348814741910323 := ⟨_, rfl⟩
  obtain ⟨p4, h4⟩ : ∃ p, p = a &&& 3689348814741910323 := ⟨_, rfl⟩
  obtain ⟨q, hq⟩ : ∃ q, q = (b / 16 + b) % 18446744073709551616 := ⟨_, rfl⟩
  have e1 : bits .and .u64 ((x : Int) / 2) 6148914691236517205 = (p1 : Int) := by rw [h1]; exact u_and (a := x / 2) (b := 6148914691236517205) (by omega) (by decide)
  have e2 : bits .and .u64 (x : Int) 6148914691236517205 = (p2 : Int) := by rw [h2]; exact u_and (b := 6148914691236517205) hx (by decide)
  have e3 : IntKind.u64.wrap ((p1 : Int) + (p2 : Int)) = (a : Int) := by
    have : ((p1 : Int) + (p2 : Int)) = (a : Int) := by rw [ha, h1, h2]; rfl
    rw [this]; exact u_wrap la
  have e4 : bits .and .u64 ((a : Int) / 4) 3689348814741910323 = (p3 : Int) := by rw [h3]; exact u_and (a := a / 4) (b := 3689348814741910323) (by omega) (by decide)
  have e5 : bits .and .u64 (a : Int) 3689348814741910323 = (p4 : Int) := by rw [h4]; exact u_and (b := 3689348814741910323) la (by decide)
  have e6 : IntKind.u64.wrap ((p3 : Int) + (p4 : Int)) = (b : Int) := by
    have : ((p3 : Int) + (p4 : Int)) = (b : Int) := by rw [hb, h3, h4]; rfl
    rw [this]; exact u_wrap lb
  have e7 : IntKind.u64.wrap ((b : Int) / 16 + (b : Int)) = (q : Int) := by rw [hq]; exact u_wrap_mod (b / 16 + b)
  have e8 : bits .and .u64 (q : Int) 1085102592571150095 = (c : Int) := by
    rw [hq, hc]
    have := u_and (a := (b / 16 + b) % 18446744073709551616) (b := 1085102592571150095) (by omega) (by decide)
    rw [mod_and _ _ (by decide)] at this
    exact this
  have e9 : IntKind.u64.wrap ((c : Int) + (c : Int) / 256) = (y : Int) := by
    have : ((c : Int) + (c : Int) / 256) = (y : Int) := by rw [hy]; rfl
    rw [this]; exact u_wrap ly
  have e10 : IntKind.u64.wrap ((y : Int) + (y : Int) / 65536) = (z : Int) := by
    have : ((y : Int) + (y : Int) / 65536) = (z : Int) := by rw [hz]; rfl
    rw [this]; exact u_wrap lz
  have e11 : IntKind.u64.wrap ((z : Int) + (z : Int) / 4294967296) = (u : Int) := by
    have : ((z : Int) + (z : Int) / 4294967296) = (u : Int) := by rw [hu]; rfl
    rw [this]; exact u_wrap lu
  have e12 : bits .and .i64 (IntKind.i64.wrap (u : Int)) 127 = (cnt x 64 : Int) := by rw [i_and127 lu, hf]
  have e13 : bits .and .i64 (wrap64 (u : Int)) 127 = (cnt x 64 : Int) := by rw [← IntWalk.i64_left]; exact e12
  obtain ⟨n, hn⟩ : ∃ n, n = cnt x 64 := ⟨_, rfl⟩
  rw [← hn] at e12 e13 ⊢
  clear ha hb hc hy hz hu la lb lc ly lz lu hf h1 h2 h3 h4 hq hn hx
  go_enter Tryd.func42, Tryd.ntmps42
  go_wp2_with fail
  go_ret
  exact ⟨rfl, rfl⟩

end Go.Proofs.YtibccecmicndaaaDoor
