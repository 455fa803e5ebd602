/-
  THE WALK of cover.Has.
-/
import Derived.Test.YtibccecmicndaaaDoorCoB
set_option linter.unusedVariables false
set_option linter.unusedSimpArgs false
namespace Go.Proofs.YtibccecmicndaaaDoor
open Go.RowKit

/-- How far k lies ahead of b. -/
def ahN (b k : Nat) : Nat := (k + 65536 - b) % 65536
theorem ahN_lt (b k : Nat) : ahN b k < 65536 := Nat.mod_lt _ (by decide)

set_option maxRecDepth 100000 in
set_option maxHeartbeats 2000000 in
theorem chas_c (b h l k : Nat) (w : World) (hb : b < 65536) (hk : k < 65536) (h0 : h < 18446744073709551616) (h1 : l < 18446744073709551616) :
    Calls Tryd.prog 16 #[.int .u16 (b : Int), mV h l, .int .u16 (k : Int)] w fun e w' => e = .returned (.bool (decide (ahN b k < 128) && bt h l (ahN b k))) ∧ Frm [] w w' := by
  have HS := Lib.hid ((Sep.init w).alloc #[.int .u64 (h : Int), .int .u64 (l : Int)] 27)
  have e1 : IntKind.u16.wrap ((k : Int) - (b : Int)) = (ahN b k : Int) := by rw [IntKind.wrap_u16]; unfold ahN; omega
  have d0 := ahN_lt b k
  have hh := fun X => has_c h l (ahN b k : Int) X h0 h1 (by omega) (by omega)
  rw [has_bt, Int.toNat_natCast, show decide (0 ≤ (ahN b k : Int) ∧ (ahN b k : Int) < 128) = decide (ahN b k < 128) from decide_eq_decide.2 (by omega)] at hh
  obtain ⟨d, hd⟩ : ∃ d, d = ahN b k := ⟨_, rfl⟩
  rw [← hd] at e1 d0 hh ⊢
  obtain ⟨x, hx⟩ : ∃ x, x = (decide (d < 128) && bt h l d) := ⟨_, rfl⟩
  simp only [← hx] at hh
  rw [← hx]
  have e2 : IntKind.i64.wrap (d : Int) = (d : Int) := IntWalk.i64_in _ (by omega)
  have HH := Lib.hid hh
  clear hh hd hx h0 h1
  unfold mV at *
  go_enter Tryd.func16, Tryd.ntmps16
  go_upto_region 1 with fail
  have c0 := (HS.out.blk 0 rfl).cell 0 rfl
  have c1 := (HS.out.blk 0 rfl).cell 1 rfl
  go_wp2_with fail
  refine (HH.out _).mono ?_
  rintro e w2 ⟨rfl, hf⟩
  have HF := Lib.hid (HS.out.frm.trans hf)
  clear hf c0 c1
  go_wp2_with fail
  go_ret
  exact ⟨rfl, HF.out⟩

end Go.Proofs.YtibccecmicndaaaDoor
