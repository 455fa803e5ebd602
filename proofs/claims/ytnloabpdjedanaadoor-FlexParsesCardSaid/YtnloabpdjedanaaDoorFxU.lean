/-
  THE WALK of confluxref10.Grid. Printed by gen_fxu.py.
-/
import Derived.Test.YtnloabpdjedanaaDoorFxT
set_option linter.unusedVariables false
set_option linter.unusedSimpArgs false
namespace Go.Proofs.YtnloabpdjedanaaDoor
open Go.RowKit

set_option maxRecDepth 100000 in
set_option maxHeartbeats 4000000 in
theorem rgrid_c (b l d : Int) (w : World) (b0 : 0 ≤ b) (b1 : b ≤ 65535) :
    Calls Tryd.prog 25 #[.int .u16 b, .int .i64 l, .int .i64 d] w fun e w' => ∃ v, e = .returned v ∧ Sep [] w w' [nuR v (gridL b l d)] := by
  obtain ⟨i0, hi, hz0, hz1, hz2⟩ := info_parts info_u16
  have HAd := Lib.hid (fun n X => radd_c b n X b0 b1)
  obtain ⟨Z, hZ⟩ : ∃ Z, Z = gridL b l d := ⟨_, rfl⟩
  rw [← hZ]
  unfold gridL at hZ
  have HZ := Lib.hid hZ
  have HS := Lib.hid ((Sep.init w).made 26 1 0 #[] (by unfold maxLen; omega) rfl)
  have HL := Lib.hid (gL_succ b l d)
  have HLn := Lib.hid (gL_len b l d)
  clear hZ
  by_cases h0 : l < 1
  · obtain rfl : Z = [] := by rw [HZ.out, if_neg]; simp [gridB]; omega
    have t0 : decide (l < 1) = true := decide_eq_true h0
    clear h0
    go_enter Tryd.func25, Tryd.ntmps25
    go_wp2_with fail
    go_ret
    exact ⟨_, rfl, HS.out⟩
  have t0 : decide (l < 1) = false := decide_eq_false h0
  by_cases h1 : 255 < l
  · obtain rfl : Z = [] := by rw [HZ.out, if_neg]; simp [gridB]; omega
    have t1 : decide (255 < l) = true := decide_eq_true h1
    clear h0 h1
    go_enter Tryd.func25, Tryd.ntmps25
    go_wp2_with fail
    go_ret
    exact ⟨_, rfl, HS.out⟩
  have t1 : decide (255 < l) = false := decide_eq_false h1
  by_cases h2 : d < 0
  · obtain rfl : Z = [] := by rw [HZ.out, if_neg]; simp [gridB]; omega
    have t2 : decide (d < 0) = true := decide_eq_true h2
    clear h0 h1 h2
    go_enter Tryd.func25, Tryd.ntmps25
    go_wp2_with fail
    go_ret
    exact ⟨_, rfl, HS.out⟩
  have t2 : decide (d < 0) = false := decide_eq_false h2
  by_cases h3 : 255 < d
  · obtain rfl : Z = [] := by rw [HZ.out, if_neg]; simp [gridB]; omega
    have t3 : decide (255 < d) = true := decide_eq_true h3
    clear h0 h1 h2 h3
    go_enter Tryd.func25, Tryd.ntmps25
    go_wp2_with fail
    go_ret
    exact ⟨_, rfl, HS.out⟩
  have t3 : decide (255 < d) = false := decide_eq_false h3
  have hz : Z = gL b l d (gN l d) := by rw [HZ.out, if_pos]; simp [gridB]; omega
  have HZ2 := Lib.hid hz
  clear hz HZ
  by_cases h4 : d < 2
  · have t4 : decide (d < 2) = true := decide_eq_true h4
    have HGN : Hid (gN l d = l.toNat) := Lib.hid (by unfold gN; rw [if_neg (by omega)])
    have HGS : Hid (gS l d = 1) := Lib.hid (by unfold gS; rw [if_neg (by omega)])
    go_enter Tryd.func25, Tryd.ntmps25
    go_wp2_with fail
    go_loopw [7, 8] (fun v i wr => ∃ (k : Nat) (g : Nat) (c : Nat), k ≤ l.toNat ∧ i = .int .i64 (k : Int) ∧ v = .slice (some ⟨g, 0, none⟩) k c ∧ Sep [] w wr [ownR 26 1 (.slice (some ⟨g, 0, none⟩) k c) k ((gL b l d k).map (Value.int .u16))]) (fun _ i _ => l.toNat - (intOf i).toNat)
    case atStart => exact ⟨0, _, 0, Nat.zero_le _, rfl, rfl, HS.out⟩
    case round =>
      obtain ⟨k, a, c, hk, rfl, rfl, hS⟩ := hrel
      have HS2 := Lib.hid hS
      clear hS HS
      by_cases hlt : k < l.toNat
      · have k1 : decide ((k : Int) < l) = true := decide_eq_true (by omega)
        have HLk := Lib.hid (HL.out k)
        obtain ⟨m, hm2⟩ : ∃ m, m = (k : Int) := ⟨_, rfl⟩
        have HM : Hid ((k : Int) = (k : Int) * gS l d) := Lib.hid (by rw [HGS.out]; omega)
        have HAdm := Lib.hid (HAd.out (k : Int))
        have hk5 : k ≤ 255 := by omega
        have hkt : k + 1 ≤ l.toNat := by omega
        clear hm2
        have HKt := Lib.hid hkt
        clear hlt hkt
        go_wp2_with fail
        refine (HAdm.out _).mono ?_
        rintro e w5 ⟨rfl, rfl⟩
        skip
        go_wp2_with (at_builtin; refine wpList_append_sep rfl _ _ 58 rfl 0 26 i0 (.int .u16 0) 2 Tryd.underlying58 hi hz0 hz1 hz2 rfl _ _ _ rfl (HS2.out.skip _) rfl _ 1 (.int .u16 (add16 b (k : Int))) rfl (World.cell?_alloc_at _ _ _ _ rfl) rfl (by unfold maxLen; omega) (by omega) ?_; intro g4 c4 w4 hS4; have HS4 := Lib.hid hS4; clear hS4)
        go_roundw
        case rel => exact ⟨k + 1, g4, c4, HKt.out, by go_num, rfl, by rw [HLk.out, ← HM.out, List.map_append]; exact HS4.out⟩
        case measure => simp [intOf]; have := HKt.out; omega
      · obtain rfl : k = l.toNat := by omega
        have k1 : decide ((l.toNat : Int) < l) = false := decide_eq_false (by omega)
        have k2 : (l.toNat : Int) = l := by omega
        have k3 : decide (l < l) = false := decide_eq_false (by omega)
        obtain ⟨nn, hnn⟩ : ∃ nn, nn = l.toNat := ⟨_, rfl⟩
        have HNn : Hid (nn = gN l d) := Lib.hid (by rw [hnn, HGN.out])
        rw [← hnn] at HS2 k1 ⊢
        clear hnn k2 k3
        go_wp2_with fail
        go_ret
        refine ⟨_, rfl, ?_⟩
        unfold nuR
        rw [HZ2.out, HLn.out, ← HNn.out]
        exact HS2.out
  · have t4 : decide (d < 2) = false := decide_eq_false h4
    have HGN : Hid (gN l d = d.toNat) := Lib.hid (by unfold gN; rw [if_pos (by omega)])
    have HGS : Hid (gS l d = l) := Lib.hid (by unfold gS; rw [if_pos (by omega)])
    go_enter Tryd.func25, Tryd.ntmps25
    go_wp2_with fail
    go_loopw [7, 9] (fun v i wr => ∃ (k : Nat) (g : Nat) (c : Nat), k ≤ d.toNat ∧ i = .int .i64 (k : Int) ∧ v = .slice (some ⟨g, 0, none⟩) k c ∧ Sep [] w wr [ownR 26 1 (.slice (some ⟨g, 0, none⟩) k c) k ((gL b l d k).map (Value.int .u16))]) (fun _ i _ => d.toNat - (intOf i).toNat)
    case atStart => exact ⟨0, _, 0, Nat.zero_le _, rfl, rfl, HS.out⟩
    case round =>
      obtain ⟨k, a, c, hk, rfl, rfl, hS⟩ := hrel
      have HS2 := Lib.hid hS
      clear hS HS
      by_cases hlt : k < d.toNat
      · have k1 : decide ((k : Int) < d) = true := decide_eq_true (by omega)
        have HLk := Lib.hid (HL.out k)
        have hm : IntKind.i64.wrap ((k : Int) * l) = (k : Int) * l := by
          refine IntWalk.i64_in _ ?_
          have h1 : (k : Int) * l ≤ 255 * 255 := Int.mul_le_mul (by omega) (by omega) (by omega) (by omega)
          have h2 : 0 ≤ (k : Int) * l := Int.mul_nonneg (by omega) (by omega)
          omega
        obtain ⟨m, hm2⟩ : ∃ m, m = (k : Int) * l := ⟨_, rfl⟩
        rw [← hm2] at hm
        have HM : Hid (m = (k : Int) * gS l d) := Lib.hid (by rw [hm2, HGS.out])
        have hm3 : IntKind.i64.wrap ((k : Int) * l) = m := by rw [← hm2]; exact hm
        have HAdm := Lib.hid (HAd.out m)
        have hk5 : k ≤ 255 := by omega
        have hkt : k + 1 ≤ d.toNat := by omega
        clear hm hm2
        have HKt := Lib.hid hkt
        clear hlt hkt
        go_wp2_with fail
        refine (HAdm.out _).mono ?_
        rintro e w5 ⟨rfl, rfl⟩
        clear hm3
        go_wp2_with (at_builtin; refine wpList_append_sep rfl _ _ 58 rfl 0 26 i0 (.int .u16 0) 2 Tryd.underlying58 hi hz0 hz1 hz2 rfl _ _ _ rfl (HS2.out.skip _) rfl _ 1 (.int .u16 (add16 b m)) rfl (World.cell?_alloc_at _ _ _ _ rfl) rfl (by unfold maxLen; omega) (by omega) ?_; intro g4 c4 w4 hS4; have HS4 := Lib.hid hS4; clear hS4)
        go_roundw
        case rel => exact ⟨k + 1, g4, c4, HKt.out, by go_num, rfl, by rw [HLk.out, ← HM.out, List.map_append]; exact HS4.out⟩
        case measure => simp [intOf]; have := HKt.out; omega
      · obtain rfl : k = d.toNat := by omega
        have k1 : decide ((d.toNat : Int) < d) = false := decide_eq_false (by omega)
        have k2 : (d.toNat : Int) = d := by omega
        have k3 : decide (d < d) = false := decide_eq_false (by omega)
        obtain ⟨nn, hnn⟩ : ∃ nn, nn = d.toNat := ⟨_, rfl⟩
        have HNn : Hid (nn = gN l d) := Lib.hid (by rw [hnn, HGN.out])
        rw [← hnn] at HS2 k1 ⊢
        clear hnn k2 k3
        go_wp2_with fail
        go_ret
        refine ⟨_, rfl, ?_⟩
        unfold nuR
        rw [HZ2.out, HLn.out, ← HNn.out]
        exact HS2.out

end Go.Proofs.YtnloabpdjedanaaDoor
