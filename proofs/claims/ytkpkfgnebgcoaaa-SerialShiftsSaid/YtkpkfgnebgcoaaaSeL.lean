/-
  THE WALK of the law SerialShifts.
-/
import Derived.Test.YtkpkfgnebgcoaaaSeK
set_option linter.unusedVariables false
set_option linter.unusedSimpArgs false
namespace Go.Proofs.Ytkpkfgnebgcoaaa
open Go.RowKit

set_option maxRecDepth 100000 in
set_option maxHeartbeats 16000000 in
theorem serialShifts_w (w : World) (f : Int) (wf : (Lit.int .u16 f).wf = true) (a : Option Addr) (cap : Nat) (ss : List Int) (lc : ss.length ≤ cap) (mc : cap ≤ maxLen) (rd : RdI .u16 w a ss) (ws : ∀ x ∈ ss, (Lit.int .u16 x).wf = true) (b : Int) (wb : (Lit.int .i64 b).wf = true) :
    Calls Try.prog 8 #[.int .u16 f, .slice a ss.length cap, .int .i64 b] w fun e w' => e = .returned (.bool true) ∧ Below w.heap.size w w' := by
  obtain ⟨i0, hi, hz0, hz1, hz2⟩ := info_parts info_u16
  unfold maxLen at mc
  obtain ⟨f0, f1⟩ := u16_wf wf
  have HR := Lib.hid rd
  have HN := Lib.hid (fun x (hx : x ∈ ss) => u16_wf (ws x hx))
  clear rd ws wf wb
  by_cases hbig : 60 < ss.length ∨ ss.length = 0
  · have g3 : (decide (60 < (ss.length : Int)) || ((ss.length : Int) == 0)) = true := by
      rcases hbig with h | h
      · rw [decide_eq_true (by omega : 60 < (ss.length : Int))]; rfl
      · rw [show ((ss.length : Int) == 0) = true from beq_iff_eq.2 (by omega), Bool.or_true]
    clear hbig
    go_enter Try.func8, Try.ntmps8
    go_wp2_with fail
    refine (alive_c _).mono ?_
    rintro e w1 ⟨rfl, hf⟩
    have HF := Lib.hid hf
    clear hf
    go_upto_region 3 with fail
    go_cut [26] (fun c wx => c = .bool true ∧ wx = w1)
    case first =>
      by_cases g4 : 60 < (ss.length : Int)
      · have g5 : decide (60 < (ss.length : Int)) = true := decide_eq_true g4
        go_wp2_with fail
        go_meet
        exact ⟨rfl, rfl⟩
      · have g5 : decide (60 < (ss.length : Int)) = false := decide_eq_false g4
        go_wp2_with fail
        go_meet
        exact ⟨by rw [g5, Bool.false_or] at g3; exact congrArg Value.bool g3, rfl⟩
    case rest =>
      obtain ⟨rfl, rfl⟩ := hcut
      go_wp2_with fail
      go_ret
      exact ⟨rfl, HF.out.below⟩
  · have hl : ss.length ≤ 60 := by omega
    have h0 : 0 < ss.length := by omega
    have g1 : decide (60 < (ss.length : Int)) = false := by simp; omega
    have g2 : ((ss.length : Int) == 0) = false := beq_eq_false_iff_ne.2 (by omega)
    have g3 : (decide (60 < (ss.length : Int)) || ((ss.length : Int) == 0)) = false := by rw [g1, g2]; rfl
    obtain ⟨B0, B1⟩ := and65535 b
    obtain ⟨B, hB⟩ : ∃ B, bits .and .i64 b 65535 = B := ⟨_, rfl⟩
    rw [hB] at B0 B1
    clear hbig
    go_enter Try.func8, Try.ntmps8
    go_wp2_with fail
    refine (alive_c _).mono ?_
    rintro e w1 ⟨rfl, hf⟩
    have HS := Lib.hid ((((Sep.init w).keep hf).made 22 1 0 #[] (by unfold maxLen; omega) rfl).made 22 1 0 #[] (by unfold maxLen; omega) rfl)
    clear hf
    go_upto_region 3 with fail
    go_cut [26] (fun c wx => c = .bool false ∧ wx = w1)
    case first =>
      go_wp2_with fail
      go_meet
      exact ⟨rfl, rfl⟩
    case rest =>
    obtain ⟨rfl, rfl⟩ := hcut
    clear g1 g2 g3
    go_wp2_with fail
    clear hB
    go_loopw [7, 8, 33] (fun va vb i wr => ∃ (k ga ca gb cb : Nat), k ≤ ss.length ∧ va = .slice (some ⟨ga, 0, none⟩) k ca ∧ vb = .slice (some ⟨gb, 0, none⟩) k cb ∧ i = .int .i64 k ∧ Sep [] w wr [ownR 22 1 (.slice (some ⟨gb, 0, none⟩) k cb) k (((shA f (ss.take k)).map (add16 · B)).map (Value.int .u16)), ownR 22 1 (.slice (some ⟨ga, 0, none⟩) k ca) k ((shA f (ss.take k)).map (Value.int .u16))]) (fun _ _ i _ => ss.length - (intOf i).toNat)
    case atStart =>
      have hS := HS.out
      rw [World.size_alloc] at hS
      exact ⟨0, _, 0, _, 0, Nat.zero_le _, rfl, rfl, rfl, hS⟩
    case round =>
      obtain ⟨k, ga, ca, gb, cb, hk, rfl, rfl, rfl, hS⟩ := hrel
      have HS3 := Lib.hid hS
      clear hS
      by_cases hlt : k < ss.length
      · obtain ⟨b1, off, s, hs, rfl, hb, cs⟩ := (HR.out.below HS3.out.frm.below).at_ k hlt
        obtain ⟨s0, s1⟩ := HN.out s (List.mem_of_getElem? hs)
        obtain ⟨x, hx⟩ : ∃ x, x = add16 f (s % 16000) := ⟨_, rfl⟩
        have x0 : 0 ≤ x ∧ x ≤ 65535 := by rw [hx]; unfold add16; omega
        obtain ⟨x0, x1⟩ := x0
        have hsn := shA_snoc f ss k s hs
        rw [← hx] at hsn
        have HSn := Lib.hid hsn
        have HX := Lib.hid hx
        obtain ⟨y, hy⟩ : ∃ y, y = add16 x B := ⟨_, rfl⟩
        have HY := Lib.hid hy
        clear hs hb hx hsn hy
        go_wp2_with fail
        refine (add_c f (s % 16000) _ f0 f1).mono ?_
        rintro e w' ⟨rfl, rfl⟩
        rw [← HX.out]
        go_wp2_with (at_builtin; refine wpList_append_sep rfl _ _ 32 rfl 1 22 i0 (.int .u16 0) 2 Try.underlying32 hi hz0 hz1 hz2 rfl _ _ _ rfl (HS3.out.skip _) rfl _ 1 (.int .u16 x) rfl (World.cell?_alloc_at _ _ _ _ rfl) rfl (by unfold maxLen; omega) (by omega) ?_; intro g4 c4 w4 hS4; have HS4 := Lib.hid hS4; clear hS4)
        refine (add_c x B _ x0 x1).mono ?_
        rintro e w' ⟨rfl, rfl⟩
        rw [← HY.out]
        go_wp2_with (at_builtin; refine wpList_append_sep rfl _ _ 32 rfl 0 22 i0 (.int .u16 0) 2 Try.underlying32 hi hz0 hz1 hz2 rfl _ _ _ rfl (HS4.out.skip _) rfl _ 1 (.int .u16 y) rfl (World.cell?_alloc_at _ _ _ _ rfl) rfl (by unfold maxLen; omega) (by omega) ?_; intro g5 c5 w5 hS5; have HS5 := Lib.hid hS5; clear hS5)
        go_roundw
        case rel =>
          refine ⟨k + 1, g4, c4, g5, c5, by omega, rfl, rfl, by go_num, ?_⟩
          rw [HSn.out]
          have h5 := HS5.out
          rw [HY.out] at h5
          simpa using h5
        case measure => simp [intOf]; omega
      · obtain rfl : k = ss.length := by omega
        rw [List.take_length] at HS3
        obtain ⟨A, hA⟩ : ∃ A, A = shA f ss := ⟨_, rfl⟩
        rw [← hA] at HS3
        have hAl : A.length = ss.length := by rw [hA]; unfold shA; simp
        have hnear : Near A := by rw [hA]; exact shA_near f ss
        have HBl := Lib.hid (show (A.map (add16 · B)).length = ss.length by simp [hAl])
        have HAl := Lib.hid hAl
        have HNear := Lib.hid hnear
        obtain ⟨aa, ca', hva, hla, hra⟩ := RdI.of_own (HS3.out.own 1 rfl)
        obtain ⟨ab, cb', hvb, hlb, hrb⟩ := RdI.of_own (HS3.out.own 0 rfl)
        injection hva with hva1 hva2 hva3
        injection hvb with hvb1 hvb2 hvb3
        rw [← hva1] at hra
        rw [← hvb1] at hrb
        have hspA := span_c (some ⟨ga, 0, none⟩) ca A wr hra (by omega) hnear.bound
        rw [hAl] at hspA
        have hspB := span_c (some ⟨gb, 0, none⟩) cb (A.map (add16 · B)) wr hrb (by rw [HBl.out]; omega) (hnear.shift B).bound
        rw [HBl.out] at hspB
        have HspA := Lib.hid hspA
        have HspB := Lib.hid hspB
        clear hA hAl hnear hva1 hva2 hva3 hvb1 hvb2 hvb3 hla hlb hra hrb hspA hspB
        go_wp2_with fail
        refine HspA.out.mono ?_
        rintro e w' ⟨rfl, rfl⟩
        go_wp2_with fail
        refine HspB.out.mono ?_
        rintro e w' ⟨rfl, rfl⟩
        go_wp2_with fail
        refine (sort_own_c _ ss.length A _ (HS3.out.own 1 rfl) (by omega) HNear.out.bound).mono ?_
        rintro e w4 ⟨rfl, LA, hpA, hsA, hoA, hf4⟩
        have HS4 := Lib.hid (HS3.out.write 1 rfl hf4 (fun k hk => hk) (r' := ownR 22 1 (.slice (some ⟨ga, 0, none⟩) ss.length ca) ss.length (LA.map (Value.int .u16))) hoA (fun k hk => .inl hk))
        have HA := Lib.hid (And.intro hpA hsA)
        clear hpA hsA hoA hf4
        go_wp2_with fail
        refine (sort_own_c _ ss.length (A.map (add16 · B)) _ (HS4.out.own 0 rfl) (by omega) (HNear.out.shift B).bound).mono ?_
        rintro e w5 ⟨rfl, LB, hpB, hsB, hoB, hf5⟩
        have HS5 := Lib.hid (HS4.out.write 0 rfl hf5 (fun k hk => hk) (r' := ownR 22 1 (.slice (some ⟨gb, 0, none⟩) ss.length cb) ss.length (LB.map (Value.int .u16))) hoB (fun k hk => .inl hk))
        obtain ⟨q1, q2, q3, q4, q5, q6⟩ := shift_law HNear.out HAl.out h0 HA.out.1 hpB HA.out.2 hsB
        subst q1
        have hlA : LA.length = ss.length := by rw [HA.out.1.length_eq, HAl.out]
        have hbA : ∀ i, i < ss.length → 0 ≤ LA.getD i 0 ∧ LA.getD i 0 ≤ 65535 := fun i hi => HNear.out.bound _ (HA.out.1.mem_iff.1 (mem_of_getD (by omega)))
        rw [q3, q4]
        clear hpB hsB hoB hf5
        obtain ⟨N, hN⟩ : ∃ N, N = spanN A := ⟨_, rfl⟩
        obtain ⟨lo, hlo⟩ : ∃ lo, lo = spanL A := ⟨_, rfl⟩
        obtain ⟨fa, hfa⟩ : ∃ fa, fa = add16 lo B := ⟨_, rfl⟩
        rw [← hN, ← hlo, ← hfa]
        rw [← hN, ← hlo] at q6
        rw [← hlo] at q5
        have HQ := Lib.hid (And.intro q2 (And.intro q5 (And.intro q6 (And.intro hlA hbA))))
        have HFa := Lib.hid hfa
        clear q2 q3 q4 q5 q6 hlA hbA hN hlo hfa
        obtain ⟨w6, rfl⟩ : ∃ w6 : World, w6 = w5 := ⟨_, rfl⟩
        go_wp2_with fail
        go_loopw [69] (fun i wr => ∃ (k m : Nat), k ≤ ss.length ∧ i = .int .i64 k ∧ wr = w6.drewN m) (fun i _ => ss.length - (intOf i).toNat)
        case atStart => exact ⟨0, 0, Nat.zero_le _, rfl, rfl⟩
        case round =>
          obtain ⟨k, m, hk, rfl, hwr⟩ := hrel
          by_cases hlt : k < ss.length
          · obtain ⟨x, hx⟩ : ∃ x, x = LA.getD k 0 := ⟨_, rfl⟩
            have hxb := HQ.out.2.2.2.2 k hlt
            rw [← hx] at hxb
            obtain ⟨x0, x1⟩ := hxb
            obtain ⟨y, hy⟩ : ∃ y, y = add16 x B := ⟨_, rfl⟩
            have ca1 := own_cell (HS5.out.own 1 rfl) k (by rw [HQ.out.2.2.2.1]; exact hlt)
            have cb1 := own_cell (HS5.out.own 0 rfl) k (by rw [List.length_map, HQ.out.2.2.2.1]; exact hlt)
            rw [getD_map (A := LA) (by rw [HQ.out.2.2.2.1]; exact hlt), ← hx, ← hy] at cb1
            rw [← hx] at ca1
            have ca2 : wr.cell? ⟨ga, k, none⟩ = some (.int .u16 x) := by rw [hwr]; exact ca1
            have cb2 : wr.cell? ⟨gb, k, none⟩ = some (.int .u16 y) := by rw [hwr]; exact cb1
            have HAdd : Hid (∀ W, Calls Try.prog 16 #[.int .u16 x, .int .i64 B] W fun e w' => e = .returned (.int .u16 y) ∧ w' = W) := Lib.hid fun W => by rw [hy]; exact same_of (add_c x B W x0 x1)
            have HWr := Lib.hid hwr
            obtain ⟨wi, hwi⟩ : ∃ wi : World, wi = wr := ⟨_, rfl⟩
            rw [← hwi] at HWr ca2 cb2 ⊢
            clear hwi hwr ca1 cb1 hy
            have j0 : (y != y) = false := by simp
            have j1 : (0 : Int) ≤ (k : Int) := by omega
            have j2 : (k : Int) < (ss.length : Int) := by omega
            by_cases hk0 : 0 < k
            · obtain ⟨z, hz⟩ : ∃ z, z = LA.getD (k - 1) 0 := ⟨_, rfl⟩
              have hzb := HQ.out.2.2.2.2 (k - 1) (by omega)
              rw [← hz] at hzb
              obtain ⟨z0, z1⟩ := hzb
              have hzx := HQ.out.1 k hk0 hlt
              rw [← hz, ← hx] at hzx
              have cz1 := own_cell (HS5.out.own 1 rfl) (k - 1) (by rw [HQ.out.2.2.2.1]; omega)
              rw [← hz] at cz1
              have cz2 : wi.cell? ⟨ga, k - 1, none⟩ = some (.int .u16 z) := by rw [HWr.out]; exact cz1
              have HNew : Hid (∀ W, Calls Try.prog 14 #[.int .u16 z, .int .u16 x] W fun e w' => e = .returned (.bool false) ∧ w' = W) := Lib.hid fun W => by
                have h := newer_c z x W z0 z1 x0 x1
                unfold newer at h
                rw [show decide (0 < ah16 z x) = false from by simp; omega] at h
                exact same_of h
              have j3 : decide ((0 : Int) < (k : Int)) = true := by rw [decide_eq_true_eq]; omega
              have j3' : decide (0 < k) = true := by rw [decide_eq_true_eq]; omega
              have j4 : IntKind.i64.wrap ((k : Int) - 1) = ((k - 1 : Nat) : Int) := by rw [show ((k - 1 : Nat) : Int) = (k : Int) - 1 from by omega]; exact IntWalk.i64_in _ (by omega)
              have j5 : (0 : Int) ≤ ((k - 1 : Nat) : Int) := by omega
              have j6 : ((k - 1 : Nat) : Int) < (ss.length : Int) := by omega
              clear hz hzx cz1 hx
              go_wp2_with fail
              go_quiet (first | (go_at_call 16; exact Calls.quiet_of_same (HAdd.out _)) | (go_at_call 14; exact Calls.quiet_of_same (HNew.out _)))
              go_wp2_with fail
              go_roundw
              case rel => exact ⟨k + 1, m + nq, by omega, by go_num, by rw [HWr.out]; simp⟩
              case measure => simp [intOf]; omega
            · have j3 : decide ((0 : Int) < (k : Int)) = false := by rw [decide_eq_false_iff_not]; omega
              have j3' : decide (0 < k) = false := by rw [decide_eq_false_iff_not]; omega
              clear hx
              go_wp2_with fail
              go_quiet ((go_at_call 16; exact Calls.quiet_of_same (HAdd.out _)))
              go_wp2_with fail
              go_roundw
              case rel => exact ⟨k + 1, m + nq, by omega, by go_num, by rw [HWr.out]; simp⟩
              case measure => simp [intOf]; omega
          · obtain rfl : k = ss.length := by omega
            have q5 := HQ.out.2.1
            have q6 := HQ.out.2.2.1
            have ca1 := own_cell (HS5.out.own 1 rfl) 0 (by rw [HQ.out.2.2.2.1]; exact h0)
            have cz1 := own_cell (HS5.out.own 1 rfl) (ss.length - 1) (by rw [HQ.out.2.2.2.1]; omega)
            obtain ⟨z, hz⟩ : ∃ z, z = LA.getD (ss.length - 1) 0 := ⟨_, rfl⟩
            have hlb := HQ.out.2.2.2.2 0 h0
            have hzb := HQ.out.2.2.2.2 (ss.length - 1) (by omega)
            rw [q5] at ca1 hlb
            rw [← hz] at q6 cz1 hzb
            obtain ⟨l0, l1⟩ := hlb
            obtain ⟨z0, z1⟩ := hzb
            have ca2 : wr.cell? ⟨ga, 0, none⟩ = some (.int .u16 lo) := by rw [hwr]; exact ca1
            have cz2 : wr.cell? ⟨ga, ss.length - 1, none⟩ = some (.int .u16 z) := by rw [hwr]; exact cz1
            have HAdd : Hid (∀ W, Calls Try.prog 16 #[.int .u16 lo, .int .i64 B] W fun e w' => e = .returned (.int .u16 fa) ∧ w' = W) := Lib.hid fun W => by rw [HFa.out]; exact same_of (add_c lo B W l0 l1)
            have HAh : Hid (∀ W, Calls Try.prog 11 #[.int .u16 z, .int .u16 lo] W fun e w' => e = .returned (.int .i64 N) ∧ w' = W) := Lib.hid fun W => by rw [← q6]; exact same_of (ahead_c z lo W z0 z1 l0 l1)
            have HWr := Lib.hid hwr
            have j0 : (N == N) = true := by simp
            have j1 : (fa == fa) = true := by simp
            have j2 : (lo == lo) = true := by simp
            have j3 : IntKind.i64.wrap ((ss.length : Int) - 1) = ((ss.length - 1 : Nat) : Int) := by rw [show ((ss.length - 1 : Nat) : Int) = (ss.length : Int) - 1 from by omega]; exact IntWalk.i64_in _ (by omega)
            have j4 : (0 : Int) ≤ ((ss.length - 1 : Nat) : Int) := by omega
            have j5 : ((ss.length - 1 : Nat) : Int) < (ss.length : Int) := by omega
            have j6 : (0 : Int) < (ss.length : Int) := by omega
            clear q5 q6 hz hwr ca1 cz1
            go_wp2_with fail
            refine (HAdd.out _).mono ?_
            rintro e w' ⟨rfl, rfl⟩
            go_wp2_with fail
            refine (HAh.out _).mono ?_
            rintro e w' ⟨rfl, rfl⟩
            go_wp2_with fail
            go_ret
            have h := HWr.out
            exact ⟨rfl, by rw [h]; exact (HS5.out.drewN m).frm.below⟩

end Go.Proofs.Ytkpkfgnebgcoaaa
