/-
  THE WALKS of the reference's Put and Waiting.
-/
import Derived.Test.YtekjpkppfcmjdaaLiM
set_option linter.unusedVariables false
set_option linter.unusedSimpArgs false
namespace Go.Proofs.Ytekjpkppfcmjdaa
open Go.RowKit

def pre1 (k n : Nat) : List Nat := if k ≤ 2 ∨ k = 4 then [n] else []
def pre2 (k n : Nat) : List Nat := if k = 4 then [n] else []
def isDue (ch : List Int) (n i : Nat) : Bool := decide (4 < wy ch i ∧ i + wy ch i - 4 = n)
def isWait (ch : List Int) (n i : Nat) : Bool := decide (4 < wy ch i ∧ n ≤ i + wy ch i - 4)
def rPut (ch : List Int) (n : Nat) : List Nat := pre1 (wy ch n) n ++ pre2 (wy ch n) n ++ (List.range n).filter (isDue ch n)
def rWait (ch : List Int) (n : Nat) : List Nat := (List.range n).filter (isWait ch n)
def toI (L : List Nat) : List Int := L.map fun (i : Nat) => (i : Int)
theorem toI_app (a b : List Nat) : toI (a ++ b) = toI a ++ toI b := by simp [toI]
theorem filter_succ (p : Nat → Bool) (k : Nat) : (List.range (k + 1)).filter p = (List.range k).filter p ++ if p k then [k] else [] := by
  rw [List.range_succ, List.filter_append]
  by_cases h : p k = true
  · simp [h]
  · simp [h]
theorem Sep.snocI {S : List Nat} {w0 w : World} {v : Value} {xs : List Int} {x : Int} {L : List Res} (h : Sep S w0 w (ownR 3 1 v (xs.length + 1) (xs.map (Value.int .i64) ++ [.int .i64 x]) :: L)) : Sep S w0 w (intsR v (xs ++ [x]) :: L) := by
  unfold intsR
  rw [List.length_append, List.map_append]
  exact h
set_option maxRecDepth 100000 in
set_option maxHeartbeats 16000000 in
theorem rput_c (n : Nat) (N : Int) (hN : N = (n : Int) + 1) (ac : Option Addr) (cc : Nat) (ch : List Int) (w : World) (rc : RdI .i64 w ac ch) (hn : n ≤ 1000) :
    Calls Try.prog 11 #[.int .i64 N, .slice ac ch.length cc] w fun e w' => ∃ v, e = .returned v ∧ Sep [] w w' [intsR v (toI (rPut ch n))] := by
  obtain ⟨inf, hi, hz0, hz1, hz2⟩ := info_parts info_int
  have HC := Lib.hid (fun X (hX : Frm [] w X) i => rway_c ac cc ch i X (rc.below hX.below))
  obtain ⟨k, hk⟩ : ∃ k, k = wy ch n := ⟨_, rfl⟩
  have hk8 : k < 8 := by rw [hk]; exact wy_lt _ _
  have HK := Lib.hid hk
  have HS0 := Lib.hid ((Sep.init w).made 3 1 0 #[] (by unfold maxLen; omega) rfl)
  have e1 : N - 1 = (n : Int) := by omega
  have e2 : IntKind.i64.wrap (n : Int) = (n : Int) := IntWalk.i64_in _ (by omega)
  clear rc hN hk
  go_enter Try.func11, Try.ntmps11
  go_wp2_with fail
  clear e1 e2
  refine (HC.out _ HS0.out.frm n).mono ?_
  rintro e w3 ⟨rfl, hw3⟩
  have HS1 := Lib.hid (show Sep [] w w3 [intsR (.slice (some ⟨w.heap.size, 0, none⟩) 0 0) []] from hw3 ▸ HS0.out)
  rw [← HK.out]
  clear hw3 HS0
  obtain ⟨B, hB⟩ : ∃ B, B = decide (k ≤ 2 ∨ k = 4) := ⟨_, rfl⟩
  have HB := Lib.hid hB
  clear hB
  go_upto_region 4 with fail
  go_cut [21] (fun v wx => v = .bool B ∧ Frm [] w3 wx)
  case first =>
    by_cases h2 : k ≤ 2
    · have t1 : decide ((k : Int) ≤ 2) = true := decide_eq_true (by omega)
      obtain rfl : B = true := by rw [HB.out]; exact decide_eq_true (.inl h2)
      clear h2
      go_wp2_with fail
      go_meet
      exact ⟨rfl, Frm.refl _ _⟩
    · have t1 : decide ((k : Int) ≤ 2) = false := decide_eq_false (by omega)
      have t2 : ((k : Int) == 4) = B := by rw [HB.out, Bool.eq_iff_iff, beq_iff_eq, decide_eq_true_eq]; omega
      clear h2
      go_wp2_with fail
      go_meet
      exact ⟨rfl, Frm.refl _ _⟩
  obtain ⟨rfl, hf4⟩ := hcut
  obtain ⟨w4, hw4⟩ : ∃ y, y = wc := ⟨_, rfl⟩
  rw [← hw4] at hf4 ⊢
  have HS2 := Lib.hid (HS1.out.keep hf4)
  clear hf4 hw4 HS1
  go_upto_if 21 with fail
  go_cut [5] (fun v wx => Sep [] w wx [intsR v (toI (pre1 k n))])
  case first =>
    cases B with
    | true =>
      have HPr := Lib.hid (show pre1 k n = [n] from if_pos (of_decide_eq_true HB.out.symm))
      go_wp2_with (at_builtin; refine wpList_append_sep rfl _ _ 23 rfl 0 3 inf (.int .i64 0) 8 Try.underlying23 hi hz0 hz1 hz2 rfl _ 0 [] rfl (HS2.out.skip _) rfl _ 1 (.int .i64 (n : Int)) rfl (World.cell?_alloc_at _ _ _ _ rfl) rfl (by unfold maxLen; omega) (by omega) ?_; intro g4 d4 w4 hS4; have HS5 := Lib.hid hS4; clear hS4)
      go_meet
      rw [HPr.out]
      exact HS5.out
    | false =>
      have HPr := Lib.hid (show pre1 k n = [] from if_neg (of_decide_eq_false HB.out.symm))
      go_wp2_with fail
      go_meet
      rw [HPr.out]
      exact HS2.out
  rename_i v5
  have HS3 := Lib.hid hcut
  obtain ⟨w5, hw5⟩ : ∃ y, y = wc := ⟨_, rfl⟩
  rw [← hw5] at HS3 ⊢
  clear hcut hw5 HS2
  obtain ⟨T, hT⟩ : ∃ T, T = decide (k = 4) := ⟨_, rfl⟩
  have t2 : ((k : Int) == 4) = T := by rw [hT, Bool.eq_iff_iff, beq_iff_eq, decide_eq_true_eq]; omega
  have HTt := Lib.hid hT
  clear hT
  have hp1 : (toI (pre1 k n)).length ≤ 1 := by unfold pre1; split <;> simp [toI]
  have HP1 := Lib.hid hp1
  clear hp1
  go_upto_if 27 with fail
  go_cut [5] (fun v wx => Sep [] w wx [intsR v (toI (pre1 k n ++ pre2 k n))])
  case first =>
    cases T with
    | true =>
      have HPr := Lib.hid (show pre2 k n = [n] from if_pos (of_decide_eq_true HTt.out.symm))
      go_wp2_with (at_builtin; refine wpList_append_sep rfl _ _ 23 rfl 0 3 inf (.int .i64 0) 8 Try.underlying23 hi hz0 hz1 hz2 rfl _ (toI (pre1 k n)).length ((toI (pre1 k n)).map (Value.int .i64)) rfl (HS3.out.skip _) rfl _ 1 (.int .i64 (n : Int)) rfl (World.cell?_alloc_at _ _ _ _ rfl) rfl (by have := HP1.out; unfold maxLen; omega) (by have := HP1.out; omega) ?_; intro g4 d4 w4 hS4; have HS5 := Lib.hid hS4; clear hS4)
      go_meet
      rw [HPr.out, toI_app]
      exact Sep.snocI HS5.out
    | false =>
      have HPr := Lib.hid (show pre2 k n = [] from if_neg (of_decide_eq_false HTt.out.symm))
      go_wp2_with fail
      go_meet
      rw [HPr.out, List.append_nil]
      exact HS3.out
  rename_i v6
  have HS4 := Lib.hid hcut
  obtain ⟨w6, hw6⟩ : ∃ y, y = wc := ⟨_, rfl⟩
  rw [← hw6] at HS4 ⊢
  clear hcut hw6 HS3 t2 HTt HP1 HB
  obtain ⟨Q, hQ⟩ : ∃ Q, Q = pre1 k n ++ pre2 k n := ⟨_, rfl⟩
  have HQ := Lib.hid hQ
  have HQl := Lib.hid (show Q.length ≤ 2 by rw [hQ]; unfold pre1 pre2; split <;> split <;> simp)
  rw [← hQ] at HS4
  clear hQ
  go_wp2_with fail
  go_loopw [5, 8] (fun v i wi => ∃ (j : Nat), j ≤ n ∧ i = .int .i64 (j : Int) ∧ Sep [] w wi [intsR v (toI (Q ++ (List.range j).filter (isDue ch n)))]) (fun _ i _ => n - (intOf i).toNat)
  case atStart => exact ⟨0, Nat.zero_le _, rfl, by rw [List.range_zero, List.filter_nil, List.append_nil]; exact HS4.out⟩
  case round =>
    obtain ⟨j, hj, rfl, hS⟩ := hrel
    have HT := Lib.hid hS
    clear hS HS4
    by_cases hlt : j < n
    · have t1 : decide (j < n) = true := decide_eq_true hlt
      obtain ⟨m, hm⟩ : ∃ m, m = wy ch j := ⟨_, rfl⟩
      have hm8 : m < 8 := by rw [hm]; exact wy_lt _ _
      have hlen : (toI (Q ++ (List.range j).filter (isDue ch n))).length ≤ 1002 := by
        unfold toI
        rw [List.length_map, List.length_append]
        have := List.length_filter_le (isDue ch n) (List.range j)
        rw [List.length_range] at this
        have := HQl.out
        omega
      have HLe := Lib.hid hlen
      clear hlen
      go_wp2_with fail
      refine (HC.out _ HT.out.frm j).mono ?_
      rintro e w7 ⟨rfl, hw7⟩
      rw [← hm]
      have HT2 := Lib.hid (show Sep [] w w7 _ from hw7 ▸ HT.out)
      clear hw7 HT
      by_cases h4 : 4 < m
      · have t2 : decide (4 < (m : Int)) = true := decide_eq_true (by omega)
        obtain ⟨s, hs⟩ : ∃ s, s = j + m - 4 := ⟨_, rfl⟩
        have e1 : (j : Int) + (m : Int) - 4 = (s : Int) := by omega
        have e2 : IntKind.i64.wrap ((j : Int) + (m : Int)) = (j : Int) + (m : Int) := IntWalk.i64_in _ (by omega)
        have e3 : IntKind.i64.wrap (s : Int) = (s : Int) := IntWalk.i64_in _ (by omega)
        by_cases he : s = n
        · have t3 : ((s : Int) == (n : Int)) = true := by rw [beq_iff_eq]; omega
          have HD := Lib.hid (show (List.range (j + 1)).filter (isDue ch n) = (List.range j).filter (isDue ch n) ++ [j] by
            rw [filter_succ, if_pos (by unfold isDue; rw [← hm]; exact decide_eq_true ⟨h4, by omega⟩)])
          clear hs he h4 hm
          go_wp2_with (at_builtin; refine wpList_append_sep rfl _ _ 23 rfl 0 3 inf (.int .i64 0) 8 Try.underlying23 hi hz0 hz1 hz2 rfl _ (toI (Q ++ (List.range j).filter (isDue ch n))).length ((toI (Q ++ (List.range j).filter (isDue ch n))).map (Value.int .i64)) rfl (HT2.out.skip _) rfl _ 1 (.int .i64 (j : Int)) rfl (World.cell?_alloc_at _ _ _ _ rfl) rfl (by have := HLe.out; unfold maxLen; omega) (by have := HLe.out; omega) ?_; intro g4 d4 w4 hS4; have HS5 := Lib.hid hS4; clear hS4)
          have HS6 := Lib.hid (show Sep [] w w4 [intsR (.slice (some ⟨g4, 0, none⟩) ((toI (Q ++ (List.range j).filter (isDue ch n))).length + 1) d4) (toI (Q ++ (List.range (j + 1)).filter (isDue ch n)))] from by
            rw [HD.out, ← List.append_assoc, show toI ((Q ++ (List.range j).filter (isDue ch n)) ++ [j]) = toI (Q ++ (List.range j).filter (isDue ch n)) ++ [(j : Int)] from toI_app _ _]
            exact Sep.snocI HS5.out)
          clear HS5
          go_wp2_with fail
          go_roundw
          case rel => exact ⟨j + 1, by omega, by go_num, HS6.out⟩
          case measure => simp [intOf]; omega
        · have t3 : ((s : Int) == (n : Int)) = false := by rw [beq_eq_false_iff_ne]; omega
          have HD := Lib.hid (show (List.range (j + 1)).filter (isDue ch n) = (List.range j).filter (isDue ch n) by
            rw [filter_succ, if_neg (by unfold isDue; rw [← hm]; simp only [decide_eq_true_eq]; omega), List.append_nil])
          clear hs he h4 hm
          go_wp2_with fail
          go_roundw
          case rel => exact ⟨j + 1, by omega, by go_num, by rw [HD.out]; exact HT2.out⟩
          case measure => simp [intOf]; omega
      · have t2 : decide (4 < (m : Int)) = false := decide_eq_false (by omega)
        have HD := Lib.hid (show (List.range (j + 1)).filter (isDue ch n) = (List.range j).filter (isDue ch n) by
          rw [filter_succ, if_neg (by unfold isDue; rw [← hm]; simp only [decide_eq_true_eq]; omega), List.append_nil])
        clear h4 hm
        go_wp2_with fail
        go_roundw
        case rel => exact ⟨j + 1, by omega, by go_num, by rw [HD.out]; exact HT2.out⟩
        case measure => simp [intOf]; omega
    · obtain rfl : j = n := by omega
      have t1 : decide (j < j) = false := decide_eq_false (by omega)
      have HT3 := Lib.hid (show Sep [] w wr [intsR _ (toI (rPut ch j))] from by
        unfold rPut
        rw [← HK.out, ← HQ.out]
        exact HT.out)
      clear HT
      go_wp2_with fail
      go_ret
      exact ⟨_, rfl, HT3.out⟩

set_option maxRecDepth 100000 in
set_option maxHeartbeats 16000000 in
theorem rwait_c (n : Nat) (ac : Option Addr) (cc : Nat) (ch : List Int) (w : World) (rc : RdI .i64 w ac ch) (hn : n ≤ 1000) :
    Calls Try.prog 16 #[.int .i64 (n : Int), .slice ac ch.length cc] w fun e w' => ∃ v, e = .returned v ∧ Sep [] w w' [intsR v (toI (rWait ch n))] := by
  obtain ⟨inf, hi, hz0, hz1, hz2⟩ := info_parts info_int
  have HC := Lib.hid (fun X (hX : Frm [] w X) i => rway_c ac cc ch i X (rc.below hX.below))
  have HS0 := Lib.hid ((Sep.init w).made 3 1 0 #[] (by unfold maxLen; omega) rfl)
  clear rc
  go_enter Try.func16, Try.ntmps16
  go_wp2_with fail
  go_loopw [5, 6] (fun v i wi => ∃ (j : Nat), j ≤ n ∧ i = .int .i64 (j : Int) ∧ Sep [] w wi [intsR v (toI ((List.range j).filter (isWait ch n)))]) (fun _ i _ => n - (intOf i).toNat)
  case atStart => exact ⟨0, Nat.zero_le _, rfl, HS0.out⟩
  case round =>
    obtain ⟨j, hj, rfl, hS⟩ := hrel
    have HT := Lib.hid hS
    clear hS HS0
    by_cases hlt : j < n
    · have t1 : decide (j < n) = true := decide_eq_true hlt
      obtain ⟨m, hm⟩ : ∃ m, m = wy ch j := ⟨_, rfl⟩
      have hm8 : m < 8 := by rw [hm]; exact wy_lt _ _
      have hlen : (toI ((List.range j).filter (isWait ch n))).length ≤ 1002 := by
        unfold toI
        rw [List.length_map]
        have := List.length_filter_le (isWait ch n) (List.range j)
        rw [List.length_range] at this
        omega
      have HLe := Lib.hid hlen
      clear hlen
      go_wp2_with fail
      refine (HC.out _ HT.out.frm j).mono ?_
      rintro e w7 ⟨rfl, hw7⟩
      rw [← hm]
      have HT2 := Lib.hid (show Sep [] w w7 _ from hw7 ▸ HT.out)
      clear hw7 HT
      by_cases h4 : 4 < m
      · have t2 : decide (4 < (m : Int)) = true := decide_eq_true (by omega)
        obtain ⟨s, hs⟩ : ∃ s, s = j + m - 4 := ⟨_, rfl⟩
        have e1 : (j : Int) + (m : Int) - 4 = (s : Int) := by omega
        have e2 : IntKind.i64.wrap ((j : Int) + (m : Int)) = (j : Int) + (m : Int) := IntWalk.i64_in _ (by omega)
        have e3 : IntKind.i64.wrap (s : Int) = (s : Int) := IntWalk.i64_in _ (by omega)
        by_cases he : n ≤ s
        · have t3 : decide (n ≤ s) = true := decide_eq_true he
          have HD := Lib.hid (show (List.range (j + 1)).filter (isWait ch n) = (List.range j).filter (isWait ch n) ++ [j] by
            rw [filter_succ, if_pos (by unfold isWait; rw [← hm]; exact decide_eq_true ⟨h4, by omega⟩)])
          clear hs he h4 hm
          go_wp2_with (at_builtin; refine wpList_append_sep rfl _ _ 23 rfl 0 3 inf (.int .i64 0) 8 Try.underlying23 hi hz0 hz1 hz2 rfl _ (toI ((List.range j).filter (isWait ch n))).length ((toI ((List.range j).filter (isWait ch n))).map (Value.int .i64)) rfl (HT2.out.skip _) rfl _ 1 (.int .i64 (j : Int)) rfl (World.cell?_alloc_at _ _ _ _ rfl) rfl (by have := HLe.out; unfold maxLen; omega) (by have := HLe.out; omega) ?_; intro g4 d4 w4 hS4; have HS5 := Lib.hid hS4; clear hS4)
          have HS6 := Lib.hid (show Sep [] w w4 [intsR (.slice (some ⟨g4, 0, none⟩) ((toI ((List.range j).filter (isWait ch n))).length + 1) d4) (toI ((List.range (j + 1)).filter (isWait ch n)))] from by
            rw [HD.out, show toI ((List.range j).filter (isWait ch n) ++ [j]) = toI ((List.range j).filter (isWait ch n)) ++ [(j : Int)] from toI_app _ _]
            exact Sep.snocI HS5.out)
          clear HS5
          go_wp2_with fail
          go_roundw
          case rel => exact ⟨j + 1, by omega, by go_num, HS6.out⟩
          case measure => simp [intOf]; omega
        · have t3 : decide (n ≤ s) = false := decide_eq_false he
          have HD := Lib.hid (show (List.range (j + 1)).filter (isWait ch n) = (List.range j).filter (isWait ch n) by
            rw [filter_succ, if_neg (by unfold isWait; rw [← hm]; simp only [decide_eq_true_eq]; omega), List.append_nil])
          clear hs he h4 hm
          go_wp2_with fail
          go_roundw
          case rel => exact ⟨j + 1, by omega, by go_num, by rw [HD.out]; exact HT2.out⟩
          case measure => simp [intOf]; omega
      · have t2 : decide (4 < (m : Int)) = false := decide_eq_false (by omega)
        have HD := Lib.hid (show (List.range (j + 1)).filter (isWait ch n) = (List.range j).filter (isWait ch n) by
          rw [filter_succ, if_neg (by unfold isWait; rw [← hm]; simp only [decide_eq_true_eq]; omega), List.append_nil])
        clear h4 hm
        go_wp2_with fail
        go_roundw
        case rel => exact ⟨j + 1, by omega, by go_num, by rw [HD.out]; exact HT2.out⟩
        case measure => simp [intOf]; omega
    · obtain rfl : j = n := by omega
      have t1 : decide (j < j) = false := decide_eq_false (by omega)
      have HT3 := Lib.hid (show Sep [] w wr [intsR _ (toI (rWait ch j))] from HT.out)
      clear HT
      go_wp2_with fail
      go_ret
      exact ⟨_, rfl, HT3.out⟩

end Go.Proofs.Ytekjpkppfcmjdaa
