/-
  THE WALKS of confluxref01.Add, flex.Grid, confluxref10.Grid.
-/
import Derived.Test.YtnloabpdjedanaaDoorFxG
import Derived.Test.YtnloabpdjedanaaDoorSer
set_option linter.unusedVariables false
set_option linter.unusedSimpArgs false
namespace Go.Proofs.YtnloabpdjedanaaDoor
open Go.RowKit

set_option maxHeartbeats 400000 in
theorem radd_c (a n : Int) (w : World) (a0 : 0 ≤ a) (a1 : a ≤ 65535) :
    Calls Tryd.prog 26 #[.int .u16 a, .int .i64 n] w fun e w' => e = .returned (.int .u16 (add16 a n)) ∧ w = w' := by
  obtain ⟨d, hd⟩ : ∃ d, n.tmod 65536 = d := ⟨_, rfl⟩
  have d1 : -65535 ≤ d ∧ d ≤ 65535 ∧ (0 ≤ n → d = n % 65536) ∧ (n < 0 → d = -((-n) % 65536)) := by
    rw [← hd]
    by_cases hn : 0 ≤ n
    · rw [Int.tmod_eq_emod_of_nonneg hn]; omega
    · have h1 := Int.neg_tmod (-n) 65536
      have h2 := Int.tmod_eq_emod_of_nonneg (a := -n) (b := 65536) (by omega)
      rw [Int.neg_neg, h2] at h1
      omega
  obtain ⟨d1, d2, d3, d4⟩ := d1
  have e1 : IntKind.i64.wrap d = d := IntWalk.i64_in _ (by omega)
  by_cases hn : d < 0
  · go_enter Tryd.func26, Tryd.ntmps26
    have HD3 := Lib.hid d3
    have HD4 := Lib.hid d4
    clear d3 d4
    go_wp2_with fail
    all_goals (go_ret; exact ⟨ret_int (by have := HD3.out; have := HD4.out; unfold add16; omega), rfl⟩)
  · go_enter Tryd.func26, Tryd.ntmps26
    have HD3 := Lib.hid d3
    have HD4 := Lib.hid d4
    clear d3 d4
    go_wp2_with fail
    all_goals (go_ret; exact ⟨ret_int (by have := HD3.out; have := HD4.out; unfold add16; omega), rfl⟩)

def gN (l d : Int) : Nat := if 1 < d then d.toNat else l.toNat
def gS (l d : Int) : Int := if 1 < d then l else 1
def gL (b l d : Int) (k : Nat) : List Int := (List.range k).map fun i : Nat => add16 b ((i : Int) * gS l d)
/-- The numbers of a fixed pack. -/
def gridL (b l d : Int) : List Int := if gridB l d = true then gL b l d (gN l d) else []
theorem gL_succ (b l d : Int) (k : Nat) : gL b l d (k + 1) = gL b l d k ++ [add16 b ((k : Int) * gS l d)] := by unfold gL; rw [List.range_succ, List.map_append]; rfl
theorem gL_len (b l d : Int) (k : Nat) : (gL b l d k).length = k := by simp [gL]
theorem grid_in {l d : Int} (h : gridB l d = true) : 1 ≤ l ∧ l ≤ 255 ∧ 0 ≤ d ∧ d ≤ 255 := by
  simp [gridB] at h
  omega
/-- A slice of numbers of u16 that is new. -/
def nuR (v : Value) (xs : List Int) : Res := ownR 26 1 v xs.length (xs.map (Value.int .u16))
theorem info_u16 : (Tryd.prog.info? 26).map (fun i => (i.zero, i.size, i.bytes)) = some (some (.int .u16 0), 1, 2) := by kernel_rfl

set_option maxRecDepth 100000 in
set_option maxHeartbeats 4000000 in
theorem fgrid_c (b l d : Int) (w : World) (b0 : 0 ≤ b) (b1 : b ≤ 65535) :
    Calls Tryd.prog 24 #[.int .u16 b, .int .i64 l, .int .i64 d] w fun e w' => ∃ v, e = .returned v ∧ Sep [] w w' [nuR v (gridL b l d)] := by
  obtain ⟨i0, hi, hz0, hz1, hz2⟩ := info_parts info_u16
  have HGr := Lib.hid (fun X => grid_c l d X)
  have HAd := Lib.hid (fun n X => add_c b n X b0 b1)
  have HI := Lib.hid (@grid_in l d)
  obtain ⟨Z, hZ⟩ : ∃ Z, Z = gridL b l d := ⟨_, rfl⟩
  rw [← hZ]
  unfold gridL at hZ
  obtain ⟨G, hG⟩ : ∃ G, G = gridB l d := ⟨_, rfl⟩
  rw [← hG] at HGr HI hZ
  have HZ := Lib.hid hZ
  clear hZ hG
  cases G with
  | false =>
    have hz : Z = [] := HZ.out
    subst hz
    go_enter Tryd.func24, Tryd.ntmps24
    go_wp2_with fail
    refine (HGr.out _).mono ?_
    rintro e w1 ⟨rfl, rfl⟩
    go_wp2_with fail
    go_ret
    exact ⟨_, rfl, (Sep.init w).nil _ 1⟩
  | true =>
    have hz : Z = gL b l d (gN l d) := HZ.out
    obtain ⟨l0, l1, d0, d1⟩ := HI.out rfl
    obtain ⟨N, hN⟩ : ∃ N, N = gN l d := ⟨_, rfl⟩
    obtain ⟨s, hs⟩ : ∃ s, s = gS l d := ⟨_, rfl⟩
    have hN2 : N ≤ 255 := by rw [hN]; unfold gN; split <;> omega
    have hs2 : 1 ≤ s ∧ s ≤ 255 := by rw [hs]; unfold gS; split <;> omega
    have HL := Lib.hid (gL_succ b l d)
    have HLn := Lib.hid (gL_len b l d)
    rw [← hN] at hz
    rw [← hs] at HL
    have HZ2 := Lib.hid hz
    have HN := Lib.hid (And.intro hN hs)
    clear hz hN hs HZ HI
    have HS := Lib.hid ((Sep.init w).nil 26 1)
    go_enter Tryd.func24, Tryd.ntmps24
    go_wp2_with fail
    refine (HGr.out _).mono ?_
    rintro e w1 ⟨rfl, rfl⟩
    obtain ⟨T, hT⟩ : ∃ T : Bool, T = decide (1 < d) := ⟨_, rfl⟩
    have ht : decide (1 < d) = T := hT.symm
    have HTt := Lib.hid hT
    clear hT
    go_upto_if 17 with fail
    go_cut [7, 8] (fun u v wx => u = .int .i64 (N : Int) ∧ v = .int .i64 s ∧ wx = w)
    case first =>
      by_cases hd : 1 < d
      · obtain rfl : T = true := by rw [HTt.out]; exact decide_eq_true hd
        have hN := HN.out.1
        have hs := HN.out.2
        unfold gN at hN
        unfold gS at hs
        rw [if_pos hd] at hN hs
        have HE := Lib.hid (show (N : Int) = d ∧ s = l from ⟨by omega, hs⟩)
        clear hd hN hs hN2 hs2
        go_wp2_with fail
        go_meet
        exact ⟨by rw [HE.out.1], by rw [HE.out.2], rfl⟩
      · obtain rfl : T = false := by rw [HTt.out]; exact decide_eq_false hd
        have hN := HN.out.1
        have hs := HN.out.2
        unfold gN at hN
        unfold gS at hs
        rw [if_neg hd] at hN hs
        have HE := Lib.hid (show (N : Int) = l ∧ s = 1 from ⟨by omega, hs⟩)
        clear hd hN hs hN2 hs2
        go_wp2_with fail
        go_meet
        exact ⟨by rw [HE.out.1], by rw [HE.out.2], rfl⟩
    case rest =>
      obtain ⟨rfl, rfl, rfl⟩ := hcut
      clear ht
      go_wp2_with fail
      go_loopw [9, 21] (fun v i wr => ∃ (k : Nat) (a : Option Addr) (c : Nat), k ≤ N ∧ i = .int .i64 (k : Int) ∧ v = .slice a k c ∧ Sep [] wc wr [ownR 26 1 (.slice a k c) k ((gL b l d k).map (Value.int .u16))]) (fun _ i _ => N - (intOf i).toNat)
      case atStart => exact ⟨0, none, 0, Nat.zero_le _, rfl, rfl, HS.out⟩
      case round =>
        obtain ⟨k, a, c, hk, rfl, rfl, hS⟩ := hrel
        have HS2 := Lib.hid hS
        clear hS HS
        by_cases hlt : k < N
        · have k1 : (k : Int) < (N : Int) := by omega
          have hm : IntKind.i64.wrap ((k : Int) * s) = (k : Int) * s := by
            refine IntWalk.i64_in _ ?_
            have h1 : (k : Int) * s ≤ 255 * 255 := Int.mul_le_mul (by omega) (by omega) (by omega) (by omega)
            have h2 : 0 ≤ (k : Int) * s := Int.mul_nonneg (by omega) (by omega)
            omega
          obtain ⟨m, hm2⟩ : ∃ m, m = (k : Int) * s := ⟨_, rfl⟩
          rw [← hm2] at hm
          have HM := Lib.hid hm2
          have hm3 : IntKind.i64.wrap ((k : Int) * s) = m := by rw [← hm2]; exact hm
          have HLk := Lib.hid (HL.out k)
          have HAdm := Lib.hid (HAd.out m)
          clear hm hm2
          go_wp2_with fail
          refine (HAdm.out _).mono ?_
          rintro e w5 ⟨rfl, rfl⟩
          clear hm3
          go_wp2_with (at_builtin; refine wpList_append_sep rfl _ _ 58 rfl 0 26 i0 (.int .u16 0) 2 Tryd.underlying58 hi hz0 hz1 hz2 rfl _ _ _ rfl (HS2.out.skip _) rfl _ 1 (.int .u16 (add16 b m)) rfl (World.cell?_alloc_at _ _ _ _ rfl) rfl (by unfold maxLen; omega) (by omega) ?_; intro g4 c4 w4 hS4; have HS4 := Lib.hid hS4; clear hS4)
          go_roundw
          case rel => exact ⟨k + 1, some ⟨g4, 0, none⟩, c4, by omega, by go_num, rfl, by rw [HLk.out, ← HM.out, List.map_append]; exact HS4.out⟩
          case measure => simp [intOf]; omega
        · obtain rfl : k = N := by omega
          go_wp2_with fail
          go_ret
          refine ⟨_, rfl, ?_⟩
          unfold nuR
          rw [HZ2.out, HLn.out]
          exact HS2.out

end Go.Proofs.YtnloabpdjedanaaDoor
