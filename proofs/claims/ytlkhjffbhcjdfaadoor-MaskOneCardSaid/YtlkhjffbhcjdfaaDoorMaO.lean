/-
  THE WALK of MaskTwo.
-/
import Derived.Test.YtlkhjffbhcjdfaaDoorMaN
import Derived.Test.YtlkhjffbhcjdfaaDoorMaQ
import Derived.Test.YtlkhjffbhcjdfaaDoorLaD
import Derived.Test.YtlkhjffbhcjdfaaDoorBits
import Derived.Test.YtlkhjffbhcjdfaaDoorAlc
import Derived.Deep.DeepCutAuto
import Derived.BigQuiet
set_option linter.unusedVariables false
set_option linter.unusedSimpArgs false
namespace Go.Proofs.YtlkhjffbhcjdfaaDoor
open Go.RowKit

theorem below_of (x : Int) (m : Nat) (h : 0 ≤ x ∧ x ≤ m) : ∃ k : Nat, x = (k : Int) ∧ k ≤ m := ⟨x.toNat, by omega, by omega⟩
def ag (h l : Nat) : Value := .agg #[.int .u64 (h : Int), .int .u64 (l : Int)]
theorem has_k (h l k : Nat) (w : World) (h0 : h < 18446744073709551616) (h1 : l < 18446744073709551616) (hk : k < 128) :
    Calls Tryd.prog 12 #[ag h l, .int .i64 (k : Int)] w fun e w' => e = .returned (.bool (bt h l k)) ∧ Frm [] w w' := by
  have h2 := has_c h l (k : Int) w h0 h1 (by omega) (by omega)
  rw [has_bt, decide_eq_true (show 0 ≤ (k : Int) ∧ (k : Int) < 128 by omega), Bool.true_and, Int.toNat_natCast] at h2
  exact h2
theorem cnt2_le (h l : Nat) : cnt h 64 + cnt l 64 ≤ 128 := by rw [← count_len]; exact bools_len h l

set_option maxRecDepth 100000 in
set_option maxHeartbeats 16000000 in
theorem maskTwo_w (w : World) (hT : Tabs w) (a b c d : Nat) (h0 : a < 18446744073709551616) (h1 : b < 18446744073709551616) (h2 : c < 18446744073709551616) (h3 : d < 18446744073709551616) (i n : Int) :
    Calls Tryd.prog 5 #[.int .u64 (a : Int), .int .u64 (b : Int), .int .u64 (c : Int), .int .u64 (d : Int), .int .i64 i, .int .i64 n] w fun e w' => e = .returned (.bool true) ∧ Below w.heap.size w w' := by
  have hnot : ∀ (x : Bool) (w : World), (Op.unary .not (.bool x)).run Tryd.prog w = .ok (.bool (!x)) w := fun _ _ => rfl
  have HT := Lib.hid hT
  have HB := Lib.hid (And.intro h0 h1)
  have HB2 := Lib.hid (And.intro h2 h3)
  obtain ⟨k, hk, k1⟩ := below_of _ 127 (and_i64 i 127 (by omega) (by omega))
  obtain ⟨m, hm, m1⟩ := below_of _ 127 (and_i64 n 127 (by omega) (by omega))
  clear hT h0 h1 h2 h3
  go_enter Tryd.func5, Tryd.ntmps5
  go_wp2_with fail
  refine (alive_c _ HT.out).mono ?_
  rintro e w1 ⟨rfl, hf⟩
  have HS1 := Lib.hid ((((Sep.init w).keep hf).alloc #[.int .u64 (a : Int), .int .u64 (b : Int)] 26).alloc #[.int .u64 (c : Int), .int .u64 (d : Int)] 26)
  simp only [World.size_alloc] at HS1
  clear hf
  go_upto_region 5 with fail
  obtain ⟨w2, hw2⟩ : ∃ w2, w2 = (w1.alloc (.cells #[.int .u64 (a : Int), .int .u64 (b : Int)] 26)).alloc (.cells #[.int .u64 (c : Int), .int .u64 (d : Int)] 26) := ⟨_, rfl⟩
  obtain ⟨p, hp⟩ : ∃ p, p = w1.heap.size := ⟨_, rfl⟩
  rw [← hw2, ← hp] at HS1
  rw [← hw2, ← hp]
  have HS2 := Lib.hid HS1.out
  clear hw2 hp HS1
  go_cut [70] (fun v wx => v = .bool false ∧ Sep [] w wx [blkR (p + 1) 26 #[.int .u64 (c : Int), .int .u64 (d : Int)], blkR p 26 #[.int .u64 (a : Int), .int .u64 (b : Int)]])
  case first =>
    have hA := fun X => mand_c a b c d X HB.out.1 HB.out.2 HB2.out.1 HB2.out.2
    have hO := fun X => mor_c a b c d X HB.out.1 HB.out.2 HB2.out.1 HB2.out.2
    have hX := fun X => mxor_c a b c d X HB.out.1 HB.out.2 HB2.out.1 HB2.out.2
    have kA := fun X => has_k (a &&& c) (b &&& d) k X (less_lt _ _ HB.out.1) (less_lt _ _ HB.out.2) (by omega)
    have kO := fun X => has_k (a ||| c) (b ||| d) k X (or_lt HB.out.1 HB2.out.1) (or_lt HB.out.2 HB2.out.2) (by omega)
    have kX := fun X => has_k (a ^^^ c) (b ^^^ d) k X (xor_lt HB.out.1 HB2.out.1) (xor_lt HB.out.2 HB2.out.2) (by omega)
    have kM := fun X => has_k a b k X HB.out.1 HB.out.2 (by omega)
    have kN := fun X => has_k c d k X HB2.out.1 HB2.out.2 (by omega)
    simp only [bt_and] at kA
    simp only [bt_or] at kO
    simp only [bt_xor] at kX
    obtain ⟨x, hx⟩ : ∃ x, x = bt a b k := ⟨_, rfl⟩
    obtain ⟨y, hy⟩ : ∃ y, y = bt c d k := ⟨_, rfl⟩
    rw [← hx] at kA kO kX kM
    rw [← hy] at kA kO kX kN
    clear hx hy
    obtain ⟨aH, hA1⟩ : ∃ x, x = a &&& c := ⟨_, rfl⟩
    obtain ⟨aL, hA2⟩ : ∃ x, x = b &&& d := ⟨_, rfl⟩
    obtain ⟨oH, hO1⟩ : ∃ x, x = a ||| c := ⟨_, rfl⟩
    obtain ⟨oL, hO2⟩ : ∃ x, x = b ||| d := ⟨_, rfl⟩
    obtain ⟨xH, hX1⟩ : ∃ x, x = a ^^^ c := ⟨_, rfl⟩
    obtain ⟨xL, hX2⟩ : ∃ x, x = b ^^^ d := ⟨_, rfl⟩
    rw [← hA1, ← hA2] at hA kA
    rw [← hO1, ← hO2] at hO kO
    rw [← hX1, ← hX2] at hX kX
    unfold mV at hA hO hX
    unfold ag at kA kO kX kM kN
    have HAnd := Lib.hid hA
    have HOr := Lib.hid hO
    have HXor := Lib.hid hX
    have HhA := Lib.hid kA
    have HhO := Lib.hid kO
    have HhX := Lib.hid kX
    have HhM := Lib.hid kM
    have HhN := Lib.hid kN
    clear hA hO hX kA kO kX kM kN hA1 hA2 hO1 hO2 hX1 hX2
    have n1 := HS2.out.inh
    cases x <;> cases y
    all_goals
      simp only [Bool.and_false, Bool.and_true, Bool.false_and, Bool.true_and, Bool.or_false, Bool.or_true, Bool.false_or, Bool.true_or, Bool.xor_false, Bool.xor_true, Bool.false_xor, Bool.true_xor, Bool.not_false, Bool.not_true] at HhA HhO HhX
      have q0 := Cls.cell (S := []) (w0 := w) (L := [blkR (p + 1) 26 #[.int .u64 (c : Int), .int .u64 (d : Int)], blkR p 26 #[.int .u64 (a : Int), .int .u64 (b : Int)]]) 0 rfl 0 rfl
      have q1 := Cls.cell (S := []) (w0 := w) (L := [blkR (p + 1) 26 #[.int .u64 (c : Int), .int .u64 (d : Int)], blkR p 26 #[.int .u64 (a : Int), .int .u64 (b : Int)]]) 0 rfl 1 rfl
      have q2 := Cls.cell (S := []) (w0 := w) (L := [blkR (p + 1) 26 #[.int .u64 (c : Int), .int .u64 (d : Int)], blkR p 26 #[.int .u64 (a : Int), .int .u64 (b : Int)]]) 1 rfl 0 rfl
      have q3 := Cls.cell (S := []) (w0 := w) (L := [blkR (p + 1) 26 #[.int .u64 (c : Int), .int .u64 (d : Int)], blkR p 26 #[.int .u64 (a : Int), .int .u64 (b : Int)]]) 1 rfl 1 rfl
      refine region_sep HS2.out (by kernel_rfl) (by kernel_rfl) ?_
      repeat (go_big_quiet_step ((rename_i x; first | (go_at_call 34; with_reducible exact call_keeps x.ok (HAnd.out _)) | (go_at_call 35; with_reducible exact call_keeps x.ok (HOr.out _)) | (go_at_call 36; with_reducible exact call_keeps x.ok (HXor.out _)) | (go_at_call 12; with_reducible exact call_keeps x.ok (HhA.out _)) | (go_at_call 12; with_reducible exact call_keeps x.ok (HhO.out _)) | (go_at_call 12; with_reducible exact call_keeps x.ok (HhX.out _)) | (go_at_call 12; with_reducible exact call_keeps x.ok (HhM.out _)) | (go_at_call 12; with_reducible exact call_keeps x.ok (HhN.out _)))))
      refine wpQuiet_nil ?_
      intro w3 hS3
      go_wp2_with fail
      go_meet
      exact ⟨rfl, hS3⟩
  case rest =>
    obtain ⟨rfl, hS⟩ := hcut
    have HS := Lib.hid hS
    clear hS HS2 HB2
    obtain ⟨h0, h1⟩ := HB.out
    have hm0 : (0 : Int) ≤ (m : Int) := by omega
    have L1 := two_or h0 h1 (m : Int)
    have L2 := two_and h0 h1 (m : Int)
    have L3 := two_first h0 h1 (m : Int)
    have L4 := two_last h0 h1 (m : Int) hm0
    have L5 := two_down h0 h1 (m : Int) hm0 (by omega)
    have L6 := two_count (a := a) (b := b) (m : Int)
    have ch := less_lt a (fuH (m : Int)) h0
    have cl := less_lt b (fuL (m : Int)) h1
    have rh := xor_lt h0 ch
    have rl := xor_lt h1 cl
    have N1 := cnt2_le a b
    have dh := dwH_lt a b (m : Int) h0 h1
    have dl := dwL_lt a b (m : Int) h0 h1
    have eC := fun X => cut_c a b (m : Int) X h0 h1
    have eX := fun X => mxor_c a b (a &&& fuH (m : Int)) (b &&& fuL (m : Int)) X h0 h1 ch cl
    have eO := fun X => mor_c (a ^^^ (a &&& fuH (m : Int))) (b ^^^ (b &&& fuL (m : Int))) (a &&& fuH (m : Int)) (b &&& fuL (m : Int)) X rh rl ch cl
    have eA := fun X => mand_c (a ^^^ (a &&& fuH (m : Int))) (b ^^^ (b &&& fuL (m : Int))) (a &&& fuH (m : Int)) (b &&& fuL (m : Int)) X rh rl ch cl
    have eZ := fun X => count_c 0 0 X (by decide) (by decide)
    have eF := fun X => first_c (a ^^^ (a &&& fuH (m : Int))) (b ^^^ (b &&& fuL (m : Int))) X rh rl
    have eL := fun X (hf : Frm [] w X) => last_c (a &&& fuH (m : Int)) (b &&& fuL (m : Int)) X ch cl (HT.out.frm hf).1.1 (HT.out.frm hf).1.2
    have eD := fun X => down_c a b (m : Int) X h0 h1
    have eE := fun X => down_c (dwH a b (m : Int)) (dwL a b (m : Int)) (-(m : Int)) X dh dl
    have eU := fun X => cut_c a b (128 - (m : Int)) X h0 h1
    have n0 := fun X => count_c a b X h0 h1
    have nC := fun X => count_c (a &&& fuH (m : Int)) (b &&& fuL (m : Int)) X ch cl
    have nR := fun X => count_c (a ^^^ (a &&& fuH (m : Int))) (b ^^^ (b &&& fuL (m : Int))) X rh rl
    simp only [L1.1, L1.2] at eO
    simp only [L2.1, L2.2] at eA
    simp only [L5.1, L5.2] at eE
    rw [show cnt 0 64 + cnt 0 64 = 0 from by decide +kernel] at eZ
    obtain ⟨sH, hsH⟩ : ∃ x, x = a &&& fuH (128 - (m : Int)) := ⟨_, rfl⟩
    obtain ⟨sL, hsL⟩ : ∃ x, x = b &&& fuL (128 - (m : Int)) := ⟨_, rfl⟩
    obtain ⟨N, hN⟩ : ∃ x, x = cnt a 64 + cnt b 64 := ⟨_, rfl⟩
    obtain ⟨NC, hNC⟩ : ∃ x, x = cnt (a &&& fuH (m : Int)) 64 + cnt (b &&& fuL (m : Int)) 64 := ⟨_, rfl⟩
    obtain ⟨NR, hNR⟩ : ∃ x, x = cnt (a ^^^ (a &&& fuH (m : Int))) 64 + cnt (b ^^^ (b &&& fuL (m : Int))) 64 := ⟨_, rfl⟩
    obtain ⟨F, hF⟩ : ∃ x, x = fiN (a ^^^ (a &&& fuH (m : Int))) (b ^^^ (b &&& fuL (m : Int))) := ⟨_, rfl⟩
    obtain ⟨LL, hLL⟩ : ∃ x, x = laN (a &&& fuH (m : Int)) (b &&& fuL (m : Int)) := ⟨_, rfl⟩
    obtain ⟨cH, hcH⟩ : ∃ x, x = a &&& fuH (m : Int) := ⟨_, rfl⟩
    obtain ⟨cL, hcL⟩ : ∃ x, x = b &&& fuL (m : Int) := ⟨_, rfl⟩
    rw [← hN, ← hNC, ← hNR] at L6
    rw [← hN] at N1
    simp only [← hsH, ← hsL] at eE eU
    simp only [← hN] at n0
    simp only [← hNC] at nC
    simp only [← hNR] at nR
    rw [← hF] at L3
    rw [← hLL] at L4
    simp only [← hF] at eF
    simp only [← hLL] at eL
    simp only [← hcH, ← hcL] at eC eX eO eA eL nC eF nR
    obtain ⟨rH, hrH⟩ : ∃ x, x = a ^^^ cH := ⟨_, rfl⟩
    obtain ⟨rL, hrL⟩ : ∃ x, x = b ^^^ cL := ⟨_, rfl⟩
    obtain ⟨dH, hdH⟩ : ∃ x, x = dwH a b (m : Int) := ⟨_, rfl⟩
    obtain ⟨dL, hdL⟩ : ∃ x, x = dwL a b (m : Int) := ⟨_, rfl⟩
    simp only [← hrH, ← hrL] at eX eO eA eF nR
    simp only [← hdH, ← hdL] at eD eE
    clear hsH hsL hN hNC hNR hF hLL hcH hcL hrH hrL hdH hdL L1 L2 L5 h0 h1 ch cl rh rl dh dl HB
    unfold mV at eC eX eO eA eZ eF eL eD eE eU n0 nC nR
    have ECh := Lib.hid eC
    have EXh := Lib.hid eX
    have EOh := Lib.hid eO
    have EAh := Lib.hid eA
    have EZh := Lib.hid eZ
    have EFh := Lib.hid eF
    have ELh := Lib.hid eL
    have EDh := Lib.hid eD
    have EEh := Lib.hid eE
    have EUh := Lib.hid eU
    have N0h := Lib.hid n0
    have NCh := Lib.hid nC
    have NRh := Lib.hid nR
    clear eC eX eO eA eZ eF eL eD eE eU n0 nC nR
    have w1 : IntKind.i64.wrap (-(m : Int)) = -(m : Int) := IntWalk.i64_in _ (by omega)
    have w2 : IntKind.i64.wrap (128 - (m : Int)) = 128 - (m : Int) := IntWalk.i64_in _ (by omega)
    have w3 : IntKind.i64.wrap ((NC : Int) + (NR : Int)) = (N : Int) := by rw [IntWalk.i64_in _ (by omega)]; omega
    have hme : ∀ (x y : Int) X, (binOp .eql 26 (.agg #[.int .u64 x, .int .u64 y]) (.agg #[.int .u64 x, .int .u64 y])).run Tryd.prog X = .ok (.bool true) X := fun x y X => by rw [meql]; simp
    go_upto_region 8 with fail
    go_cut [15] (fun v wx => ∃ g : Nat, v = .pointer (some ⟨g, 0, none⟩) ∧ Sep [] w wx [blkR g 26 #[.int .u64 (rH : Int), .int .u64 (rL : Int)], blkR (p + 1) 26 #[.int .u64 (c : Int), .int .u64 (d : Int)], blkR p 26 #[.int .u64 (a : Int), .int .u64 (b : Int)]])
    case first =>
      refine region_sep_free 5 (ty := 26) (z := #[.int .u64 0, .int .u64 0]) HS.out (by kernel_rfl) (by kernel_rfl) (by kernel_rfl) rfl (fun _ _ => by kernel_rfl) ?_
      simp only [List.take_succ_cons, List.take_zero, List.drop_succ_cons, List.drop_zero]
      apply Exists.intro
      refine ⟨fun M n1 => ?_, ?_⟩
      · skip
        have q2 := Cls.cellM (S := []) (w0 := w) (M := M) (L := [blkR (p + 1) 26 #[.int .u64 (c : Int), .int .u64 (d : Int)], blkR p 26 #[.int .u64 (a : Int), .int .u64 (b : Int)]]) 1 rfl 0 (v := .int .u64 (a : Int)) rfl
        have q3 := Cls.cellM (S := []) (w0 := w) (M := M) (L := [blkR (p + 1) 26 #[.int .u64 (c : Int), .int .u64 (d : Int)], blkR p 26 #[.int .u64 (a : Int), .int .u64 (b : Int)]]) 1 rfl 1 (v := .int .u64 (b : Int)) rfl
        repeat (go_big_quiet_step ((rename_i x; first | (go_at_call 26; with_reducible exact call_keeps x.ok (ECh.out _)) | (go_at_call 36; with_reducible exact call_keeps x.ok (EXh.out _)))))
        refine wpQuiet_nil ?_
        rfl
      · intro g w1 hS1
        have z0 := (hS1.blk 0 rfl).cell 0 rfl
        have y0 := (hS1.blk 0 rfl).free 0
        have z1 := (hS1.blk 0 rfl).cell 1 rfl
        have y1 := (hS1.blk 0 rfl).free 1
        have HX := Lib.hid ((hS1.put 0 rfl 0 (.int .u64 (rH : Int))).put 0 rfl 1 (.int .u64 (rL : Int)))
        clear hS1
        go_wp2_with fail
        go_meet
        exact ⟨g, rfl, HX.out⟩
    case rest =>
      obtain ⟨g, rfl, hS1⟩ := hcut
      have HS3 := Lib.hid hS1
      clear hS1 HS
      by_cases hF0 : F < 0
      · have b1 : decide (F < 0) = true := decide_eq_true hF0
        have b2 : decide (LL < (m : Int)) = true := decide_eq_true L4
        clear hF0 L3 L4
        have q0 := Cls.cell (S := []) (w0 := w) (L := [blkR g 26 #[.int .u64 (rH : Int), .int .u64 (rL : Int)], blkR (p + 1) 26 #[.int .u64 (c : Int), .int .u64 (d : Int)], blkR p 26 #[.int .u64 (a : Int), .int .u64 (b : Int)]]) 0 rfl 0 (v := .int .u64 (rH : Int)) rfl
        have q1 := Cls.cell (S := []) (w0 := w) (L := [blkR g 26 #[.int .u64 (rH : Int), .int .u64 (rL : Int)], blkR (p + 1) 26 #[.int .u64 (c : Int), .int .u64 (d : Int)], blkR p 26 #[.int .u64 (a : Int), .int .u64 (b : Int)]]) 0 rfl 1 (v := .int .u64 (rL : Int)) rfl
        have q2 := Cls.cell (S := []) (w0 := w) (L := [blkR g 26 #[.int .u64 (rH : Int), .int .u64 (rL : Int)], blkR (p + 1) 26 #[.int .u64 (c : Int), .int .u64 (d : Int)], blkR p 26 #[.int .u64 (a : Int), .int .u64 (b : Int)]]) 2 rfl 0 (v := .int .u64 (a : Int)) rfl
        have q3 := Cls.cell (S := []) (w0 := w) (L := [blkR g 26 #[.int .u64 (rH : Int), .int .u64 (rL : Int)], blkR (p + 1) 26 #[.int .u64 (c : Int), .int .u64 (d : Int)], blkR p 26 #[.int .u64 (a : Int), .int .u64 (b : Int)]]) 2 rfl 1 (v := .int .u64 (b : Int)) rfl
        have n1 := HS3.out.inh
        go_upto_region 9 with fail
        refine region_sep HS3.out (by kernel_rfl) (by kernel_rfl) ?_
        repeat (go_big_quiet_step ((rename_i x; first | (go_at_call 26; with_reducible exact call_keeps x.ok (ECh.out _)) | (go_at_call 26; with_reducible exact call_keeps x.ok (EUh.out _)) | (go_at_call 35; with_reducible exact call_keeps x.ok (EOh.out _)) | (go_at_call 34; with_reducible exact call_keeps x.ok (EAh.out _)) | (go_at_call 17; with_reducible exact call_keeps x.ok (EZh.out _)) | (go_at_call 17; with_reducible exact call_keeps x.ok (N0h.out _)) | (go_at_call 17; with_reducible exact call_keeps x.ok (NCh.out _)) | (go_at_call 17; with_reducible exact call_keeps x.ok (NRh.out _)) | (go_at_call 18; with_reducible exact call_keeps x.ok (EFh.out _)) | (go_at_call 22; with_reducible exact call_keeps x.ok (EDh.out _)) | (go_at_call 22; with_reducible exact call_keeps x.ok (EEh.out _)) | (go_at_call 19; with_reducible exact call_keeps x.ok (ELh.out _ x.ok.frm)))))
        refine wpQuiet_nil ?_
        intro w3 hS3
        go_wp2
        go_ret
        exact ⟨rfl, hS3.frm.below⟩
      · have b1 : decide (F < 0) = false := decide_eq_false hF0
        have b2 : decide (LL < (m : Int)) = true := decide_eq_true L4
        have b3 : decide (F ≥ (m : Int)) = true := decide_eq_true (L3.resolve_left hF0)
        have b4 : decide ((m : Int) ≤ F) = true := decide_eq_true (L3.resolve_left hF0)
        clear hF0 L3 L4
        have q0 := Cls.cell (S := []) (w0 := w) (L := [blkR g 26 #[.int .u64 (rH : Int), .int .u64 (rL : Int)], blkR (p + 1) 26 #[.int .u64 (c : Int), .int .u64 (d : Int)], blkR p 26 #[.int .u64 (a : Int), .int .u64 (b : Int)]]) 0 rfl 0 (v := .int .u64 (rH : Int)) rfl
        have q1 := Cls.cell (S := []) (w0 := w) (L := [blkR g 26 #[.int .u64 (rH : Int), .int .u64 (rL : Int)], blkR (p + 1) 26 #[.int .u64 (c : Int), .int .u64 (d : Int)], blkR p 26 #[.int .u64 (a : Int), .int .u64 (b : Int)]]) 0 rfl 1 (v := .int .u64 (rL : Int)) rfl
        have q2 := Cls.cell (S := []) (w0 := w) (L := [blkR g 26 #[.int .u64 (rH : Int), .int .u64 (rL : Int)], blkR (p + 1) 26 #[.int .u64 (c : Int), .int .u64 (d : Int)], blkR p 26 #[.int .u64 (a : Int), .int .u64 (b : Int)]]) 2 rfl 0 (v := .int .u64 (a : Int)) rfl
        have q3 := Cls.cell (S := []) (w0 := w) (L := [blkR g 26 #[.int .u64 (rH : Int), .int .u64 (rL : Int)], blkR (p + 1) 26 #[.int .u64 (c : Int), .int .u64 (d : Int)], blkR p 26 #[.int .u64 (a : Int), .int .u64 (b : Int)]]) 2 rfl 1 (v := .int .u64 (b : Int)) rfl
        have n1 := HS3.out.inh
        go_upto_region 9 with fail
        refine region_sep HS3.out (by kernel_rfl) (by kernel_rfl) ?_
        repeat (go_big_quiet_step ((rename_i x; first | (go_at_call 26; with_reducible exact call_keeps x.ok (ECh.out _)) | (go_at_call 26; with_reducible exact call_keeps x.ok (EUh.out _)) | (go_at_call 35; with_reducible exact call_keeps x.ok (EOh.out _)) | (go_at_call 34; with_reducible exact call_keeps x.ok (EAh.out _)) | (go_at_call 17; with_reducible exact call_keeps x.ok (EZh.out _)) | (go_at_call 17; with_reducible exact call_keeps x.ok (N0h.out _)) | (go_at_call 17; with_reducible exact call_keeps x.ok (NCh.out _)) | (go_at_call 17; with_reducible exact call_keeps x.ok (NRh.out _)) | (go_at_call 18; with_reducible exact call_keeps x.ok (EFh.out _)) | (go_at_call 22; with_reducible exact call_keeps x.ok (EDh.out _)) | (go_at_call 22; with_reducible exact call_keeps x.ok (EEh.out _)) | (go_at_call 19; with_reducible exact call_keeps x.ok (ELh.out _ x.ok.frm)))))
        refine wpQuiet_nil ?_
        intro w3 hS3
        go_wp2
        go_ret
        exact ⟨rfl, hS3.frm.below⟩

theorem maskTwo_f (w : World) (hT : Tabs w) (a : Int) (wa : (Lit.int .u64 a).wf = true) (b : Int) (wb : (Lit.int .u64 b).wf = true) (c : Int) (wc : (Lit.int .u64 c).wf = true) (d : Int) (wd : (Lit.int .u64 d).wf = true) (i : Int) (wi : (Lit.int .i64 i).wf = true) (n : Int) (wn : (Lit.int .i64 n).wf = true) :
    Calls Tryd.prog 5 #[.int .u64 a, .int .u64 b, .int .u64 c, .int .u64 d, .int .i64 i, .int .i64 n] w fun e w' => e = .returned (.bool true) ∧ Below w.heap.size w w' := by
  obtain ⟨a, rfl, ha⟩ := u64_nat wa
  obtain ⟨b, rfl, hb⟩ := u64_nat wb
  obtain ⟨c, rfl, hc⟩ := u64_nat wc
  obtain ⟨d, rfl, hd⟩ := u64_nat wd
  exact maskTwo_w w hT a b c d ha hb hc hd i n

end Go.Proofs.YtlkhjffbhcjdfaaDoor
