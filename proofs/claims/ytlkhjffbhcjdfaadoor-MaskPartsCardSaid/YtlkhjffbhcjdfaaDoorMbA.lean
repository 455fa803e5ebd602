/-
  THE WALK of MaskParts.
-/
import Derived.Test.YtlkhjffbhcjdfaaDoorMaY
set_option linter.unusedVariables false
set_option linter.unusedSimpArgs false
namespace Go.Proofs.YtlkhjffbhcjdfaaDoor
open Go.RowKit

set_option maxRecDepth 100000 in
set_option maxHeartbeats 8000000 in
theorem maskParts_w (w : World) (hT : Tabs w) (h l : Nat) (h0 : h < 18446744073709551616) (h1 : l < 18446744073709551616) (f n : Int) (x : Nat) (hx : x < 18446744073709551616) :
    Calls Tryd.prog 4 #[.int .u64 (h : Int), .int .u64 (l : Int), .int .i64 f, .int .i64 n, .int .u64 (x : Int)] w fun e w' => e = .returned (.bool true) ∧ Below w.heap.size w w' := by
  have hnot : ∀ (x : Bool) (w : World), (Op.unary .not (.bool x)).run Tryd.prog w = .ok (.bool (!x)) w := fun _ _ => rfl
  have HT := Lib.hid hT
  have hn := held_in n 0 64 (by omega)
  have hg := held_in f (-200) 200 (by omega)
  obtain ⟨N, hN⟩ : ∃ N : Nat, held n 0 64 = (N : Int) := ⟨(held n 0 64).toNat, by omega⟩
  obtain ⟨G, hG⟩ : ∃ G, G = held f (-200) 200 := ⟨_, rfl⟩
  have hN64 : N ≤ 64 := by omega
  have eH1 := fun X => rheld_c n 0 64 X
  have eH2 := fun X => rheld_c f (-200) 200 X
  rw [hN] at eH1
  rw [← hG] at eH2 hg
  have e1 := fun X => part_c h l f n X h0 h1
  have e2 := fun X => rof_c h l X h0 h1
  have e3 := fun a c X (hr : RdB X a (bools h l)) => rpart_c a c (bools h l) G N X hr (bools_len128 h l) hg hN64
  have e4 := fun X => lay_c f n x X
  have e5 := fun X => rlay_c G N x X hg hN64 hx
  have e6 := fun a c X (hr : RdB X a (bools (lyH f n x) (lyL f n x))) => is_c (lyH f n x) (lyL f n x) a c X (lyH_lt _ _ _) (lyL_lt _ _ _) hr
  have p1 := part_ref h0 h1 f n
  have p2 := lay_ref f n x
  rw [← hG, hN, Int.toNat_natCast] at p1 p2
  rw [p2] at e6
  rw [← p1] at e3
  clear p1 p2
  obtain ⟨V, hV⟩ : ∃ V, V = ptN h l f n := ⟨_, rfl⟩
  simp only [← hV] at e1 e3
  obtain ⟨yH, hyH⟩ : ∃ y, y = lyH f n x := ⟨_, rfl⟩
  obtain ⟨yL, hyL⟩ : ∃ y, y = lyL f n x := ⟨_, rfl⟩
  simp only [← hyH, ← hyL] at e4 e6
  unfold mV at e1 e4
  unfold ag at e6
  have HH1 := Lib.hid eH1
  have HH2 := Lib.hid eH2
  have H1 := Lib.hid e1
  have H2 := Lib.hid e2
  have H3 := Lib.hid e3
  have H4 := Lib.hid e4
  have H5 := Lib.hid e5
  have H6 := Lib.hid e6
  clear eH1 eH2 e1 e2 e3 e4 e5 e6 hV hyH hyL hN hG hn hg hN64 h0 h1 hx hT
  go_enter Tryd.func4, Tryd.ntmps4
  go_wp2_with fail
  refine (alive_c _ HT.out).mono ?_
  rintro e w1 ⟨rfl, hf⟩
  have HS1 := Lib.hid (((Sep.init w).keep hf).alloc #[.int .u64 (h : Int), .int .u64 (l : Int)] 26)
  clear hf
  go_upto_region 4 with fail
  obtain ⟨w2, hw2⟩ : ∃ w2, w2 = w1.alloc (.cells #[.int .u64 (h : Int), .int .u64 (l : Int)] 26) := ⟨_, rfl⟩
  obtain ⟨p, hp⟩ : ∃ p, p = w1.heap.size := ⟨_, rfl⟩
  rw [← hw2, ← hp] at HS1
  rw [← hw2, ← hp]
  have HS2 := Lib.hid HS1.out
  clear hw2 hp HS1
  go_wp2_with fail
  refine (HH1.out _).mono ?_
  rintro e w3 ⟨rfl, rfl⟩
  go_wp2_with fail
  refine (HH2.out _).mono ?_
  rintro e w3 ⟨rfl, rfl⟩
  have c0 := (HS2.out.blk 0 rfl).cell 0 rfl
  have c1 := (HS2.out.blk 0 rfl).cell 1 rfl
  go_wp2_with fail
  refine (H1.out _).mono ?_
  rintro e w3 ⟨rfl, hf⟩
  have HF3 := Lib.hid (HS2.out.frm.trans hf)
  clear hf c0 c1
  go_wp2_with fail
  refine (H2.out _).mono ?_
  rintro e w4 ⟨a4, c4, rfl, hS4⟩
  have HF4 := Lib.hid (HF3.out.trans hS4.frm)
  obtain ⟨a5, c5, he, _, _, hr⟩ := rdB_own (hS4.own 0 rfl)
  injection he with e1 e2 e3
  subst e1; subst e3
  have HR4 := Lib.hid hr
  clear hr hS4 e2
  go_wp2_with fail
  refine (H3.out _ _ _ HR4.out).mono ?_
  rintro e w5 ⟨rfl, rfl⟩
  go_wp2_with fail
  refine (H4.out _).mono ?_
  rintro e w5 ⟨rfl, hf⟩
  have HF5 := Lib.hid (HF4.out.trans hf)
  clear hf HR4
  go_wp2_with fail
  refine (H5.out _).mono ?_
  rintro e w6 ⟨a6, c6, rfl, hS6⟩
  have HF6 := Lib.hid (HF5.out.trans hS6.frm)
  obtain ⟨a7, c7, he, _, _, hr⟩ := rdB_own (hS6.own 0 rfl)
  injection he with e1 e2 e3
  subst e1; subst e3
  have HR6 := Lib.hid hr
  clear hr hS6 e2
  go_wp2_with fail
  refine (H6.out _ _ _ HR6.out).mono ?_
  rintro e w7 ⟨rfl, hf⟩
  have HF7 := Lib.hid (HF6.out.trans hf)
  clear hf
  go_wp2_with fail
  go_ret
  exact ⟨rfl, HF7.out.below⟩

theorem maskParts_f (w : World) (hT : Tabs w) (h : Int) (wh : (Lit.int .u64 h).wf = true) (l : Int) (wl : (Lit.int .u64 l).wf = true) (f : Int) (wf : (Lit.int .i64 f).wf = true) (n : Int) (wn : (Lit.int .i64 n).wf = true) (x : Int) (wx : (Lit.int .u64 x).wf = true) :
    Calls Tryd.prog 4 #[.int .u64 h, .int .u64 l, .int .i64 f, .int .i64 n, .int .u64 x] w fun e w' => e = .returned (.bool true) ∧ Below w.heap.size w w' := by
  obtain ⟨h, rfl, h0⟩ := u64_nat wh
  obtain ⟨l, rfl, h1⟩ := u64_nat wl
  obtain ⟨x, rfl, h2⟩ := u64_nat wx
  exact maskParts_w w hT h l h0 h1 f n x h2

end Go.Proofs.YtlkhjffbhcjdfaaDoor
