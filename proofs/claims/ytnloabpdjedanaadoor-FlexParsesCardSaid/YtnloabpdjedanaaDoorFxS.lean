/-
  THE WALKS of flex.Same, confluxref10.Same. Printed by gen_fxs.py.
-/
import Derived.Test.YtnloabpdjedanaaDoorFxH
import Derived.Test.YtnloabpdjedanaaDoorBeq
import Derived.Test.YtnloabpdjedanaaDoorAeq
set_option linter.unusedVariables false
set_option linter.unusedSimpArgs false
namespace Go.Proofs.YtnloabpdjedanaaDoor
open Go.RowKit

set_option maxRecDepth 100000 in
theorem heql (a0 a1 a2 a3 a4 a5 a6 a7 b0 b1 b2 b3 b4 b5 b6 b7 : Int) (w : World) : (Op.equalIn 10000 25 (.agg #[.int .u8 a0, .int .u8 a1, .int .u8 a2, .int .u8 a3, .int .u8 a4, .int .u8 a5, .int .u8 a6, .int .u8 a7]) (.agg #[.int .u8 b0, .int .u8 b1, .int .u8 b2, .int .u8 b3, .int .u8 b4, .int .u8 b5, .int .u8 b6, .int .u8 b7])).run Tryd.prog w = .ok (decide (a0 = b0 ∧ a1 = b1 ∧ a2 = b2 ∧ a3 = b3 ∧ a4 = b4 ∧ a5 = b5 ∧ a6 = b6 ∧ a7 = b7)) w := by
  have h := arr_equal (t := 25) Tryd.underlying25 w [a0, a1, a2, a3, a4, a5, a6, a7] [b0, b1, b2, b3, b4, b5, b6, b7] rfl rfl
  have e : decide ([a0, a1, a2, a3, a4, a5, a6, a7] = [b0, b1, b2, b3, b4, b5, b6, b7]) = decide (a0 = b0 ∧ a1 = b1 ∧ a2 = b2 ∧ a3 = b3 ∧ a4 = b4 ∧ a5 = b5 ∧ a6 = b6 ∧ a7 = b7) := by
    rw [Bool.eq_iff_iff, decide_eq_true_eq, decide_eq_true_eq]
    simp
  rw [e] at h
  exact h
theorem mequal (a b c d : Int) (w : World) : (Op.equalIn 10000 29 (.agg #[.int .u64 a, .int .u64 b]) (.agg #[.int .u64 c, .int .u64 d])).run Tryd.prog w = .ok ((a == c) && (b == d)) w := by
  have u3 := Tryd.underlying27
  have hS : Tryd.prog.underlying 29 = some (.struct (Tryd.prog.fieldsOf 29)) := by kernel_rfl
  have hp : Tryd.prog.stoodInHeld 29 = false := by kernel_rfl
  rw [show (10000 : Nat) = 9999 + 1 from rfl, run_equalIn_agg w 9999 29 _ _ hS hp]
  simp only [Program.fieldsOf, Tryd.underlying29]
  go_simp
  by_cases h1 : a = c <;> by_cases h2 : b = d <;> simp [h1, h2]
/-- The same but for two bits of the head. -/
def sameX (x y : Fx) : Bool := decide (x.h0 % 64 = y.h0 % 64 ∧ x.h1 = y.h1 ∧ x.h2 = y.h2 ∧ x.h3 = y.h3 ∧ x.h4 = y.h4 ∧ x.h5 = y.h5 ∧ x.h6 = y.h6 ∧ x.h7 = y.h7) && decide (x.b = y.b) && decide (x.h = y.h ∧ x.l = y.l) && decide (x.fx = y.fx) && decide (x.L = y.L) && decide (x.D = y.D) && decide (x.B = y.B)
set_option maxRecDepth 100000 in
set_option maxHeartbeats 16000000 in
theorem same_c (x y : Fx) (a a' : Option Addr) (c c' : Nat) (w : World) (hx : x.Ok) (hy : y.Ok) (rx : RdI .u8 w a x.B) (ry : RdI .u8 w a' y.B) (lx : x.B.length ≤ 1000000) (ly : y.B.length ≤ 1000000) :
    Calls Tryd.prog 20 #[x.val (.slice a x.B.length c), y.val (.slice a' y.B.length c')] w fun e w' => e = .returned (.bool (sameX x y)) ∧ Frm [] w w' := by
  have HQ := Lib.hid (fun (X : World) (hf : Frm [] w X) => bequal_c a a' c c' x.B y.B X (rx.below hf.below) (ry.below hf.below) hx.rB hy.rB)
  obtain ⟨R, hR⟩ : ∃ R, R = sameX x y := ⟨_, rfl⟩
  rw [← hR]
  unfold sameX at hR
  obtain ⟨T, hT⟩ : ∃ T, T = decide (x.B = y.B) := ⟨_, rfl⟩
  rw [← hT] at HQ hR
  have x0 := hx.r0
  have y0 := hy.r0
  obtain ⟨h0, h1, h2, h3, h4, h5, h6, h7, b, h, l, fx, L, D, B⟩ := x
  obtain ⟨h0', h1', h2', h3', h4', h5', h6', h7', b', h', l', fx', L', D', B'⟩ := y
  simp only [Fx.val, Fx.cells] at *
  clear hx hy rx ry lx ly
  obtain ⟨n, hn⟩ : ∃ n, n = B.length := ⟨_, rfl⟩
  obtain ⟨m, hm⟩ : ∃ m, m = B'.length := ⟨_, rfl⟩
  rw [← hn, ← hm] at HQ ⊢
  clear hn hm hT
  have HR := Lib.hid hR
  clear hR
  have e1 := and63_u x0.1 x0.2
  have e2 := and63_u y0.1 y0.2
  obtain ⟨p, hp⟩ : ∃ p, p = h0 % 64 := ⟨_, rfl⟩
  obtain ⟨q, hq⟩ : ∃ q, q = h0' % 64 := ⟨_, rfl⟩
  rw [← hp] at e1 HR
  rw [← hq] at e2 HR
  clear hp hq
  go_enter Tryd.func20, Tryd.ntmps20
  go_upto_region 3 with fail
  have HS0 := Lib.hid ((((Sep.init w).alloc #[.int .u8 p, .int .u8 h1, .int .u8 h2, .int .u8 h3, .int .u8 h4, .int .u8 h5, .int .u8 h6, .int .u8 h7, .int .u16 b, .int .u64 (h : Int), .int .u64 (l : Int), .bool fx, .int .i64 L, .int .i64 D, .slice a n c] 31).alloc #[.int .u8 q, .int .u8 h1', .int .u8 h2', .int .u8 h3', .int .u8 h4', .int .u8 h5', .int .u8 h6', .int .u8 h7', .int .u16 b', .int .u64 (h' : Int), .int .u64 (l' : Int), .bool fx', .int .i64 L', .int .i64 D', .slice a' m c'] 31))
  simp only [World.size_alloc] at HS0
  obtain ⟨w1, hw1⟩ : ∃ w1, w1 = (w.alloc (.cells #[.int .u8 p, .int .u8 h1, .int .u8 h2, .int .u8 h3, .int .u8 h4, .int .u8 h5, .int .u8 h6, .int .u8 h7, .int .u16 b, .int .u64 (h : Int), .int .u64 (l : Int), .bool fx, .int .i64 L, .int .i64 D, .slice a n c] 31)).alloc (.cells #[.int .u8 q, .int .u8 h1', .int .u8 h2', .int .u8 h3', .int .u8 h4', .int .u8 h5', .int .u8 h6', .int .u8 h7', .int .u16 b', .int .u64 (h' : Int), .int .u64 (l' : Int), .bool fx', .int .i64 L', .int .i64 D', .slice a' m c'] 31) := ⟨_, rfl⟩
  obtain ⟨o, ho⟩ : ∃ o, o = w.heap.size := ⟨_, rfl⟩
  rw [← hw1, ← ho] at HS0
  rw [← hw1, ← ho]
  clear hw1 ho e1 e2
  have hq0 := heql p h1 h2 h3 h4 h5 h6 h7 q h1' h2' h3' h4' h5' h6' h7' w1
  obtain ⟨D0, hD0⟩ : ∃ D0 : Bool, D0 = decide (p = q ∧ h1 = h1' ∧ h2 = h2' ∧ h3 = h3' ∧ h4 = h4' ∧ h5 = h5' ∧ h6 = h6' ∧ h7 = h7') := ⟨_, rfl⟩
  rw [← hD0] at hq0 HR
  obtain ⟨D1, hD1⟩ : ∃ D1 : Bool, D1 = decide (b = b') := ⟨_, rfl⟩
  rw [← hD1] at HR
  have b1 : (b == b') = D1 := hD1.symm
  obtain ⟨D2, hD2⟩ : ∃ D2 : Bool, D2 = decide (h = h') := ⟨_, rfl⟩
  obtain ⟨D6, hD6⟩ : ∃ D6 : Bool, D6 = decide (l = l') := ⟨_, rfl⟩
  rw [Bool.decide_and, ← hD2, ← hD6] at HR
  have b2 : ((h : Int) == (h' : Int)) = D2 := by rw [hD2]; exact decide_eq_decide.2 (by omega)
  have b6 : ((l : Int) == (l' : Int)) = D6 := by rw [hD6]; exact decide_eq_decide.2 (by omega)
  obtain ⟨D3, hD3⟩ : ∃ D3 : Bool, D3 = decide (fx = fx') := ⟨_, rfl⟩
  obtain ⟨D4, hD4⟩ : ∃ D4 : Bool, D4 = decide (L = L') := ⟨_, rfl⟩
  obtain ⟨D5, hD5⟩ : ∃ D5 : Bool, D5 = decide (D = D') := ⟨_, rfl⟩
  rw [← hD3, ← hD4, ← hD5] at HR
  have b3 : (fx == fx') = D3 := by rw [hD3]; cases fx <;> cases fx' <;> rfl
  have b4 : (L == L') = D4 := hD4.symm
  have b5 : (D == D') = D5 := hD5.symm
  clear hD0 hD1 hD2 hD3 hD4 hD5 hD6 x0 y0
  have k0 := (HS0.out.blk 1 rfl).cell 0 rfl
  have k1 := (HS0.out.blk 1 rfl).cell 1 rfl
  have k2 := (HS0.out.blk 1 rfl).cell 2 rfl
  have k3 := (HS0.out.blk 1 rfl).cell 3 rfl
  have k4 := (HS0.out.blk 1 rfl).cell 4 rfl
  have k5 := (HS0.out.blk 1 rfl).cell 5 rfl
  have k6 := (HS0.out.blk 1 rfl).cell 6 rfl
  have k7 := (HS0.out.blk 1 rfl).cell 7 rfl
  have k8 := (HS0.out.blk 1 rfl).cell 8 rfl
  have k9 := (HS0.out.blk 1 rfl).cell 9 rfl
  have k10 := (HS0.out.blk 1 rfl).cell 10 rfl
  have k11 := (HS0.out.blk 1 rfl).cell 11 rfl
  have k12 := (HS0.out.blk 1 rfl).cell 12 rfl
  have k13 := (HS0.out.blk 1 rfl).cell 13 rfl
  have k14 := (HS0.out.blk 1 rfl).cell 14 rfl
  have j0 := (HS0.out.blk 0 rfl).cell 0 rfl
  have j1 := (HS0.out.blk 0 rfl).cell 1 rfl
  have j2 := (HS0.out.blk 0 rfl).cell 2 rfl
  have j3 := (HS0.out.blk 0 rfl).cell 3 rfl
  have j4 := (HS0.out.blk 0 rfl).cell 4 rfl
  have j5 := (HS0.out.blk 0 rfl).cell 5 rfl
  have j6 := (HS0.out.blk 0 rfl).cell 6 rfl
  have j7 := (HS0.out.blk 0 rfl).cell 7 rfl
  have j8 := (HS0.out.blk 0 rfl).cell 8 rfl
  have j9 := (HS0.out.blk 0 rfl).cell 9 rfl
  have j10 := (HS0.out.blk 0 rfl).cell 10 rfl
  have j11 := (HS0.out.blk 0 rfl).cell 11 rfl
  have j12 := (HS0.out.blk 0 rfl).cell 12 rfl
  have j13 := (HS0.out.blk 0 rfl).cell 13 rfl
  have j14 := (HS0.out.blk 0 rfl).cell 14 rfl
  cases D0 with
  | false =>
    obtain rfl : R = false := by rw [HR.out]; rfl
    clear HR HQ
    go_wp2_with fail
    go_ret
    exact ⟨rfl, HS0.out.frm⟩
  | true =>
    cases D1 with
    | false =>
      obtain rfl : R = false := by rw [HR.out]; rfl
      clear HR HQ
      go_wp2_with fail
      go_ret
      exact ⟨rfl, HS0.out.frm⟩
    | true =>
      cases D2 with
      | false =>
        obtain rfl : R = false := by rw [HR.out]; rfl
        clear HR HQ
        go_wp2_with fail
        go_ret
        exact ⟨rfl, HS0.out.frm⟩
      | true =>
        cases D6 with
        | false =>
          obtain rfl : R = false := by rw [HR.out]; rfl
          clear HR HQ
          go_wp2_with fail
          go_ret
          exact ⟨rfl, HS0.out.frm⟩
        | true =>
          cases D3 with
          | false =>
            obtain rfl : R = false := by rw [HR.out]; rfl
            clear HR HQ
            go_wp2_with fail
            go_ret
            exact ⟨rfl, HS0.out.frm⟩
          | true =>
            cases D4 with
            | false =>
              obtain rfl : R = false := by rw [HR.out]; rfl
              clear HR HQ
              go_wp2_with fail
              go_ret
              exact ⟨rfl, HS0.out.frm⟩
            | true =>
              cases D5 with
              | false =>
                obtain rfl : R = false := by rw [HR.out]; rfl
                clear HR HQ
                go_wp2_with fail
                go_ret
                exact ⟨rfl, HS0.out.frm⟩
              | true =>
                have HR2 : Hid (R = T) := Lib.hid (by rw [HR.out]; rfl)
                clear HR
                go_wp2_with fail
                refine (HQ.out _ HS0.out.frm).mono ?_
                rintro e w2 ⟨rfl, rfl⟩
                go_wp2_with fail
                go_ret
                exact ⟨by rw [HR2.out]; rfl, HS0.out.frm⟩
set_option maxRecDepth 100000 in
set_option maxHeartbeats 16000000 in
theorem rsame_c (x y : Fx) (a a' : Option Addr) (c c' : Nat) (w : World) (hx : x.Ok) (hy : y.Ok) (rx : RdI .u8 w a x.B) (ry : RdI .u8 w a' y.B) (lx : x.B.length ≤ 1000000) (ly : y.B.length ≤ 1000000) :
    Calls Tryd.prog 12 #[x.val (.slice a x.B.length c), y.val (.slice a' y.B.length c')] w fun e w' => e = .returned (.bool (sameX x y)) ∧ Frm [] w w' := by
  have HQ := Lib.hid (fun (X : World) (hf : Frm [] w X) => bsame_c a a' c c' x.B y.B X (rx.below hf.below) (ry.below hf.below) lx ly)
  obtain ⟨R, hR⟩ : ∃ R, R = sameX x y := ⟨_, rfl⟩
  rw [← hR]
  unfold sameX at hR
  obtain ⟨T, hT⟩ : ∃ T, T = decide (x.B = y.B) := ⟨_, rfl⟩
  rw [← hT] at HQ hR
  have x0 := hx.r0
  have y0 := hy.r0
  obtain ⟨h0, h1, h2, h3, h4, h5, h6, h7, b, h, l, fx, L, D, B⟩ := x
  obtain ⟨h0', h1', h2', h3', h4', h5', h6', h7', b', h', l', fx', L', D', B'⟩ := y
  simp only [Fx.val, Fx.cells] at *
  clear hx hy rx ry lx ly
  obtain ⟨n, hn⟩ : ∃ n, n = B.length := ⟨_, rfl⟩
  obtain ⟨m, hm⟩ : ∃ m, m = B'.length := ⟨_, rfl⟩
  rw [← hn, ← hm] at HQ ⊢
  clear hn hm hT
  have HR := Lib.hid hR
  clear hR
  have e1 : Int.tmod h0 64 = h0 % 64 := Int.tmod_eq_emod_of_nonneg x0.1
  have e2 : Int.tmod h0' 64 = h0' % 64 := Int.tmod_eq_emod_of_nonneg y0.1
  obtain ⟨p, hp⟩ : ∃ p, p = h0 % 64 := ⟨_, rfl⟩
  obtain ⟨q, hq⟩ : ∃ q, q = h0' % 64 := ⟨_, rfl⟩
  rw [← hp] at e1 HR
  rw [← hq] at e2 HR
  clear hp hq
  go_enter Tryd.func12, Tryd.ntmps12
  go_upto_region 3 with fail
  have HS0 := Lib.hid ((((Sep.init w).alloc #[.int .u8 p, .int .u8 h1, .int .u8 h2, .int .u8 h3, .int .u8 h4, .int .u8 h5, .int .u8 h6, .int .u8 h7, .int .u16 b, .int .u64 (h : Int), .int .u64 (l : Int), .bool fx, .int .i64 L, .int .i64 D, .slice a n c] 36).alloc #[.int .u8 q, .int .u8 h1', .int .u8 h2', .int .u8 h3', .int .u8 h4', .int .u8 h5', .int .u8 h6', .int .u8 h7', .int .u16 b', .int .u64 (h' : Int), .int .u64 (l' : Int), .bool fx', .int .i64 L', .int .i64 D', .slice a' m c'] 36))
  simp only [World.size_alloc] at HS0
  obtain ⟨w1, hw1⟩ : ∃ w1, w1 = (w.alloc (.cells #[.int .u8 p, .int .u8 h1, .int .u8 h2, .int .u8 h3, .int .u8 h4, .int .u8 h5, .int .u8 h6, .int .u8 h7, .int .u16 b, .int .u64 (h : Int), .int .u64 (l : Int), .bool fx, .int .i64 L, .int .i64 D, .slice a n c] 36)).alloc (.cells #[.int .u8 q, .int .u8 h1', .int .u8 h2', .int .u8 h3', .int .u8 h4', .int .u8 h5', .int .u8 h6', .int .u8 h7', .int .u16 b', .int .u64 (h' : Int), .int .u64 (l' : Int), .bool fx', .int .i64 L', .int .i64 D', .slice a' m c'] 36) := ⟨_, rfl⟩
  obtain ⟨o, ho⟩ : ∃ o, o = w.heap.size := ⟨_, rfl⟩
  rw [← hw1, ← ho] at HS0
  rw [← hw1, ← ho]
  clear hw1 ho e1 e2
  have hq0 := heql p h1 h2 h3 h4 h5 h6 h7 q h1' h2' h3' h4' h5' h6' h7' w1
  obtain ⟨D0, hD0⟩ : ∃ D0 : Bool, D0 = decide (p = q ∧ h1 = h1' ∧ h2 = h2' ∧ h3 = h3' ∧ h4 = h4' ∧ h5 = h5' ∧ h6 = h6' ∧ h7 = h7') := ⟨_, rfl⟩
  rw [← hD0] at hq0 HR
  obtain ⟨D1, hD1⟩ : ∃ D1 : Bool, D1 = decide (b = b') := ⟨_, rfl⟩
  rw [← hD1] at HR
  have b1 : (b == b') = D1 := hD1.symm
  obtain ⟨D2, hD2⟩ : ∃ D2 : Bool, D2 = decide (h = h') := ⟨_, rfl⟩
  obtain ⟨D6, hD6⟩ : ∃ D6 : Bool, D6 = decide (l = l') := ⟨_, rfl⟩
  rw [Bool.decide_and, ← hD2, ← hD6] at HR
  have b2 : ((h : Int) == (h' : Int)) = D2 := by rw [hD2]; exact decide_eq_decide.2 (by omega)
  have b6 : ((l : Int) == (l' : Int)) = D6 := by rw [hD6]; exact decide_eq_decide.2 (by omega)
  obtain ⟨D3, hD3⟩ : ∃ D3 : Bool, D3 = decide (fx = fx') := ⟨_, rfl⟩
  obtain ⟨D4, hD4⟩ : ∃ D4 : Bool, D4 = decide (L = L') := ⟨_, rfl⟩
  obtain ⟨D5, hD5⟩ : ∃ D5 : Bool, D5 = decide (D = D') := ⟨_, rfl⟩
  rw [← hD3, ← hD4, ← hD5] at HR
  have b3 : (fx == fx') = D3 := by rw [hD3]; cases fx <;> cases fx' <;> rfl
  have b4 : (L == L') = D4 := hD4.symm
  have b5 : (D == D') = D5 := hD5.symm
  clear hD0 hD1 hD2 hD3 hD4 hD5 hD6 x0 y0
  have k0 := (HS0.out.blk 1 rfl).cell 0 rfl
  have k1 := (HS0.out.blk 1 rfl).cell 1 rfl
  have k2 := (HS0.out.blk 1 rfl).cell 2 rfl
  have k3 := (HS0.out.blk 1 rfl).cell 3 rfl
  have k4 := (HS0.out.blk 1 rfl).cell 4 rfl
  have k5 := (HS0.out.blk 1 rfl).cell 5 rfl
  have k6 := (HS0.out.blk 1 rfl).cell 6 rfl
  have k7 := (HS0.out.blk 1 rfl).cell 7 rfl
  have k8 := (HS0.out.blk 1 rfl).cell 8 rfl
  have k9 := (HS0.out.blk 1 rfl).cell 9 rfl
  have k10 := (HS0.out.blk 1 rfl).cell 10 rfl
  have k11 := (HS0.out.blk 1 rfl).cell 11 rfl
  have k12 := (HS0.out.blk 1 rfl).cell 12 rfl
  have k13 := (HS0.out.blk 1 rfl).cell 13 rfl
  have k14 := (HS0.out.blk 1 rfl).cell 14 rfl
  have j0 := (HS0.out.blk 0 rfl).cell 0 rfl
  have j1 := (HS0.out.blk 0 rfl).cell 1 rfl
  have j2 := (HS0.out.blk 0 rfl).cell 2 rfl
  have j3 := (HS0.out.blk 0 rfl).cell 3 rfl
  have j4 := (HS0.out.blk 0 rfl).cell 4 rfl
  have j5 := (HS0.out.blk 0 rfl).cell 5 rfl
  have j6 := (HS0.out.blk 0 rfl).cell 6 rfl
  have j7 := (HS0.out.blk 0 rfl).cell 7 rfl
  have j8 := (HS0.out.blk 0 rfl).cell 8 rfl
  have j9 := (HS0.out.blk 0 rfl).cell 9 rfl
  have j10 := (HS0.out.blk 0 rfl).cell 10 rfl
  have j11 := (HS0.out.blk 0 rfl).cell 11 rfl
  have j12 := (HS0.out.blk 0 rfl).cell 12 rfl
  have j13 := (HS0.out.blk 0 rfl).cell 13 rfl
  have j14 := (HS0.out.blk 0 rfl).cell 14 rfl
  cases D0 with
  | false =>
    obtain rfl : R = false := by rw [HR.out]; rfl
    clear HR HQ
    go_wp2_with fail
    go_ret
    exact ⟨rfl, HS0.out.frm⟩
  | true =>
    cases D1 with
    | false =>
      obtain rfl : R = false := by rw [HR.out]; rfl
      clear HR HQ
      go_wp2_with fail
      go_ret
      exact ⟨rfl, HS0.out.frm⟩
    | true =>
      cases D2 with
      | false =>
        obtain rfl : R = false := by rw [HR.out]; rfl
        clear HR HQ
        go_wp2_with fail
        go_ret
        exact ⟨rfl, HS0.out.frm⟩
      | true =>
        cases D6 with
        | false =>
          obtain rfl : R = false := by rw [HR.out]; rfl
          clear HR HQ
          go_wp2_with fail
          go_ret
          exact ⟨rfl, HS0.out.frm⟩
        | true =>
          cases D3 with
          | false =>
            obtain rfl : R = false := by rw [HR.out]; rfl
            clear HR HQ
            go_wp2_with fail
            go_ret
            exact ⟨rfl, HS0.out.frm⟩
          | true =>
            cases D4 with
            | false =>
              obtain rfl : R = false := by rw [HR.out]; rfl
              clear HR HQ
              go_wp2_with fail
              go_ret
              exact ⟨rfl, HS0.out.frm⟩
            | true =>
              cases D5 with
              | false =>
                obtain rfl : R = false := by rw [HR.out]; rfl
                clear HR HQ
                go_wp2_with fail
                go_ret
                exact ⟨rfl, HS0.out.frm⟩
              | true =>
                have HR2 : Hid (R = T) := Lib.hid (by rw [HR.out]; rfl)
                clear HR
                go_wp2_with fail
                refine (HQ.out _ HS0.out.frm).mono ?_
                rintro e w2 ⟨rfl, dm, rfl⟩
                go_wp2_with fail
                go_ret
                exact ⟨by rw [HR2.out]; rfl, (HS0.out.drewN dm).frm⟩

end Go.Proofs.YtnloabpdjedanaaDoor
