/-
  A REPAIR: its parts, in memory; confluxref09.SameRepair.
-/
import Derived.Test.YtjflcijiaennkaaDoorMsk
import Derived.Test.YtjflcijiaennkaaDoorBb
import Derived.Test.YtjflcijiaennkaaDoorAeq
set_option linter.unusedVariables false
set_option linter.unusedSimpArgs false
namespace Go.Proofs.YtjflcijiaennkaaDoor
open Go.RowKit

/-- A repair: its head, its base, its mask, its body. -/
structure Rp where
  h0 : Int
  h1 : Int
  h2 : Int
  h3 : Int
  h4 : Int
  h5 : Int
  h6 : Int
  h7 : Int
  b : Int
  h : Nat
  l : Nat
  B : List Int
def Rp.none : Rp := ⟨0, 0, 0, 0, 0, 0, 0, 0, 0, 0, 0, []⟩
def Rp.cells (x : Rp) (v : Value) : Array Value := #[.int .u8 x.h0, .int .u8 x.h1, .int .u8 x.h2, .int .u8 x.h3, .int .u8 x.h4, .int .u8 x.h5, .int .u8 x.h6, .int .u8 x.h7, .int .u16 x.b, .int .u64 (x.h : Int), .int .u64 (x.l : Int), v]
def Rp.val (x : Rp) (v : Value) : Value := .agg (x.cells v)
structure Rp.Ok (x : Rp) : Prop where
  r0 : 0 ≤ x.h0 ∧ x.h0 ≤ 255
  r1 : 0 ≤ x.h1 ∧ x.h1 ≤ 255
  r2 : 0 ≤ x.h2 ∧ x.h2 ≤ 255
  r3 : 0 ≤ x.h3 ∧ x.h3 ≤ 255
  r4 : 0 ≤ x.h4 ∧ x.h4 ≤ 255
  r5 : 0 ≤ x.h5 ∧ x.h5 ≤ 255
  r6 : 0 ≤ x.h6 ∧ x.h6 ≤ 255
  r7 : 0 ≤ x.h7 ∧ x.h7 ≤ 255
  rb : 0 ≤ x.b ∧ x.b ≤ 65535
  rh : x.h < 18446744073709551616
  rl : x.l < 18446744073709551616
  rB : Byt x.B
/-- What gives a repair and an error. -/
def RprP (W : World) (X : Rp) (e : Int) (x : Ending) (W' : World) : Prop :=
  ∃ va vn vc, x = .returned (.tuple #[X.val (.slice va vn vc), .int .i64 e]) ∧ Sep [] W W' [sumR (.slice va vn vc) X.B]
set_option maxRecDepth 100000 in
theorem rheql (a0 a1 a2 a3 a4 a5 a6 a7 b0 b1 b2 b3 b4 b5 b6 b7 : Int) (w : World) : (Op.equalIn 10000 25 (.agg #[.int .u8 a0, .int .u8 a1, .int .u8 a2, .int .u8 a3, .int .u8 a4, .int .u8 a5, .int .u8 a6, .int .u8 a7]) (.agg #[.int .u8 b0, .int .u8 b1, .int .u8 b2, .int .u8 b3, .int .u8 b4, .int .u8 b5, .int .u8 b6, .int .u8 b7])).run Tryd.prog w = .ok (decide (a0 = b0 ∧ a1 = b1 ∧ a2 = b2 ∧ a3 = b3 ∧ a4 = b4 ∧ a5 = b5 ∧ a6 = b6 ∧ a7 = b7)) w := by
  have h := arr_equal (t := 25) Tryd.underlying25 w [a0, a1, a2, a3, a4, a5, a6, a7] [b0, b1, b2, b3, b4, b5, b6, b7] rfl rfl
  have e : decide ([a0, a1, a2, a3, a4, a5, a6, a7] = [b0, b1, b2, b3, b4, b5, b6, b7]) = decide (a0 = b0 ∧ a1 = b1 ∧ a2 = b2 ∧ a3 = b3 ∧ a4 = b4 ∧ a5 = b5 ∧ a6 = b6 ∧ a7 = b7) := by
    rw [Bool.eq_iff_iff, decide_eq_true_eq, decide_eq_true_eq]
    simp
  rw [e] at h
  exact h
def sameRp (x y : Rp) : Bool := decide (x.h0 = y.h0 ∧ x.h1 = y.h1 ∧ x.h2 = y.h2 ∧ x.h3 = y.h3 ∧ x.h4 = y.h4 ∧ x.h5 = y.h5 ∧ x.h6 = y.h6 ∧ x.h7 = y.h7) && decide (x.b = y.b) && decide (x.h = y.h) && decide (x.l = y.l) && decide (x.B = y.B)
set_option maxRecDepth 100000 in
set_option maxHeartbeats 16000000 in
theorem sameRp_c (x y : Rp) (a a' : Option Addr) (c c' : Nat) (w : World) (rx : RdI .u8 w a x.B) (ry : RdI .u8 w a' y.B) (lx : x.B.length ≤ 1000000) (ly : y.B.length ≤ 1000000) :
    Calls Tryd.prog 20 #[x.val (.slice a x.B.length c), y.val (.slice a' y.B.length c')] w fun e w' => e = .returned (.bool (sameRp x y)) ∧ Frm [] w w' := by
  have HQ := Lib.hid (fun (X : World) (hf : Frm [] w X) => bsame_c a a' c c' x.B y.B X (rx.below hf.below) (ry.below hf.below) lx ly)
  obtain ⟨R, hR⟩ : ∃ R, R = sameRp x y := ⟨_, rfl⟩
  rw [← hR]
  unfold sameRp at hR
  obtain ⟨T, hT⟩ : ∃ T, T = decide (x.B = y.B) := ⟨_, rfl⟩
  rw [← hT] at HQ hR
  obtain ⟨h0, h1, h2, h3, h4, h5, h6, h7, b, h, l, B⟩ := x
  obtain ⟨h0', h1', h2', h3', h4', h5', h6', h7', b', h', l', B'⟩ := y
  simp only [Rp.val, Rp.cells] at *
  clear rx ry lx ly
  obtain ⟨n, hn⟩ : ∃ n, n = B.length := ⟨_, rfl⟩
  obtain ⟨m, hm⟩ : ∃ m, m = B'.length := ⟨_, rfl⟩
  rw [← hn, ← hm] at HQ ⊢
  clear hn hm hT
  have HR := Lib.hid hR
  clear hR
  have HS0 := Lib.hid ((((Sep.init w).alloc #[.int .u8 h0, .int .u8 h1, .int .u8 h2, .int .u8 h3, .int .u8 h4, .int .u8 h5, .int .u8 h6, .int .u8 h7, .int .u16 b, .int .u64 (h : Int), .int .u64 (l : Int), .slice a n c] 53).alloc #[.int .u8 h0', .int .u8 h1', .int .u8 h2', .int .u8 h3', .int .u8 h4', .int .u8 h5', .int .u8 h6', .int .u8 h7', .int .u16 b', .int .u64 (h' : Int), .int .u64 (l' : Int), .slice a' m c'] 53))
  simp only [World.size_alloc] at HS0
  go_enter Tryd.func20, Tryd.ntmps20
  go_upto_region 1 with fail
  obtain ⟨w1, hw1⟩ : ∃ w1, w1 = (w.alloc (.cells #[.int .u8 h0, .int .u8 h1, .int .u8 h2, .int .u8 h3, .int .u8 h4, .int .u8 h5, .int .u8 h6, .int .u8 h7, .int .u16 b, .int .u64 (h : Int), .int .u64 (l : Int), .slice a n c] 53)).alloc (.cells #[.int .u8 h0', .int .u8 h1', .int .u8 h2', .int .u8 h3', .int .u8 h4', .int .u8 h5', .int .u8 h6', .int .u8 h7', .int .u16 b', .int .u64 (h' : Int), .int .u64 (l' : Int), .slice a' m c'] 53) := ⟨_, rfl⟩
  obtain ⟨o, ho⟩ : ∃ o, o = w.heap.size := ⟨_, rfl⟩
  rw [← hw1, ← ho] at HS0
  rw [← hw1, ← ho]
  clear hw1 ho
  have hq0 := rheql h0 h1 h2 h3 h4 h5 h6 h7 h0' h1' h2' h3' h4' h5' h6' h7' w1
  obtain ⟨D0, hD0⟩ : ∃ D0 : Bool, D0 = decide (h0 = h0' ∧ h1 = h1' ∧ h2 = h2' ∧ h3 = h3' ∧ h4 = h4' ∧ h5 = h5' ∧ h6 = h6' ∧ h7 = h7') := ⟨_, rfl⟩
  rw [← hD0] at hq0 HR
  obtain ⟨D1, hD1⟩ : ∃ D1 : Bool, D1 = decide (b = b') := ⟨_, rfl⟩
  rw [← hD1] at HR
  have b1 : (b == b') = D1 := hD1.symm
  obtain ⟨D2, hD2⟩ : ∃ D2 : Bool, D2 = decide (h = h') := ⟨_, rfl⟩
  obtain ⟨D6, hD6⟩ : ∃ D6 : Bool, D6 = decide (l = l') := ⟨_, rfl⟩
  rw [← hD2, ← hD6] at HR
  have b2 : ((h : Int) == (h' : Int)) = D2 := by rw [hD2]; exact decide_eq_decide.2 (by omega)
  have b6 : ((l : Int) == (l' : Int)) = D6 := by rw [hD6]; exact decide_eq_decide.2 (by omega)
  clear hD0 hD1 hD2 hD6
  have k0 := (HS0.out.blk 1 rfl).cell 0 rfl
  have k1 := (HS0.out.blk 1 rfl).cell 1 rfl
  have k2 := (HS0.out.blk 1 rfl).cell 2 rfl
  have k3 := (HS0.out.blk 1 rfl).cell 3 rfl
  have k4 := (HS0.out.blk 1 rfl).cell 4 rfl
  have k5 := (HS0.out.blk 1 rfl).cell 5 rfl
  have k6 := (HS0.out.blk 1 rfl).cell 6 rfl
  have k7 := (HS0.out.blk 1 rfl).cell 7 rfl
  have k8 := (HS0.out.blk 1 rfl).cell 8 rfl
  have k9 := (HS0.out.blk 1 rfl).cell 9 rfl
  have k10 := (HS0.out.blk 1 rfl).cell 10 rfl
  have k11 := (HS0.out.blk 1 rfl).cell 11 rfl
  have j0 := (HS0.out.blk 0 rfl).cell 0 rfl
  have j1 := (HS0.out.blk 0 rfl).cell 1 rfl
  have j2 := (HS0.out.blk 0 rfl).cell 2 rfl
  have j3 := (HS0.out.blk 0 rfl).cell 3 rfl
  have j4 := (HS0.out.blk 0 rfl).cell 4 rfl
  have j5 := (HS0.out.blk 0 rfl).cell 5 rfl
  have j6 := (HS0.out.blk 0 rfl).cell 6 rfl
  have j7 := (HS0.out.blk 0 rfl).cell 7 rfl
  have j8 := (HS0.out.blk 0 rfl).cell 8 rfl
  have j9 := (HS0.out.blk 0 rfl).cell 9 rfl
  have j10 := (HS0.out.blk 0 rfl).cell 10 rfl
  have j11 := (HS0.out.blk 0 rfl).cell 11 rfl
  cases D0 with
  | false =>
    obtain rfl : R = false := by rw [HR.out]; rfl
    clear HR HQ
    go_wp2_with fail
    go_ret
    exact ⟨rfl, HS0.out.frm⟩
  | true =>
    cases D1 with
    | false =>
      obtain rfl : R = false := by rw [HR.out]; rfl
      clear HR HQ
      go_wp2_with fail
      go_ret
      exact ⟨rfl, HS0.out.frm⟩
    | true =>
      cases D2 with
      | false =>
        obtain rfl : R = false := by rw [HR.out]; rfl
        clear HR HQ
        go_wp2_with fail
        go_ret
        exact ⟨rfl, HS0.out.frm⟩
      | true =>
        cases D6 with
        | false =>
          obtain rfl : R = false := by rw [HR.out]; rfl
          clear HR HQ
          go_wp2_with fail
          go_ret
          exact ⟨rfl, HS0.out.frm⟩
        | true =>
          have HR2 : Hid (R = T) := Lib.hid (by rw [HR.out]; rfl)
          clear HR
          go_wp2_with fail
          refine (HQ.out _ HS0.out.frm).mono ?_
          rintro e w2 ⟨rfl, dm, rfl⟩
          go_wp2_with fail
          go_ret
          exact ⟨by rw [HR2.out]; rfl, (HS0.out.drewN dm).frm⟩


end Go.Proofs.YtjflcijiaennkaaDoor
