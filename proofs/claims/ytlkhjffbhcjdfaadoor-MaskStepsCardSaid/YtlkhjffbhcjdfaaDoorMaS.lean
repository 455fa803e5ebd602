/-
  THE WALK of MaskSteps. Printed by gen_mas.py.
-/
import Derived.Test.YtlkhjffbhcjdfaaDoorMaO
import Derived.Test.YtlkhjffbhcjdfaaDoorMaR
import Derived.Test.YtlkhjffbhcjdfaaDoorPrm
set_option linter.unusedVariables false
set_option linter.unusedSimpArgs false
namespace Go.Proofs.YtlkhjffbhcjdfaaDoor
open Go.RowKit

/-- A cell of an owned row. -/
theorem own_cell1 {w : World} {e : TypeId} {g n c : Nat} {xs : List Value} (h : w.ownsRow 0 e 1 (.slice (some ⟨g, 0, none⟩) n c) n xs) {j : Nat} {v : Value} (hv : xs[j]? = some v) : w.cell? ⟨g, j, none⟩ = some v := by
  have h3 := h.cells (g := g) rfl j v hv
  have hadd : (⟨g, 0, none⟩ : Addr).add j = ⟨g, 0 + j, none⟩ := by unfold Addr.add; split <;> simp_all
  rw [hadd, Nat.zero_add] at h3
  exact h3
theorem own_addr {w : World} {e : TypeId} {a : Option Addr} {n c : Nat} {xs : List Value} (h : w.ownsRow 0 e 1 (.slice a n c) n xs) (hn : 0 < n) : ∃ g, a = some ⟨g, 0, none⟩ := by
  rcases h.2 with ⟨he, h0⟩ | ⟨g, cap, cur, hv, _⟩
  · omega
  · injection hv with h1; exact ⟨g, h1⟩
def bkL (R : List Nat) : List Int := R.reverse.map fun x : Nat => (x : Int)
theorem bkL_len (R : List Nat) : (bkL R).length = R.length := by simp [bkL]
theorem bkL_at {R : List Nat} {j : Nat} (hj : j < R.length) : ∃ x : Nat, x = R[R.length - 1 - j] ∧ (bkL R).take (j + 1) = (bkL R).take j ++ [(x : Int)] ∧ (R.map encI)[R.length - 1 - j]? = some (.int .i64 (x : Int)) := by
  refine ⟨_, rfl, ?_, ?_⟩
  · have hz : (bkL R)[j]'(by rw [bkL_len]; exact hj) = ((R[R.length - 1 - j]'(by omega) : Nat) : Int) := by unfold bkL; rw [List.getElem_map, List.getElem_reverse]
    rw [List.take_succ_eq_append_getElem (by rw [bkL_len]; exact hj), hz]
  · rw [List.getElem?_map, List.getElem?_eq_getElem (by omega)]
    rfl
theorem bkL_all {h l : Nat} (h0 : h < 18446744073709551616) (h1 : l < 18446744073709551616) : ofH (bkL (bitsOf h l)) = h ∧ ofL (bkL (bitsOf h l)) = l :=
  of_bits h0 h1 _ fun i hi => by
    unfold bkL
    rw [List.mem_map]
    constructor
    · rintro ⟨x, hx, he⟩
      have : x = i := by omega
      subst this
      exact (bitsOf_mem.1 (List.mem_reverse.1 hx)).2
    · exact fun hb => ⟨i, List.mem_reverse.2 (bitsOf_mem.2 ⟨hi, hb⟩), rfl⟩

set_option maxRecDepth 100000 in
set_option maxHeartbeats 16000000 in
theorem maskSteps_w (w : World) (hT : Tabs w) (h l : Nat) (h0 : h < 18446744073709551616) (h1 : l < 18446744073709551616) (a b : Int) :
    Calls Tryd.prog 7 #[.int .u64 (h : Int), .int .u64 (l : Int), .int .i64 a, .int .i64 b] w fun e w' => e = .returned (.bool true) ∧ Below w.heap.size w w' := by
  have hnot : ∀ (x : Bool) (w : World), (Op.unary .not (.bool x)).run Tryd.prog w = .ok (.bool (!x)) w := fun _ _ => rfl
  have hmn : ∀ (x y : Int) X, (binOp .neq 26 (.agg #[.int .u64 x, .int .u64 y]) (.agg #[.int .u64 x, .int .u64 y])).run Tryd.prog X = .ok (.bool false) X := fun x y X => by rw [mneq]; simp
  have hme : ∀ (x y : Int) X, (binOp .eql 26 (.agg #[.int .u64 x, .int .u64 y]) (.agg #[.int .u64 x, .int .u64 y])).run Tryd.prog X = .ok (.bool true) X := fun x y X => by rw [meql]; simp
  have HT := Lib.hid hT
  have HB := Lib.hid (And.intro h0 h1)
  obtain ⟨k, hk, k1⟩ := below_of _ 127 (and_i64 a 127 (by omega) (by omega))
  obtain ⟨m, hm, m1⟩ := below_of _ 127 (and_i64 b 127 (by omega) (by omega))
  obtain ⟨t, ht, t1⟩ := below_of _ 63 (and_i64 (k : Int) 63 (by omega) (by omega))
  clear hT h0 h1
  go_enter Tryd.func7, Tryd.ntmps7
  go_wp2_with fail
  refine (alive_c _ HT.out).mono ?_
  rintro e w1 ⟨rfl, hf⟩
  have HS1 := Lib.hid (((Sep.init w).keep hf).alloc #[.int .u64 (h : Int), .int .u64 (l : Int)] 26)
  clear hf
  go_upto_region 5 with fail
  obtain ⟨w2, hw2⟩ : ∃ w2, w2 = w1.alloc (.cells #[.int .u64 (h : Int), .int .u64 (l : Int)] 26) := ⟨_, rfl⟩
  obtain ⟨p, hp⟩ : ∃ p, p = w1.heap.size := ⟨_, rfl⟩
  rw [← hw2, ← hp] at HS1
  rw [← hw2, ← hp]
  have HS2 := Lib.hid HS1.out
  clear hw2 hp HS1
  obtain ⟨h0, h1⟩ := HB.out
  have L1 := dw_dw h0 h1 (k : Int) (m : Int) (.inl (by omega))
  have L2 := dw_dw h0 h1 (-(k : Int)) (-(m : Int)) (.inr (by omega))
  have eA := fun X => down_c h l (k : Int) X h0 h1
  have eB := fun X => down_c (dwH h l (k : Int)) (dwL h l (k : Int)) (m : Int) X (dwH_lt _ _ _ h0 h1) (dwL_lt _ _ _ h0 h1)
  have eC := fun X => down_c h l ((k : Int) + (m : Int)) X h0 h1
  have eD := fun X => down_c h l (-(k : Int)) X h0 h1
  have eE := fun X => down_c (dwH h l (-(k : Int))) (dwL h l (-(k : Int))) (-(m : Int)) X (dwH_lt _ _ _ h0 h1) (dwL_lt _ _ _ h0 h1)
  have eF := fun X => down_c h l (-(k : Int) - (m : Int)) X h0 h1
  simp only [L1.1, L1.2] at eB
  simp only [L2.1, L2.2] at eE
  rw [show -(k : Int) + -(m : Int) = -(k : Int) - (m : Int) by omega] at eE
  obtain ⟨aH, qaH⟩ : ∃ x, x = dwH h l (k : Int) := ⟨_, rfl⟩
  simp only [← qaH] at eA eB
  obtain ⟨aL, qaL⟩ : ∃ x, x = dwL h l (k : Int) := ⟨_, rfl⟩
  simp only [← qaL] at eA eB
  obtain ⟨bH_, qbH_⟩ : ∃ x, x = dwH h l ((k : Int) + (m : Int)) := ⟨_, rfl⟩
  simp only [← qbH_] at eB eC
  obtain ⟨bL_, qbL_⟩ : ∃ x, x = dwL h l ((k : Int) + (m : Int)) := ⟨_, rfl⟩
  simp only [← qbL_] at eB eC
  obtain ⟨dH, qdH⟩ : ∃ x, x = dwH h l (-(k : Int)) := ⟨_, rfl⟩
  simp only [← qdH] at eD eE
  obtain ⟨dL, qdL⟩ : ∃ x, x = dwL h l (-(k : Int)) := ⟨_, rfl⟩
  simp only [← qdL] at eD eE
  obtain ⟨fH, qfH⟩ : ∃ x, x = dwH h l (-(k : Int) - (m : Int)) := ⟨_, rfl⟩
  simp only [← qfH] at eE eF
  obtain ⟨fL, qfL⟩ : ∃ x, x = dwL h l (-(k : Int) - (m : Int)) := ⟨_, rfl⟩
  simp only [← qfL] at eE eF
  have HQd := Lib.hid (And.intro qdH qdL)
  clear qaH qaL qbH_ qbL_ qdH qdL qfH qfL L1 L2 h0 h1
  unfold mV at eA eB eC eD eE eF
  have EA := Lib.hid eA
  have EB := Lib.hid eB
  have EC := Lib.hid eC
  have ED := Lib.hid eD
  have EE := Lib.hid eE
  have EF := Lib.hid eF
  clear eA eB eC eD eE eF
  have w1 : IntKind.i64.wrap ((k : Int) + (m : Int)) = (k : Int) + (m : Int) := IntWalk.i64_in _ (by omega)
  have w2 : IntKind.i64.wrap (-(k : Int)) = -(k : Int) := IntWalk.i64_in _ (by omega)
  have w3 : IntKind.i64.wrap (-(m : Int)) = -(m : Int) := IntWalk.i64_in _ (by omega)
  have w4 : IntKind.i64.wrap (-(k : Int) - (m : Int)) = -(k : Int) - (m : Int) := IntWalk.i64_in _ (by omega)
  have q0 := Cls.cell (S := []) (w0 := w) (L := [blkR p 26 #[.int .u64 (h : Int), .int .u64 (l : Int)]]) 0 rfl 0 (v := .int .u64 (h : Int)) rfl
  have q1 := Cls.cell (S := []) (w0 := w) (L := [blkR p 26 #[.int .u64 (h : Int), .int .u64 (l : Int)]]) 0 rfl 1 (v := .int .u64 (l : Int)) rfl
  have n1 := HS2.out.inh
  refine region_sep HS2.out (by kernel_rfl) (by kernel_rfl) ?_
  repeat (go_big_quiet_step ((rename_i x; go_at_call 22; first | with_reducible exact call_keeps x.ok (EA.out _) | with_reducible exact call_keeps x.ok (EB.out _) | with_reducible exact call_keeps x.ok (EC.out _) | with_reducible exact call_keeps x.ok (ED.out _) | with_reducible exact call_keeps x.ok (EE.out _) | with_reducible exact call_keeps x.ok (EF.out _))))
  refine wpQuiet_nil ?_
  intro w3 hS3
  have HS3 := Lib.hid hS3
  clear hS3 HS2 q0 q1 n1 EA EB EC EE EF
  go_upto_region 8 with fail
  have HS4 := Lib.hid (HS3.out.alloc #[.int .u64 0, .int .u64 0] 26)
  obtain ⟨w4, hw4⟩ : ∃ w4, w4 = w3.alloc (.cells #[.int .u64 0, .int .u64 0] 26) := ⟨_, rfl⟩
  obtain ⟨q, hq⟩ : ∃ q, q = w3.heap.size := ⟨_, rfl⟩
  rw [← hw4, ← hq] at HS4
  rw [← hw4, ← hq]
  clear hw4 hq HS3
  have c0 := (HS4.out.blk 1 rfl).cell 0 rfl
  have c1 := (HS4.out.blk 1 rfl).cell 1 rfl
  have hli := fun X => list_c h l X HB.out.1 HB.out.2
  have hba := bkL_all HB.out.1 HB.out.2
  have hrl := bools_len h l
  have hrm := fun x (hx : x ∈ bitsOf h l) => bitsOf_lt hx
  obtain ⟨R, hR⟩ : ∃ R, R = bitsOf h l := ⟨_, rfl⟩
  rw [← hR] at hli hba hrl hrm
  obtain ⟨N, hN⟩ : ∃ N, N = R.length := ⟨_, rfl⟩
  rw [← hN] at hli hrl
  unfold mV at hli
  have HLi := Lib.hid hli
  have HBa := Lib.hid hba
  have HRm := Lib.hid hrm
  have HN := Lib.hid hN
  clear hR hN hli hba hrm
  go_wp2_with fail
  refine (HLi.out _).mono ?_
  rintro e w5 ⟨al, cl, rfl, hS⟩
  have HS5 := Lib.hid (show Sep [] w w5 [ownR 3 1 (.slice al N cl) N (R.map encI), blkR q 26 #[.int .u64 0, .int .u64 0], blkR p 26 #[.int .u64 (h : Int), .int .u64 (l : Int)]] from HS4.out.more hS)
  clear hS HS4 HLi c0 c1
  go_wp2_with fail
  go_loopw [55] (fun i wr => ∃ j : Nat, j ≤ N ∧ i = .int .i64 j ∧ Sep [] w wr [ownR 3 1 (.slice al N cl) N (R.map encI), blkR q 26 #[.int .u64 (ofH ((bkL R).take j) : Int), .int .u64 (ofL ((bkL R).take j) : Int)], blkR p 26 #[.int .u64 (h : Int), .int .u64 (l : Int)]]) (fun i _ => N - (intOf i).toNat)
  case atStart => exact ⟨0, Nat.zero_le _, rfl, HS5.out⟩
  case round =>
    obtain ⟨j, hj, rfl, hS⟩ := hrel
    have HS := Lib.hid hS
    by_cases hlt : j < N
    · obtain ⟨g, rfl⟩ := own_addr (hS.own 0 rfl) (by omega)
      obtain ⟨x, hx, htk, hat⟩ := bkL_at (R := R) (j := j) (by rw [← HN.out]; exact hlt)
      have hxl : x < 128 := HRm.out x (hx ▸ List.getElem_mem _)
      obtain ⟨r, hr⟩ : ∃ r, r = N - 1 - j := ⟨_, rfl⟩
      rw [← HN.out, ← hr] at hat
      have HAt := Lib.hid hat
      have i0 : (0 : Int) ≤ (r : Int) := by omega
      have i1 : (r : Int) < (N : Int) := by omega
      have i2 : (j : Int) < (N : Int) := by omega
      have v1 : IntKind.i64.wrap ((N : Int) - 1) = (N : Int) - 1 := IntWalk.i64_in _ (by omega)
      have v2 : IntKind.i64.wrap ((N : Int) - 1 - (j : Int)) = (r : Int) := by rw [IntWalk.i64_in _ (by omega)]; omega
      have HSn := Lib.hid (show ofH ((bkL R).take (j + 1)) = ofH ((bkL R).take j) ||| bH (x : Int) ∧ ofL ((bkL R).take (j + 1)) = ofL ((bkL R).take j) ||| bL (x : Int) from by rw [htk]; exact ⟨ofH_snoc _ _, ofL_snoc _ _⟩)
      have hH := ofH_lt ((bkL R).take j)
      have hL := ofL_lt ((bkL R).take j)
      obtain ⟨H, hHH⟩ : ∃ H, H = ofH ((bkL R).take j) := ⟨_, rfl⟩
      obtain ⟨L, hLL⟩ : ∃ L, L = ofL ((bkL R).take j) := ⟨_, rfl⟩
      rw [← hHH, ← hLL] at HS HSn
      rw [← hHH] at hH
      rw [← hLL] at hL
      have HW := Lib.hid (fun X => with_c H L (x : Int) X hH hL (by omega) (by omega))
      unfold mV at HW
      clear hS hx htk hat hxl hHH hLL hH hL hr HS5 HB HBa HRm HQd ED
      have q0 := Cls.cell (S := []) (w0 := w) (L := [ownR 3 1 (.slice (some ⟨g, 0, none⟩) N cl) N (R.map encI), blkR q 26 #[.int .u64 (H : Int), .int .u64 (L : Int)], blkR p 26 #[.int .u64 (h : Int), .int .u64 (l : Int)]]) 1 rfl 0 (v := .int .u64 (H : Int)) rfl
      have q1 := Cls.cell (S := []) (w0 := w) (L := [ownR 3 1 (.slice (some ⟨g, 0, none⟩) N cl) N (R.map encI), blkR q 26 #[.int .u64 (H : Int), .int .u64 (L : Int)], blkR p 26 #[.int .u64 (h : Int), .int .u64 (l : Int)]]) 1 rfl 1 (v := .int .u64 (L : Int)) rfl
      have q2 := fun x : Cls (fun v => Sep [] w v [ownR 3 1 (.slice (some ⟨g, 0, none⟩) N cl) N (R.map encI), blkR q 26 #[.int .u64 (H : Int), .int .u64 (L : Int)], blkR p 26 #[.int .u64 (h : Int), .int .u64 (l : Int)]]) => own_cell1 (x.ok.own 0 rfl) HAt.out
      have n1 := HS.out.inh
      go_upto_region 12 with fail
      refine region_sep_tail 10 HS.out (by kernel_rfl) (by kernel_rfl) ?_
      simp only [List.take_succ_cons, List.take_zero, List.drop_succ_cons, List.drop_zero]
      repeat (go_big_quiet_step ((rename_i x; go_at_call 15; with_reducible exact call_keeps x.ok (HW.out _))))
      refine wpQuiet_nil ?_
      intro w6 hS6
      have HS6 := Lib.hid hS6
      have c0 := (hS6.blk 1 rfl).cell 0 rfl
      have c1 := (hS6.blk 1 rfl).cell 1 rfl
      have f0 := (hS6.blk 1 rfl).free 0
      have f1 := (hS6.blk 1 rfl).free 1
      clear hS6 q0 q1 q2 n1 HS
      go_wp2_with fail
      have h5 := (HS6.out.put 1 rfl 0 (.int .u64 ((H ||| bH (x : Int) : Nat) : Int))).put 1 rfl 1 (.int .u64 ((L ||| bL (x : Int) : Nat) : Int))
      go_roundw
      case rel => exact ⟨j + 1, by omega, by go_num, by rw [HSn.out.1, HSn.out.2]; exact h5⟩
      case measure => simp [intOf]; omega
    · obtain rfl : N = j := by omega
      have hto : (bkL R).take N = bkL R := by rw [HN.out, ← bkL_len R, List.take_length]
      rw [hto, HBa.out.1, HBa.out.2] at HS
      clear hto hS HS5 HBa HRm HN
      go_upto_region 15 with fail
      go_cut [14] (fun v wx => ∃ g : Nat, v = .pointer (some ⟨g, 0, none⟩) ∧ Sep [] w wx [blkR g 26 #[.int .u64 (h : Int), .int .u64 (l : Int)], ownR 3 1 (.slice al N cl) N (R.map encI), blkR q 26 #[.int .u64 (h : Int), .int .u64 (l : Int)], blkR p 26 #[.int .u64 (h : Int), .int .u64 (l : Int)]])
      case first =>
        obtain ⟨h0, h1⟩ := HB.out
        have La := parts_all h0 h1 (t : Int) (by omega)
        have e1 := fun X => part_c h l 0 (t : Int) X h0 h1
        have e2 := fun X => lay_c 0 (t : Int) (ptN h l 0 (t : Int)) X
        have e3 := fun X => part_c h l (t : Int) 64 X h0 h1
        have e4 := fun X => lay_c (t : Int) 64 (ptN h l (t : Int) 64) X
        have e5 := fun X => mor_c _ _ _ _ X (lyH_lt 0 (t : Int) (ptN h l 0 (t : Int))) (lyL_lt 0 (t : Int) (ptN h l 0 (t : Int))) (lyH_lt (t : Int) 64 (ptN h l (t : Int) 64)) (lyL_lt (t : Int) 64 (ptN h l (t : Int) 64))
        have e6 := fun X => part_c h l ((t : Int) + 64) 64 X h0 h1
        have e7 := fun X => lay_c ((t : Int) + 64) 64 (ptN h l ((t : Int) + 64) 64) X
        have e8 := fun X => mor_c _ _ _ _ X (or_lt (lyH_lt 0 (t : Int) (ptN h l 0 (t : Int))) (lyH_lt (t : Int) 64 (ptN h l (t : Int) 64))) (or_lt (lyL_lt 0 (t : Int) (ptN h l 0 (t : Int))) (lyL_lt (t : Int) 64 (ptN h l (t : Int) 64))) (lyH_lt ((t : Int) + 64) 64 (ptN h l ((t : Int) + 64) 64)) (lyL_lt ((t : Int) + 64) 64 (ptN h l ((t : Int) + 64) 64))
        simp only [La.1, La.2] at e8
        clear La h0 h1
        obtain ⟨P1, qP1⟩ : ∃ x, x = ptN h l 0 (t : Int) := ⟨_, rfl⟩
        simp only [← qP1] at e1 e2 e5 e8
        clear qP1
        obtain ⟨P2, qP2⟩ : ∃ x, x = ptN h l (t : Int) 64 := ⟨_, rfl⟩
        simp only [← qP2] at e3 e4 e5 e8
        clear qP2
        obtain ⟨P3, qP3⟩ : ∃ x, x = ptN h l ((t : Int) + 64) 64 := ⟨_, rfl⟩
        simp only [← qP3] at e6 e7 e8
        clear qP3
        obtain ⟨y1, qy1⟩ : ∃ x, x = lyH 0 (t : Int) P1 := ⟨_, rfl⟩
        simp only [← qy1] at e2 e5 e8
        clear qy1
        obtain ⟨z1, qz1⟩ : ∃ x, x = lyL 0 (t : Int) P1 := ⟨_, rfl⟩
        simp only [← qz1] at e2 e5 e8
        clear qz1
        obtain ⟨y2, qy2⟩ : ∃ x, x = lyH (t : Int) 64 P2 := ⟨_, rfl⟩
        simp only [← qy2] at e4 e5 e8
        clear qy2
        obtain ⟨z2, qz2⟩ : ∃ x, x = lyL (t : Int) 64 P2 := ⟨_, rfl⟩
        simp only [← qz2] at e4 e5 e8
        clear qz2
        obtain ⟨y3, qy3⟩ : ∃ x, x = lyH ((t : Int) + 64) 64 P3 := ⟨_, rfl⟩
        simp only [← qy3] at e7 e8
        clear qy3
        obtain ⟨z3, qz3⟩ : ∃ x, x = lyL ((t : Int) + 64) 64 P3 := ⟨_, rfl⟩
        simp only [← qz3] at e7 e8
        clear qz3
        obtain ⟨y4, qy4⟩ : ∃ x, x = y1 ||| y2 := ⟨_, rfl⟩
        simp only [← qy4] at e5 e8
        clear qy4
        obtain ⟨z4, qz4⟩ : ∃ x, x = z1 ||| z2 := ⟨_, rfl⟩
        simp only [← qz4] at e5 e8
        clear qz4
        unfold mV at e1 e2 e3 e4 e5 e6 e7 e8
        have G1 := Lib.hid e1
        have G2 := Lib.hid e2
        have G3 := Lib.hid e3
        have G4 := Lib.hid e4
        have G5 := Lib.hid e5
        have G6 := Lib.hid e6
        have G7 := Lib.hid e7
        have G8 := Lib.hid e8
        clear e1 e2 e3 e4 e5 e6 e7 e8
        have w5 : IntKind.i64.wrap ((t : Int) + 64) = (t : Int) + 64 := IntWalk.i64_in _ (by omega)
        refine region_sep_free 19 (ty := 26) (z := #[.int .u64 0, .int .u64 0]) HS.out (by kernel_rfl) (by kernel_rfl) (by kernel_rfl) rfl (fun _ _ => by kernel_rfl) ?_
        simp only [List.take_succ_cons, List.take_zero, List.drop_succ_cons, List.drop_zero]
        apply Exists.intro
        refine ⟨fun M n1 => ?_, ?_⟩
        · skip
          have q2 := Cls.cellM (S := []) (w0 := w) (M := M) (L := [ownR 3 1 (.slice al N cl) N (R.map encI), blkR q 26 #[.int .u64 (h : Int), .int .u64 (l : Int)], blkR p 26 #[.int .u64 (h : Int), .int .u64 (l : Int)]]) 2 rfl 0 (v := .int .u64 (h : Int)) rfl
          have q3 := Cls.cellM (S := []) (w0 := w) (M := M) (L := [ownR 3 1 (.slice al N cl) N (R.map encI), blkR q 26 #[.int .u64 (h : Int), .int .u64 (l : Int)], blkR p 26 #[.int .u64 (h : Int), .int .u64 (l : Int)]]) 2 rfl 1 (v := .int .u64 (l : Int)) rfl
          repeat (go_big_quiet_step ((rename_i x; first | (go_at_call 30; first | with_reducible exact call_keeps x.ok (G1.out _) | with_reducible exact call_keeps x.ok (G3.out _) | with_reducible exact call_keeps x.ok (G6.out _)) | (go_at_call 32; first | with_reducible exact call_keeps x.ok (G2.out _) | with_reducible exact call_keeps x.ok (G4.out _) | with_reducible exact call_keeps x.ok (G7.out _)) | (go_at_call 35; first | with_reducible exact call_keeps x.ok (G5.out _) | with_reducible exact call_keeps x.ok (G8.out _)))))
          refine wpQuiet_nil ?_
          rfl
        · intro g w1 hS1
          have z0 := (hS1.blk 0 rfl).cell 0 rfl
          have y0 := (hS1.blk 0 rfl).free 0
          have z1' := (hS1.blk 0 rfl).cell 1 rfl
          have y1' := (hS1.blk 0 rfl).free 1
          have HX := Lib.hid ((hS1.put 0 rfl 0 (.int .u64 (h : Int))).put 0 rfl 1 (.int .u64 (l : Int)))
          clear hS1
          go_wp2_with fail
          go_meet
          exact ⟨g, rfl, HX.out⟩
      case rest =>
        obtain ⟨g, rfl, hS1⟩ := hcut
        have HS9 := Lib.hid hS1
        clear hS1 HS
        obtain ⟨h0, h1⟩ := HB.out
        have L1 := with_less h0 h1 (k : Int)
        have L2 := cut_down h0 h1 (k : Int) (by omega)
        have dh := dwH_lt h l (-(k : Int)) h0 h1
        have dl := dwL_lt h l (-(k : Int)) h0 h1
        have e1 := fun X => with_c h l (k : Int) X h0 h1 (by omega) (by omega)
        have e2 := fun X => without_c (h ||| bH (k : Int)) (l ||| bL (k : Int)) (k : Int) X (or_lt h0 (bH_lt _)) (or_lt h1 (bL_lt _)) (by omega) (by omega)
        have e3 := fun X => without_c h l (k : Int) X h0 h1 (by omega) (by omega)
        have e4 := fun X => cut_c h l (k : Int) X h0 h1
        have e5 := fun X => down_c (dwH h l (-(k : Int))) (dwL h l (-(k : Int))) (k : Int) X dh dl
        have e6 := fun X => mor_c (h &&& fuH (k : Int)) (l &&& fuL (k : Int)) (dwH (dwH h l (-(k : Int))) (dwL h l (-(k : Int))) (k : Int)) (dwL (dwH h l (-(k : Int))) (dwL h l (-(k : Int))) (k : Int)) X (less_lt _ _ h0) (less_lt _ _ h1) (dwH_lt _ _ _ dh dl) (dwL_lt _ _ _ dh dl)
        simp only [L1.1, L1.2] at e2
        simp only [L2.1, L2.2] at e6
        simp only [← HQd.out.1, ← HQd.out.2] at e5 e6
        clear L1 L2 dh dl h0 h1 HQd HB
        obtain ⟨rH, qrH⟩ : ∃ x, x = h &&& (18446744073709551615 - bH (k : Int)) := ⟨_, rfl⟩
        simp only [← qrH] at e2 e3
        clear qrH
        obtain ⟨rL, qrL⟩ : ∃ x, x = l &&& (18446744073709551615 - bL (k : Int)) := ⟨_, rfl⟩
        simp only [← qrL] at e2 e3
        clear qrL
        obtain ⟨sH, qsH⟩ : ∃ x, x = h ||| bH (k : Int) := ⟨_, rfl⟩
        simp only [← qsH] at e1 e2
        clear qsH
        obtain ⟨sL, qsL⟩ : ∃ x, x = l ||| bL (k : Int) := ⟨_, rfl⟩
        simp only [← qsL] at e1 e2
        clear qsL
        obtain ⟨cH, qcH⟩ : ∃ x, x = h &&& fuH (k : Int) := ⟨_, rfl⟩
        simp only [← qcH] at e4 e6
        clear qcH
        obtain ⟨cL, qcL⟩ : ∃ x, x = l &&& fuL (k : Int) := ⟨_, rfl⟩
        simp only [← qcL] at e4 e6
        clear qcL
        obtain ⟨gH, qgH⟩ : ∃ x, x = dwH dH dL (k : Int) := ⟨_, rfl⟩
        simp only [← qgH] at e5 e6
        clear qgH
        obtain ⟨gL, qgL⟩ : ∃ x, x = dwL dH dL (k : Int) := ⟨_, rfl⟩
        simp only [← qgL] at e5 e6
        clear qgL
        unfold mV at e1 e2 e3 e4 e5 e6
        have G1 := Lib.hid e1
        have G2 := Lib.hid e2
        have G3 := Lib.hid e3
        have G4 := Lib.hid e4
        have G5 := Lib.hid e5
        have G6 := Lib.hid e6
        clear e1 e2 e3 e4 e5 e6
        have q0 := Cls.cell (S := []) (w0 := w) (L := [blkR g 26 #[.int .u64 (h : Int), .int .u64 (l : Int)], ownR 3 1 (.slice al N cl) N (R.map encI), blkR q 26 #[.int .u64 (h : Int), .int .u64 (l : Int)], blkR p 26 #[.int .u64 (h : Int), .int .u64 (l : Int)]]) 0 rfl 0 (v := .int .u64 (h : Int)) rfl
        have q1 := Cls.cell (S := []) (w0 := w) (L := [blkR g 26 #[.int .u64 (h : Int), .int .u64 (l : Int)], ownR 3 1 (.slice al N cl) N (R.map encI), blkR q 26 #[.int .u64 (h : Int), .int .u64 (l : Int)], blkR p 26 #[.int .u64 (h : Int), .int .u64 (l : Int)]]) 0 rfl 1 (v := .int .u64 (l : Int)) rfl
        have q2 := Cls.cell (S := []) (w0 := w) (L := [blkR g 26 #[.int .u64 (h : Int), .int .u64 (l : Int)], ownR 3 1 (.slice al N cl) N (R.map encI), blkR q 26 #[.int .u64 (h : Int), .int .u64 (l : Int)], blkR p 26 #[.int .u64 (h : Int), .int .u64 (l : Int)]]) 2 rfl 0 (v := .int .u64 (h : Int)) rfl
        have q3 := Cls.cell (S := []) (w0 := w) (L := [blkR g 26 #[.int .u64 (h : Int), .int .u64 (l : Int)], ownR 3 1 (.slice al N cl) N (R.map encI), blkR q 26 #[.int .u64 (h : Int), .int .u64 (l : Int)], blkR p 26 #[.int .u64 (h : Int), .int .u64 (l : Int)]]) 2 rfl 1 (v := .int .u64 (l : Int)) rfl
        have q4 := Cls.cell (S := []) (w0 := w) (L := [blkR g 26 #[.int .u64 (h : Int), .int .u64 (l : Int)], ownR 3 1 (.slice al N cl) N (R.map encI), blkR q 26 #[.int .u64 (h : Int), .int .u64 (l : Int)], blkR p 26 #[.int .u64 (h : Int), .int .u64 (l : Int)]]) 3 rfl 0 (v := .int .u64 (h : Int)) rfl
        have q5 := Cls.cell (S := []) (w0 := w) (L := [blkR g 26 #[.int .u64 (h : Int), .int .u64 (l : Int)], ownR 3 1 (.slice al N cl) N (R.map encI), blkR q 26 #[.int .u64 (h : Int), .int .u64 (l : Int)], blkR p 26 #[.int .u64 (h : Int), .int .u64 (l : Int)]]) 3 rfl 1 (v := .int .u64 (l : Int)) rfl
        have n1 := HS9.out.inh
        go_upto_region 16 with fail
        refine region_sep HS9.out (by kernel_rfl) (by kernel_rfl) ?_
        repeat (go_big_quiet_step ((rename_i x; first | (go_at_call 15; with_reducible exact call_keeps x.ok (G1.out _)) | (go_at_call 16; first | with_reducible exact call_keeps x.ok (G2.out _) | with_reducible exact call_keeps x.ok (G3.out _)) | (go_at_call 26; with_reducible exact call_keeps x.ok (G4.out _)) | (go_at_call 22; first | with_reducible exact call_keeps x.ok (ED.out _) | with_reducible exact call_keeps x.ok (G5.out _)) | (go_at_call 35; with_reducible exact call_keeps x.ok (G6.out _)))))
        refine wpQuiet_nil ?_
        intro w3 hS3
        go_wp2
        go_ret
        exact ⟨rfl, hS3.frm.below⟩

theorem maskSteps_f (w : World) (hT : Tabs w) (h : Int) (wh : (Lit.int .u64 h).wf = true) (l : Int) (wl : (Lit.int .u64 l).wf = true) (a : Int) (wa : (Lit.int .i64 a).wf = true) (b : Int) (wb : (Lit.int .i64 b).wf = true) :
    Calls Tryd.prog 7 #[.int .u64 h, .int .u64 l, .int .i64 a, .int .i64 b] w fun e w' => e = .returned (.bool true) ∧ Below w.heap.size w w' := by
  obtain ⟨h, rfl, h0⟩ := u64_nat wh
  obtain ⟨l, rfl, h1⟩ := u64_nat wl
  exact maskSteps_w w hT h l h0 h1 a b

end Go.Proofs.YtlkhjffbhcjdfaaDoor
