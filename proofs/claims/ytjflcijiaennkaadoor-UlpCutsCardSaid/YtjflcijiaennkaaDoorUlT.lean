/-
  THE WALKS of confluxlaw09.as, small. Printed by gen_ult.py.
-/
import Derived.Test.YtjflcijiaennkaaDoorUlQ
set_option linter.unusedVariables false
set_option linter.unusedSimpArgs false
namespace Go.Proofs.YtjflcijiaennkaaDoor
open Go.RowKit

theorem info_rlevel : (Tryd.prog.info? 74).map (fun i => (i.zero, i.size, i.bytes)) = some (some (.agg #[.int .u64 0, .int .u64 0, .slice none 0 0]), 3, 40) := by kernel_rfl
theorem lvs_rd {e : TypeId} {v : Value} {qs : List LvV} {w : World} (h : (lvsR e v qs).P w) (hb : ∀ q ∈ qs, Sla .u8 w q.bv q.B) : ∃ a c, v = .slice a qs.length c ∧ qs.length ≤ c ∧ c ≤ maxLen ∧ (a = none → c = 0) ∧ RdLs w a qs := by
  obtain ⟨a, c, h1, h2, h3, h4, h5, h6⟩ := RdS.of_own (rows := qs.map LvV.row) h (fun r hr => by obtain ⟨b, _, rfl⟩ := List.mem_map.1 hr; rfl) (by decide) (by rw [List.length_map])
  rw [List.length_map] at h1 h2
  exact ⟨a, c, h1, h2, h3, h4, h5, hb⟩

set_option maxRecDepth 100000 in
set_option maxHeartbeats 16000000 in
theorem uas_c (x : Ul) (a : Option Addr) (c : Nat) (qs : List LvV) (w : World) (rd : RdLs w a qs) (hn : qs.length ≤ 1000000) :
    Calls Tryd.prog 13 #[x.val (.slice a qs.length c)] w fun e w' => ∃ ad cd, e = .returned (x.val (.slice ad qs.length cd)) ∧ RdLs w' ad qs ∧ Frm [] w w' := by
  obtain ⟨iL, hLi, hLz0, hLz1, hLz2⟩ := info_parts info_rlevel
  have HRd := Lib.hid (fun X (hX : Frm [] w X) => rd.frm hX)
  clear rd
  obtain ⟨h0, h1, h2, h3, h4, h5, h6, h7, bb, lg, Ls⟩ := x
  simp only [Ul.val, Ul.cells] at *
  obtain ⟨n, hn2⟩ : ∃ n, n = qs.length := ⟨_, rfl⟩
  rw [← hn2] at hn ⊢
  have HN := Lib.hid hn2
  clear hn2
  have HS0 := Lib.hid (((Sep.init w).alloc #[.int .u8 h0, .int .u8 h1, .int .u8 h2, .int .u8 h3, .int .u8 h4, .int .u8 h5, .int .u8 h6, .int .u8 h7, .int .u16 bb, .bool lg, .slice a n c] 29).alloc #[.int .u8 0, .int .u8 0, .int .u8 0, .int .u8 0, .int .u8 0, .int .u8 0, .int .u8 0, .int .u8 0, .int .u16 0, .bool false, .slice none 0 0] 35)
  simp only [World.size_alloc] at HS0
  go_enter Tryd.func13, Tryd.ntmps13
  go_upto_region 1 with fail
  obtain ⟨w1, hw1⟩ : ∃ w1, w1 = (w.alloc (.cells #[.int .u8 h0, .int .u8 h1, .int .u8 h2, .int .u8 h3, .int .u8 h4, .int .u8 h5, .int .u8 h6, .int .u8 h7, .int .u16 bb, .bool lg, .slice a n c] 29)).alloc (.cells #[.int .u8 0, .int .u8 0, .int .u8 0, .int .u8 0, .int .u8 0, .int .u8 0, .int .u8 0, .int .u8 0, .int .u16 0, .bool false, .slice none 0 0] 35) := ⟨_, rfl⟩
  obtain ⟨o, ho⟩ : ∃ o, o = w.heap.size := ⟨_, rfl⟩
  rw [← hw1, ← ho] at HS0
  rw [← hw1, ← ho]
  clear hw1 ho
  have k0 := (HS0.out.blk 1 rfl).cell 0 rfl
  have k1 := (HS0.out.blk 1 rfl).cell 1 rfl
  have k2 := (HS0.out.blk 1 rfl).cell 2 rfl
  have k3 := (HS0.out.blk 1 rfl).cell 3 rfl
  have k4 := (HS0.out.blk 1 rfl).cell 4 rfl
  have k5 := (HS0.out.blk 1 rfl).cell 5 rfl
  have k6 := (HS0.out.blk 1 rfl).cell 6 rfl
  have k7 := (HS0.out.blk 1 rfl).cell 7 rfl
  have k8 := (HS0.out.blk 1 rfl).cell 8 rfl
  have k9 := (HS0.out.blk 1 rfl).cell 9 rfl
  have k10 := (HS0.out.blk 1 rfl).cell 10 rfl
  have HS1 := Lib.hid ((HS0.out.alloc #[.int .u8 h0, .int .u8 h1, .int .u8 h2, .int .u8 h3, .int .u8 h4, .int .u8 h5, .int .u8 h6, .int .u8 h7, .int .u16 bb, .bool lg, .slice none 0 0] 35).nil 74 3)
  go_upto_region 2 with fail
  obtain ⟨w2, hw2⟩ : ∃ x, x = w1.alloc (.cells #[.int .u8 h0, .int .u8 h1, .int .u8 h2, .int .u8 h3, .int .u8 h4, .int .u8 h5, .int .u8 h6, .int .u8 h7, .int .u16 bb, .bool lg, .slice none 0 0] 35) := ⟨_, rfl⟩
  obtain ⟨g, hg⟩ : ∃ x, x = w1.heap.size := ⟨_, rfl⟩
  rw [← hw2, ← hg] at HS1
  rw [← hw2, ← hg]
  clear hw2 hg HS0 k0 k1 k2 k3 k4 k5 k6 k7 k8 k9 k10
  have k10 := (HS1.out.blk 3 rfl).cell 10 rfl
  go_wp2_with fail
  clear k10
  go_loopw [16] (fun i wr => ∃ (j : Nat) (ad : Option Addr) (cd : Nat), j ≤ n ∧ i = .int .i64 (j : Int) ∧ Sep [] w wr [lvsR 74 (.slice ad j cd) (qs.take j), blkR g 35 #[.int .u8 h0, .int .u8 h1, .int .u8 h2, .int .u8 h3, .int .u8 h4, .int .u8 h5, .int .u8 h6, .int .u8 h7, .int .u16 bb, .bool lg, .slice ad j cd], blkR o 29 #[.int .u8 h0, .int .u8 h1, .int .u8 h2, .int .u8 h3, .int .u8 h4, .int .u8 h5, .int .u8 h6, .int .u8 h7, .int .u16 bb, .bool lg, .slice a n c], blkR (o + 1) 35 #[.int .u8 0, .int .u8 0, .int .u8 0, .int .u8 0, .int .u8 0, .int .u8 0, .int .u8 0, .int .u8 0, .int .u16 0, .bool false, .slice none 0 0]]) (fun i _ => n - (intOf i).toNat)
  case atStart => exact ⟨0, none, 0, Nat.zero_le _, rfl, HS1.out.at_ [0, 1, 3, 2] (by decide) rfl⟩
  case round =>
    obtain ⟨j, ad, cd, hj, rfl, hS⟩ := hrel
    have HT := Lib.hid hS
    clear hS HS1
    by_cases hlt : j < n
    · obtain ⟨q, hq⟩ : ∃ q, qs[j]? = some q := ⟨_, List.getElem?_eq_getElem (by rw [← HN.out]; exact hlt)⟩
      obtain ⟨gb, off, ha, _, d0, d1, d2⟩ := (HRd.out wr HT.out.frm).at_ hq
      obtain ⟨ab, cb, hbv, -⟩ := (HRd.out wr HT.out.frm).bod q (List.mem_of_getElem? hq)
      have hlq : (qs.take j).length = j := by rw [List.length_take, ← HN.out]; omega
      have hsn : qs.take (j + 1) = qs.take j ++ [q] := by rw [List.take_add_one, hq]; rfl
      have HSn := Lib.hid hsn
      have HLq := Lib.hid hlq
      obtain ⟨qh, ql, qb, qB⟩ := q
      simp only at hbv d0 d1 d2
      obtain ⟨m, hm⟩ : ∃ m, m = qB.length := ⟨_, rfl⟩
      rw [← hm] at hbv
      subst ha hbv
      have i1 : (0 : Int) ≤ (j : Int) := by omega
      have i2 : (j : Int) < (n : Int) := by omega
      have HT2 := Lib.hid (HT.out.alloc #[.int .u64 (qh : Int), .int .u64 (ql : Int), .slice ab m cb] 44)
      clear hq hm hlq hsn HT
      go_upto_region 5 with fail
      obtain ⟨wx, hwx⟩ : ∃ wx, wx = wr.alloc (.cells #[.int .u64 (qh : Int), .int .u64 (ql : Int), .slice ab m cb] 44) := ⟨_, rfl⟩
      obtain ⟨q, hq⟩ : ∃ q, q = wr.heap.size := ⟨_, rfl⟩
      rw [← hwx, ← hq] at HT2
      rw [← hwx, ← hq]
      clear hwx hq d0 d1 d2
      have c0 := (HT2.out.blk 0 rfl).cell 0 rfl
      have c1 := (HT2.out.blk 0 rfl).cell 1 rfl
      have c2 := (HT2.out.blk 0 rfl).cell 2 rfl
      have k10 := (HT2.out.blk 2 rfl).cell 10 rfl
      go_wp2_with (at_builtin; (refine wpList_append_arr rfl (.tmp 21) (.tmp 31) 33 rfl 2 74 iL (.agg #[.int .u64 0, .int .u64 0, .slice none 0 0]) 3 40 Tryd.underlying33 hLi hLz0 hLz1 hLz2 rfl (by decide) (.slice ad j cd) (qs.take j).length _ rfl (HT2.out.alloc #[.int .u64 (qh : Int), .int .u64 (ql : Int), .slice ab m cb] 74) rfl wx.heap.size #[.int .u64 (qh : Int), .int .u64 (ql : Int), .slice ab m cb] rfl rfl (Blk.made wx 74 #[.int .u64 (qh : Int), .int .u64 (ql : Int), .slice ab m cb]) (fun u hu => by simp at hu; rcases hu with rfl | rfl | rfl <;> rfl) (by unfold maxLen; have := HLq.out; omega) (by have := HLq.out; omega) ?_); intro v9 w10 hS9; rw [HLq.out] at hS9; obtain ⟨a9, c9, rfl, x1, x2⟩ := own_shape (hS9.own 2 rfl); have HS9 := Lib.hid hS9; have f10 := (hS9.blk 3 rfl).free 10; have l10 := (hS9.blk 3 rfl).cell 10 rfl; clear hS9 x1 x2 c0 c1 c2)
      have hS := HS9.out.put 3 rfl 10 (.slice a9 (j + 1) c9)
      have hS3 : Sep [] w (w10.setCell ⟨g, 10, none⟩ (.slice a9 (j + 1) c9)) [lvsR 74 (.slice a9 (j + 1) c9) (qs.take (j + 1)), blkR g 35 #[.int .u8 h0, .int .u8 h1, .int .u8 h2, .int .u8 h3, .int .u8 h4, .int .u8 h5, .int .u8 h6, .int .u8 h7, .int .u16 bb, .bool lg, .slice a9 (j + 1) c9], blkR o 29 #[.int .u8 h0, .int .u8 h1, .int .u8 h2, .int .u8 h3, .int .u8 h4, .int .u8 h5, .int .u8 h6, .int .u8 h7, .int .u16 bb, .bool lg, .slice (some ⟨gb, off, none⟩) n c], blkR (o + 1) 35 #[.int .u8 0, .int .u8 0, .int .u8 0, .int .u8 0, .int .u8 0, .int .u8 0, .int .u8 0, .int .u8 0, .int .u16 0, .bool false, .slice none 0 0]] := by
        rw [HSn.out, ← lvsR_snoc, HLq.out]
        exact hS.at_ [2, 3, 4, 5] (by decide) rfl
      have HS10 := Lib.hid hS3
      clear hS hS3 f10 l10 HS9
      go_roundw
      case rel => exact ⟨j + 1, a9, c9, by omega, by go_num, HS10.out⟩
      case measure => simp [intOf]; omega
    · obtain rfl : j = n := by omega
      have htk : qs.take j = qs := List.take_of_length_le (by rw [← HN.out]; exact Nat.le_refl _)
      rw [htk] at HT
      clear htk
      have q0 := (HT.out.blk 1 rfl).cell 0 rfl
      have q1 := (HT.out.blk 1 rfl).cell 1 rfl
      have q2 := (HT.out.blk 1 rfl).cell 2 rfl
      have q3 := (HT.out.blk 1 rfl).cell 3 rfl
      have q4 := (HT.out.blk 1 rfl).cell 4 rfl
      have q5 := (HT.out.blk 1 rfl).cell 5 rfl
      have q6 := (HT.out.blk 1 rfl).cell 6 rfl
      have q7 := (HT.out.blk 1 rfl).cell 7 rfl
      have q8 := (HT.out.blk 1 rfl).cell 8 rfl
      have q9 := (HT.out.blk 1 rfl).cell 9 rfl
      have q10 := (HT.out.blk 1 rfl).cell 10 rfl
      have z0 := (HT.out.blk 3 rfl).cell 0 rfl
      have z1 := (HT.out.blk 3 rfl).cell 1 rfl
      have z2 := (HT.out.blk 3 rfl).cell 2 rfl
      have z3 := (HT.out.blk 3 rfl).cell 3 rfl
      have z4 := (HT.out.blk 3 rfl).cell 4 rfl
      have z5 := (HT.out.blk 3 rfl).cell 5 rfl
      have z6 := (HT.out.blk 3 rfl).cell 6 rfl
      have z7 := (HT.out.blk 3 rfl).cell 7 rfl
      have z8 := (HT.out.blk 3 rfl).cell 8 rfl
      have z9 := (HT.out.blk 3 rfl).cell 9 rfl
      have z10 := (HT.out.blk 3 rfl).cell 10 rfl
      have f0 := (HT.out.blk 3 rfl).free 0
      have f1 := (HT.out.blk 3 rfl).free 1
      have f2 := (HT.out.blk 3 rfl).free 2
      have f3 := (HT.out.blk 3 rfl).free 3
      have f4 := (HT.out.blk 3 rfl).free 4
      have f5 := (HT.out.blk 3 rfl).free 5
      have f6 := (HT.out.blk 3 rfl).free 6
      have f7 := (HT.out.blk 3 rfl).free 7
      have f8 := (HT.out.blk 3 rfl).free 8
      have f9 := (HT.out.blk 3 rfl).free 9
      have f10 := (HT.out.blk 3 rfl).free 10
      go_wp2_with fail
      obtain ⟨w8, hw8⟩ : ∃ w8, w8 = (((((((((((wr.setCell ⟨(o + 1), 0, none⟩ (.int .u8 h0)).setCell ⟨(o + 1), 1, none⟩ (.int .u8 h1)).setCell ⟨(o + 1), 2, none⟩ (.int .u8 h2)).setCell ⟨(o + 1), 3, none⟩ (.int .u8 h3)).setCell ⟨(o + 1), 4, none⟩ (.int .u8 h4)).setCell ⟨(o + 1), 5, none⟩ (.int .u8 h5)).setCell ⟨(o + 1), 6, none⟩ (.int .u8 h6)).setCell ⟨(o + 1), 7, none⟩ (.int .u8 h7)).setCell ⟨(o + 1), 8, none⟩ (.int .u16 bb)).setCell ⟨(o + 1), 9, none⟩ (.bool lg)).setCell ⟨(o + 1), 10, none⟩ (.slice ad j cd)) := ⟨_, rfl⟩
      have HS8 := Lib.hid (show Sep [] w w8 [lvsR 74 (.slice ad j cd) qs, blkR g 35 #[.int .u8 h0, .int .u8 h1, .int .u8 h2, .int .u8 h3, .int .u8 h4, .int .u8 h5, .int .u8 h6, .int .u8 h7, .int .u16 bb, .bool lg, .slice ad j cd], blkR o 29 #[.int .u8 h0, .int .u8 h1, .int .u8 h2, .int .u8 h3, .int .u8 h4, .int .u8 h5, .int .u8 h6, .int .u8 h7, .int .u16 bb, .bool lg, .slice a j c], blkR (o + 1) 35 #[.int .u8 h0, .int .u8 h1, .int .u8 h2, .int .u8 h3, .int .u8 h4, .int .u8 h5, .int .u8 h6, .int .u8 h7, .int .u16 bb, .bool lg, .slice ad j cd]] from hw8 ▸ HT.out.puts 3 rfl [.int .u8 h0, .int .u8 h1, .int .u8 h2, .int .u8 h3, .int .u8 h4, .int .u8 h5, .int .u8 h6, .int .u8 h7, .int .u16 bb, .bool lg, .slice ad j cd] rfl)
      rw [← hw8]
      clear hw8 q0 q1 q2 q3 q4 q5 q6 q7 q8 q9 q10 z0 z1 z2 z3 z4 z5 z6 z7 z8 z9 z10 f0 f1 f2 f3 f4 f5 f6 f7 f8 f9 f10
      have z0 := (HS8.out.blk 3 rfl).cell 0 rfl
      have z1 := (HS8.out.blk 3 rfl).cell 1 rfl
      have z2 := (HS8.out.blk 3 rfl).cell 2 rfl
      have z3 := (HS8.out.blk 3 rfl).cell 3 rfl
      have z4 := (HS8.out.blk 3 rfl).cell 4 rfl
      have z5 := (HS8.out.blk 3 rfl).cell 5 rfl
      have z6 := (HS8.out.blk 3 rfl).cell 6 rfl
      have z7 := (HS8.out.blk 3 rfl).cell 7 rfl
      have z8 := (HS8.out.blk 3 rfl).cell 8 rfl
      have z9 := (HS8.out.blk 3 rfl).cell 9 rfl
      have z10 := (HS8.out.blk 3 rfl).cell 10 rfl
      obtain ⟨a7, c7, hv, -, -, -, hrl⟩ := lvs_rd (HS8.out.get 0 rfl) (HRd.out w8 HS8.out.frm).bod
      simp only [Value.slice.injEq] at hv
      rw [← hv.1] at hrl
      refine bodyPost_ret (v := .agg #[.int .u8 h0, .int .u8 h1, .int .u8 h2, .int .u8 h3, .int .u8 h4, .int .u8 h5, .int .u8 h6, .int .u8 h7, .int .u16 bb, .bool lg, .slice ad j cd]) ?_ rfl ⟨ad, cd, rfl, hrl, HS8.out.frm⟩
      simp [results, Tryd.results13, go_sem, z0, z1, z2, z3, z4, z5, z6, z7, z8, z9, z10]
def usmall (qs : List LvV) : Bool := (qs.all fun q => decide (q.B.length ≤ 2000)) && decide (qs.length ≤ 4)
set_option maxRecDepth 100000 in
set_option maxHeartbeats 4000000 in
theorem usmall_c (x : Ul) (a : Option Addr) (c : Nat) (qs : List LvV) (w : World) (rd : RdLs w a qs) (hn : qs.length ≤ 9223372036854775807) :
    Calls Tryd.prog 15 #[x.val (.slice a qs.length c)] w fun e w' => e = .returned (.bool (usmall qs)) ∧ Frm [] w w' := by
  have HRd := Lib.hid (fun X (hX : Frm [] w X) => rd.frm hX)
  clear rd
  obtain ⟨h0, h1, h2, h3, h4, h5, h6, h7, bb, lg, Ls⟩ := x
  simp only [Ul.val, Ul.cells] at *
  obtain ⟨n, hn2⟩ : ∃ n, n = qs.length := ⟨_, rfl⟩
  rw [← hn2] at hn ⊢
  have HN := Lib.hid hn2
  obtain ⟨R, hR⟩ : ∃ R, R = usmall qs := ⟨_, rfl⟩
  rw [← hR]
  unfold usmall at hR
  rw [← hn2] at hR
  have HR := Lib.hid hR
  clear hn2 hR
  have HS0 := Lib.hid ((Sep.init w).alloc #[.int .u8 h0, .int .u8 h1, .int .u8 h2, .int .u8 h3, .int .u8 h4, .int .u8 h5, .int .u8 h6, .int .u8 h7, .int .u16 bb, .bool lg, .slice a n c] 29)
  go_enter Tryd.func15, Tryd.ntmps15
  go_upto_region 1 with fail
  obtain ⟨w1, hw1⟩ : ∃ w1, w1 = w.alloc (.cells #[.int .u8 h0, .int .u8 h1, .int .u8 h2, .int .u8 h3, .int .u8 h4, .int .u8 h5, .int .u8 h6, .int .u8 h7, .int .u16 bb, .bool lg, .slice a n c] 29) := ⟨_, rfl⟩
  obtain ⟨o, ho⟩ : ∃ o, o = w.heap.size := ⟨_, rfl⟩
  rw [← hw1, ← ho] at HS0
  rw [← hw1, ← ho]
  clear hw1 ho
  have k10 := (HS0.out.blk 0 rfl).cell 10 rfl
  go_wp2_with fail
  clear k10
  go_loopw [8] (fun i wr => ∃ (j : Nat), j ≤ n ∧ i = .int .i64 (j : Int) ∧ (qs.take j).all (fun q => decide (q.B.length ≤ 2000)) = true ∧ Sep [] w wr [blkR o 29 #[.int .u8 h0, .int .u8 h1, .int .u8 h2, .int .u8 h3, .int .u8 h4, .int .u8 h5, .int .u8 h6, .int .u8 h7, .int .u16 bb, .bool lg, .slice a n c]]) (fun i _ => n - (intOf i).toNat)
  case atStart => exact ⟨0, Nat.zero_le _, rfl, by simp, HS0.out⟩
  case round =>
    obtain ⟨j, hj, rfl, hall, hS⟩ := hrel
    have HT := Lib.hid hS
    have HA := Lib.hid hall
    clear hS hall HS0
    by_cases hlt : j < n
    · obtain ⟨q, hq⟩ : ∃ q, qs[j]? = some q := ⟨_, List.getElem?_eq_getElem (by rw [← HN.out]; exact hlt)⟩
      obtain ⟨gb, off, ha, _, d0, d1, d2⟩ := (HRd.out wr HT.out.frm).at_ hq
      obtain ⟨ab, cb, hbv, -⟩ := (HRd.out wr HT.out.frm).bod q (List.mem_of_getElem? hq)
      have HAs := Lib.hid (all_take_succ (fun q : LvV => decide (q.B.length ≤ 2000)) hq)
      have HMe := Lib.hid (List.mem_of_getElem? hq)
      obtain ⟨qh, ql, qb, qB⟩ := q
      simp only at hbv d0 d1 d2 HAs
      obtain ⟨m, hm⟩ : ∃ m, m = qB.length := ⟨_, rfl⟩
      rw [← hm] at hbv HAs
      have HM := Lib.hid hm
      subst ha hbv
      have i1 : (0 : Int) ≤ (j : Int) := by omega
      have i2 : (j : Int) < (n : Int) := by omega
      have HT2 := Lib.hid (HT.out.alloc #[.int .u64 (qh : Int), .int .u64 (ql : Int), .slice ab m cb] 44)
      clear hq hm
      by_cases hbig : 2000 < m
      · have t0 : decide (2000 < (m : Int)) = true := decide_eq_true (by omega)
        obtain rfl : R = false := by
          rw [HR.out, show (qs.all fun q => decide (q.B.length ≤ 2000)) = false from by
            rw [List.all_eq_false]
            exact ⟨_, HMe.out, by simp only [decide_eq_true_eq]; rw [← HM.out]; omega⟩]
          rfl
        clear hbig
        go_wp2_with fail
        go_ret
        exact ⟨rfl, HT2.out.frm⟩
      · have t0 : decide (2000 < (m : Int)) = false := decide_eq_false (by omega)
        have hall2 : (qs.take (j + 1)).all (fun q => decide (q.B.length ≤ 2000)) = true := by rw [HAs.out, HA.out, decide_eq_true (by omega)]; rfl
        have HA2 := Lib.hid hall2
        have HT3 := Lib.hid (HT2.out.at_ [1] (by decide) rfl)
        clear hbig hall2
        go_wp2_with fail
        go_roundw
        case rel => exact ⟨j + 1, by omega, by go_num, HA2.out, HT3.out⟩
        case measure => simp [intOf]; omega
    · obtain rfl : j = n := by omega
      have k10 := (HT.out.blk 0 rfl).cell 10 rfl
      have hRR : R = decide ((j : Int) ≤ 4) := by
        have h := HA.out
        rw [List.take_of_length_le (by rw [← HN.out]; exact Nat.le_refl _)] at h
        rw [HR.out, h, Bool.true_and]
        exact decide_eq_decide.2 (by omega)
      subst hRR
      clear hn
      go_wp2_with fail
      go_ret
      exact ⟨rfl, HT.out.frm⟩

end Go.Proofs.YtjflcijiaennkaaDoor
