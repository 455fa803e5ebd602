/-
  THE WALK of ulp.Flat. Printed by gen_ulo.py.
-/
import Derived.Test.YtjflcijiaennkaaDoorUlS
import Derived.Test.YtjflcijiaennkaaDoorRpr
set_option linter.unusedVariables false
set_option linter.unusedSimpArgs false
namespace Go.Proofs.YtjflcijiaennkaaDoor
open Go.RowKit

def hasM (h l : Nat) (L : Lv) : Bool := decide (L.h = h) && decide (L.l = l)
def headL (Ls : List Lv) : Lv := Ls.headD ⟨0, 0, []⟩
def catB (Ls : List Lv) : List Int := Ls.flatMap Lv.B
def ufE (x : Ul) : Int := if uweX x ≠ 0 then uweX x else if x.Ls.all (hasM (headL x.Ls).h (headL x.Ls).l) = true then 0 else 30
def ufX (x : Ul) : Rp := if ufE x = 0 then ⟨x.h0 % 64, x.h1, x.h2, x.h3, x.h4, x.h5, x.h6, x.h7, x.b, (headL x.Ls).h, (headL x.Ls).l, catB x.Ls⟩ else Rp.none
theorem we_nz {x : Ul} (h : uweX x = 0) : uwrX x = 0 := by
  unfold uweX at h
  split at h
  · exact h
  · omega
theorem all_take_succ {α : Type} (F : α → Bool) {L : List α} {j : Nat} {x : α} (h : L[j]? = some x) : (L.take (j + 1)).all F = ((L.take j).all F && F x) := by
  simp [List.take_add_one, h]
theorem cat_take_succ {L : List Lv} {j : Nat} {x : Lv} (h : L[j]? = some x) : catB (L.take (j + 1)) = catB (L.take j) ++ x.B := by
  simp [catB, List.take_add_one, h]
theorem cat_len {L : List Lv} (hb : ∀ q ∈ L, q.B.length ≤ 1500) : ∀ k, (catB (L.take k)).length ≤ k * 1500
  | 0 => by simp [catB]
  | k + 1 => by
    by_cases hk : k < L.length
    · obtain ⟨q, hq⟩ : ∃ q, L[k]? = some q := ⟨_, List.getElem?_eq_getElem hk⟩
      rw [cat_take_succ hq, List.length_append]
      have h1 := cat_len hb k
      have h2 := hb q (List.mem_of_getElem? hq)
      rw [Nat.add_mul, Nat.one_mul]
      exact Nat.add_le_add h1 h2
    · have h1 := cat_len hb k
      rw [show L.take (k + 1) = L.take k from by rw [List.take_of_length_le (by omega), List.take_of_length_le (by omega)], Nat.add_mul]
      exact Nat.le_trans h1 (Nat.le_add_right _ _)

set_option maxRecDepth 100000 in
set_option maxHeartbeats 16000000 in
theorem uflat_c (x : Ul) (a : Option Addr) (c : Nat) (qs : List LvV) (w : World) (hq : qs.map LvV.lv = x.Ls) (hok : x.Ok) (rd : RdLs w a qs) (hT : Tabs w) (hn : qs.length ≤ 1000000) :
    Calls Tryd.prog 18 #[x.val (.slice a qs.length c)] w (RprP w (ufX x) (ufE x)) := by
  obtain ⟨i0, hi, hz0, hz1, hz2⟩ := info_parts info_u8
  have HW := Lib.hid (fun X (hX : Frm [] w X) => uWrite_c x a c qs X hq hok (rd.frm hX) (hT.frm hX (by simp)) hn)
  have HG := Lib.hid (fun (h : uweX x = 0) => ugood_of (we_nz h))
  have HRd := Lib.hid (fun X (hX : Frm [] w X) => rd.frm hX)
  obtain ⟨E, hE⟩ : ∃ E, E = uweX x := ⟨_, rfl⟩
  obtain ⟨R, hR⟩ : ∃ R, R = ufE x := ⟨_, rfl⟩
  unfold ufX
  rw [← hR]
  unfold ufE at hR
  rw [← hE] at hR HW HG
  obtain ⟨O, hO⟩ : ∃ O, O = uwoX x := ⟨_, rfl⟩
  rw [← hO] at HW
  have r0 := hok.r0
  clear hE hO rd hT hok
  obtain ⟨h0, h1, h2, h3, h4, h5, h6, h7, bb, lg, Ls⟩ := x
  simp only [Rp.val, Rp.cells, Ul.val, Ul.cells] at *
  subst hq
  obtain ⟨n, hn2⟩ : ∃ n, n = qs.length := ⟨_, rfl⟩
  rw [← hn2] at HW hn ⊢
  have HN := Lib.hid hn2
  clear hn2
  have e1 := uand63_u r0.1 r0.2
  obtain ⟨p, hp⟩ : ∃ p, p = h0 % 64 := ⟨_, rfl⟩
  rw [← hp] at e1 ⊢
  have HE1 := Lib.hid e1
  have HR := Lib.hid hR
  obtain ⟨Y, hY⟩ : ∃ Y : Rp, Y = if R = 0 then ⟨p, h1, h2, h3, h4, h5, h6, h7, bb, (headL (qs.map LvV.lv)).h, (headL (qs.map LvV.lv)).l, catB (qs.map LvV.lv)⟩ else Rp.none := ⟨_, rfl⟩
  rw [← hY]
  have HY := Lib.hid hY
  clear hp e1 hY hR r0
  have HS0 := Lib.hid (((Sep.init w).alloc #[.int .u8 h0, .int .u8 h1, .int .u8 h2, .int .u8 h3, .int .u8 h4, .int .u8 h5, .int .u8 h6, .int .u8 h7, .int .u16 bb, .bool lg, .slice a n c] 29).alloc #[.int .u8 0, .int .u8 0, .int .u8 0, .int .u8 0, .int .u8 0, .int .u8 0, .int .u8 0, .int .u8 0, .int .u16 0, .int .u64 0, .int .u64 0, .slice none 0 0] 53)
  simp only [World.size_alloc] at HS0
  go_enter Tryd.func18, Tryd.ntmps18
  go_upto_region 1 with fail
  obtain ⟨w0, hw1⟩ : ∃ w1, w1 = (w.alloc (.cells #[.int .u8 h0, .int .u8 h1, .int .u8 h2, .int .u8 h3, .int .u8 h4, .int .u8 h5, .int .u8 h6, .int .u8 h7, .int .u16 bb, .bool lg, .slice a n c] 29)).alloc (.cells #[.int .u8 0, .int .u8 0, .int .u8 0, .int .u8 0, .int .u8 0, .int .u8 0, .int .u8 0, .int .u8 0, .int .u16 0, .int .u64 0, .int .u64 0, .slice none 0 0] 53) := ⟨_, rfl⟩
  obtain ⟨o, ho⟩ : ∃ o, o = w.heap.size := ⟨_, rfl⟩
  rw [← hw1, ← ho] at HS0
  rw [← hw1, ← ho]
  clear hw1 ho
  have z0 := (HS0.out.blk 1 rfl).cell 0 rfl
  have z1 := (HS0.out.blk 1 rfl).cell 1 rfl
  have z2 := (HS0.out.blk 1 rfl).cell 2 rfl
  have z3 := (HS0.out.blk 1 rfl).cell 3 rfl
  have z4 := (HS0.out.blk 1 rfl).cell 4 rfl
  have z5 := (HS0.out.blk 1 rfl).cell 5 rfl
  have z6 := (HS0.out.blk 1 rfl).cell 6 rfl
  have z7 := (HS0.out.blk 1 rfl).cell 7 rfl
  have z8 := (HS0.out.blk 1 rfl).cell 8 rfl
  have z9 := (HS0.out.blk 1 rfl).cell 9 rfl
  have z10 := (HS0.out.blk 1 rfl).cell 10 rfl
  go_wp2_with fail
  refine (HW.out w0 HS0.out.frm).mono ?_
  rintro e w1 ⟨v7, rfl, hS7⟩
  have HS1 := Lib.hid (show Sep [] w w1 [blkR (o + 1) 53 #[.int .u8 0, .int .u8 0, .int .u8 0, .int .u8 0, .int .u8 0, .int .u8 0, .int .u8 0, .int .u8 0, .int .u16 0, .int .u64 0, .int .u64 0, .slice none 0 0], blkR o 29 #[.int .u8 h0, .int .u8 h1, .int .u8 h2, .int .u8 h3, .int .u8 h4, .int .u8 h5, .int .u8 h6, .int .u8 h7, .int .u16 bb, .bool lg, .slice a n c]] from HS0.out.keep hS7.frm)
  clear hS7 HS0 z0 z1 z2 z3 z4 z5 z6 z7 z8 z9 z10 HW
  by_cases hE0 : E = 0
  case neg =>
    obtain rfl : R = E := by rw [HR.out, if_pos hE0]
    have d0 : (R != 0) = true := by simp [hE0]
    have HE0 := Lib.hid hE0
    clear hE0
    have k0 := (HS1.out.blk 0 rfl).cell 0 rfl
    have k1 := (HS1.out.blk 0 rfl).cell 1 rfl
    have k2 := (HS1.out.blk 0 rfl).cell 2 rfl
    have k3 := (HS1.out.blk 0 rfl).cell 3 rfl
    have k4 := (HS1.out.blk 0 rfl).cell 4 rfl
    have k5 := (HS1.out.blk 0 rfl).cell 5 rfl
    have k6 := (HS1.out.blk 0 rfl).cell 6 rfl
    have k7 := (HS1.out.blk 0 rfl).cell 7 rfl
    have k8 := (HS1.out.blk 0 rfl).cell 8 rfl
    have k9 := (HS1.out.blk 0 rfl).cell 9 rfl
    have k10 := (HS1.out.blk 0 rfl).cell 10 rfl
    have k11 := (HS1.out.blk 0 rfl).cell 11 rfl
    have f0 := (HS1.out.blk 0 rfl).free 0
    have f1 := (HS1.out.blk 0 rfl).free 1
    have f2 := (HS1.out.blk 0 rfl).free 2
    have f3 := (HS1.out.blk 0 rfl).free 3
    have f4 := (HS1.out.blk 0 rfl).free 4
    have f5 := (HS1.out.blk 0 rfl).free 5
    have f6 := (HS1.out.blk 0 rfl).free 6
    have f7 := (HS1.out.blk 0 rfl).free 7
    have f8 := (HS1.out.blk 0 rfl).free 8
    have f9 := (HS1.out.blk 0 rfl).free 9
    have f10 := (HS1.out.blk 0 rfl).free 10
    have f11 := (HS1.out.blk 0 rfl).free 11
    go_wp2_with fail
    obtain ⟨w8, hw8⟩ : ∃ w8, w8 = ((((((((((((w1.setCell ⟨(o + 1), 0, none⟩ (.int .u8 0)).setCell ⟨(o + 1), 1, none⟩ (.int .u8 0)).setCell ⟨(o + 1), 2, none⟩ (.int .u8 0)).setCell ⟨(o + 1), 3, none⟩ (.int .u8 0)).setCell ⟨(o + 1), 4, none⟩ (.int .u8 0)).setCell ⟨(o + 1), 5, none⟩ (.int .u8 0)).setCell ⟨(o + 1), 6, none⟩ (.int .u8 0)).setCell ⟨(o + 1), 7, none⟩ (.int .u8 0)).setCell ⟨(o + 1), 8, none⟩ (.int .u16 0)).setCell ⟨(o + 1), 9, none⟩ (.int .u64 0)).setCell ⟨(o + 1), 10, none⟩ (.int .u64 0)).setCell ⟨(o + 1), 11, none⟩ (.slice none 0 0)) := ⟨_, rfl⟩
    have HS8 := Lib.hid (show Sep [] w w8 [blkR (o + 1) 53 #[.int .u8 0, .int .u8 0, .int .u8 0, .int .u8 0, .int .u8 0, .int .u8 0, .int .u8 0, .int .u8 0, .int .u16 0, .int .u64 0, .int .u64 0, .slice none 0 0], blkR o 29 #[.int .u8 h0, .int .u8 h1, .int .u8 h2, .int .u8 h3, .int .u8 h4, .int .u8 h5, .int .u8 h6, .int .u8 h7, .int .u16 bb, .bool lg, .slice a n c]] from hw8 ▸ HS1.out.puts 0 rfl [.int .u8 0, .int .u8 0, .int .u8 0, .int .u8 0, .int .u8 0, .int .u8 0, .int .u8 0, .int .u8 0, .int .u16 0, .int .u64 0, .int .u64 0, .slice none 0 0] rfl)
    rw [← hw8]
    clear hw8 k0 k1 k2 k3 k4 k5 k6 k7 k8 k9 k10 k11 f0 f1 f2 f3 f4 f5 f6 f7 f8 f9 f10 f11
    have z0 := (HS8.out.blk 0 rfl).cell 0 rfl
    have z1 := (HS8.out.blk 0 rfl).cell 1 rfl
    have z2 := (HS8.out.blk 0 rfl).cell 2 rfl
    have z3 := (HS8.out.blk 0 rfl).cell 3 rfl
    have z4 := (HS8.out.blk 0 rfl).cell 4 rfl
    have z5 := (HS8.out.blk 0 rfl).cell 5 rfl
    have z6 := (HS8.out.blk 0 rfl).cell 6 rfl
    have z7 := (HS8.out.blk 0 rfl).cell 7 rfl
    have z8 := (HS8.out.blk 0 rfl).cell 8 rfl
    have z9 := (HS8.out.blk 0 rfl).cell 9 rfl
    have z10 := (HS8.out.blk 0 rfl).cell 10 rfl
    have z11 := (HS8.out.blk 0 rfl).cell 11 rfl
    refine bodyPost_ret (v := .tuple #[.agg #[.int .u8 0, .int .u8 0, .int .u8 0, .int .u8 0, .int .u8 0, .int .u8 0, .int .u8 0, .int .u8 0, .int .u16 0, .int .u64 0, .int .u64 0, .slice none 0 0], .int .i64 R]) ?_ rfl ⟨none, 0, 0, by rw [HY.out, if_neg HE0.out]; rfl, by rw [HY.out, if_neg HE0.out]; exact (HS8.out.nil 5 1).at_ [0] (by decide) rfl⟩
    simp [results, Tryd.results18, go_sem, z0, z1, z2, z3, z4, z5, z6, z7, z8, z9, z10, z11]
  subst hE0
  have hR2 : R = if (qs.map LvV.lv).all (hasM (headL (qs.map LvV.lv)).h (headL (qs.map LvV.lv)).l) = true then 0 else 30 := by rw [HR.out, if_neg (by decide)]
  have hgd := HG.out rfl
  obtain ⟨q0, qs', hqs⟩ : ∃ q qs', qs = q :: qs' := by
    cases qs with
    | nil => exact absurd rfl hgd.n0
    | cons q qs' => exact ⟨q, qs', rfl⟩
  have hn0 : 0 < n := by rw [HN.out, hqs]; simp
  have hn3 : n ≤ 2 := by have := hgd.n2; simp only [List.length_map] at this; rw [HN.out]; exact this
  have hbd : ∀ q ∈ qs.map LvV.lv, q.B.length ≤ 1500 := hgd.body
  have HBd := Lib.hid hbd
  have hhd : headL (qs.map LvV.lv) = q0.lv := by rw [hqs]; rfl
  rw [hhd] at hR2 HY
  have HQs := Lib.hid hqs
  obtain ⟨mh, hmh⟩ : ∃ mh, mh = q0.h := ⟨_, rfl⟩
  obtain ⟨ml, hml⟩ : ∃ ml, ml = q0.l := ⟨_, rfl⟩
  rw [show q0.lv.h = mh from hmh.symm, show q0.lv.l = ml from hml.symm] at hR2 HY
  have HR2 := Lib.hid hR2
  obtain ⟨gb, off, ha, _, d0, d1, -⟩ := (HRd.out w1 HS1.out.frm).at_ (i := 0) (q := q0) (by rw [hqs]; rfl)
  rw [← hmh] at d0
  rw [← hml] at d1
  subst ha
  simp only [Nat.zero_mul, Nat.add_zero] at d0 d1
  have i0' : (0 : Int) < (n : Int) := by omega
  clear hqs hR2 hgd hhd hmh hml hbd
  have k0 := (HS1.out.blk 1 rfl).cell 0 rfl
  have k1 := (HS1.out.blk 1 rfl).cell 1 rfl
  have k2 := (HS1.out.blk 1 rfl).cell 2 rfl
  have k3 := (HS1.out.blk 1 rfl).cell 3 rfl
  have k4 := (HS1.out.blk 1 rfl).cell 4 rfl
  have k5 := (HS1.out.blk 1 rfl).cell 5 rfl
  have k6 := (HS1.out.blk 1 rfl).cell 6 rfl
  have k7 := (HS1.out.blk 1 rfl).cell 7 rfl
  have k8 := (HS1.out.blk 1 rfl).cell 8 rfl
  have k9 := (HS1.out.blk 1 rfl).cell 9 rfl
  have k10 := (HS1.out.blk 1 rfl).cell 10 rfl
  have HS1b := Lib.hid (HS1.out.alloc #[.int .u64 (mh : Int), .int .u64 (ml : Int)] 42)
  go_upto_region 5 with fail
  obtain ⟨w1b, hw2⟩ : ∃ x, x = w1.alloc (.cells #[.int .u64 (mh : Int), .int .u64 (ml : Int)] 42) := ⟨_, rfl⟩
  obtain ⟨g, hg⟩ : ∃ x, x = w1.heap.size := ⟨_, rfl⟩
  have hsz : w1b.heap.size = g + 1 := by rw [hw2, hg]; simp
  rw [← hw2, ← hg] at HS1b
  rw [← hw2, ← hg]
  clear hw2 hg HS1 k0 k1 k2 k3 k4 k5 k6 k7 k8 k9 k10 d0 d1
  have m0 := (HS1b.out.blk 0 rfl).cell 0 rfl
  have m1 := (HS1b.out.blk 0 rfl).cell 1 rfl
  have k0 := (HS1b.out.blk 2 rfl).cell 0 rfl
  have k1 := (HS1b.out.blk 2 rfl).cell 1 rfl
  have k2 := (HS1b.out.blk 2 rfl).cell 2 rfl
  have k3 := (HS1b.out.blk 2 rfl).cell 3 rfl
  have k4 := (HS1b.out.blk 2 rfl).cell 4 rfl
  have k5 := (HS1b.out.blk 2 rfl).cell 5 rfl
  have k6 := (HS1b.out.blk 2 rfl).cell 6 rfl
  have k7 := (HS1b.out.blk 2 rfl).cell 7 rfl
  have k8 := (HS1b.out.blk 2 rfl).cell 8 rfl
  have k9 := (HS1b.out.blk 2 rfl).cell 9 rfl
  have k10 := (HS1b.out.blk 2 rfl).cell 10 rfl
  have HS2 := Lib.hid ((HS1b.out.alloc #[.int .u8 p, .int .u8 h1, .int .u8 h2, .int .u8 h3, .int .u8 h4, .int .u8 h5, .int .u8 h6, .int .u8 h7, .int .u16 bb, .int .u64 (mh : Int), .int .u64 (ml : Int), .slice none 0 0] 53).nil 5 1)
  rw [hsz] at HS2
  have e63 := HE1.out
  go_upto_region 7 with fail
  obtain ⟨w2, hw2⟩ : ∃ x, x = w1b.alloc (.cells #[.int .u8 p, .int .u8 h1, .int .u8 h2, .int .u8 h3, .int .u8 h4, .int .u8 h5, .int .u8 h6, .int .u8 h7, .int .u16 bb, .int .u64 (mh : Int), .int .u64 (ml : Int), .slice none 0 0] 53) := ⟨_, rfl⟩
  rw [← hw2] at HS2
  rw [← hw2]
  clear hw2 hsz HS1b k0 k1 k2 k3 k4 k5 k6 k7 k8 k9 k10 m0 m1 e63
  have k10 := (HS2.out.blk 4 rfl).cell 10 rfl
  go_wp2_with fail
  clear k10
  go_loopw [42] (fun i wr => ∃ (j : Nat) (v : Value), j ≤ n ∧ i = .int .i64 (j : Int) ∧ ((qs.map LvV.lv).take j).all (hasM mh ml) = true ∧ Sep [] w wr [sumR v (catB ((qs.map LvV.lv).take j)), blkR (g + 1) 53 #[.int .u8 p, .int .u8 h1, .int .u8 h2, .int .u8 h3, .int .u8 h4, .int .u8 h5, .int .u8 h6, .int .u8 h7, .int .u16 bb, .int .u64 (mh : Int), .int .u64 (ml : Int), v], blkR g 42 #[.int .u64 (mh : Int), .int .u64 (ml : Int)], blkR (o + 1) 53 #[.int .u8 0, .int .u8 0, .int .u8 0, .int .u8 0, .int .u8 0, .int .u8 0, .int .u8 0, .int .u8 0, .int .u16 0, .int .u64 0, .int .u64 0, .slice none 0 0], blkR o 29 #[.int .u8 h0, .int .u8 h1, .int .u8 h2, .int .u8 h3, .int .u8 h4, .int .u8 h5, .int .u8 h6, .int .u8 h7, .int .u16 bb, .bool lg, .slice (some ⟨gb, off, none⟩) n c]]) (fun i _ => n - (intOf i).toNat)
  case atStart => exact ⟨0, _, Nat.zero_le _, rfl, by simp, HS2.out⟩
  case round =>
    obtain ⟨j, v, hj, rfl, hall, hS⟩ := hrel
    have HT := Lib.hid hS
    have HAl := Lib.hid hall
    clear hS hall HS2
    obtain ⟨va, vc, rfl, _, _⟩ := own_shape (HT.out.own 0 rfl)
    have hcl := cat_len HBd.out j
    obtain ⟨C, hC⟩ : ∃ C, C = catB ((qs.map LvV.lv).take j) := ⟨_, rfl⟩
    rw [← hC] at HT hcl
    have HC := Lib.hid hC
    clear hC
    obtain ⟨k, hk⟩ : ∃ k, k = C.length := ⟨_, rfl⟩
    rw [← hk] at HT hcl
    have HK := Lib.hid hk
    clear hk
    by_cases hlt : j < n
    · obtain ⟨q, hq⟩ : ∃ q, qs[j]? = some q := ⟨_, List.getElem?_eq_getElem (by rw [← HN.out]; exact hlt)⟩
      obtain ⟨gb', off', ha, _, d0, d1, d2⟩ := (HRd.out wr HT.out.frm).at_ hq
      have hm := List.mem_of_getElem? hq
      have hbl := HBd.out q.lv (List.mem_map.2 ⟨q, hm, rfl⟩)
      obtain ⟨ab, cb, hbv, -⟩ := (HRd.out wr HT.out.frm).bod q hm
      have HSl := Lib.hid (fun X (hX : Frm [] w X) => (HRd.out X hX).bod q hm)
      have HA := Lib.hid (all_take_succ (hasM mh ml) (lv_at hq))
      have HCs := Lib.hid (cat_take_succ (lv_at hq))
      obtain ⟨qh, ql, qb, qB⟩ := q
      simp only [Option.some.injEq, Addr.mk.injEq] at ha
      obtain ⟨rfl, rfl, -⟩ := ha
      simp only [LvV.lv] at hbv d0 d1 d2 hbl HSl HA HCs
      subst hbv
      obtain ⟨m, hm2⟩ : ∃ m, m = qB.length := ⟨_, rfl⟩
      rw [← hm2] at d2 hbl
      have HM := Lib.hid hm2
      have i1 : (0 : Int) ≤ (j : Int) := by omega
      have i2 : (j : Int) < (n : Int) := by omega
      have HT2 := Lib.hid (HT.out.alloc #[.int .u64 (qh : Int), .int .u64 (ql : Int), .slice ab m cb] 44)
      clear hq hm hm2 HT
      go_upto_region 10 with fail
      obtain ⟨wx, hwx⟩ : ∃ wx, wx = wr.alloc (.cells #[.int .u64 (qh : Int), .int .u64 (ql : Int), .slice ab m cb] 44) := ⟨_, rfl⟩
      obtain ⟨q, hq⟩ : ∃ q, q = wr.heap.size := ⟨_, rfl⟩
      rw [← hwx, ← hq] at HT2
      rw [← hwx, ← hq]
      clear hwx hq d0 d1 d2
      obtain ⟨D2, hD2⟩ : ∃ D2 : Bool, D2 = decide (qh = mh) := ⟨_, rfl⟩
      obtain ⟨D6, hD6⟩ : ∃ D6 : Bool, D6 = decide (ql = ml) := ⟨_, rfl⟩
      have b2 : ((qh : Int) == (mh : Int)) = D2 := by rw [hD2]; exact decide_eq_decide.2 (by omega)
      have b6 : ((ql : Int) == (ml : Int)) = D6 := by rw [hD6]; exact decide_eq_decide.2 (by omega)
      have hhm : hasM mh ml ⟨qh, ql, qB⟩ = (D2 && D6) := by unfold hasM; rw [hD2, hD6]
      have HHm := Lib.hid hhm
      clear hD2 hD6 hhm
      have c0 := (HT2.out.blk 0 rfl).cell 0 rfl
      have c1 := (HT2.out.blk 0 rfl).cell 1 rfl
      have c2 := (HT2.out.blk 0 rfl).cell 2 rfl
      have m0 := (HT2.out.blk 3 rfl).cell 0 rfl
      have m1 := (HT2.out.blk 3 rfl).cell 1 rfl
      have HBad := Lib.hid (fun (h : (D2 && D6) = false) => (by
        have h2 := HA.out
        rw [HHm.out, h, Bool.and_false] at h2
        have h3 : ¬ (qs.map LvV.lv).all (hasM mh ml) = true := fun h4 => by
          have h5 : ((qs.map LvV.lv).take (j + 1)).all (hasM mh ml) = true := List.all_eq_true.2 (fun x hx => List.all_eq_true.1 h4 x (List.mem_of_mem_take hx))
          rw [h2] at h5
          cases h5
        rw [HR2.out, if_neg h3] : R = 30))
      cases D2 with
      | false =>
        obtain rfl : R = 30 := HBad.out (by simp)
        have HE0 := Lib.hid (show ¬ (30 : Int) = 0 by decide)
        have k0 := (HT2.out.blk 4 rfl).cell 0 rfl
        have k1 := (HT2.out.blk 4 rfl).cell 1 rfl
        have k2 := (HT2.out.blk 4 rfl).cell 2 rfl
        have k3 := (HT2.out.blk 4 rfl).cell 3 rfl
        have k4 := (HT2.out.blk 4 rfl).cell 4 rfl
        have k5 := (HT2.out.blk 4 rfl).cell 5 rfl
        have k6 := (HT2.out.blk 4 rfl).cell 6 rfl
        have k7 := (HT2.out.blk 4 rfl).cell 7 rfl
        have k8 := (HT2.out.blk 4 rfl).cell 8 rfl
        have k9 := (HT2.out.blk 4 rfl).cell 9 rfl
        have k10 := (HT2.out.blk 4 rfl).cell 10 rfl
        have k11 := (HT2.out.blk 4 rfl).cell 11 rfl
        have f0 := (HT2.out.blk 4 rfl).free 0
        have f1 := (HT2.out.blk 4 rfl).free 1
        have f2 := (HT2.out.blk 4 rfl).free 2
        have f3 := (HT2.out.blk 4 rfl).free 3
        have f4 := (HT2.out.blk 4 rfl).free 4
        have f5 := (HT2.out.blk 4 rfl).free 5
        have f6 := (HT2.out.blk 4 rfl).free 6
        have f7 := (HT2.out.blk 4 rfl).free 7
        have f8 := (HT2.out.blk 4 rfl).free 8
        have f9 := (HT2.out.blk 4 rfl).free 9
        have f10 := (HT2.out.blk 4 rfl).free 10
        have f11 := (HT2.out.blk 4 rfl).free 11
        go_wp2_with fail
        obtain ⟨w8, hw8⟩ : ∃ w8, w8 = ((((((((((((wx.setCell ⟨(o + 1), 0, none⟩ (.int .u8 0)).setCell ⟨(o + 1), 1, none⟩ (.int .u8 0)).setCell ⟨(o + 1), 2, none⟩ (.int .u8 0)).setCell ⟨(o + 1), 3, none⟩ (.int .u8 0)).setCell ⟨(o + 1), 4, none⟩ (.int .u8 0)).setCell ⟨(o + 1), 5, none⟩ (.int .u8 0)).setCell ⟨(o + 1), 6, none⟩ (.int .u8 0)).setCell ⟨(o + 1), 7, none⟩ (.int .u8 0)).setCell ⟨(o + 1), 8, none⟩ (.int .u16 0)).setCell ⟨(o + 1), 9, none⟩ (.int .u64 0)).setCell ⟨(o + 1), 10, none⟩ (.int .u64 0)).setCell ⟨(o + 1), 11, none⟩ (.slice none 0 0)) := ⟨_, rfl⟩
        have HS8 := Lib.hid (show Sep [] w w8 [blkR q 44 #[.int .u64 (qh : Int), .int .u64 (ql : Int), .slice ab m cb], sumR (.slice va k vc) C, blkR (g + 1) 53 #[.int .u8 p, .int .u8 h1, .int .u8 h2, .int .u8 h3, .int .u8 h4, .int .u8 h5, .int .u8 h6, .int .u8 h7, .int .u16 bb, .int .u64 (mh : Int), .int .u64 (ml : Int), .slice va k vc], blkR g 42 #[.int .u64 (mh : Int), .int .u64 (ml : Int)], blkR (o + 1) 53 #[.int .u8 0, .int .u8 0, .int .u8 0, .int .u8 0, .int .u8 0, .int .u8 0, .int .u8 0, .int .u8 0, .int .u16 0, .int .u64 0, .int .u64 0, .slice none 0 0], blkR o 29 #[.int .u8 h0, .int .u8 h1, .int .u8 h2, .int .u8 h3, .int .u8 h4, .int .u8 h5, .int .u8 h6, .int .u8 h7, .int .u16 bb, .bool lg, .slice (some ⟨gb, off, none⟩) n c]] from hw8 ▸ HT2.out.puts 4 rfl [.int .u8 0, .int .u8 0, .int .u8 0, .int .u8 0, .int .u8 0, .int .u8 0, .int .u8 0, .int .u8 0, .int .u16 0, .int .u64 0, .int .u64 0, .slice none 0 0] rfl)
        rw [← hw8]
        clear hw8 k0 k1 k2 k3 k4 k5 k6 k7 k8 k9 k10 k11 f0 f1 f2 f3 f4 f5 f6 f7 f8 f9 f10 f11
        have z0 := (HS8.out.blk 4 rfl).cell 0 rfl
        have z1 := (HS8.out.blk 4 rfl).cell 1 rfl
        have z2 := (HS8.out.blk 4 rfl).cell 2 rfl
        have z3 := (HS8.out.blk 4 rfl).cell 3 rfl
        have z4 := (HS8.out.blk 4 rfl).cell 4 rfl
        have z5 := (HS8.out.blk 4 rfl).cell 5 rfl
        have z6 := (HS8.out.blk 4 rfl).cell 6 rfl
        have z7 := (HS8.out.blk 4 rfl).cell 7 rfl
        have z8 := (HS8.out.blk 4 rfl).cell 8 rfl
        have z9 := (HS8.out.blk 4 rfl).cell 9 rfl
        have z10 := (HS8.out.blk 4 rfl).cell 10 rfl
        have z11 := (HS8.out.blk 4 rfl).cell 11 rfl
        refine bodyPost_ret (v := .tuple #[.agg #[.int .u8 0, .int .u8 0, .int .u8 0, .int .u8 0, .int .u8 0, .int .u8 0, .int .u8 0, .int .u8 0, .int .u16 0, .int .u64 0, .int .u64 0, .slice none 0 0], .int .i64 30]) ?_ rfl ⟨none, 0, 0, by rw [HY.out, if_neg HE0.out]; rfl, by rw [HY.out, if_neg HE0.out]; exact (HS8.out.nil 5 1).at_ [0] (by decide) rfl⟩
        simp [results, Tryd.results18, go_sem, z0, z1, z2, z3, z4, z5, z6, z7, z8, z9, z10, z11]
      | true =>
        cases D6 with
        | false =>
          obtain rfl : R = 30 := HBad.out (by simp)
          have HE0 := Lib.hid (show ¬ (30 : Int) = 0 by decide)
          have k0 := (HT2.out.blk 4 rfl).cell 0 rfl
          have k1 := (HT2.out.blk 4 rfl).cell 1 rfl
          have k2 := (HT2.out.blk 4 rfl).cell 2 rfl
          have k3 := (HT2.out.blk 4 rfl).cell 3 rfl
          have k4 := (HT2.out.blk 4 rfl).cell 4 rfl
          have k5 := (HT2.out.blk 4 rfl).cell 5 rfl
          have k6 := (HT2.out.blk 4 rfl).cell 6 rfl
          have k7 := (HT2.out.blk 4 rfl).cell 7 rfl
          have k8 := (HT2.out.blk 4 rfl).cell 8 rfl
          have k9 := (HT2.out.blk 4 rfl).cell 9 rfl
          have k10 := (HT2.out.blk 4 rfl).cell 10 rfl
          have k11 := (HT2.out.blk 4 rfl).cell 11 rfl
          have f0 := (HT2.out.blk 4 rfl).free 0
          have f1 := (HT2.out.blk 4 rfl).free 1
          have f2 := (HT2.out.blk 4 rfl).free 2
          have f3 := (HT2.out.blk 4 rfl).free 3
          have f4 := (HT2.out.blk 4 rfl).free 4
          have f5 := (HT2.out.blk 4 rfl).free 5
          have f6 := (HT2.out.blk 4 rfl).free 6
          have f7 := (HT2.out.blk 4 rfl).free 7
          have f8 := (HT2.out.blk 4 rfl).free 8
          have f9 := (HT2.out.blk 4 rfl).free 9
          have f10 := (HT2.out.blk 4 rfl).free 10
          have f11 := (HT2.out.blk 4 rfl).free 11
          go_wp2_with fail
          obtain ⟨w8, hw8⟩ : ∃ w8, w8 = ((((((((((((wx.setCell ⟨(o + 1), 0, none⟩ (.int .u8 0)).setCell ⟨(o + 1), 1, none⟩ (.int .u8 0)).setCell ⟨(o + 1), 2, none⟩ (.int .u8 0)).setCell ⟨(o + 1), 3, none⟩ (.int .u8 0)).setCell ⟨(o + 1), 4, none⟩ (.int .u8 0)).setCell ⟨(o + 1), 5, none⟩ (.int .u8 0)).setCell ⟨(o + 1), 6, none⟩ (.int .u8 0)).setCell ⟨(o + 1), 7, none⟩ (.int .u8 0)).setCell ⟨(o + 1), 8, none⟩ (.int .u16 0)).setCell ⟨(o + 1), 9, none⟩ (.int .u64 0)).setCell ⟨(o + 1), 10, none⟩ (.int .u64 0)).setCell ⟨(o + 1), 11, none⟩ (.slice none 0 0)) := ⟨_, rfl⟩
          have HS8 := Lib.hid (show Sep [] w w8 [blkR q 44 #[.int .u64 (qh : Int), .int .u64 (ql : Int), .slice ab m cb], sumR (.slice va k vc) C, blkR (g + 1) 53 #[.int .u8 p, .int .u8 h1, .int .u8 h2, .int .u8 h3, .int .u8 h4, .int .u8 h5, .int .u8 h6, .int .u8 h7, .int .u16 bb, .int .u64 (mh : Int), .int .u64 (ml : Int), .slice va k vc], blkR g 42 #[.int .u64 (mh : Int), .int .u64 (ml : Int)], blkR (o + 1) 53 #[.int .u8 0, .int .u8 0, .int .u8 0, .int .u8 0, .int .u8 0, .int .u8 0, .int .u8 0, .int .u8 0, .int .u16 0, .int .u64 0, .int .u64 0, .slice none 0 0], blkR o 29 #[.int .u8 h0, .int .u8 h1, .int .u8 h2, .int .u8 h3, .int .u8 h4, .int .u8 h5, .int .u8 h6, .int .u8 h7, .int .u16 bb, .bool lg, .slice (some ⟨gb, off, none⟩) n c]] from hw8 ▸ HT2.out.puts 4 rfl [.int .u8 0, .int .u8 0, .int .u8 0, .int .u8 0, .int .u8 0, .int .u8 0, .int .u8 0, .int .u8 0, .int .u16 0, .int .u64 0, .int .u64 0, .slice none 0 0] rfl)
          rw [← hw8]
          clear hw8 k0 k1 k2 k3 k4 k5 k6 k7 k8 k9 k10 k11 f0 f1 f2 f3 f4 f5 f6 f7 f8 f9 f10 f11
          have z0 := (HS8.out.blk 4 rfl).cell 0 rfl
          have z1 := (HS8.out.blk 4 rfl).cell 1 rfl
          have z2 := (HS8.out.blk 4 rfl).cell 2 rfl
          have z3 := (HS8.out.blk 4 rfl).cell 3 rfl
          have z4 := (HS8.out.blk 4 rfl).cell 4 rfl
          have z5 := (HS8.out.blk 4 rfl).cell 5 rfl
          have z6 := (HS8.out.blk 4 rfl).cell 6 rfl
          have z7 := (HS8.out.blk 4 rfl).cell 7 rfl
          have z8 := (HS8.out.blk 4 rfl).cell 8 rfl
          have z9 := (HS8.out.blk 4 rfl).cell 9 rfl
          have z10 := (HS8.out.blk 4 rfl).cell 10 rfl
          have z11 := (HS8.out.blk 4 rfl).cell 11 rfl
          refine bodyPost_ret (v := .tuple #[.agg #[.int .u8 0, .int .u8 0, .int .u8 0, .int .u8 0, .int .u8 0, .int .u8 0, .int .u8 0, .int .u8 0, .int .u16 0, .int .u64 0, .int .u64 0, .slice none 0 0], .int .i64 30]) ?_ rfl ⟨none, 0, 0, by rw [HY.out, if_neg HE0.out]; rfl, by rw [HY.out, if_neg HE0.out]; exact (HS8.out.nil 5 1).at_ [0] (by decide) rfl⟩
          simp [results, Tryd.results18, go_sem, z0, z1, z2, z3, z4, z5, z6, z7, z8, z9, z10, z11]
        | true =>
          clear HBad
          have hall2 : ((qs.map LvV.lv).take (j + 1)).all (hasM mh ml) = true := by rw [HA.out, HAl.out, HHm.out]; rfl
          have HAl2 := Lib.hid hall2
          obtain ⟨ab', cb', hv', rdb, hnb, -⟩ := HSl.out wx HT2.out.frm
          simp only [Value.slice.injEq] at hv'
          obtain ⟨hv1, hv2, hv3⟩ := hv'
          rw [← hv1] at rdb hnb
          rw [← hv3] at hnb
          have HRb := Lib.hid rdb
          have HNb := Lib.hid hnb
          have r11 := (HT2.out.blk 2 rfl).cell 11 rfl
          clear hall2 rdb hnb hv1 hv2 hv3
          go_upto_region 12 with fail
          go_wp2_with (at_builtin; go_must (refine wpList_append_said rfl _ _ 22 rfl 1 5 i0 (.int .u8 0) 1 Tryd.underlying22 hi hz0 hz1 hz2 rfl .u8 _ C.length (C.map (Value.int .u8)) rfl HT2.out rfl ab cb m qB HM.out.symm rfl HNb.out HRb.out (k + m) (by rw [HK.out]) ((C ++ qB).map (Value.int .u8)) (by rw [List.map_append]) (by unfold maxLen; omega) (by omega) ?_); intro v4 w4 hS4; obtain ⟨a4, p4, rfl, _, _⟩ := own_shape (hS4.own 1 rfl); have HS4 := Lib.hid hS4; have c4 := (hS4.blk 2 rfl).cell 11 rfl; have f4 := (hS4.blk 2 rfl).free 11; clear hS4)
          have hcat : C ++ qB = catB ((qs.map LvV.lv).take (j + 1)) := by rw [HCs.out, ← HC.out]
          have HS5 := Lib.hid (show Sep [] w (w4.setCell ⟨g + 1, 11, none⟩ (.slice a4 (k + m) p4)) [sumR (.slice a4 (k + m) p4) (catB ((qs.map LvV.lv).take (j + 1))), blkR (g + 1) 53 #[.int .u8 p, .int .u8 h1, .int .u8 h2, .int .u8 h3, .int .u8 h4, .int .u8 h5, .int .u8 h6, .int .u8 h7, .int .u16 bb, .int .u64 (mh : Int), .int .u64 (ml : Int), .slice a4 (k + m) p4], blkR g 42 #[.int .u64 (mh : Int), .int .u64 (ml : Int)], blkR (o + 1) 53 #[.int .u8 0, .int .u8 0, .int .u8 0, .int .u8 0, .int .u8 0, .int .u8 0, .int .u8 0, .int .u8 0, .int .u16 0, .int .u64 0, .int .u64 0, .slice none 0 0], blkR o 29 #[.int .u8 h0, .int .u8 h1, .int .u8 h2, .int .u8 h3, .int .u8 h4, .int .u8 h5, .int .u8 h6, .int .u8 h7, .int .u16 bb, .bool lg, .slice (some ⟨gb, off, none⟩) n c]] from by
            have h := (HS4.out.put 2 rfl 11 (.slice a4 (k + m) p4)).at_ [1, 2, 3, 4, 5] (by decide) rfl
            rw [← hcat]
            unfold sumR
            rw [show (C ++ qB).length = k + m by rw [List.length_append, HK.out, HM.out]]
            exact h)
          clear hcat HS4 c4 f4 c0 c1 c2 m0 m1 r11
          go_roundw
          case rel => exact ⟨j + 1, _, by omega, by go_num, HAl2.out, HS5.out⟩
          case measure => simp [intOf]; omega
    · obtain rfl : j = n := by omega
      have hR0 : R = 0 := by
        rw [HR2.out, if_pos]
        have h := HAl.out
        rwa [List.take_of_length_le (by rw [List.length_map, ← HN.out]; exact Nat.le_refl _)] at h
      have hCC : catB (qs.map LvV.lv) = C := by rw [HC.out, List.take_of_length_le (by rw [List.length_map, ← HN.out]; exact Nat.le_refl _)]
      subst hR0
      have hYY : Y = ⟨p, h1, h2, h3, h4, h5, h6, h7, bb, mh, ml, C⟩ := by rw [HY.out, if_pos rfl, hCC]
      have HYY := Lib.hid hYY
      clear hYY hCC
      have q0 := (HT.out.blk 1 rfl).cell 0 rfl
      have q1 := (HT.out.blk 1 rfl).cell 1 rfl
      have q2 := (HT.out.blk 1 rfl).cell 2 rfl
      have q3 := (HT.out.blk 1 rfl).cell 3 rfl
      have q4 := (HT.out.blk 1 rfl).cell 4 rfl
      have q5 := (HT.out.blk 1 rfl).cell 5 rfl
      have q6 := (HT.out.blk 1 rfl).cell 6 rfl
      have q7 := (HT.out.blk 1 rfl).cell 7 rfl
      have q8 := (HT.out.blk 1 rfl).cell 8 rfl
      have q9 := (HT.out.blk 1 rfl).cell 9 rfl
      have q10 := (HT.out.blk 1 rfl).cell 10 rfl
      have q11 := (HT.out.blk 1 rfl).cell 11 rfl
      have z0 := (HT.out.blk 3 rfl).cell 0 rfl
      have z1 := (HT.out.blk 3 rfl).cell 1 rfl
      have z2 := (HT.out.blk 3 rfl).cell 2 rfl
      have z3 := (HT.out.blk 3 rfl).cell 3 rfl
      have z4 := (HT.out.blk 3 rfl).cell 4 rfl
      have z5 := (HT.out.blk 3 rfl).cell 5 rfl
      have z6 := (HT.out.blk 3 rfl).cell 6 rfl
      have z7 := (HT.out.blk 3 rfl).cell 7 rfl
      have z8 := (HT.out.blk 3 rfl).cell 8 rfl
      have z9 := (HT.out.blk 3 rfl).cell 9 rfl
      have z10 := (HT.out.blk 3 rfl).cell 10 rfl
      have z11 := (HT.out.blk 3 rfl).cell 11 rfl
      have f0 := (HT.out.blk 3 rfl).free 0
      have f1 := (HT.out.blk 3 rfl).free 1
      have f2 := (HT.out.blk 3 rfl).free 2
      have f3 := (HT.out.blk 3 rfl).free 3
      have f4 := (HT.out.blk 3 rfl).free 4
      have f5 := (HT.out.blk 3 rfl).free 5
      have f6 := (HT.out.blk 3 rfl).free 6
      have f7 := (HT.out.blk 3 rfl).free 7
      have f8 := (HT.out.blk 3 rfl).free 8
      have f9 := (HT.out.blk 3 rfl).free 9
      have f10 := (HT.out.blk 3 rfl).free 10
      have f11 := (HT.out.blk 3 rfl).free 11
      go_wp2_with fail
      obtain ⟨w8, hw8⟩ : ∃ w8, w8 = ((((((((((((wr.setCell ⟨(o + 1), 0, none⟩ (.int .u8 p)).setCell ⟨(o + 1), 1, none⟩ (.int .u8 h1)).setCell ⟨(o + 1), 2, none⟩ (.int .u8 h2)).setCell ⟨(o + 1), 3, none⟩ (.int .u8 h3)).setCell ⟨(o + 1), 4, none⟩ (.int .u8 h4)).setCell ⟨(o + 1), 5, none⟩ (.int .u8 h5)).setCell ⟨(o + 1), 6, none⟩ (.int .u8 h6)).setCell ⟨(o + 1), 7, none⟩ (.int .u8 h7)).setCell ⟨(o + 1), 8, none⟩ (.int .u16 bb)).setCell ⟨(o + 1), 9, none⟩ (.int .u64 (mh : Int))).setCell ⟨(o + 1), 10, none⟩ (.int .u64 (ml : Int))).setCell ⟨(o + 1), 11, none⟩ (.slice va k vc)) := ⟨_, rfl⟩
      have HS8 := Lib.hid (show Sep [] w w8 [sumR (.slice va k vc) C, blkR (g + 1) 53 #[.int .u8 p, .int .u8 h1, .int .u8 h2, .int .u8 h3, .int .u8 h4, .int .u8 h5, .int .u8 h6, .int .u8 h7, .int .u16 bb, .int .u64 (mh : Int), .int .u64 (ml : Int), .slice va k vc], blkR g 42 #[.int .u64 (mh : Int), .int .u64 (ml : Int)], blkR (o + 1) 53 #[.int .u8 p, .int .u8 h1, .int .u8 h2, .int .u8 h3, .int .u8 h4, .int .u8 h5, .int .u8 h6, .int .u8 h7, .int .u16 bb, .int .u64 (mh : Int), .int .u64 (ml : Int), .slice va k vc], blkR o 29 #[.int .u8 h0, .int .u8 h1, .int .u8 h2, .int .u8 h3, .int .u8 h4, .int .u8 h5, .int .u8 h6, .int .u8 h7, .int .u16 bb, .bool lg, .slice (some ⟨gb, off, none⟩) j c]] from hw8 ▸ HT.out.puts 3 rfl [.int .u8 p, .int .u8 h1, .int .u8 h2, .int .u8 h3, .int .u8 h4, .int .u8 h5, .int .u8 h6, .int .u8 h7, .int .u16 bb, .int .u64 (mh : Int), .int .u64 (ml : Int), .slice va k vc] rfl)
      rw [← hw8]
      clear hw8 q0 q1 q2 q3 q4 q5 q6 q7 q8 q9 q10 q11 z0 z1 z2 z3 z4 z5 z6 z7 z8 z9 z10 z11 f0 f1 f2 f3 f4 f5 f6 f7 f8 f9 f10 f11
      have z0 := (HS8.out.blk 3 rfl).cell 0 rfl
      have z1 := (HS8.out.blk 3 rfl).cell 1 rfl
      have z2 := (HS8.out.blk 3 rfl).cell 2 rfl
      have z3 := (HS8.out.blk 3 rfl).cell 3 rfl
      have z4 := (HS8.out.blk 3 rfl).cell 4 rfl
      have z5 := (HS8.out.blk 3 rfl).cell 5 rfl
      have z6 := (HS8.out.blk 3 rfl).cell 6 rfl
      have z7 := (HS8.out.blk 3 rfl).cell 7 rfl
      have z8 := (HS8.out.blk 3 rfl).cell 8 rfl
      have z9 := (HS8.out.blk 3 rfl).cell 9 rfl
      have z10 := (HS8.out.blk 3 rfl).cell 10 rfl
      have z11 := (HS8.out.blk 3 rfl).cell 11 rfl
      refine bodyPost_ret (v := .tuple #[.agg #[.int .u8 p, .int .u8 h1, .int .u8 h2, .int .u8 h3, .int .u8 h4, .int .u8 h5, .int .u8 h6, .int .u8 h7, .int .u16 bb, .int .u64 (mh : Int), .int .u64 (ml : Int), .slice va k vc], .int .i64 0]) ?_ rfl ⟨va, k, vc, by rw [HYY.out]; rfl, by rw [HYY.out]; exact HS8.out.at_ [0] (by decide) rfl⟩
      simp [results, Tryd.results18, go_sem, z0, z1, z2, z3, z4, z5, z6, z7, z8, z9, z10, z11]

end Go.Proofs.YtjflcijiaennkaaDoor
