/-
  THE WALK of confluxref09.Flat. Printed by gen_ulv.py.
-/
import Derived.Test.YtjflcijiaennkaaDoorUlU
set_option linter.unusedVariables false
set_option linter.unusedSimpArgs false
namespace Go.Proofs.YtjflcijiaennkaaDoor
open Go.RowKit

set_option maxRecDepth 100000 in
set_option maxHeartbeats 16000000 in
theorem urflat_c (x : Ul) (a : Option Addr) (c : Nat) (qs : List LvV) (w : World) (hq : qs.map LvV.lv = x.Ls) (hok : x.Ok) (rd : RdLs w a qs) (hn : qs.length ≤ 1000000) (hbl : ∀ q ∈ qs, q.B.length ≤ 1000000) :
    Calls Tryd.prog 19 #[x.val (.slice a qs.length c)] w (RprP w (ufX x) (ufE x)) := by
  have HW := Lib.hid (fun X (hX : Frm [] w X) => urwrite_c x a c qs X hq hok (rd.frm hX) hn hbl)
  have HG := Lib.hid (fun (h : uweX x = 0) => ugood_of (we_nz h))
  have HRd := Lib.hid (fun X (hX : Frm [] w X) => rd.frm hX)
  obtain ⟨E, hE⟩ : ∃ E, E = uweX x := ⟨_, rfl⟩
  obtain ⟨R, hR⟩ : ∃ R, R = ufE x := ⟨_, rfl⟩
  unfold ufX
  rw [← hR]
  unfold ufE at hR
  rw [← hE] at hR HW HG
  obtain ⟨O, hO⟩ : ∃ O, O = uwoX x := ⟨_, rfl⟩
  rw [← hO] at HW
  have r0 := hok.r0
  clear hE hO rd hok
  obtain ⟨h0, h1, h2, h3, h4, h5, h6, h7, bb, lg, Ls⟩ := x
  simp only [Rp.val, Rp.cells, Ul.val, Ul.cells] at *
  subst hq
  obtain ⟨n, hn2⟩ : ∃ n, n = qs.length := ⟨_, rfl⟩
  rw [← hn2] at HW hn ⊢
  have HN := Lib.hid hn2
  clear hn2
  have e1 : Int.tmod h0 64 = h0 % 64 := Int.tmod_eq_emod_of_nonneg r0.1
  obtain ⟨p, hp⟩ : ∃ p, p = h0 % 64 := ⟨_, rfl⟩
  rw [← hp] at e1 ⊢
  have HE1 := Lib.hid e1
  have HR := Lib.hid hR
  obtain ⟨Y, hY⟩ : ∃ Y : Rp, Y = if R = 0 then ⟨p, h1, h2, h3, h4, h5, h6, h7, bb, (headL (qs.map LvV.lv)).h, (headL (qs.map LvV.lv)).l, catB (qs.map LvV.lv)⟩ else Rp.none := ⟨_, rfl⟩
  rw [← hY]
  have HY := Lib.hid hY
  clear hp e1 hY hR r0 hbl
  have HS0 := Lib.hid (((Sep.init w).alloc #[.int .u8 h0, .int .u8 h1, .int .u8 h2, .int .u8 h3, .int .u8 h4, .int .u8 h5, .int .u8 h6, .int .u8 h7, .int .u16 bb, .bool lg, .slice a n c] 35).alloc #[.int .u8 0, .int .u8 0, .int .u8 0, .int .u8 0, .int .u8 0, .int .u8 0, .int .u8 0, .int .u8 0, .int .u16 0, .int .u64 0, .int .u64 0, .slice none 0 0] 53)
  simp only [World.size_alloc] at HS0
  go_enter Tryd.func19, Tryd.ntmps19
  go_upto_region 1 with fail
  obtain ⟨w0, hw1⟩ : ∃ w1, w1 = (w.alloc (.cells #[.int .u8 h0, .int .u8 h1, .int .u8 h2, .int .u8 h3, .int .u8 h4, .int .u8 h5, .int .u8 h6, .int .u8 h7, .int .u16 bb, .bool lg, .slice a n c] 35)).alloc (.cells #[.int .u8 0, .int .u8 0, .int .u8 0, .int .u8 0, .int .u8 0, .int .u8 0, .int .u8 0, .int .u8 0, .int .u16 0, .int .u64 0, .int .u64 0, .slice none 0 0] 53) := ⟨_, rfl⟩
  obtain ⟨o, ho⟩ : ∃ o, o = w.heap.size := ⟨_, rfl⟩
  rw [← hw1, ← ho] at HS0
  rw [← hw1, ← ho]
  clear hw1 ho
  have z0 := (HS0.out.blk 1 rfl).cell 0 rfl
  have z1 := (HS0.out.blk 1 rfl).cell 1 rfl
  have z2 := (HS0.out.blk 1 rfl).cell 2 rfl
  have z3 := (HS0.out.blk 1 rfl).cell 3 rfl
  have z4 := (HS0.out.blk 1 rfl).cell 4 rfl
  have z5 := (HS0.out.blk 1 rfl).cell 5 rfl
  have z6 := (HS0.out.blk 1 rfl).cell 6 rfl
  have z7 := (HS0.out.blk 1 rfl).cell 7 rfl
  have z8 := (HS0.out.blk 1 rfl).cell 8 rfl
  have z9 := (HS0.out.blk 1 rfl).cell 9 rfl
  have z10 := (HS0.out.blk 1 rfl).cell 10 rfl
  go_wp2_with fail
  refine (HW.out w0 HS0.out.frm).mono ?_
  rintro e w1 ⟨v7, rfl, hS7⟩
  have HS1 := Lib.hid (show Sep [] w w1 [blkR (o + 1) 53 #[.int .u8 0, .int .u8 0, .int .u8 0, .int .u8 0, .int .u8 0, .int .u8 0, .int .u8 0, .int .u8 0, .int .u16 0, .int .u64 0, .int .u64 0, .slice none 0 0], blkR o 35 #[.int .u8 h0, .int .u8 h1, .int .u8 h2, .int .u8 h3, .int .u8 h4, .int .u8 h5, .int .u8 h6, .int .u8 h7, .int .u16 bb, .bool lg, .slice a n c]] from HS0.out.keep hS7.frm)
  clear hS7 HS0 z0 z1 z2 z3 z4 z5 z6 z7 z8 z9 z10 HW
  by_cases hE0 : E = 0
  case neg =>
    obtain rfl : R = E := by rw [HR.out, if_pos hE0]
    have d0 : (R != 0) = true := by simp [hE0]
    have HE0 := Lib.hid hE0
    clear hE0
    have k0 := (HS1.out.blk 0 rfl).cell 0 rfl
    have k1 := (HS1.out.blk 0 rfl).cell 1 rfl
    have k2 := (HS1.out.blk 0 rfl).cell 2 rfl
    have k3 := (HS1.out.blk 0 rfl).cell 3 rfl
    have k4 := (HS1.out.blk 0 rfl).cell 4 rfl
    have k5 := (HS1.out.blk 0 rfl).cell 5 rfl
    have k6 := (HS1.out.blk 0 rfl).cell 6 rfl
    have k7 := (HS1.out.blk 0 rfl).cell 7 rfl
    have k8 := (HS1.out.blk 0 rfl).cell 8 rfl
    have k9 := (HS1.out.blk 0 rfl).cell 9 rfl
    have k10 := (HS1.out.blk 0 rfl).cell 10 rfl
    have k11 := (HS1.out.blk 0 rfl).cell 11 rfl
    have f0 := (HS1.out.blk 0 rfl).free 0
    have f1 := (HS1.out.blk 0 rfl).free 1
    have f2 := (HS1.out.blk 0 rfl).free 2
    have f3 := (HS1.out.blk 0 rfl).free 3
    have f4 := (HS1.out.blk 0 rfl).free 4
    have f5 := (HS1.out.blk 0 rfl).free 5
    have f6 := (HS1.out.blk 0 rfl).free 6
    have f7 := (HS1.out.blk 0 rfl).free 7
    have f8 := (HS1.out.blk 0 rfl).free 8
    have f9 := (HS1.out.blk 0 rfl).free 9
    have f10 := (HS1.out.blk 0 rfl).free 10
    have f11 := (HS1.out.blk 0 rfl).free 11
    go_wp2_with fail
    obtain ⟨w8, hw8⟩ : ∃ w8, w8 = ((((((((((((w1.setCell ⟨(o + 1), 0, none⟩ (.int .u8 0)).setCell ⟨(o + 1), 1, none⟩ (.int .u8 0)).setCell ⟨(o + 1), 2, none⟩ (.int .u8 0)).setCell ⟨(o + 1), 3, none⟩ (.int .u8 0)).setCell ⟨(o + 1), 4, none⟩ (.int .u8 0)).setCell ⟨(o + 1), 5, none⟩ (.int .u8 0)).setCell ⟨(o + 1), 6, none⟩ (.int .u8 0)).setCell ⟨(o + 1), 7, none⟩ (.int .u8 0)).setCell ⟨(o + 1), 8, none⟩ (.int .u16 0)).setCell ⟨(o + 1), 9, none⟩ (.int .u64 0)).setCell ⟨(o + 1), 10, none⟩ (.int .u64 0)).setCell ⟨(o + 1), 11, none⟩ (.slice none 0 0)) := ⟨_, rfl⟩
    have HS8 := Lib.hid (show Sep [] w w8 [blkR (o + 1) 53 #[.int .u8 0, .int .u8 0, .int .u8 0, .int .u8 0, .int .u8 0, .int .u8 0, .int .u8 0, .int .u8 0, .int .u16 0, .int .u64 0, .int .u64 0, .slice none 0 0], blkR o 35 #[.int .u8 h0, .int .u8 h1, .int .u8 h2, .int .u8 h3, .int .u8 h4, .int .u8 h5, .int .u8 h6, .int .u8 h7, .int .u16 bb, .bool lg, .slice a n c]] from hw8 ▸ HS1.out.puts 0 rfl [.int .u8 0, .int .u8 0, .int .u8 0, .int .u8 0, .int .u8 0, .int .u8 0, .int .u8 0, .int .u8 0, .int .u16 0, .int .u64 0, .int .u64 0, .slice none 0 0] rfl)
    rw [← hw8]
    clear hw8 k0 k1 k2 k3 k4 k5 k6 k7 k8 k9 k10 k11 f0 f1 f2 f3 f4 f5 f6 f7 f8 f9 f10 f11
    have z0 := (HS8.out.blk 0 rfl).cell 0 rfl
    have z1 := (HS8.out.blk 0 rfl).cell 1 rfl
    have z2 := (HS8.out.blk 0 rfl).cell 2 rfl
    have z3 := (HS8.out.blk 0 rfl).cell 3 rfl
    have z4 := (HS8.out.blk 0 rfl).cell 4 rfl
    have z5 := (HS8.out.blk 0 rfl).cell 5 rfl
    have z6 := (HS8.out.blk 0 rfl).cell 6 rfl
    have z7 := (HS8.out.blk 0 rfl).cell 7 rfl
    have z8 := (HS8.out.blk 0 rfl).cell 8 rfl
    have z9 := (HS8.out.blk 0 rfl).cell 9 rfl
    have z10 := (HS8.out.blk 0 rfl).cell 10 rfl
    have z11 := (HS8.out.blk 0 rfl).cell 11 rfl
    refine bodyPost_ret (v := .tuple #[.agg #[.int .u8 0, .int .u8 0, .int .u8 0, .int .u8 0, .int .u8 0, .int .u8 0, .int .u8 0, .int .u8 0, .int .u16 0, .int .u64 0, .int .u64 0, .slice none 0 0], .int .i64 R]) ?_ rfl ⟨none, 0, 0, by rw [HY.out, if_neg HE0.out]; rfl, by rw [HY.out, if_neg HE0.out]; exact (HS8.out.nil 5 1).at_ [0] (by decide) rfl⟩
    simp [results, Tryd.results19, go_sem, z0, z1, z2, z3, z4, z5, z6, z7, z8, z9, z10, z11]
  subst hE0
  have hR2 : R = if (qs.map LvV.lv).all (hasM (headL (qs.map LvV.lv)).h (headL (qs.map LvV.lv)).l) = true then 0 else 30 := by rw [HR.out, if_neg (by decide)]
  have hgd := HG.out rfl
  obtain ⟨q0, qs', hqs⟩ : ∃ q qs', qs = q :: qs' := by
    cases qs with
    | nil => exact absurd rfl hgd.n0
    | cons q qs' => exact ⟨q, qs', rfl⟩
  have hn0 : 0 < n := by rw [HN.out, hqs]; simp
  have hn3 : n ≤ 2 := by have := hgd.n2; simp only [List.length_map] at this; rw [HN.out]; exact this
  have hbd : ∀ q ∈ qs.map LvV.lv, q.B.length ≤ 1500 := hgd.body
  have HBd := Lib.hid hbd
  have hhd : headL (qs.map LvV.lv) = q0.lv := by rw [hqs]; rfl
  rw [hhd] at hR2 HY
  have HQs := Lib.hid hqs
  have HCx := Lib.hid (fun X (hX : Frm [] w X) => (HRd.out X hX).at_ (i := 0) (q := q0) (by rw [hqs]; rfl))
  obtain ⟨mh, hmh⟩ : ∃ mh, mh = q0.h := ⟨_, rfl⟩
  obtain ⟨ml, hml⟩ : ∃ ml, ml = q0.l := ⟨_, rfl⟩
  rw [show q0.lv.h = mh from hmh.symm, show q0.lv.l = ml from hml.symm] at hR2 HY
  have HR2 := Lib.hid hR2
  obtain ⟨gb, off, ha, hgb, -⟩ := HCx.out w (Frm.refl _ _)
  subst ha
  have HC1 := Lib.hid (fun X (hX : Frm [] w X) => (by
    obtain ⟨b', o', e, _, h1, h2, h3⟩ := HCx.out X hX
    simp only [Option.some.injEq, Addr.mk.injEq, Nat.zero_mul, Nat.add_zero] at e h1 h2
    rw [← e.1, ← e.2.1] at h1 h2
    rw [hmh, hml]
    exact ⟨h1, h2⟩ : X.cell? ⟨gb, off, none⟩ = some (.int .u64 (mh : Int)) ∧ X.cell? ⟨gb, off + 1, none⟩ = some (.int .u64 (ml : Int))))
  have i0' : (0 : Int) < (n : Int) := by omega
  clear hqs hR2 hgd hhd hmh hml hbd HCx
  go_upto_region 4 with fail
  have HB := Lib.hid (show o < w1.heap.size ∧ o + 1 < w1.heap.size ∧ w.heap.size ≤ w1.heap.size from ⟨(HS1.out.blk 1 rfl).lt, (HS1.out.blk 0 rfl).lt, HS1.out.frm.size⟩)
  refine region_segsA (ty := 53) (z := #[.int .u8 0, .int .u8 0, .int .u8 0, .int .u8 0, .int .u8 0, .int .u8 0, .int .u8 0, .int .u8 0, .int .u16 0, .int .u64 0, .int .u64 0, .slice none 0 0]) [0, 1, 2, 3, 4, 5, 6, 7, 8, 9, 10, 11, 12, 13, 14] [] 15 [16] [0] (by kernel_rfl) (by kernel_rfl) rfl rfl rfl rfl (fun _ _ => by kernel_rfl) (by kernel_rfl) ?_
  simp only [remOf, List.filterMap_cons, List.filterMap_nil, List.getElem?_cons_zero, List.getElem?_cons_succ]
  have HS2 := Lib.hid HS1.out.drew
  obtain ⟨w2, hw2⟩ : ∃ w2, w2 = w1.drew := ⟨_, rfl⟩
  obtain ⟨B0, hB0⟩ : ∃ B0, B0 = w1.heap.size := ⟨_, rfl⟩
  rw [← hw2] at HS2
  rw [← hB0] at HB
  rw [← hw2, ← hB0]
  clear hw2 hB0 HS1
  unfold wpSegsU
  have n1 : Nonempty (Cls (fun v => FrB B0 [] w2 v)) := ⟨⟨_, FrB.refl _ _ _⟩⟩
  have hgB : gb < B0 ∧ gb < w2.heap.size := by have h1 := HB.out; have h2 := HS2.out.frm.size; omega
  have HgB := Lib.hid hgB
  have c0 := fun x : Cls (fun v => FrB B0 [] w2 v) => (x.ok.cell (g := gb) (i := off) HgB.out.2 HgB.out.1 (by simp)).trans (HC1.out w2 HS2.out.frm).1
  have c1 := fun x : Cls (fun v => FrB B0 [] w2 v) => (x.ok.cell (g := gb) (i := off + 1) HgB.out.2 HgB.out.1 (by simp)).trans (HC1.out w2 HS2.out.frm).2
  clear hgB hgb
  have q0 := fun x : Cls (fun v => FrB B0 [] w2 v) => (x.ok.blk (HS2.out.blk 1 rfl) (by have := HB.out; omega) (by simp)).cell 0 rfl
  have q1 := fun x : Cls (fun v => FrB B0 [] w2 v) => (x.ok.blk (HS2.out.blk 1 rfl) (by have := HB.out; omega) (by simp)).cell 1 rfl
  have q2 := fun x : Cls (fun v => FrB B0 [] w2 v) => (x.ok.blk (HS2.out.blk 1 rfl) (by have := HB.out; omega) (by simp)).cell 2 rfl
  have q3 := fun x : Cls (fun v => FrB B0 [] w2 v) => (x.ok.blk (HS2.out.blk 1 rfl) (by have := HB.out; omega) (by simp)).cell 3 rfl
  have q4 := fun x : Cls (fun v => FrB B0 [] w2 v) => (x.ok.blk (HS2.out.blk 1 rfl) (by have := HB.out; omega) (by simp)).cell 4 rfl
  have q5 := fun x : Cls (fun v => FrB B0 [] w2 v) => (x.ok.blk (HS2.out.blk 1 rfl) (by have := HB.out; omega) (by simp)).cell 5 rfl
  have q6 := fun x : Cls (fun v => FrB B0 [] w2 v) => (x.ok.blk (HS2.out.blk 1 rfl) (by have := HB.out; omega) (by simp)).cell 6 rfl
  have q7 := fun x : Cls (fun v => FrB B0 [] w2 v) => (x.ok.blk (HS2.out.blk 1 rfl) (by have := HB.out; omega) (by simp)).cell 7 rfl
  have q8 := fun x : Cls (fun v => FrB B0 [] w2 v) => (x.ok.blk (HS2.out.blk 1 rfl) (by have := HB.out; omega) (by simp)).cell 8 rfl
  have q10 := fun x : Cls (fun v => FrB B0 [] w2 v) => (x.ok.blk (HS2.out.blk 1 rfl) (by have := HB.out; omega) (by simp)).cell 10 rfl
  show wpQuiet _ _ _ _ [_, _, _, _, _, _, _, _, _, _, _, _, _, _, _] _
  repeat (go_big_quiet_step (rfl))
  refine wpQuiet_nil ?_
  intro X hX g hb hg
  clear q0 q1 q2 q3 q4 q5 q6 q7 q8 q10 c0 c1 n1
  have HS4 := Lib.hid (show Sep [] w X [blkR g 53 #[.int .u8 0, .int .u8 0, .int .u8 0, .int .u8 0, .int .u8 0, .int .u8 0, .int .u8 0, .int .u8 0, .int .u16 0, .int .u64 0, .int .u64 0, .slice none 0 0], blkR (o + 1) 53 #[.int .u8 0, .int .u8 0, .int .u8 0, .int .u8 0, .int .u8 0, .int .u8 0, .int .u8 0, .int .u8 0, .int .u16 0, .int .u64 0, .int .u64 0, .slice none 0 0], blkR o 35 #[.int .u8 h0, .int .u8 h1, .int .u8 h2, .int .u8 h3, .int .u8 h4, .int .u8 h5, .int .u8 h6, .int .u8 h7, .int .u16 bb, .bool lg, .slice (some ⟨gb, off, none⟩) n c]] from by
    have hS := HS2.out.keep hX
    refine ⟨hS.frm, fun r hr => ?_, List.Pairwise.cons (fun s hs k hk hks => ?_) hS.apart, fun r hr k hk => ?_⟩
    · rcases List.mem_cons.1 hr with rfl | hr
      · exact hb
      · exact hS.holds r hr
    · simp [blkR] at hk
      subst hk
      have h1 := HB.out
      rcases List.mem_cons.1 hs with rfl | hs
      · simp [blkR] at hks; omega
      · simp at hs; subst hs; simp [blkR] at hks; omega
    · rcases List.mem_cons.1 hr with rfl | hr
      · simp [blkR] at hk; subst hk; exact .inr (by have h1 := HB.out; omega)
      · exact hS.mine r hr k hk)
  unfold wpSegsR
  simp only [List.take_succ_cons, List.take_zero, List.drop_succ_cons, List.drop_zero, Act.put, List.setIfInBounds_toArray, List.set_cons_succ, List.set_cons_zero]
  refine wpQuiet_nil ?_
  refine only_step (fun K' hK => ?_)
  have hz := HS4.out.blk 0 rfl
  have z0 := hz.cell 0 rfl
  have z1 := hz.cell 1 rfl
  have z2 := hz.cell 2 rfl
  have z3 := hz.cell 3 rfl
  have z4 := hz.cell 4 rfl
  have z5 := hz.cell 5 rfl
  have z6 := hz.cell 6 rfl
  have z7 := hz.cell 7 rfl
  have z8 := hz.cell 8 rfl
  have z9 := hz.cell 9 rfl
  have z10 := hz.cell 10 rfl
  have z11 := hz.cell 11 rfl
  have f0 := hz.free 0
  have f1 := hz.free 1
  have f2 := hz.free 2
  have f3 := hz.free 3
  have f4 := hz.free 4
  have f5 := hz.free 5
  have f6 := hz.free 6
  have f7 := hz.free 7
  have f8 := hz.free 8
  have f9 := hz.free 9
  have f10 := hz.free 10
  have f11 := hz.free 11
  go_wp2_with fail
  obtain ⟨w4, hw4⟩ : ∃ w4, w4 = ((((((((((((X.setCell ⟨g, 0, none⟩ (.int .u8 h0)).setCell ⟨g, 1, none⟩ (.int .u8 h1)).setCell ⟨g, 2, none⟩ (.int .u8 h2)).setCell ⟨g, 3, none⟩ (.int .u8 h3)).setCell ⟨g, 4, none⟩ (.int .u8 h4)).setCell ⟨g, 5, none⟩ (.int .u8 h5)).setCell ⟨g, 6, none⟩ (.int .u8 h6)).setCell ⟨g, 7, none⟩ (.int .u8 h7)).setCell ⟨g, 8, none⟩ (.int .u16 bb)).setCell ⟨g, 9, none⟩ (.int .u64 (mh : Int))).setCell ⟨g, 10, none⟩ (.int .u64 (ml : Int))).setCell ⟨g, 11, none⟩ (.slice none 0 0)) := ⟨_, rfl⟩
  have HS5 := Lib.hid (show Sep [] w w4 [blkR g 53 #[.int .u8 h0, .int .u8 h1, .int .u8 h2, .int .u8 h3, .int .u8 h4, .int .u8 h5, .int .u8 h6, .int .u8 h7, .int .u16 bb, .int .u64 (mh : Int), .int .u64 (ml : Int), .slice none 0 0], blkR (o + 1) 53 #[.int .u8 0, .int .u8 0, .int .u8 0, .int .u8 0, .int .u8 0, .int .u8 0, .int .u8 0, .int .u8 0, .int .u16 0, .int .u64 0, .int .u64 0, .slice none 0 0], blkR o 35 #[.int .u8 h0, .int .u8 h1, .int .u8 h2, .int .u8 h3, .int .u8 h4, .int .u8 h5, .int .u8 h6, .int .u8 h7, .int .u16 bb, .bool lg, .slice (some ⟨gb, off, none⟩) n c]] from hw4 ▸ HS4.out.puts 0 rfl [.int .u8 h0, .int .u8 h1, .int .u8 h2, .int .u8 h3, .int .u8 h4, .int .u8 h5, .int .u8 h6, .int .u8 h7, .int .u16 bb, .int .u64 (mh : Int), .int .u64 (ml : Int), .slice none 0 0] rfl)
  have hfr : FrB B0 [] X w4 := hw4 ▸ ufrb_putAll g hg [.int .u8 h0, .int .u8 h1, .int .u8 h2, .int .u8 h3, .int .u8 h4, .int .u8 h5, .int .u8 h6, .int .u8 h7, .int .u16 bb, .int .u64 (mh : Int), .int .u64 (ml : Int), .slice none 0 0] 0 X
  rw [← hw4]
  refine hK.out _ _ ⟨hfr, ?_⟩
  clear hw4 hK HS4 hz z0 z1 z2 z3 z4 z5 z6 z7 z8 z9 z10 z11 f0 f1 f2 f3 f4 f5 f6 f7 f8 f9 f10 f11 hfr hb hX
  unfold wpSegsR
  refine wpQuiet_nil ?_
  refine NoPanic.normal ?_
  have e63 := HE1.out
  have k0 := (HS5.out.blk 0 rfl).cell 0 rfl
  have f0 := (HS5.out.blk 0 rfl).free 0
  go_upto_region 6 with fail
  have HS6 := Lib.hid (HS5.out.put 0 rfl 0 (.int .u8 p))
  obtain ⟨w5, hw5⟩ : ∃ x, x = w4.setCell ⟨g, 0, none⟩ (.int .u8 p) := ⟨_, rfl⟩
  rw [← hw5] at HS6
  rw [← hw5]
  clear hw5 HS5 k0 f0 e63 HB hg HgB
  have HS6 := Lib.hid (show Sep [] w w5 [blkR g 53 #[.int .u8 p, .int .u8 h1, .int .u8 h2, .int .u8 h3, .int .u8 h4, .int .u8 h5, .int .u8 h6, .int .u8 h7, .int .u16 bb, .int .u64 (mh : Int), .int .u64 (ml : Int), .slice none 0 0], blkR (o + 1) 53 #[.int .u8 0, .int .u8 0, .int .u8 0, .int .u8 0, .int .u8 0, .int .u8 0, .int .u8 0, .int .u8 0, .int .u16 0, .int .u64 0, .int .u64 0, .slice none 0 0], blkR o 35 #[.int .u8 h0, .int .u8 h1, .int .u8 h2, .int .u8 h3, .int .u8 h4, .int .u8 h5, .int .u8 h6, .int .u8 h7, .int .u16 bb, .bool lg, .slice (some ⟨gb, off, none⟩) n c]] from HS6.out)
  have HS7 := Lib.hid (HS6.out.nil 5 1)
  clear HS6
  go_wp2_with fail
  go_loopw [7] (fun i wr => ∃ (j : Nat) (v : Value), j ≤ n ∧ i = .int .i64 (j : Int) ∧ ((qs.map LvV.lv).take j).all (hasM mh ml) = true ∧ Sep [] w wr [sumR v (catB ((qs.map LvV.lv).take j)), blkR g 53 #[.int .u8 p, .int .u8 h1, .int .u8 h2, .int .u8 h3, .int .u8 h4, .int .u8 h5, .int .u8 h6, .int .u8 h7, .int .u16 bb, .int .u64 (mh : Int), .int .u64 (ml : Int), v], blkR (o + 1) 53 #[.int .u8 0, .int .u8 0, .int .u8 0, .int .u8 0, .int .u8 0, .int .u8 0, .int .u8 0, .int .u8 0, .int .u16 0, .int .u64 0, .int .u64 0, .slice none 0 0], blkR o 35 #[.int .u8 h0, .int .u8 h1, .int .u8 h2, .int .u8 h3, .int .u8 h4, .int .u8 h5, .int .u8 h6, .int .u8 h7, .int .u16 bb, .bool lg, .slice (some ⟨gb, off, none⟩) n c]]) (fun i _ => n - (intOf i).toNat)
  case atStart => exact ⟨0, _, Nat.zero_le _, rfl, by simp, HS7.out⟩
  case round =>
    obtain ⟨j, v, hj, rfl, hall, hS⟩ := hrel
    have HT := Lib.hid hS
    have HAl := Lib.hid hall
    clear hS hall HS7
    obtain ⟨va, vc, rfl, _, _⟩ := own_shape (HT.out.own 0 rfl)
    have hcl := cat_len HBd.out j
    obtain ⟨C, hC⟩ : ∃ C, C = catB ((qs.map LvV.lv).take j) := ⟨_, rfl⟩
    rw [← hC] at HT hcl
    have HC := Lib.hid hC
    clear hC
    obtain ⟨k, hk⟩ : ∃ k, k = C.length := ⟨_, rfl⟩
    rw [← hk] at HT hcl
    have HK := Lib.hid hk
    clear hk
    have k10 := (HT.out.blk 3 rfl).cell 10 rfl
    by_cases hlt : j < n
    · obtain ⟨q, hq⟩ : ∃ q, qs[j]? = some q := ⟨_, List.getElem?_eq_getElem (by rw [← HN.out]; exact hlt)⟩
      have hm := List.mem_of_getElem? hq
      have hbl := HBd.out q.lv (List.mem_map.2 ⟨q, hm, rfl⟩)
      have HSl := Lib.hid (fun X (hX : Frm [] w X) => (HRd.out X hX).bod q hm)
      have HCx := Lib.hid (fun X (hX : Frm [] w X) => (HRd.out X hX).at_ hq)
      obtain ⟨ab, cb, hbv, -⟩ := HSl.out wr HT.out.frm
      obtain ⟨gb', off', ha, -⟩ := HCx.out wr HT.out.frm
      have HA := Lib.hid (all_take_succ (hasM mh ml) (lv_at hq))
      have HCs := Lib.hid (cat_take_succ (lv_at hq))
      obtain ⟨qh, ql, qb, qB⟩ := q
      simp only [Option.some.injEq, Addr.mk.injEq] at ha
      obtain ⟨rfl, rfl, -⟩ := ha
      simp only [LvV.lv] at hbv hbl HSl HA HCs HCx
      subst hbv
      obtain ⟨m, hm2⟩ : ∃ m, m = qB.length := ⟨_, rfl⟩
      rw [← hm2] at hbl HCx
      have HM := Lib.hid hm2
      have HC2 := Lib.hid (fun X (hX : Frm [] w X) => (by
        obtain ⟨b', o', e, _, h1, h2, h3⟩ := HCx.out X hX
        simp only [Option.some.injEq, Addr.mk.injEq] at e
        rw [← e.1, ← e.2.1] at h1 h2 h3
        exact ⟨h1, h2, h3⟩ : X.cell? ⟨gb, off + j * 3, none⟩ = some (.int .u64 (qh : Int)) ∧ X.cell? ⟨gb, off + j * 3 + 1, none⟩ = some (.int .u64 (ql : Int)) ∧ X.cell? ⟨gb, off + j * 3 + 2, none⟩ = some (.slice ab m cb)))
      have i1 : (0 : Int) ≤ (j : Int) := by omega
      have i2 : (j : Int) < (n : Int) := by omega
      clear hq hm hm2 HCx
      obtain ⟨D2, hD2⟩ : ∃ D2 : Bool, D2 = decide (qh = mh) := ⟨_, rfl⟩
      obtain ⟨D6, hD6⟩ : ∃ D6 : Bool, D6 = decide (ql = ml) := ⟨_, rfl⟩
      have nb2 : ((qh : Int) != (mh : Int)) = !D2 := by rw [hD2]; show (!((qh : Int) == (mh : Int))) = _; congr 1; exact decide_eq_decide.2 (by omega)
      have nb6 : ((ql : Int) != (ml : Int)) = !D6 := by rw [hD6]; show (!((ql : Int) == (ml : Int))) = _; congr 1; exact decide_eq_decide.2 (by omega)
      have hhm : hasM mh ml ⟨qh, ql, qB⟩ = (D2 && D6) := by unfold hasM; rw [hD2, hD6]
      have HHm := Lib.hid hhm
      clear hD2 hD6 hhm
      have HBad := Lib.hid (fun (h : (D2 && D6) = false) => (by
        have h2 := HA.out
        rw [HHm.out, h, Bool.and_false] at h2
        have h3 : ¬ (qs.map LvV.lv).all (hasM mh ml) = true := fun h4 => by
          have h5 : ((qs.map LvV.lv).take (j + 1)).all (hasM mh ml) = true := List.all_eq_true.2 (fun x hx => List.all_eq_true.1 h4 x (List.mem_of_mem_take hx))
          rw [h2] at h5
          cases h5
        rw [HR2.out, if_neg h3] : R = 30))
      obtain ⟨DD, hDD⟩ : ∃ DD, DD = (D2 && D6) := ⟨_, rfl⟩
      rw [← hDD] at HBad HHm
      have HDD := Lib.hid hDD
      clear hDD
      go_upto_region 9 with fail
      clear k10
      go_cut [64] (fun v wx => v = .bool (!DD) ∧ Sep [] w wx [sumR (.slice va k vc) C, blkR g 53 #[.int .u8 p, .int .u8 h1, .int .u8 h2, .int .u8 h3, .int .u8 h4, .int .u8 h5, .int .u8 h6, .int .u8 h7, .int .u16 bb, .int .u64 (mh : Int), .int .u64 (ml : Int), .slice va k vc], blkR (o + 1) 53 #[.int .u8 0, .int .u8 0, .int .u8 0, .int .u8 0, .int .u8 0, .int .u8 0, .int .u8 0, .int .u8 0, .int .u16 0, .int .u64 0, .int .u64 0, .slice none 0 0], blkR o 35 #[.int .u8 h0, .int .u8 h1, .int .u8 h2, .int .u8 h3, .int .u8 h4, .int .u8 h5, .int .u8 h6, .int .u8 h7, .int .u16 bb, .bool lg, .slice (some ⟨gb, off, none⟩) n c]])
      case first =>
        have n1 := HT.out.inh
        have p0 := fun x : Cls (fun v => Sep [] w v [sumR (.slice va k vc) C, blkR g 53 #[.int .u8 p, .int .u8 h1, .int .u8 h2, .int .u8 h3, .int .u8 h4, .int .u8 h5, .int .u8 h6, .int .u8 h7, .int .u16 bb, .int .u64 (mh : Int), .int .u64 (ml : Int), .slice va k vc], blkR (o + 1) 53 #[.int .u8 0, .int .u8 0, .int .u8 0, .int .u8 0, .int .u8 0, .int .u8 0, .int .u8 0, .int .u8 0, .int .u16 0, .int .u64 0, .int .u64 0, .slice none 0 0], blkR o 35 #[.int .u8 h0, .int .u8 h1, .int .u8 h2, .int .u8 h3, .int .u8 h4, .int .u8 h5, .int .u8 h6, .int .u8 h7, .int .u16 bb, .bool lg, .slice (some ⟨gb, off, none⟩) n c]]) => (HC2.out x.world x.ok.frm).1
        have p1 := fun x : Cls (fun v => Sep [] w v [sumR (.slice va k vc) C, blkR g 53 #[.int .u8 p, .int .u8 h1, .int .u8 h2, .int .u8 h3, .int .u8 h4, .int .u8 h5, .int .u8 h6, .int .u8 h7, .int .u16 bb, .int .u64 (mh : Int), .int .u64 (ml : Int), .slice va k vc], blkR (o + 1) 53 #[.int .u8 0, .int .u8 0, .int .u8 0, .int .u8 0, .int .u8 0, .int .u8 0, .int .u8 0, .int .u8 0, .int .u16 0, .int .u64 0, .int .u64 0, .slice none 0 0], blkR o 35 #[.int .u8 h0, .int .u8 h1, .int .u8 h2, .int .u8 h3, .int .u8 h4, .int .u8 h5, .int .u8 h6, .int .u8 h7, .int .u16 bb, .bool lg, .slice (some ⟨gb, off, none⟩) n c]]) => (HC2.out x.world x.ok.frm).2.1
        have p2 := fun x : Cls (fun v => Sep [] w v [sumR (.slice va k vc) C, blkR g 53 #[.int .u8 p, .int .u8 h1, .int .u8 h2, .int .u8 h3, .int .u8 h4, .int .u8 h5, .int .u8 h6, .int .u8 h7, .int .u16 bb, .int .u64 (mh : Int), .int .u64 (ml : Int), .slice va k vc], blkR (o + 1) 53 #[.int .u8 0, .int .u8 0, .int .u8 0, .int .u8 0, .int .u8 0, .int .u8 0, .int .u8 0, .int .u8 0, .int .u16 0, .int .u64 0, .int .u64 0, .slice none 0 0], blkR o 35 #[.int .u8 h0, .int .u8 h1, .int .u8 h2, .int .u8 h3, .int .u8 h4, .int .u8 h5, .int .u8 h6, .int .u8 h7, .int .u16 bb, .bool lg, .slice (some ⟨gb, off, none⟩) n c]]) => (x.ok.blk 3 rfl).cell 10 rfl
        have p3 := fun x : Cls (fun v => Sep [] w v [sumR (.slice va k vc) C, blkR g 53 #[.int .u8 p, .int .u8 h1, .int .u8 h2, .int .u8 h3, .int .u8 h4, .int .u8 h5, .int .u8 h6, .int .u8 h7, .int .u16 bb, .int .u64 (mh : Int), .int .u64 (ml : Int), .slice va k vc], blkR (o + 1) 53 #[.int .u8 0, .int .u8 0, .int .u8 0, .int .u8 0, .int .u8 0, .int .u8 0, .int .u8 0, .int .u8 0, .int .u16 0, .int .u64 0, .int .u64 0, .slice none 0 0], blkR o 35 #[.int .u8 h0, .int .u8 h1, .int .u8 h2, .int .u8 h3, .int .u8 h4, .int .u8 h5, .int .u8 h6, .int .u8 h7, .int .u16 bb, .bool lg, .slice (some ⟨gb, off, none⟩) n c]]) => (x.ok.blk 1 rfl).cell 9 rfl
        have p4 := fun x : Cls (fun v => Sep [] w v [sumR (.slice va k vc) C, blkR g 53 #[.int .u8 p, .int .u8 h1, .int .u8 h2, .int .u8 h3, .int .u8 h4, .int .u8 h5, .int .u8 h6, .int .u8 h7, .int .u16 bb, .int .u64 (mh : Int), .int .u64 (ml : Int), .slice va k vc], blkR (o + 1) 53 #[.int .u8 0, .int .u8 0, .int .u8 0, .int .u8 0, .int .u8 0, .int .u8 0, .int .u8 0, .int .u8 0, .int .u16 0, .int .u64 0, .int .u64 0, .slice none 0 0], blkR o 35 #[.int .u8 h0, .int .u8 h1, .int .u8 h2, .int .u8 h3, .int .u8 h4, .int .u8 h5, .int .u8 h6, .int .u8 h7, .int .u16 bb, .bool lg, .slice (some ⟨gb, off, none⟩) n c]]) => (x.ok.blk 1 rfl).cell 10 rfl
        cases D2 with
        | false =>
          obtain rfl : DD = false := by rw [HDD.out]; rfl
          refine region_sep HT.out (by kernel_rfl) (by kernel_rfl) ?_
          repeat (go_big_quiet_step (fail))
          refine wpQuiet_nil ?_
          intro w3 hS3
          go_wp2_with fail
          go_meet
          exact ⟨rfl, hS3⟩
        | true =>
          obtain rfl : DD = D6 := by rw [HDD.out]; rfl
          refine region_sep HT.out (by kernel_rfl) (by kernel_rfl) ?_
          repeat (go_big_quiet_step (fail))
          refine wpQuiet_nil ?_
          intro w3 hS3
          go_wp2_with fail
          go_meet
          exact ⟨rfl, hS3⟩
      obtain ⟨rfl, hf⟩ := hcut
      obtain ⟨wd, hwd⟩ : ∃ w5, w5 = wc := ⟨_, rfl⟩
      rw [← hwd] at hf ⊢
      have HT2 := Lib.hid hf
      clear hf hwd HT nb2 nb6 HDD
      cases DD with
      | false =>
        obtain rfl : R = 30 := HBad.out rfl
        have HE0 := Lib.hid (show ¬ (30 : Int) = 0 by decide)
        have k0 := (HT2.out.blk 2 rfl).cell 0 rfl
        have k1 := (HT2.out.blk 2 rfl).cell 1 rfl
        have k2 := (HT2.out.blk 2 rfl).cell 2 rfl
        have k3 := (HT2.out.blk 2 rfl).cell 3 rfl
        have k4 := (HT2.out.blk 2 rfl).cell 4 rfl
        have k5 := (HT2.out.blk 2 rfl).cell 5 rfl
        have k6 := (HT2.out.blk 2 rfl).cell 6 rfl
        have k7 := (HT2.out.blk 2 rfl).cell 7 rfl
        have k8 := (HT2.out.blk 2 rfl).cell 8 rfl
        have k9 := (HT2.out.blk 2 rfl).cell 9 rfl
        have k10 := (HT2.out.blk 2 rfl).cell 10 rfl
        have k11 := (HT2.out.blk 2 rfl).cell 11 rfl
        have f0 := (HT2.out.blk 2 rfl).free 0
        have f1 := (HT2.out.blk 2 rfl).free 1
        have f2 := (HT2.out.blk 2 rfl).free 2
        have f3 := (HT2.out.blk 2 rfl).free 3
        have f4 := (HT2.out.blk 2 rfl).free 4
        have f5 := (HT2.out.blk 2 rfl).free 5
        have f6 := (HT2.out.blk 2 rfl).free 6
        have f7 := (HT2.out.blk 2 rfl).free 7
        have f8 := (HT2.out.blk 2 rfl).free 8
        have f9 := (HT2.out.blk 2 rfl).free 9
        have f10 := (HT2.out.blk 2 rfl).free 10
        have f11 := (HT2.out.blk 2 rfl).free 11
        go_wp2_with fail
        obtain ⟨w8, hw8⟩ : ∃ w8, w8 = ((((((((((((wd.setCell ⟨(o + 1), 0, none⟩ (.int .u8 0)).setCell ⟨(o + 1), 1, none⟩ (.int .u8 0)).setCell ⟨(o + 1), 2, none⟩ (.int .u8 0)).setCell ⟨(o + 1), 3, none⟩ (.int .u8 0)).setCell ⟨(o + 1), 4, none⟩ (.int .u8 0)).setCell ⟨(o + 1), 5, none⟩ (.int .u8 0)).setCell ⟨(o + 1), 6, none⟩ (.int .u8 0)).setCell ⟨(o + 1), 7, none⟩ (.int .u8 0)).setCell ⟨(o + 1), 8, none⟩ (.int .u16 0)).setCell ⟨(o + 1), 9, none⟩ (.int .u64 0)).setCell ⟨(o + 1), 10, none⟩ (.int .u64 0)).setCell ⟨(o + 1), 11, none⟩ (.slice none 0 0)) := ⟨_, rfl⟩
        have HS8 := Lib.hid (show Sep [] w w8 [sumR (.slice va k vc) C, blkR g 53 #[.int .u8 p, .int .u8 h1, .int .u8 h2, .int .u8 h3, .int .u8 h4, .int .u8 h5, .int .u8 h6, .int .u8 h7, .int .u16 bb, .int .u64 (mh : Int), .int .u64 (ml : Int), .slice va k vc], blkR (o + 1) 53 #[.int .u8 0, .int .u8 0, .int .u8 0, .int .u8 0, .int .u8 0, .int .u8 0, .int .u8 0, .int .u8 0, .int .u16 0, .int .u64 0, .int .u64 0, .slice none 0 0], blkR o 35 #[.int .u8 h0, .int .u8 h1, .int .u8 h2, .int .u8 h3, .int .u8 h4, .int .u8 h5, .int .u8 h6, .int .u8 h7, .int .u16 bb, .bool lg, .slice (some ⟨gb, off, none⟩) n c]] from hw8 ▸ HT2.out.puts 2 rfl [.int .u8 0, .int .u8 0, .int .u8 0, .int .u8 0, .int .u8 0, .int .u8 0, .int .u8 0, .int .u8 0, .int .u16 0, .int .u64 0, .int .u64 0, .slice none 0 0] rfl)
        rw [← hw8]
        clear hw8 k0 k1 k2 k3 k4 k5 k6 k7 k8 k9 k10 k11 f0 f1 f2 f3 f4 f5 f6 f7 f8 f9 f10 f11
        have z0 := (HS8.out.blk 2 rfl).cell 0 rfl
        have z1 := (HS8.out.blk 2 rfl).cell 1 rfl
        have z2 := (HS8.out.blk 2 rfl).cell 2 rfl
        have z3 := (HS8.out.blk 2 rfl).cell 3 rfl
        have z4 := (HS8.out.blk 2 rfl).cell 4 rfl
        have z5 := (HS8.out.blk 2 rfl).cell 5 rfl
        have z6 := (HS8.out.blk 2 rfl).cell 6 rfl
        have z7 := (HS8.out.blk 2 rfl).cell 7 rfl
        have z8 := (HS8.out.blk 2 rfl).cell 8 rfl
        have z9 := (HS8.out.blk 2 rfl).cell 9 rfl
        have z10 := (HS8.out.blk 2 rfl).cell 10 rfl
        have z11 := (HS8.out.blk 2 rfl).cell 11 rfl
        refine bodyPost_ret (v := .tuple #[.agg #[.int .u8 0, .int .u8 0, .int .u8 0, .int .u8 0, .int .u8 0, .int .u8 0, .int .u8 0, .int .u8 0, .int .u16 0, .int .u64 0, .int .u64 0, .slice none 0 0], .int .i64 30]) ?_ rfl ⟨none, 0, 0, by rw [HY.out, if_neg HE0.out]; rfl, by rw [HY.out, if_neg HE0.out]; exact (HS8.out.nil 5 1).at_ [0] (by decide) rfl⟩
        simp [results, Tryd.results19, go_sem, z0, z1, z2, z3, z4, z5, z6, z7, z8, z9, z10, z11]
      | true =>
        clear HBad
        have hall2 : ((qs.map LvV.lv).take (j + 1)).all (hasM mh ml) = true := by rw [HA.out, HAl.out, HHm.out]; rfl
        have HAl2 := Lib.hid hall2
        clear hall2
        have HRr := Lib.hid (fun X (hX : Frm [] w X) => (by
          obtain ⟨ab', cb', hv', rdb, hnb, -⟩ := HSl.out X hX
          simp only [Value.slice.injEq] at hv'
          rw [← hv'.1] at rdb
          exact rdb : RdI .u8 X ab qB))
        have HKM := Lib.hid (show k + m ≤ 1000000 by omega)
        go_upto_region 11 with fail
        refine region_pm [g] [0, 2, 3, 4, 5, 6, 7] [1, 8, 9] [Pr.is (.slice va k vc), Pr.two C qB, Pr.sep wd.drew (fun v => [sumR v (C ++ qB)])] [1] [10, 11] (by kernel_rfl) (by kernel_rfl) (by kernel_rfl) rfl ?_
        simp only [remOf, mvs, List.zip_cons_cons, List.zip_nil_right, List.filterMap_cons, List.filterMap_nil, List.getElem?_cons_zero, List.getElem?_cons_succ, Option.map_some]
        have HTd := Lib.hid HT2.out.drew
        obtain ⟨x3, hx3⟩ : ∃ x, x = wd.drew := ⟨_, rfl⟩
        rw [← hx3] at HTd
        rw [← hx3]
        clear hx3 HT2
        have hgo := (List.pairwise_cons.1 (List.pairwise_cons.1 HTd.out.apart).2).1
        have hgo2 : o ≠ g := fun e => hgo (blkR o 35 #[.int .u8 h0, .int .u8 h1, .int .u8 h2, .int .u8 h3, .int .u8 h4, .int .u8 h5, .int .u8 h6, .int .u8 h7, .int .u16 bb, .bool lg, .slice (some ⟨gb, off, none⟩) n c]) (by simp) g (by simp [blkR]) (by simp [blkR, e])
        have hgw : w.heap.size ≤ g := (HTd.out.mine (blkR g 53 #[.int .u8 p, .int .u8 h1, .int .u8 h2, .int .u8 h3, .int .u8 h4, .int .u8 h5, .int .u8 h6, .int .u8 h7, .int .u16 bb, .int .u64 (mh : Int), .int .u64 (ml : Int), .slice va k vc]) (by simp) g (by simp [blkR])).resolve_left (by simp)
        obtain ⟨b0, o0, e0, hgb0, -⟩ := (HRd.out w (Frm.refl _ _)).at_ (i := 0) (q := q0) (by rw [HQs.out]; rfl)
        simp only [Option.some.injEq, Addr.mk.injEq] at e0
        rw [← e0.1] at hgb0
        have HGs := Lib.hid (show gb < x3.heap.size ∧ gb ≠ g from ⟨Nat.lt_of_lt_of_le hgb0 HTd.out.frm.size, by omega⟩)
        have HOg := Lib.hid hgo2
        clear hgo hgo2 hgw hgb0 e0
        have n1 : Nonempty (Cls (fun v => Frm [g] x3 v)) := ⟨⟨_, Frm.refl _ _⟩⟩
        have p2 := fun x : Cls (fun v => Frm [g] x3 v) => (x.ok.blk (HTd.out.blk 3 rfl) (by simp; exact HOg.out)).cell 10 rfl
        have p3 := fun x : Cls (fun v => Frm [g] x3 v) => (x.ok.cell (g := gb) (i := off + j * 3 + 2) HGs.out.1 (by simp; exact HGs.out.2)).trans (HC2.out x3 HTd.out.frm).2.2
        show wpQuiet _ _ _ _ [_, _, _, _, _, _, _] _
        repeat (go_big_quiet_step (rfl))
        refine wpQuiet_nil ?_
        refine And.intro ?_ ?_
        · show slotsB _ _ = true
          kernel_rfl
        clear n1 p2 p3
        unfold wpMk
        refine ⟨fun X hX hk => ?_, fun v67 => ?_⟩
        · clear hk
          have k11 := ((HTd.out.keep hX).blk 1 rfl).cell 11 rfl
          refine only_step (fun K' hK => ?_)
          go_wp2_with fail
          exact hK.out _ _ ⟨Frm.refl _ _, rfl, rfl⟩
        unfold wpMk
        refine ⟨fun X hX hk => ?_, fun v74 => ?_⟩
        · obtain rfl := (show v67 = .slice va k vc from hk 0 _ _ rfl (by kernel_rfl))
          clear hk
          have hr1 := RdI.own (k := .u8) ((HTd.out.keep hX).own 0 rfl)
          have hr2 := HRr.out X (HTd.out.frm.trans hX)
          have H1 := Lib.hid (And.intro hr1 hr2)
          clear hr1 hr2
          refine only_step (fun K' hK => ?_)
          go_wp2_with fail
          refine hK.out _ _ ⟨(Frm.refl _ _).alloc _, rfl, X.heap.size, va, vc, ab, cb, rfl, ?_, H1.out.1.alloc _, H1.out.2.alloc _⟩
          rw [← HK.out, ← HM.out]
          exact Blk.made _ _ _
        unfold wpMk
        refine ⟨fun X hX hk => ?_, fun v75 => ?_⟩
        · obtain ⟨g5, a1, c1, a2, c2, rfl, hb, h1, h2⟩ := hk 0 _ _ rfl (by kernel_rfl)
          clear hk
          have HJ := Lib.hid (join2_c (cap := 2) hb h1 h2 rfl rfl (by rw [← HK.out, ← HM.out]; exact HKM.out))
          clear hb h1 h2
          refine only_step (fun K' hK => ?_)
          go_wp2_with fail
          refine HJ.out.mono ?_
          rintro e w6 ⟨v6, rfl, hS6⟩
          go_wp2_with fail
          refine hK.out _ _ ⟨hS6.frm, rfl, ?_⟩
          exact ((Sep.init x3).keep hX).more hS6
        unfold wpMk
        simp only [Act.put, List.setIfInBounds_toArray, List.set_cons_succ, List.set_cons_zero]
        intro X hX hk
        have HJ := Lib.hid (show Sep [] x3 X [sumR v75 (C ++ qB)] from hk 0 _ _ rfl)
        have HT5 := Lib.hid (HTd.out.more HJ.out)
        obtain ⟨a3, c3, rfl, -⟩ := own_shape (HJ.out.own 0 rfl)
        obtain ⟨y9, hy9⟩ : ∃ y, y = (C ++ qB).length := ⟨_, rfl⟩
        rw [← hy9] at HT5 ⊢
        have HY9 := Lib.hid hy9
        clear hk HTd hX HJ hy9
        unfold wpSegs
        simp only [List.take_succ_cons, List.take_zero, List.drop_succ_cons, List.drop_zero]
        have n1 : Nonempty (Cls (fun v => Frm [g] X v)) := ⟨⟨_, Frm.refl _ _⟩⟩
        show wpQuiet _ _ _ _ [_] _
        repeat (go_big_quiet_step (rfl))
        refine wpQuiet_nil ?_
        refine only_step (fun K' hK => ?_)
        clear n1
        have k11 := (HT5.out.blk 2 rfl).cell 11 rfl
        have f11 := (HT5.out.blk 2 rfl).free 11
        go_wp2_with fail
        obtain ⟨w10, hw10⟩ : ∃ x, x = X.setCell ⟨g, 11, none⟩ (.slice a3 y9 c3) := ⟨_, rfl⟩
        have HT7 := Lib.hid (hw10 ▸ HT5.out.put 2 rfl 11 (.slice a3 y9 c3))
        have hF10 := Lib.hid (show Frm [g] X w10 from hw10 ▸ (Frm.refl _ _).put (.inl (by simp)) 11 none _)
        rw [← hw10]
        refine hK.out _ _ ⟨hF10.out, ?_⟩
        clear hK hF10 hw10 k11 f11 HT5
        unfold wpSegs
        refine wpQuiet_nil ?_
        refine NoPanic.normal ?_
        have hcat : C ++ qB = catB ((qs.map LvV.lv).take (j + 1)) := by rw [HCs.out, ← HC.out]
        have HS5 := Lib.hid (show Sep [] w w10 [sumR (.slice a3 y9 c3) (catB ((qs.map LvV.lv).take (j + 1))), blkR g 53 #[.int .u8 p, .int .u8 h1, .int .u8 h2, .int .u8 h3, .int .u8 h4, .int .u8 h5, .int .u8 h6, .int .u8 h7, .int .u16 bb, .int .u64 (mh : Int), .int .u64 (ml : Int), .slice a3 y9 c3], blkR (o + 1) 53 #[.int .u8 0, .int .u8 0, .int .u8 0, .int .u8 0, .int .u8 0, .int .u8 0, .int .u8 0, .int .u8 0, .int .u16 0, .int .u64 0, .int .u64 0, .slice none 0 0], blkR o 35 #[.int .u8 h0, .int .u8 h1, .int .u8 h2, .int .u8 h3, .int .u8 h4, .int .u8 h5, .int .u8 h6, .int .u8 h7, .int .u16 bb, .bool lg, .slice (some ⟨gb, off, none⟩) n c]] from by
          rw [← hcat]
          unfold sumR
          rw [← HY9.out]
          have h7 := HT7.out
          unfold sumR at h7
          rw [← HY9.out] at h7
          exact h7.at_ [0, 2, 3, 4] (by decide) rfl)
        clear hcat HT7
        go_wp2_with fail
        go_roundw
        case rel => exact ⟨j + 1, _, by omega, by go_num, HAl2.out, HS5.out⟩
        case measure => simp [intOf]; omega
    · obtain rfl : j = n := by omega
      have hR0 : R = 0 := by
        rw [HR2.out, if_pos]
        have h := HAl.out
        rwa [List.take_of_length_le (by rw [List.length_map, ← HN.out]; exact Nat.le_refl _)] at h
      have hCC : catB (qs.map LvV.lv) = C := by rw [HC.out, List.take_of_length_le (by rw [List.length_map, ← HN.out]; exact Nat.le_refl _)]
      subst hR0
      have hYY : Y = ⟨p, h1, h2, h3, h4, h5, h6, h7, bb, mh, ml, C⟩ := by rw [HY.out, if_pos rfl, hCC]
      have HYY := Lib.hid hYY
      clear hYY hCC
      have q0 := (HT.out.blk 1 rfl).cell 0 rfl
      have q1 := (HT.out.blk 1 rfl).cell 1 rfl
      have q2 := (HT.out.blk 1 rfl).cell 2 rfl
      have q3 := (HT.out.blk 1 rfl).cell 3 rfl
      have q4 := (HT.out.blk 1 rfl).cell 4 rfl
      have q5 := (HT.out.blk 1 rfl).cell 5 rfl
      have q6 := (HT.out.blk 1 rfl).cell 6 rfl
      have q7 := (HT.out.blk 1 rfl).cell 7 rfl
      have q8 := (HT.out.blk 1 rfl).cell 8 rfl
      have q9 := (HT.out.blk 1 rfl).cell 9 rfl
      have q10 := (HT.out.blk 1 rfl).cell 10 rfl
      have q11 := (HT.out.blk 1 rfl).cell 11 rfl
      have z0 := (HT.out.blk 2 rfl).cell 0 rfl
      have z1 := (HT.out.blk 2 rfl).cell 1 rfl
      have z2 := (HT.out.blk 2 rfl).cell 2 rfl
      have z3 := (HT.out.blk 2 rfl).cell 3 rfl
      have z4 := (HT.out.blk 2 rfl).cell 4 rfl
      have z5 := (HT.out.blk 2 rfl).cell 5 rfl
      have z6 := (HT.out.blk 2 rfl).cell 6 rfl
      have z7 := (HT.out.blk 2 rfl).cell 7 rfl
      have z8 := (HT.out.blk 2 rfl).cell 8 rfl
      have z9 := (HT.out.blk 2 rfl).cell 9 rfl
      have z10 := (HT.out.blk 2 rfl).cell 10 rfl
      have z11 := (HT.out.blk 2 rfl).cell 11 rfl
      have f0 := (HT.out.blk 2 rfl).free 0
      have f1 := (HT.out.blk 2 rfl).free 1
      have f2 := (HT.out.blk 2 rfl).free 2
      have f3 := (HT.out.blk 2 rfl).free 3
      have f4 := (HT.out.blk 2 rfl).free 4
      have f5 := (HT.out.blk 2 rfl).free 5
      have f6 := (HT.out.blk 2 rfl).free 6
      have f7 := (HT.out.blk 2 rfl).free 7
      have f8 := (HT.out.blk 2 rfl).free 8
      have f9 := (HT.out.blk 2 rfl).free 9
      have f10 := (HT.out.blk 2 rfl).free 10
      have f11 := (HT.out.blk 2 rfl).free 11
      go_wp2_with fail
      obtain ⟨w8, hw8⟩ : ∃ w8, w8 = ((((((((((((wr.setCell ⟨(o + 1), 0, none⟩ (.int .u8 p)).setCell ⟨(o + 1), 1, none⟩ (.int .u8 h1)).setCell ⟨(o + 1), 2, none⟩ (.int .u8 h2)).setCell ⟨(o + 1), 3, none⟩ (.int .u8 h3)).setCell ⟨(o + 1), 4, none⟩ (.int .u8 h4)).setCell ⟨(o + 1), 5, none⟩ (.int .u8 h5)).setCell ⟨(o + 1), 6, none⟩ (.int .u8 h6)).setCell ⟨(o + 1), 7, none⟩ (.int .u8 h7)).setCell ⟨(o + 1), 8, none⟩ (.int .u16 bb)).setCell ⟨(o + 1), 9, none⟩ (.int .u64 (mh : Int))).setCell ⟨(o + 1), 10, none⟩ (.int .u64 (ml : Int))).setCell ⟨(o + 1), 11, none⟩ (.slice va k vc)) := ⟨_, rfl⟩
      have HS8 := Lib.hid (show Sep [] w w8 [sumR (.slice va k vc) C, blkR g 53 #[.int .u8 p, .int .u8 h1, .int .u8 h2, .int .u8 h3, .int .u8 h4, .int .u8 h5, .int .u8 h6, .int .u8 h7, .int .u16 bb, .int .u64 (mh : Int), .int .u64 (ml : Int), .slice va k vc], blkR (o + 1) 53 #[.int .u8 p, .int .u8 h1, .int .u8 h2, .int .u8 h3, .int .u8 h4, .int .u8 h5, .int .u8 h6, .int .u8 h7, .int .u16 bb, .int .u64 (mh : Int), .int .u64 (ml : Int), .slice va k vc], blkR o 35 #[.int .u8 h0, .int .u8 h1, .int .u8 h2, .int .u8 h3, .int .u8 h4, .int .u8 h5, .int .u8 h6, .int .u8 h7, .int .u16 bb, .bool lg, .slice (some ⟨gb, off, none⟩) j c]] from hw8 ▸ HT.out.puts 2 rfl [.int .u8 p, .int .u8 h1, .int .u8 h2, .int .u8 h3, .int .u8 h4, .int .u8 h5, .int .u8 h6, .int .u8 h7, .int .u16 bb, .int .u64 (mh : Int), .int .u64 (ml : Int), .slice va k vc] rfl)
      rw [← hw8]
      clear hw8 q0 q1 q2 q3 q4 q5 q6 q7 q8 q9 q10 q11 z0 z1 z2 z3 z4 z5 z6 z7 z8 z9 z10 z11 f0 f1 f2 f3 f4 f5 f6 f7 f8 f9 f10 f11
      have z0 := (HS8.out.blk 2 rfl).cell 0 rfl
      have z1 := (HS8.out.blk 2 rfl).cell 1 rfl
      have z2 := (HS8.out.blk 2 rfl).cell 2 rfl
      have z3 := (HS8.out.blk 2 rfl).cell 3 rfl
      have z4 := (HS8.out.blk 2 rfl).cell 4 rfl
      have z5 := (HS8.out.blk 2 rfl).cell 5 rfl
      have z6 := (HS8.out.blk 2 rfl).cell 6 rfl
      have z7 := (HS8.out.blk 2 rfl).cell 7 rfl
      have z8 := (HS8.out.blk 2 rfl).cell 8 rfl
      have z9 := (HS8.out.blk 2 rfl).cell 9 rfl
      have z10 := (HS8.out.blk 2 rfl).cell 10 rfl
      have z11 := (HS8.out.blk 2 rfl).cell 11 rfl
      refine bodyPost_ret (v := .tuple #[.agg #[.int .u8 p, .int .u8 h1, .int .u8 h2, .int .u8 h3, .int .u8 h4, .int .u8 h5, .int .u8 h6, .int .u8 h7, .int .u16 bb, .int .u64 (mh : Int), .int .u64 (ml : Int), .slice va k vc], .int .i64 0]) ?_ rfl ⟨va, k, vc, by rw [HYY.out]; rfl, by rw [HYY.out]; exact HS8.out.at_ [0] (by decide) rfl⟩
      simp [results, Tryd.results19, go_sem, z0, z1, z2, z3, z4, z5, z6, z7, z8, z9, z10, z11]

end Go.Proofs.YtjflcijiaennkaaDoor
