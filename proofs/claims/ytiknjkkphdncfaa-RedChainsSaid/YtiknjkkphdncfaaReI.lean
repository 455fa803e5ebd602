/-
  THE WALK of red.Primary (printed by gen_prim.py).
-/
import Derived.Test.YtiknjkkphdncfaaReF
import Derived.Test.YtiknjkkphdncfaaPkc
import Derived.RegionTactic
set_option linter.unusedVariables false
set_option linter.unusedSimpArgs false
namespace Go.Proofs.Ytiknjkkphdncfaa
open Go.RowKit

def zeroP : Pp := ⟨false, 0, 0, 0, 0, [], false, 0, [], [], []⟩
def zeroK : Pk := ⟨zeroP, .slice none 0 0, .slice none 0 0, .slice none 0 0, .slice none 0 0⟩
theorem zeroK_rd (w : World) : RdPk w zeroK := ⟨Sla.nil _ _, Sla.nil _ _, Sla.nil _ _, Sla.nil _ _⟩
/-- What Primary gives. -/
def primL (x : Pp) : Pp := match (chO x.P).getLast? with | some b => { x with pt := b.pt, P := b.B } | none => zeroP
def PktP (w : World) (x : Pp) (e : Int) (y : Ending) (W' : World) : Prop := ∃ q : Pk, y = .returned (.tuple #[.agg q.cells, .int .i64 e]) ∧ q.pl = x ∧ RdPk W' q ∧ Frm [] w W'
theorem chO_err {zs : List Int} (h : chE zs ≠ 0) : chO zs = [] := by
  unfold chE at h
  unfold chO
  cases hc : chainL zs with
  | error e => rfl
  | ok r => rw [hc] at h; exact absurd rfl h
theorem chO_ok {zs : List Int} (h : chE zs = 0) : 0 < (chO zs).length ∧ (chO zs).length ≤ 9 ∧ ∀ b ∈ chO zs, b.B.length ≤ zs.length := by
  unfold chE at h
  unfold chO
  cases hc : chainL zs with
  | error e => rw [hc] at h; exact absurd h (chainL_ne hc)
  | ok r =>
    obtain ⟨o, n⟩ := r
    have := chainL_ok hc
    exact ⟨this.2.1, this.2.2.1, this.2.2.2⟩
/-- Blocks that Parse gave, read. -/
theorem blks_rd {w : World} {v : Value} {bs : List BkV} (h : (blksR v bs).P w) : ∃ a c, v = .slice a bs.length c ∧ bs.length ≤ c ∧ c ≤ maxLen ∧ RdS 3 w a (bs.map BkV.row) := by
  obtain ⟨a, c, h1, h2, h3, h4, h5, h6⟩ := RdS.of_own (rows := bs.map BkV.row) h (fun r hr => by obtain ⟨b, _, rfl⟩ := List.mem_map.1 hr; rfl) (by decide) (by rw [List.length_map])
  rw [List.length_map] at h1 h2
  exact ⟨a, c, h1, h2, h3, h5⟩
theorem data_rd {w : World} {bs : List BkV} (h : (dataR bs).P w) {b : BkV} (hb : b ∈ bs) : Sla .u8 w b.bv b.B := Sla.of_own (h _ (List.mem_map.2 ⟨b, hb, rfl⟩))
theorem primL_last {x : Pp} {bs : List BkV} {b : BkV} (h : bs.map BkV.bk = chO x.P) (hb : bs[bs.length - 1]? = some b) : primL x = { x with pt := b.pt, P := b.B } := by
  unfold primL
  rw [← h, List.getLast?_map, List.getLast?_eq_getElem?, hb]
  rfl
theorem primL_none {x : Pp} (h : chE x.P ≠ 0) : primL x = zeroP := by
  unfold primL
  rw [chO_err h]
  rfl

set_option maxRecDepth 100000 in
set_option maxHeartbeats 16000000 in
theorem primary_c (p : Pk) (w : World) (hp : RdPk w p) (sm : PpSm p.pl) (hy : Byt p.pl.P) :
    Calls Try.prog 16 #[.agg p.cells] w (PktP w (primL p.pl) (chE p.pl.P)) := by
  have HP := Lib.hid (fun X (hX : Frm [] w X) => hp.frm hX)
  have SM := Lib.hid sm
  have HY := Lib.hid hy
  obtain ⟨p0, hp0⟩ : ∃ p0, p0 = p := ⟨_, rfl⟩
  rw [← hp0] at HP SM HY ⊢
  obtain ⟨R, hR⟩ : ∃ R, R = primL p0.pl := ⟨_, rfl⟩
  obtain ⟨E, hE⟩ : ∃ E, E = chE p0.pl.P := ⟨_, rfl⟩
  rw [← hR, ← hE]
  have HR := Lib.hid hR
  have HE := Lib.hid hE
  clear hp sm hy hR hE
  obtain ⟨⟨m, pt, seq, ts, ss, C, hx, pf, EE, P, D⟩, cv, ev, pv, dv⟩ := p
  have HQ := Lib.hid hp0
  obtain ⟨aC, cC, e1, rC, nC, lC, mC⟩ := (HP.out w (Frm.refl _ _)).c
  obtain ⟨aE, cE, e2, rE, nE, lE, mE⟩ := (HP.out w (Frm.refl _ _)).e
  obtain ⟨aP, cP, e3, rP, nP, lP, mP⟩ := (HP.out w (Frm.refl _ _)).p
  obtain ⟨aD, cD, e4, rD, nD, lD, mD⟩ := (HP.out w (Frm.refl _ _)).d
  rw [hp0] at e1 e2 e3 e4
  simp only at e1 e2 e3 e4
  subst e1 e2 e3 e4
  have HPar := Lib.hid (fun X (hX : Frm [] w X) => Parse_c (w := X) (a := aP) (c := cP) (zs := p0.pl.P) ⟨rP.below hX.below, HY.out, lP, mP, nP, SM.out.p⟩)
  have HCl := Lib.hid (fun X (hX : Frm [] w X) => pclone_c p0 X (HP.out X hX) SM.out)
  rw [← HE.out] at HPar
  rw [show p0.pl.P.length = P.length by rw [hp0]] at HPar
  rw [hp0] at HCl
  simp only [Pk.cells] at HCl
  have HS0 := Lib.hid (((Sep.init w).alloc #[.bool m, .int .i64 pt, .int .u16 seq, .int .u32 ts, .int .u32 ss, .slice aC C.length cC, .bool hx, .int .u16 pf, .slice aE EE.length cE, .slice aP P.length cP, .slice aD D.length cD] 36).alloc #[.bool false, .int .i64 0, .int .u16 0, .int .u32 0, .int .u32 0, .slice none 0 0, .bool false, .int .u16 0, .slice none 0 0, .slice none 0 0, .slice none 0 0] 36)
  rw [World.size_alloc] at HS0
  rw [hp0]
  clear hp0 rP nP lP mP rC nC lC mC rE nE lE mE rD nD lD mD
  unfold Pk.cells
  go_enter Try.func16, Try.ntmps16
  go_wp2_with fail
  refine (HPar.out _ HS0.out.frm).mono ?_
  rintro e w1 ⟨v, bs, hbs, rfl, hsm, hS⟩
  have HBs := Lib.hid hbs
  have HS1 := Lib.hid (HS0.out.more hS)
  obtain ⟨av, cv, rfl, hle, hmx, hrd⟩ := blks_rd (HS1.out.get 0 rfl)
  have HRd := Lib.hid hrd
  have HS0Z := Lib.hid (show w.heap.size + 1 < w1.heap.size by have := (HS1.out.blk 2 rfl).lt; omega)
  clear hbs hsm hS hrd HPar HS0
  by_cases h0 : E = 0
  · have q0 : (E != 0) = false := by simp [h0]
    have hch := chO_ok (zs := p0.pl.P) (by rw [← HE.out, h0])
    rw [← HBs.out, List.length_map] at hch
    obtain ⟨l0, l9, _⟩ := hch
    obtain ⟨b, hb⟩ : ∃ b, bs[bs.length - 1]? = some b := ⟨_, List.getElem?_eq_getElem (by omega)⟩
    have HPl := Lib.hid (primL_last HBs.out hb)
    obtain ⟨bb, bo, rfl, _, hc⟩ := HRd.out (bs.length - 1) b.row (by rw [List.getElem?_map, hb]; rfl)
    obtain ⟨aB, cB, hbv, hrB⟩ := data_rd (HS1.out.get 1 rfl) (List.mem_of_getElem? hb)
    have HMem := Lib.hid (List.mem_of_getElem? hb)
    obtain ⟨bpt, boff, bv, B⟩ := b
    simp only at hbv
    subst hbv
    obtain ⟨k, hk⟩ : ∃ k : Nat, k + 1 = bs.length := ⟨bs.length - 1, by omega⟩
    rw [← hk] at hc hb hle l9 ⊢
    rw [show k + 1 - 1 = k by omega] at hc
    have d0 : w1.cell? ⟨bb, bo + k * 3, none⟩ = some (.int .i64 bpt) := hc 0 _ rfl
    have d1 : w1.cell? ⟨bb, bo + k * 3 + 1, none⟩ = some (.int .i64 boff) := hc 1 _ rfl
    have d2 : w1.cell? ⟨bb, bo + k * 3 + 2, none⟩ = some (.slice aB B.length cB) := hc 2 _ rfl
    have HK := Lib.hid hk
    have i1 : ((k + 1 : Nat) : Int) - 1 = (k : Int) := by omega
    have i2 : (0 : Int) ≤ (k : Int) := by omega
    have i3 : (k : Int) < ((k + 1 : Nat) : Int) := by omega
    have i4 : IntKind.i64.wrap (((k + 1 : Nat) : Int) - 1) = (k : Int) := by rw [i1]; exact IntWalk.i64_in _ (by unfold maxLen at hmx; omega)
    have HS2 := Lib.hid (HS1.out.alloc #[.int .i64 bpt, .int .i64 boff, .slice aB B.length cB] 50)
    have k0 := (HS2.out.blk 4 rfl).cell 0 rfl
    have s0 := (HS2.out.blk 4 rfl).free 0
    have k1 := (HS2.out.blk 4 rfl).cell 1 rfl
    have s1 := (HS2.out.blk 4 rfl).free 1
    have k2 := (HS2.out.blk 4 rfl).cell 2 rfl
    have s2 := (HS2.out.blk 4 rfl).free 2
    have k3 := (HS2.out.blk 4 rfl).cell 3 rfl
    have s3 := (HS2.out.blk 4 rfl).free 3
    have k4 := (HS2.out.blk 4 rfl).cell 4 rfl
    have s4 := (HS2.out.blk 4 rfl).free 4
    have k5 := (HS2.out.blk 4 rfl).cell 5 rfl
    have s5 := (HS2.out.blk 4 rfl).free 5
    have k6 := (HS2.out.blk 4 rfl).cell 6 rfl
    have s6 := (HS2.out.blk 4 rfl).free 6
    have k7 := (HS2.out.blk 4 rfl).cell 7 rfl
    have s7 := (HS2.out.blk 4 rfl).free 7
    have k8 := (HS2.out.blk 4 rfl).cell 8 rfl
    have s8 := (HS2.out.blk 4 rfl).free 8
    have k9 := (HS2.out.blk 4 rfl).cell 9 rfl
    have s9 := (HS2.out.blk 4 rfl).free 9
    have k10 := (HS2.out.blk 4 rfl).cell 10 rfl
    have s10 := (HS2.out.blk 4 rfl).free 10
    clear hc hb hk hmx hle
    go_wp2_with fail
    refine (HCl.out _ HS2.out.frm).mono ?_
    rintro e w2 ⟨⟨ql, qc, qe, qp, qd⟩, rfl, hql, hq, hF2⟩
    simp only at hql ⊢
    subst hql
    have hqr := hq.rd
    obtain ⟨b1, c1, f1, _⟩ := hqr.c
    obtain ⟨b2, c2, f2, _⟩ := hqr.e
    obtain ⟨b3, c3, f3, _⟩ := hqr.p
    obtain ⟨b4, c4, f4, _⟩ := hqr.d
    simp only at f1 f2 f3 f4
    subst f1 f2 f3 f4
    have HN := Lib.hid hq
    have HS3 := Lib.hid ((HS2.out.keep hF2).alloc #[.bool m, .int .i64 pt, .int .u16 seq, .int .u32 ts, .int .u32 ss, .slice b1 C.length c1, .bool hx, .int .u16 pf, .slice b2 EE.length c2, .slice b3 P.length c3, .slice b4 D.length c4] 36)
    have hs3 := HS3.out
    obtain ⟨wy, hwy⟩ : ∃ wy, wy = w2.alloc (.cells #[.bool m, .int .i64 pt, .int .u16 seq, .int .u32 ts, .int .u32 ss, .slice b1 C.length c1, .bool hx, .int .u16 pf, .slice b2 EE.length c2, .slice b3 P.length c3, .slice b4 D.length c4] 36) := ⟨_, rfl⟩
    rw [← hwy] at hs3
    have HS4 := Lib.hid hs3
    have HWY := Lib.hid hwy
    clear hs3 hwy HS3
    have hz1 := HS0Z.out
    have hz2 : w1.heap.size < w2.heap.size := by have := hF2.size; rw [World.size_alloc] at this; omega
    have ne1 : w1.heap.size ≠ w2.heap.size := by omega
    have ne2 : w2.heap.size ≠ w1.heap.size := by omega
    have ne3 : w.heap.size + 1 ≠ w2.heap.size := by omega
    have ne4 : w2.heap.size ≠ w.heap.size + 1 := by omega
    have e0 := (HS4.out.blk 1 rfl).cell 0 rfl
    have e2 := (HS4.out.blk 1 rfl).cell 2 rfl
    have n0 := (HS4.out.blk 0 rfl).cell 0 rfl
    have o0 := (HS4.out.blk 0 rfl).free 0
    have n1 := (HS4.out.blk 0 rfl).cell 1 rfl
    have o1 := (HS4.out.blk 0 rfl).free 1
    have n2 := (HS4.out.blk 0 rfl).cell 2 rfl
    have o2 := (HS4.out.blk 0 rfl).free 2
    have n3 := (HS4.out.blk 0 rfl).cell 3 rfl
    have o3 := (HS4.out.blk 0 rfl).free 3
    have n4 := (HS4.out.blk 0 rfl).cell 4 rfl
    have o4 := (HS4.out.blk 0 rfl).free 4
    have n5 := (HS4.out.blk 0 rfl).cell 5 rfl
    have o5 := (HS4.out.blk 0 rfl).free 5
    have n6 := (HS4.out.blk 0 rfl).cell 6 rfl
    have o6 := (HS4.out.blk 0 rfl).free 6
    have n7 := (HS4.out.blk 0 rfl).cell 7 rfl
    have o7 := (HS4.out.blk 0 rfl).free 7
    have n8 := (HS4.out.blk 0 rfl).cell 8 rfl
    have o8 := (HS4.out.blk 0 rfl).free 8
    have n9 := (HS4.out.blk 0 rfl).cell 9 rfl
    have o9 := (HS4.out.blk 0 rfl).free 9
    have n10 := (HS4.out.blk 0 rfl).cell 10 rfl
    have o10 := (HS4.out.blk 0 rfl).free 10
    have j0 := (HS4.out.blk 4 rfl).cell 0 rfl
    have g0 := (HS4.out.blk 4 rfl).free 0
    have j1 := (HS4.out.blk 4 rfl).cell 1 rfl
    have g1 := (HS4.out.blk 4 rfl).free 1
    have j2 := (HS4.out.blk 4 rfl).cell 2 rfl
    have g2 := (HS4.out.blk 4 rfl).free 2
    have j3 := (HS4.out.blk 4 rfl).cell 3 rfl
    have g3 := (HS4.out.blk 4 rfl).free 3
    have j4 := (HS4.out.blk 4 rfl).cell 4 rfl
    have g4 := (HS4.out.blk 4 rfl).free 4
    have j5 := (HS4.out.blk 4 rfl).cell 5 rfl
    have g5 := (HS4.out.blk 4 rfl).free 5
    have j6 := (HS4.out.blk 4 rfl).cell 6 rfl
    have g6 := (HS4.out.blk 4 rfl).free 6
    have j7 := (HS4.out.blk 4 rfl).cell 7 rfl
    have g7 := (HS4.out.blk 4 rfl).free 7
    have j8 := (HS4.out.blk 4 rfl).cell 8 rfl
    have g8 := (HS4.out.blk 4 rfl).free 8
    have j9 := (HS4.out.blk 4 rfl).cell 9 rfl
    have g9 := (HS4.out.blk 4 rfl).free 9
    have j10 := (HS4.out.blk 4 rfl).cell 10 rfl
    have g10 := (HS4.out.blk 4 rfl).free 10
    clear k0 k1 k2 k3 k4 k5 k6 k7 k8 k9 k10 s0 s1 s2 s3 s4 s5 s6 s7 s8 s9 s10
    clear hq hqr hF2
    go_upto_region 6 with fail
    rw [← HWY.out]
    go_region
    go_wp2_with fail
    have HFs := Lib.hid (fun (u1 u9 x0 x1 x2 x3 x4 x5 x6 x7 x8 x9 x10 : Value) => show Sep [] w _ _ from (((((((((((((HS4.out.put 0 rfl 1 u1).put 0 rfl 9 u9).put 4 rfl 0 x0).put 4 rfl 1 x1).put 4 rfl 2 x2).put 4 rfl 3 x3).put 4 rfl 4 x4).put 4 rfl 5 x5).put 4 rfl 6 x6).put 4 rfl 7 x7).put 4 rfl 8 x8).put 4 rfl 9 x9).put 4 rfl 10 x10).drew)
    refine bodyPost_ret (v := .tuple #[.agg #[.bool m, .int .i64 bpt, .int .u16 seq, .int .u32 ts, .int .u32 ss, .slice b1 C.length c1, .bool hx, .int .u16 pf, .slice b2 EE.length c2, .slice aB B.length cB, .slice b4 D.length c4], .int .i64 0]) ?_ rfl ⟨⟨⟨m, bpt, seq, ts, ss, C, hx, pf, EE, B, D⟩, .slice b1 C.length c1, .slice b2 EE.length c2, .slice aB B.length cB, .slice b4 D.length c4⟩, rfl, ?_, ?_, ?_⟩
    · simp [results, Try.results16, go_sem, j0, j1, j2, j3, j4, j5, j6, j7, j8, j9, j10]
    · rw [HR.out, HPl.out, HQ.out]
    · have hn : ∀ X, Frm [w2.heap.size, w.heap.size + 1] w2 X → RdPkN _ X _ := fun X hX => HN.out.far hX (by simp [World.size_alloc]; omega)
      refine ⟨(hn _ ?_).c.sla, (hn _ ?_).e.sla, data_rd ((HFs.out _ _ _ _ _ _ _ _ _ _ _ _ _).get 3 rfl) HMem.out, (hn _ ?_).d.sla⟩
      all_goals
        refine Frm.drew ?_
        repeat (first | refine Frm.put ?_ (.inl (by simp)) _ _ _ | exact HWY.out ▸ (Frm.refl _ _).alloc _)
    · exact (HFs.out _ _ _ _ _ _ _ _ _ _ _ _ _).frm
  · have q0 : (E != 0) = true := by simp [h0]
    have HFs := Lib.hid (fun (x0 x1 x2 x3 x4 x5 x6 x7 x8 x9 x10 : Value) => show Sep [] w _ _ from (((((((((((HS1.out.put 2 rfl 0 x0).put 2 rfl 1 x1).put 2 rfl 2 x2).put 2 rfl 3 x3).put 2 rfl 4 x4).put 2 rfl 5 x5).put 2 rfl 6 x6).put 2 rfl 7 x7).put 2 rfl 8 x8).put 2 rfl 9 x9).put 2 rfl 10 x10))
    have j0 := (HS1.out.blk 2 rfl).cell 0 rfl
    have g0 := (HS1.out.blk 2 rfl).free 0
    have j1 := (HS1.out.blk 2 rfl).cell 1 rfl
    have g1 := (HS1.out.blk 2 rfl).free 1
    have j2 := (HS1.out.blk 2 rfl).cell 2 rfl
    have g2 := (HS1.out.blk 2 rfl).free 2
    have j3 := (HS1.out.blk 2 rfl).cell 3 rfl
    have g3 := (HS1.out.blk 2 rfl).free 3
    have j4 := (HS1.out.blk 2 rfl).cell 4 rfl
    have g4 := (HS1.out.blk 2 rfl).free 4
    have j5 := (HS1.out.blk 2 rfl).cell 5 rfl
    have g5 := (HS1.out.blk 2 rfl).free 5
    have j6 := (HS1.out.blk 2 rfl).cell 6 rfl
    have g6 := (HS1.out.blk 2 rfl).free 6
    have j7 := (HS1.out.blk 2 rfl).cell 7 rfl
    have g7 := (HS1.out.blk 2 rfl).free 7
    have j8 := (HS1.out.blk 2 rfl).cell 8 rfl
    have g8 := (HS1.out.blk 2 rfl).free 8
    have j9 := (HS1.out.blk 2 rfl).cell 9 rfl
    have g9 := (HS1.out.blk 2 rfl).free 9
    have j10 := (HS1.out.blk 2 rfl).cell 10 rfl
    have g10 := (HS1.out.blk 2 rfl).free 10
    go_wp2_with fail
    refine bodyPost_ret (v := .tuple #[.agg #[.bool false, .int .i64 0, .int .u16 0, .int .u32 0, .int .u32 0, .slice none 0 0, .bool false, .int .u16 0, .slice none 0 0, .slice none 0 0, .slice none 0 0], .int .i64 E]) ?_ rfl ⟨zeroK, rfl, ?_, zeroK_rd _, ?_⟩
    · simp [results, Try.results16, go_sem, j0, j1, j2, j3, j4, j5, j6, j7, j8, j9, j10]
    · rw [HR.out]; exact (primL_none (by rw [← HE.out]; exact h0)).symm
    · exact (HFs.out _ _ _ _ _ _ _ _ _ _ _).frm

end Go.Proofs.Ytiknjkkphdncfaa
