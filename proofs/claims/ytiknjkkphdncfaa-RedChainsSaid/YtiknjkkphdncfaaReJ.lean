/-
  THE WALK of red.Wrap (printed by gen_wrap.py).
-/
import Derived.Test.YtiknjkkphdncfaaReI
import Derived.Test.YtiknjkkphdncfaaReK
set_option linter.unusedVariables false
set_option linter.unusedSimpArgs false
namespace Go.Proofs.Ytiknjkkphdncfaa
open Go.RowKit

theorem write_c (w : World) (a : Option Addr) (c : Nat) (bs : List BkV) (hb : RdBs w a bs) (hn : bs.length ≤ 1000000) (hl : ∀ b ∈ bs, b.B.length ≤ 2000) :
    Calls Try.prog 8 #[.slice a bs.length c] w (WriteP w (outB bs) (wrongE bs)) := by
  by_cases h : wrongE bs = 0
  · have h1 := write_good w a c bs hb hl h
    unfold outB
    rw [if_pos h, h]
    exact h1
  · have h1 := write_bad w a c bs hb hn hl h
    unfold outB
    rw [if_neg h]
    exact h1
/-- The block that Wrap makes. -/
def wrapB (x : Pp) : List BkV := [⟨x.pt, 0, .slice none 0 0, x.P⟩]
def wrapE (x : Pp) (n : Int) : Int := if 0 ≤ n ∧ n ≤ 127 then wrongE (wrapB x) else 1
def wrapL (x : Pp) (n : Int) : Pp := if wrapE x n = 0 then { x with pt := n, P := bytesB (wrapB x) } else zeroP

set_option maxRecDepth 100000 in
set_option maxHeartbeats 16000000 in
theorem wrap_c (p : Pk) (n : Int) (w : World) (hp : RdPk w p) (sm : PpSm p.pl) (hy : p.pl.P.length ≤ 2000) :
    Calls Try.prog 14 #[.agg p.cells, .int .i64 n] w (PktP w (wrapL p.pl n) (wrapE p.pl n)) := by
  have HP := Lib.hid (fun X (hX : Frm [] w X) => hp.frm hX)
  have SM := Lib.hid sm
  have HY := Lib.hid hy
  obtain ⟨p0, hp0⟩ : ∃ p0, p0 = p := ⟨_, rfl⟩
  rw [← hp0] at HP SM HY ⊢
  obtain ⟨R, hR⟩ : ∃ R, R = wrapL p0.pl n := ⟨_, rfl⟩
  obtain ⟨E, hE⟩ : ∃ E, E = wrapE p0.pl n := ⟨_, rfl⟩
  rw [← hR, ← hE]
  have HR := Lib.hid hR
  have HE := Lib.hid hE
  clear hp sm hy hR hE
  obtain ⟨⟨m, pt, seq, ts, ss, C, hx, pf, EE, P, D⟩, cv, ev, pv, dv⟩ := p
  have HQ := Lib.hid hp0
  obtain ⟨aC, cC, e1, rC, nC, lC, mC⟩ := (HP.out w (Frm.refl _ _)).c
  obtain ⟨aE, cE, e2, rE, nE, lE, mE⟩ := (HP.out w (Frm.refl _ _)).e
  obtain ⟨aP, cP, e3, rP, nP, lP, mP⟩ := (HP.out w (Frm.refl _ _)).p
  obtain ⟨aD, cD, e4, rD, nD, lD, mD⟩ := (HP.out w (Frm.refl _ _)).d
  rw [hp0] at e1 e2 e3 e4
  simp only at e1 e2 e3 e4
  subst e1 e2 e3 e4
  have HCl := Lib.hid (fun X (hX : Frm [] w X) => pclone_c p0 X (HP.out X hX) SM.out)
  have HRp := Lib.hid (fun X (hX : Frm [] w X) => show RdI .u8 X aP P from by have := rP.below hX.below; rw [hp0] at this; exact this)
  have HNp := Lib.hid nP
  rw [hp0] at HCl
  simp only [Pk.cells] at HCl
  have HS0 := Lib.hid (((Sep.init w).alloc #[.bool m, .int .i64 pt, .int .u16 seq, .int .u32 ts, .int .u32 ss, .slice aC C.length cC, .bool hx, .int .u16 pf, .slice aE EE.length cE, .slice aP P.length cP, .slice aD D.length cD] 36).alloc #[.bool false, .int .i64 0, .int .u16 0, .int .u32 0, .int .u32 0, .slice none 0 0, .bool false, .int .u16 0, .slice none 0 0, .slice none 0 0, .slice none 0 0] 36)
  rw [World.size_alloc] at HS0
  rw [hp0]
  rw [hp0] at HY
  simp only at HY
  clear hp0 rP nP lP mP rC nC lC mC rE nE lE mE rD nD lD mD
  unfold Pk.cells
  have HRt := Lib.hid (fun X => right_c n X)
  by_cases hr : 0 ≤ n ∧ n ≤ 127
  · have hE : E = wrongE (wrapB p0.pl) := by rw [HE.out]; unfold wrapE; rw [if_pos hr]
    have HE2 := Lib.hid hE
    rw [decide_eq_true hr] at HRt
    clear hE hr
    go_enter Try.func14, Try.ntmps14
    go_wp2_with fail
    refine (HRt.out _).mono ?_
    rintro e w1 ⟨rfl, rfl⟩
    have k0 := (HS0.out.blk 1 rfl).cell 0 rfl
    have s0 := (HS0.out.blk 1 rfl).free 0
    have k1 := (HS0.out.blk 1 rfl).cell 1 rfl
    have s1 := (HS0.out.blk 1 rfl).free 1
    have k2 := (HS0.out.blk 1 rfl).cell 2 rfl
    have s2 := (HS0.out.blk 1 rfl).free 2
    have k3 := (HS0.out.blk 1 rfl).cell 3 rfl
    have s3 := (HS0.out.blk 1 rfl).free 3
    have k4 := (HS0.out.blk 1 rfl).cell 4 rfl
    have s4 := (HS0.out.blk 1 rfl).free 4
    have k5 := (HS0.out.blk 1 rfl).cell 5 rfl
    have s5 := (HS0.out.blk 1 rfl).free 5
    have k6 := (HS0.out.blk 1 rfl).cell 6 rfl
    have s6 := (HS0.out.blk 1 rfl).free 6
    have k7 := (HS0.out.blk 1 rfl).cell 7 rfl
    have s7 := (HS0.out.blk 1 rfl).free 7
    have k8 := (HS0.out.blk 1 rfl).cell 8 rfl
    have s8 := (HS0.out.blk 1 rfl).free 8
    have k9 := (HS0.out.blk 1 rfl).cell 9 rfl
    have s9 := (HS0.out.blk 1 rfl).free 9
    have k10 := (HS0.out.blk 1 rfl).cell 10 rfl
    have s10 := (HS0.out.blk 1 rfl).free 10
    have HS1 := Lib.hid (HS0.out.alloc #[.int .i64 pt, .int .i64 0, .slice aP P.length cP] 50)
    have HWr := Lib.hid (write_c _ (some ⟨((w.alloc (.cells #[.bool m, .int .i64 pt, .int .u16 seq, .int .u32 ts, .int .u32 ss, .slice aC C.length cC, .bool hx, .int .u16 pf, .slice aE EE.length cE, .slice aP P.length cP, .slice aD D.length cD] 36)).alloc (.cells #[.bool false, .int .i64 0, .int .u16 0, .int .u32 0, .int .u32 0, .slice none 0 0, .bool false, .int .u16 0, .slice none 0 0, .slice none 0 0, .slice none 0 0] 36)).heap.size, 0, none⟩) 1 [⟨pt, 0, .slice aP P.length cP, P⟩] ⟨rdS_lit (HS1.out.blk 0 rfl), fun b hb => by simp at hb; subst hb; exact ⟨aP, cP, rfl, HRp.out _ HS1.out.frm, HNp.out⟩⟩ (by simp) (fun b hb => by simp at hb; subst hb; exact HY.out))
    simp only [World.size_alloc, List.length_cons, List.length_nil, Nat.zero_add] at HWr
    have hwm : wrongE [⟨pt, 0, .slice aP P.length cP, P⟩] = E := by rw [HE2.out, HQ.out]; exact wrongE_map rfl
    have hom : outB [⟨pt, 0, .slice aP P.length cP, P⟩] = outB (wrapB p0.pl) := by rw [HQ.out]; exact outB_map rfl
    rw [hwm, hom] at HWr
    obtain ⟨O, hO⟩ : ∃ O, O = outB (wrapB p0.pl) := ⟨_, rfl⟩
    rw [← hO] at HWr
    have HOo := Lib.hid hO
    clear hwm hom hO
    go_wp2_with fail
    refine HWr.out.mono ?_
    rintro e w2 ⟨v, rfl, hS⟩
    have HS2 := Lib.hid (HS1.out.more hS)
    obtain ⟨av, cv, rfl, hle, hrv⟩ := RdI.of_own (k := .u8) (hS.own 0 rfl)
    clear hS HWr hle hrv
    clear k0 k1 k2 k3 k4 k5 k6 k7 k8 k9 k10 s0 s1 s2 s3 s4 s5 s6 s7 s8 s9 s10
    by_cases h0 : E = 0
    · have q0 : (E != 0) = false := by simp [h0]
      have k0 := (HS2.out.blk 3 rfl).cell 0 rfl
      have s0 := (HS2.out.blk 3 rfl).free 0
      have k1 := (HS2.out.blk 3 rfl).cell 1 rfl
      have s1 := (HS2.out.blk 3 rfl).free 1
      have k2 := (HS2.out.blk 3 rfl).cell 2 rfl
      have s2 := (HS2.out.blk 3 rfl).free 2
      have k3 := (HS2.out.blk 3 rfl).cell 3 rfl
      have s3 := (HS2.out.blk 3 rfl).free 3
      have k4 := (HS2.out.blk 3 rfl).cell 4 rfl
      have s4 := (HS2.out.blk 3 rfl).free 4
      have k5 := (HS2.out.blk 3 rfl).cell 5 rfl
      have s5 := (HS2.out.blk 3 rfl).free 5
      have k6 := (HS2.out.blk 3 rfl).cell 6 rfl
      have s6 := (HS2.out.blk 3 rfl).free 6
      have k7 := (HS2.out.blk 3 rfl).cell 7 rfl
      have s7 := (HS2.out.blk 3 rfl).free 7
      have k8 := (HS2.out.blk 3 rfl).cell 8 rfl
      have s8 := (HS2.out.blk 3 rfl).free 8
      have k9 := (HS2.out.blk 3 rfl).cell 9 rfl
      have s9 := (HS2.out.blk 3 rfl).free 9
      have k10 := (HS2.out.blk 3 rfl).cell 10 rfl
      have s10 := (HS2.out.blk 3 rfl).free 10
      go_wp2_with fail
      refine (HCl.out _ HS2.out.frm).mono ?_
      rintro e w3 ⟨⟨ql, qc, qe, qp, qd⟩, rfl, hql, hq, hF2⟩
      simp only at hql ⊢
      subst hql
      have hqr := hq.rd
      obtain ⟨b1, c1, f1, _⟩ := hqr.c
      obtain ⟨b2, c2, f2, _⟩ := hqr.e
      obtain ⟨b3, c3, f3, _⟩ := hqr.p
      obtain ⟨b4, c4, f4, _⟩ := hqr.d
      simp only at f1 f2 f3 f4
      subst f1 f2 f3 f4
      have HN := Lib.hid hq
      have hz2 : w.heap.size + 1 < w2.heap.size := (HS2.out.blk 2 rfl).lt
      have hz3 : w2.heap.size ≤ w3.heap.size := hF2.size
      have hs3 := (HS2.out.keep hF2).alloc #[.bool m, .int .i64 pt, .int .u16 seq, .int .u32 ts, .int .u32 ss, .slice b1 C.length c1, .bool hx, .int .u16 pf, .slice b2 EE.length c2, .slice b3 P.length c3, .slice b4 D.length c4] 36
      obtain ⟨wy, hwy⟩ : ∃ wy, wy = w3.alloc (.cells #[.bool m, .int .i64 pt, .int .u16 seq, .int .u32 ts, .int .u32 ss, .slice b1 C.length c1, .bool hx, .int .u16 pf, .slice b2 EE.length c2, .slice b3 P.length c3, .slice b4 D.length c4] 36) := ⟨_, rfl⟩
      rw [← hwy] at hs3
      have HS4 := Lib.hid hs3
      have HWY := Lib.hid hwy
      clear hs3 hwy
      have ne3 : w.heap.size + 1 ≠ w3.heap.size := by omega
      have ne4 : w3.heap.size ≠ w.heap.size + 1 := by omega
      have n0 := (HS4.out.blk 0 rfl).cell 0 rfl
      have o0 := (HS4.out.blk 0 rfl).free 0
      have n1 := (HS4.out.blk 0 rfl).cell 1 rfl
      have o1 := (HS4.out.blk 0 rfl).free 1
      have n2 := (HS4.out.blk 0 rfl).cell 2 rfl
      have o2 := (HS4.out.blk 0 rfl).free 2
      have n3 := (HS4.out.blk 0 rfl).cell 3 rfl
      have o3 := (HS4.out.blk 0 rfl).free 3
      have n4 := (HS4.out.blk 0 rfl).cell 4 rfl
      have o4 := (HS4.out.blk 0 rfl).free 4
      have n5 := (HS4.out.blk 0 rfl).cell 5 rfl
      have o5 := (HS4.out.blk 0 rfl).free 5
      have n6 := (HS4.out.blk 0 rfl).cell 6 rfl
      have o6 := (HS4.out.blk 0 rfl).free 6
      have n7 := (HS4.out.blk 0 rfl).cell 7 rfl
      have o7 := (HS4.out.blk 0 rfl).free 7
      have n8 := (HS4.out.blk 0 rfl).cell 8 rfl
      have o8 := (HS4.out.blk 0 rfl).free 8
      have n9 := (HS4.out.blk 0 rfl).cell 9 rfl
      have o9 := (HS4.out.blk 0 rfl).free 9
      have n10 := (HS4.out.blk 0 rfl).cell 10 rfl
      have o10 := (HS4.out.blk 0 rfl).free 10
      have j0 := (HS4.out.blk 3 rfl).cell 0 rfl
      have g0 := (HS4.out.blk 3 rfl).free 0
      have j1 := (HS4.out.blk 3 rfl).cell 1 rfl
      have g1 := (HS4.out.blk 3 rfl).free 1
      have j2 := (HS4.out.blk 3 rfl).cell 2 rfl
      have g2 := (HS4.out.blk 3 rfl).free 2
      have j3 := (HS4.out.blk 3 rfl).cell 3 rfl
      have g3 := (HS4.out.blk 3 rfl).free 3
      have j4 := (HS4.out.blk 3 rfl).cell 4 rfl
      have g4 := (HS4.out.blk 3 rfl).free 4
      have j5 := (HS4.out.blk 3 rfl).cell 5 rfl
      have g5 := (HS4.out.blk 3 rfl).free 5
      have j6 := (HS4.out.blk 3 rfl).cell 6 rfl
      have g6 := (HS4.out.blk 3 rfl).free 6
      have j7 := (HS4.out.blk 3 rfl).cell 7 rfl
      have g7 := (HS4.out.blk 3 rfl).free 7
      have j8 := (HS4.out.blk 3 rfl).cell 8 rfl
      have g8 := (HS4.out.blk 3 rfl).free 8
      have j9 := (HS4.out.blk 3 rfl).cell 9 rfl
      have g9 := (HS4.out.blk 3 rfl).free 9
      have j10 := (HS4.out.blk 3 rfl).cell 10 rfl
      have g10 := (HS4.out.blk 3 rfl).free 10
      clear k0 k1 k2 k3 k4 k5 k6 k7 k8 k9 k10 s0 s1 s2 s3 s4 s5 s6 s7 s8 s9 s10
      clear hq hqr hF2
      go_upto_region 7 with fail
      rw [← HWY.out]
      go_wp2_with fail
      have HFs := Lib.hid (fun (u1 u9 x0 x1 x2 x3 x4 x5 x6 x7 x8 x9 x10 : Value) => show Sep [] w _ _ from (((((((((((((HS4.out.put 0 rfl 1 u1).put 0 rfl 9 u9).put 3 rfl 0 x0).put 3 rfl 1 x1).put 3 rfl 2 x2).put 3 rfl 3 x3).put 3 rfl 4 x4).put 3 rfl 5 x5).put 3 rfl 6 x6).put 3 rfl 7 x7).put 3 rfl 8 x8).put 3 rfl 9 x9).put 3 rfl 10 x10))
      refine bodyPost_ret (v := .tuple #[.agg #[.bool m, .int .i64 n, .int .u16 seq, .int .u32 ts, .int .u32 ss, .slice b1 C.length c1, .bool hx, .int .u16 pf, .slice b2 EE.length c2, .slice av O.length cv, .slice b4 D.length c4], .int .i64 0]) ?_ rfl ⟨⟨⟨m, n, seq, ts, ss, C, hx, pf, EE, O, D⟩, .slice b1 C.length c1, .slice b2 EE.length c2, .slice av O.length cv, .slice b4 D.length c4⟩, rfl, ?_, ?_, ?_⟩
      · simp [results, Try.results14, go_sem, j0, j1, j2, j3, j4, j5, j6, j7, j8, j9, j10]
      · have hw0 : wrongE (wrapB p0.pl) = 0 := by rw [← HE2.out]; exact h0
        have hw1 : wrapE p0.pl n = 0 := by rw [← HE.out]; exact h0
        rw [HR.out, HOo.out]
        unfold wrapL outB
        rw [if_pos hw1, if_pos hw0, HQ.out]
      · have hn : ∀ X, Frm [w3.heap.size, w.heap.size + 1] w3 X → RdPkN _ X _ := fun X hX => HN.out.far hX (by simp; omega)
        refine ⟨(hn _ ?_).c.sla, (hn _ ?_).e.sla, Sla.of_own ((HFs.out _ _ _ _ _ _ _ _ _ _ _ _ _).own 1 rfl), (hn _ ?_).d.sla⟩
        all_goals
          repeat (first | refine Frm.put ?_ (.inl (by simp)) _ _ _ | exact HWY.out ▸ (Frm.refl _ _).alloc _)
      · exact (HFs.out _ _ _ _ _ _ _ _ _ _ _ _ _).frm
    · have q0 : (E != 0) = true := by simp [h0]
      have HFs := Lib.hid (fun (x0 x1 x2 x3 x4 x5 x6 x7 x8 x9 x10 : Value) => show Sep [] w _ _ from (((((((((((HS2.out.put 2 rfl 0 x0).put 2 rfl 1 x1).put 2 rfl 2 x2).put 2 rfl 3 x3).put 2 rfl 4 x4).put 2 rfl 5 x5).put 2 rfl 6 x6).put 2 rfl 7 x7).put 2 rfl 8 x8).put 2 rfl 9 x9).put 2 rfl 10 x10))
      have j0 := (HS2.out.blk 2 rfl).cell 0 rfl
      have g0 := (HS2.out.blk 2 rfl).free 0
      have j1 := (HS2.out.blk 2 rfl).cell 1 rfl
      have g1 := (HS2.out.blk 2 rfl).free 1
      have j2 := (HS2.out.blk 2 rfl).cell 2 rfl
      have g2 := (HS2.out.blk 2 rfl).free 2
      have j3 := (HS2.out.blk 2 rfl).cell 3 rfl
      have g3 := (HS2.out.blk 2 rfl).free 3
      have j4 := (HS2.out.blk 2 rfl).cell 4 rfl
      have g4 := (HS2.out.blk 2 rfl).free 4
      have j5 := (HS2.out.blk 2 rfl).cell 5 rfl
      have g5 := (HS2.out.blk 2 rfl).free 5
      have j6 := (HS2.out.blk 2 rfl).cell 6 rfl
      have g6 := (HS2.out.blk 2 rfl).free 6
      have j7 := (HS2.out.blk 2 rfl).cell 7 rfl
      have g7 := (HS2.out.blk 2 rfl).free 7
      have j8 := (HS2.out.blk 2 rfl).cell 8 rfl
      have g8 := (HS2.out.blk 2 rfl).free 8
      have j9 := (HS2.out.blk 2 rfl).cell 9 rfl
      have g9 := (HS2.out.blk 2 rfl).free 9
      have j10 := (HS2.out.blk 2 rfl).cell 10 rfl
      have g10 := (HS2.out.blk 2 rfl).free 10
      go_wp2_with fail
      refine bodyPost_ret (v := .tuple #[.agg #[.bool false, .int .i64 0, .int .u16 0, .int .u32 0, .int .u32 0, .slice none 0 0, .bool false, .int .u16 0, .slice none 0 0, .slice none 0 0, .slice none 0 0], .int .i64 E]) ?_ rfl ⟨zeroK, rfl, ?_, zeroK_rd _, ?_⟩
      · simp [results, Try.results14, go_sem, j0, j1, j2, j3, j4, j5, j6, j7, j8, j9, j10]
      · rw [HR.out]; unfold wrapL; rw [if_neg (by rw [← HE.out]; exact h0)]; rfl
      · exact (HFs.out _ _ _ _ _ _ _ _ _ _ _).frm
  · have hE : E = 1 := by rw [HE.out]; unfold wrapE; rw [if_neg hr]
    have HE2 := Lib.hid hE
    rw [decide_eq_false hr] at HRt
    clear hE hr
    go_enter Try.func14, Try.ntmps14
    go_wp2_with fail
    refine (HRt.out _).mono ?_
    rintro e w1 ⟨rfl, rfl⟩
    obtain rfl := HE2.out
    have HFs := Lib.hid (fun (x0 x1 x2 x3 x4 x5 x6 x7 x8 x9 x10 : Value) => show Sep [] w _ _ from (((((((((((HS0.out.put 0 rfl 0 x0).put 0 rfl 1 x1).put 0 rfl 2 x2).put 0 rfl 3 x3).put 0 rfl 4 x4).put 0 rfl 5 x5).put 0 rfl 6 x6).put 0 rfl 7 x7).put 0 rfl 8 x8).put 0 rfl 9 x9).put 0 rfl 10 x10))
    have j0 := (HS0.out.blk 0 rfl).cell 0 rfl
    have g0 := (HS0.out.blk 0 rfl).free 0
    have j1 := (HS0.out.blk 0 rfl).cell 1 rfl
    have g1 := (HS0.out.blk 0 rfl).free 1
    have j2 := (HS0.out.blk 0 rfl).cell 2 rfl
    have g2 := (HS0.out.blk 0 rfl).free 2
    have j3 := (HS0.out.blk 0 rfl).cell 3 rfl
    have g3 := (HS0.out.blk 0 rfl).free 3
    have j4 := (HS0.out.blk 0 rfl).cell 4 rfl
    have g4 := (HS0.out.blk 0 rfl).free 4
    have j5 := (HS0.out.blk 0 rfl).cell 5 rfl
    have g5 := (HS0.out.blk 0 rfl).free 5
    have j6 := (HS0.out.blk 0 rfl).cell 6 rfl
    have g6 := (HS0.out.blk 0 rfl).free 6
    have j7 := (HS0.out.blk 0 rfl).cell 7 rfl
    have g7 := (HS0.out.blk 0 rfl).free 7
    have j8 := (HS0.out.blk 0 rfl).cell 8 rfl
    have g8 := (HS0.out.blk 0 rfl).free 8
    have j9 := (HS0.out.blk 0 rfl).cell 9 rfl
    have g9 := (HS0.out.blk 0 rfl).free 9
    have j10 := (HS0.out.blk 0 rfl).cell 10 rfl
    have g10 := (HS0.out.blk 0 rfl).free 10
    go_wp2_with fail
    refine bodyPost_ret (v := .tuple #[.agg #[.bool false, .int .i64 0, .int .u16 0, .int .u32 0, .int .u32 0, .slice none 0 0, .bool false, .int .u16 0, .slice none 0 0, .slice none 0 0, .slice none 0 0], .int .i64 1]) ?_ rfl ⟨zeroK, rfl, ?_, zeroK_rd _, ?_⟩
    · simp [results, Try.results14, go_sem, j0, j1, j2, j3, j4, j5, j6, j7, j8, j9, j10]
    · rw [HR.out]; unfold wrapL; rw [if_neg (by rw [← HE.out]; decide)]; rfl
    · exact HS0.out.frm

end Go.Proofs.Ytiknjkkphdncfaa
