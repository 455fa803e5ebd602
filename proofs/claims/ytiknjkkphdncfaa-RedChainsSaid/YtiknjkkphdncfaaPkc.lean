/-
  THE WALK of rtp.Clone.
-/
import Derived.Test.YtiknjkkphdncfaaPkt
import Derived.Test.YtiknjkkphdncfaaMks
import Derived.Test.YtiknjkkphdncfaaPic
set_option linter.unusedVariables false
set_option linter.unusedSimpArgs false
namespace Go.Proofs.Ytiknjkkphdncfaa
open Go.RowKit

/-- A slice of integers in blocks from B on. -/
def SlaN (B : Nat) (k : IntKind) (W : World) (v : Value) (zs : List Int) : Prop := ∃ a c, v = .slice a zs.length c ∧ RdI k W a zs ∧ (a = none → c = 0) ∧ zs.length ≤ c ∧ c ≤ 9223372036854775807 ∧ ∀ p, a = some p → B ≤ p.block
theorem SlaN.frm {B : Nat} {k : IntKind} {w w' : World} {v : Value} {zs : List Int} (h : SlaN B k w v zs) (hf : Frm [] w w') : SlaN B k w' v zs := by
  obtain ⟨a, c, h1, h2, h3⟩ := h
  exact ⟨a, c, h1, h2.below hf.below, h3⟩
theorem SlaN.of_sep {B : Nat} {k : IntKind} {w w' : World} {e : Nat} {v : Value} {n : Nat} {zs : List Int} (h : Sep [] w w' [ownR e 1 v n (zs.map (Value.int k))]) (hB : B ≤ w.heap.size) : SlaN B k w' v zs := by
  have ho := h.own 0 rfl
  obtain ⟨a, c, hv, hr, hn, hl, hc⟩ := Sla.of_own ho
  refine ⟨a, c, hv, hr, hn, hl, hc, fun p hp => ?_⟩
  rcases ho.2 with ⟨e1, _⟩ | ⟨g, c', cur, e1, _⟩
  · rw [hv] at e1
    injection e1 with e1 _ _
    rw [hp] at e1
    cases e1
  · have hm := h.mine (ownR e 1 v n (zs.map (Value.int k))) (by simp) g (by simp [ownR, e1, Value.ownBlock])
    rw [hv] at e1
    injection e1 with e1 _ _
    rw [hp] at e1
    injection e1 with e1
    subst e1
    rcases hm with hm | hm
    · simp at hm
    · exact Nat.le_trans hB hm
theorem SlaN.far {B : Nat} {k : IntKind} {F : List Nat} {w w' : World} {v : Value} {zs : List Int} (h : SlaN B k w v zs) (hf : Frm F w w') (hF : ∀ g ∈ F, g < B ∨ w.heap.size ≤ g) : SlaN B k w' v zs := by
  obtain ⟨a, c, h1, h2, h3, h4, h5, h6⟩ := h
  refine ⟨a, c, h1, fun i x hx => ?_, h3, h4, h5, h6⟩
  obtain ⟨b, off, ha, hb, hc⟩ := h2 i x hx
  exact ⟨b, off, ha, Nat.lt_of_lt_of_le hb hf.size, (hf.cell hb (fun hb' => by have := hF b hb'; have := h6 _ ha; simp only at this; omega)).trans hc⟩
theorem SlaN.sla {B : Nat} {k : IntKind} {w : World} {v : Value} {zs : List Int} (h : SlaN B k w v zs) : Sla k w v zs := by
  obtain ⟨a, c, h1, h2, h3, h4, h5, h6⟩ := h
  exact ⟨a, c, h1, h2, h3, h4, h5⟩
theorem SlaN.mono {B B' : Nat} {k : IntKind} {w : World} {v : Value} {zs : List Int} (h : SlaN B k w v zs) (hB : B' ≤ B) : SlaN B' k w v zs := by
  obtain ⟨a, c, h1, h2, h3, h4, h5, h6⟩ := h
  exact ⟨a, c, h1, h2, h3, h4, h5, fun p hp => Nat.le_trans hB (h6 p hp)⟩
/-- A packet whose parts lie in blocks from B on. -/
structure RdPkN (B : Nat) (W : World) (x : Pk) : Prop where
  c : SlaN B .u32 W x.cv x.pl.C
  e : SlaN B .u8 W x.ev x.pl.E
  p : SlaN B .u8 W x.pv x.pl.P
  d : SlaN B .u8 W x.dv x.pl.D
theorem RdPkN.rd {B : Nat} {w : World} {x : Pk} (h : RdPkN B w x) : RdPk w x := ⟨h.c.sla, h.e.sla, h.p.sla, h.d.sla⟩
theorem RdPkN.far {B : Nat} {F : List Nat} {w w' : World} {x : Pk} (h : RdPkN B w x) (hf : Frm F w w') (hF : ∀ g ∈ F, g < B ∨ w.heap.size ≤ g) : RdPkN B w' x := ⟨h.c.far hf hF, h.e.far hf hF, h.p.far hf hF, h.d.far hf hF⟩
/-- What the slots of Clone's region hold. -/
def pcT (g : Nat) (p : Pk) (d : Nat) (v : Value) (w : World) : Prop :=
  (d = 3 ∨ d = 15 → v = .pointer (some ⟨g, 5, none⟩)) ∧ (d = 4 → v = p.cv) ∧ (d = 5 → SlaN (g + 2) .u32 w v p.pl.C) ∧
  (d = 6 → v = .pointer (some ⟨g, 8, none⟩)) ∧ (d = 7 → v = p.ev) ∧ (d = 8 → SlaN (g + 2) .u8 w v p.pl.E) ∧
  (d = 9 → v = .pointer (some ⟨g, 9, none⟩)) ∧ (d = 10 → v = p.pv) ∧ (d = 11 → SlaN (g + 2) .u8 w v p.pl.P) ∧
  (d = 12 → v = .pointer (some ⟨g, 10, none⟩)) ∧ (d = 13 → v = p.dv) ∧ (d = 14 → SlaN (g + 2) .u8 w v p.pl.D)
theorem pcT_frm {g : Nat} {p : Pk} (d : Nat) (v : Value) (w w' : World) (hf : Frm [] w w') (h : pcT g p d v w) : pcT g p d v w' := by
  obtain ⟨h1, h2, h3, h4, h5, h6, h7, h8, h9, h10, h11, h12⟩ := h
  exact ⟨h1, h2, fun e => (h3 e).frm hf, h4, h5, fun e => (h6 e).frm hf, h7, h8, fun e => (h9 e).frm hf, h10, h11, fun e => (h12 e).frm hf⟩
set_option maxRecDepth 100000 in
set_option maxHeartbeats 8000000 in
theorem pclone_c (p : Pk) (w : World) (hp : RdPk w p) (sm : PpSm p.pl) :
    Calls Try.prog 29 #[.agg p.cells] w fun e w' => ∃ q : Pk, e = .returned (.agg q.cells) ∧ q.pl = p.pl ∧ RdPkN w.heap.size w' q ∧ Frm [] w w' := by
  have HP := Lib.hid (fun X (hX : Frm [] w X) => hp.frm hX)
  have SM := Lib.hid sm
  have HF := Lib.hid (Frm.refl [] w)
  obtain ⟨p0, hp0⟩ : ∃ p0, p0 = p := ⟨_, rfl⟩
  rw [← hp0] at HP SM
  clear hp sm
  obtain ⟨⟨m, pt, seq, ts, ss, C, hx, pf, E, P, D⟩, cv, ev, pv, dv⟩ := p
  have HQ := Lib.hid hp0
  clear hp0
  unfold Pk.cells
  go_enter Try.func29, Try.ntmps29
  go_wp2_with fail
  refine region_makes 13 (fun v => Frm [] w v ∧ Blk v w.heap.size 36 (Pk.cells p0) ∧ Blk v (w.heap.size + 1) 36 #[.bool false, .int .i64 0, .int .u16 0, .int .u32 0, .int .u32 0, .slice none 0 0, .bool false, .int .u16 0, .slice none 0 0, .slice none 0 0, .slice none 0 0]) (pcT w.heap.size p0) (fun v v' hf hv => ⟨hv.1.trans hf, hf.blk hv.2.1 (by simp), hf.blk hv.2.2 (by simp)⟩) pcT_frm ⟨((HF.out.alloc _).alloc _).drew, ?_⟩ (by kernel_rfl) (by kernel_rfl) (by kernel_rfl) ?_ ?_
  · exact ⟨by rw [HQ.out]; exact ((Blk.made _ _ _).alloc _).drew, (blk_made_at (World.size_alloc _ _).symm).drew⟩
  · refine List.forall_mem_cons.2 ⟨?_, List.forall_mem_cons.2 ⟨?_, List.forall_mem_cons.2 ⟨?_, List.forall_mem_cons.2 ⟨?_, List.forall_mem_cons.2 ⟨?_, List.forall_mem_cons.2 ⟨?_, List.forall_mem_cons.2 ⟨?_, List.forall_mem_cons.2 ⟨?_, List.forall_mem_cons.2 ⟨?_, List.forall_mem_cons.2 ⟨?_, List.forall_mem_cons.2 ⟨?_, List.forall_mem_cons.2 ⟨?_, List.forall_mem_cons.2 ⟨?_, ?_⟩⟩⟩⟩⟩⟩⟩⟩⟩⟩⟩⟩⟩
    · intro u A v K hu ha hv hd hK
      have e1 : A.tmps[1]?.getD undef = .pointer (some ⟨w.heap.size, 0, none⟩) := (eval_tmp A 1).symm.trans (ha 1 rfl)
      exact wp_run (.pointer (some ⟨w.heap.size, 5, none⟩)) v (by simp [execOp, go_sem, e1]) (hK _ _ (Frm.refl _ _) (by unfold pcT; simp))
    · intro u A v K hu ha hv hd hK
      have e1 : A.tmps[3]?.getD undef = _ := ((eval_tmp A 3).symm.trans (hu 3 rfl)).trans ((hd ⟨0, .data⟩ (by simp) rfl _ _ rfl rfl).1 (.inl rfl))
      obtain ⟨hf, h1, h2⟩ := hv
      have k : v.cell? ⟨w.heap.size, 5, none⟩ = some p0.cv := h1.cell 5 rfl
      exact wp_run p0.cv v (by simp [execOp, go_sem, e1, k]) (hK _ _ (Frm.refl _ _) (by unfold pcT; simp))
    · intro u A v K hu ha hv hd hK
      have e1 : A.tmps[4]?.getD undef = _ := ((eval_tmp A 4).symm.trans (hu 4 rfl)).trans ((hd ⟨1, .data⟩ (by simp) rfl _ _ rfl rfl).2.1 rfl)
      obtain ⟨hf, h1, h2⟩ := hv
      obtain ⟨a, c, hcv, rd, hn, _⟩ := (HP.out _ hf).c
      rw [hcv] at e1
      have hc := wclone_c a c _ v rd hn SM.out.c
      unfold Oper.wp
      simp [execOp, go_sem, e1]
      refine hc.mono ?_
      rintro e w1 ⟨v1, rfl, hS⟩
      exact hK _ _ hS.frm (by unfold pcT; simp; exact SlaN.of_sep hS h2.lt)
    · intro u A v K hu ha hv hd hK
      have e1 : A.tmps[1]?.getD undef = .pointer (some ⟨w.heap.size, 0, none⟩) := (eval_tmp A 1).symm.trans (ha 1 rfl)
      exact wp_run (.pointer (some ⟨w.heap.size, 8, none⟩)) v (by simp [execOp, go_sem, e1]) (hK _ _ (Frm.refl _ _) (by unfold pcT; simp))
    · intro u A v K hu ha hv hd hK
      have e1 : A.tmps[6]?.getD undef = _ := ((eval_tmp A 6).symm.trans (hu 6 rfl)).trans ((hd ⟨3, .data⟩ (by simp) rfl _ _ rfl rfl).2.2.2.1 rfl)
      obtain ⟨hf, h1, h2⟩ := hv
      have k : v.cell? ⟨w.heap.size, 8, none⟩ = some p0.ev := h1.cell 8 rfl
      exact wp_run p0.ev v (by simp [execOp, go_sem, e1, k]) (hK _ _ (Frm.refl _ _) (by unfold pcT; simp))
    · intro u A v K hu ha hv hd hK
      have e1 : A.tmps[7]?.getD undef = _ := ((eval_tmp A 7).symm.trans (hu 7 rfl)).trans ((hd ⟨4, .data⟩ (by simp) rfl _ _ rfl rfl).2.2.2.2.1 rfl)
      obtain ⟨hf, h1, h2⟩ := hv
      obtain ⟨a, c, hcv, rd, hn, _⟩ := (HP.out _ hf).e
      rw [hcv] at e1
      have hc := clone_c a c _ v rd hn SM.out.e
      unfold Oper.wp
      simp [execOp, go_sem, e1]
      refine hc.mono ?_
      rintro e w1 ⟨v1, rfl, hS⟩
      exact hK _ _ hS.frm (by unfold pcT; simp; exact SlaN.of_sep hS h2.lt)
    · intro u A v K hu ha hv hd hK
      have e1 : A.tmps[1]?.getD undef = .pointer (some ⟨w.heap.size, 0, none⟩) := (eval_tmp A 1).symm.trans (ha 1 rfl)
      exact wp_run (.pointer (some ⟨w.heap.size, 9, none⟩)) v (by simp [execOp, go_sem, e1]) (hK _ _ (Frm.refl _ _) (by unfold pcT; simp))
    · intro u A v K hu ha hv hd hK
      have e1 : A.tmps[9]?.getD undef = _ := ((eval_tmp A 9).symm.trans (hu 9 rfl)).trans ((hd ⟨6, .data⟩ (by simp) rfl _ _ rfl rfl).2.2.2.2.2.2.1 rfl)
      obtain ⟨hf, h1, h2⟩ := hv
      have k : v.cell? ⟨w.heap.size, 9, none⟩ = some p0.pv := h1.cell 9 rfl
      exact wp_run p0.pv v (by simp [execOp, go_sem, e1, k]) (hK _ _ (Frm.refl _ _) (by unfold pcT; simp))
    · intro u A v K hu ha hv hd hK
      have e1 : A.tmps[10]?.getD undef = _ := ((eval_tmp A 10).symm.trans (hu 10 rfl)).trans ((hd ⟨7, .data⟩ (by simp) rfl _ _ rfl rfl).2.2.2.2.2.2.2.1 rfl)
      obtain ⟨hf, h1, h2⟩ := hv
      obtain ⟨a, c, hcv, rd, hn, _⟩ := (HP.out _ hf).p
      rw [hcv] at e1
      have hc := clone_c a c _ v rd hn SM.out.p
      unfold Oper.wp
      simp [execOp, go_sem, e1]
      refine hc.mono ?_
      rintro e w1 ⟨v1, rfl, hS⟩
      exact hK _ _ hS.frm (by unfold pcT; simp; exact SlaN.of_sep hS h2.lt)
    · intro u A v K hu ha hv hd hK
      have e1 : A.tmps[1]?.getD undef = .pointer (some ⟨w.heap.size, 0, none⟩) := (eval_tmp A 1).symm.trans (ha 1 rfl)
      exact wp_run (.pointer (some ⟨w.heap.size, 10, none⟩)) v (by simp [execOp, go_sem, e1]) (hK _ _ (Frm.refl _ _) (by unfold pcT; simp))
    · intro u A v K hu ha hv hd hK
      have e1 : A.tmps[12]?.getD undef = _ := ((eval_tmp A 12).symm.trans (hu 12 rfl)).trans ((hd ⟨9, .data⟩ (by simp) rfl _ _ rfl rfl).2.2.2.2.2.2.2.2.2.1 rfl)
      obtain ⟨hf, h1, h2⟩ := hv
      have k : v.cell? ⟨w.heap.size, 10, none⟩ = some p0.dv := h1.cell 10 rfl
      exact wp_run p0.dv v (by simp [execOp, go_sem, e1, k]) (hK _ _ (Frm.refl _ _) (by unfold pcT; simp))
    · intro u A v K hu ha hv hd hK
      have e1 : A.tmps[13]?.getD undef = _ := ((eval_tmp A 13).symm.trans (hu 13 rfl)).trans ((hd ⟨10, .data⟩ (by simp) rfl _ _ rfl rfl).2.2.2.2.2.2.2.2.2.2.1 rfl)
      obtain ⟨hf, h1, h2⟩ := hv
      obtain ⟨a, c, hcv, rd, hn, _⟩ := (HP.out _ hf).d
      rw [hcv] at e1
      have hc := clone_c a c _ v rd hn SM.out.d
      unfold Oper.wp
      simp [execOp, go_sem, e1]
      refine hc.mono ?_
      rintro e w1 ⟨v1, rfl, hS⟩
      exact hK _ _ hS.frm (by unfold pcT; simp; exact SlaN.of_sep hS h2.lt)
    · intro u A v K hu ha hv hd hK
      have e1 : A.tmps[1]?.getD undef = .pointer (some ⟨w.heap.size, 0, none⟩) := (eval_tmp A 1).symm.trans (ha 1 rfl)
      exact wp_run (.pointer (some ⟨w.heap.size, 5, none⟩)) v (by simp [execOp, go_sem, e1]) (hK _ _ (Frm.refl _ _) (by unfold pcT; simp))
    · exact fun o ho => absurd ho List.not_mem_nil
  · intro u v hv hd
    obtain ⟨hf, h1, h2⟩ := hv
    have t5 := (hd _ (List.mem_of_getElem? (i := 2) rfl) 5 rfl).2.2.1 rfl
    have t8 := (hd _ (List.mem_of_getElem? (i := 5) rfl) 8 rfl).2.2.2.2.2.1 rfl
    have t11 := (hd _ (List.mem_of_getElem? (i := 8) rfl) 11 rfl).2.2.2.2.2.2.2.2.1 rfl
    have t14 := (hd _ (List.mem_of_getElem? (i := 11) rfl) 14 rfl).2.2.2.2.2.2.2.2.2.2.2 rfl
    have t15 := (hd _ (List.mem_of_getElem? (i := 12) rfl) 15 rfl).1 (.inr rfl)
    have gu : u 15 = .pointer (some ⟨w.heap.size, 5, none⟩) := t15
    obtain ⟨v5, hv5⟩ : ∃ x, x = u 5 := ⟨_, rfl⟩
    obtain ⟨v8, hv8⟩ : ∃ x, x = u 8 := ⟨_, rfl⟩
    obtain ⟨v11, hv11⟩ : ∃ x, x = u 11 := ⟨_, rfl⟩
    obtain ⟨v14, hv14⟩ : ∃ x, x = u 14 := ⟨_, rfl⟩
    simp only [List.drop_succ_cons, List.drop_zero, List.take_succ_cons, List.take_zero, fills, Act.put, Option.getD_some, List.setIfInBounds_toArray, List.set_cons_zero, List.set_cons_succ]
    rw [← hv5, ← hv8, ← hv11, ← hv14, gu]
    rw [← hv5] at t5
    rw [← hv8] at t8
    rw [← hv11] at t11
    rw [← hv14] at t14
    clear hv5 hv8 hv11 hv14 hd
    have s5 := t5
    obtain ⟨a5, c5, rfl, q5⟩ := t5
    clear q5
    have s8 := t8
    obtain ⟨a8, c8, rfl, q8⟩ := t8
    clear q8
    have s11 := t11
    obtain ⟨a11, c11, rfl, q11⟩ := t11
    clear q11
    have s14 := t14
    obtain ⟨a14, c14, rfl, q14⟩ := t14
    clear q14
    have HT := Lib.hid (And.intro s5 (And.intro s8 (And.intro s11 s14)))
    rw [HQ.out] at h1
    simp only [Pk.cells] at h1
    rw [HQ.out]
    have k0 := h1.cell 0 rfl
    have k1 := h1.cell 1 rfl
    have k2 := h1.cell 2 rfl
    have k3 := h1.cell 3 rfl
    have k4 := h1.cell 4 rfl
    have k5 := h1.cell 5 rfl
    have k6 := h1.cell 6 rfl
    have k7 := h1.cell 7 rfl
    have k8 := h1.cell 8 rfl
    have k9 := h1.cell 9 rfl
    have k10 := h1.cell 10 rfl
    have j0 := h2.cell 0 rfl
    have g0 := h2.free 0
    have j1 := h2.cell 1 rfl
    have g1 := h2.free 1
    have j2 := h2.cell 2 rfl
    have g2 := h2.free 2
    have j3 := h2.cell 3 rfl
    have g3 := h2.free 3
    have j4 := h2.cell 4 rfl
    have g4 := h2.free 4
    have j5 := h2.cell 5 rfl
    have g5 := h2.free 5
    have j6 := h2.cell 6 rfl
    have g6 := h2.free 6
    have j7 := h2.cell 7 rfl
    have g7 := h2.free 7
    have j8 := h2.cell 8 rfl
    have g8 := h2.free 8
    have j9 := h2.cell 9 rfl
    have g9 := h2.free 9
    have j10 := h2.cell 10 rfl
    have g10 := h2.free 10
    have f5 := h1.free 5
    have f8 := h1.free 8
    have f9 := h1.free 9
    have f10 := h1.free 10
    clear t15 gu s5 s8 s11 s14
    go_wp2_with fail
    have HFx := Lib.hid hf
    have HB := Lib.hid (And.intro h1 h2)
    refine bodyPost_ret (v := .agg #[.bool m, .int .i64 pt, .int .u16 seq, .int .u32 ts, .int .u32 ss, .slice a5 C.length c5, .bool hx, .int .u16 pf, .slice a8 E.length c8, .slice a11 P.length c11, .slice a14 D.length c14]) ?_ rfl ⟨⟨⟨m, pt, seq, ts, ss, C, hx, pf, E, P, D⟩, .slice a5 C.length c5, .slice a8 E.length c8, .slice a11 P.length c11, .slice a14 D.length c14⟩, rfl, rfl, ?_, ?_⟩
    · simp [results, Try.results29, go_sem, j0, j1, j2, j3, j4, j5, j6, j7, j8, j9, j10]
    · have hF : ∀ x ∈ [w.heap.size, w.heap.size + 1], x < w.heap.size + 2 ∨ v.heap.size ≤ x := by simp
      have hT := HT.out
      rw [HQ.out] at hT
      refine ⟨(hT.1.far (F := [w.heap.size, w.heap.size + 1]) ?_ hF).mono (by omega), (hT.2.1.far (F := [w.heap.size, w.heap.size + 1]) ?_ hF).mono (by omega), (hT.2.2.1.far (F := [w.heap.size, w.heap.size + 1]) ?_ hF).mono (by omega), (hT.2.2.2.far (F := [w.heap.size, w.heap.size + 1]) ?_ hF).mono (by omega)⟩
      all_goals (repeat (first | refine Frm.put ?_ (.inl (by simp)) _ _ _ | exact Frm.refl _ _))
    · repeat (first | refine Frm.put ?_ (.inr (by omega)) _ _ _ | exact HFx.out)
end Go.Proofs.Ytiknjkkphdncfaa
