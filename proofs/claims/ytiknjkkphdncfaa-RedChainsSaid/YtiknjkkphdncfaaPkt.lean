/-
  PACKETS READ IN MEMORY; the references' SameWords, Same and Few; rtp.Clone.
-/
import Derived.Test.YtiknjkkphdncfaaCln
import Derived.Test.YtiknjkkphdncfaaPrm
set_option linter.unusedVariables false
set_option linter.unusedSimpArgs false
namespace Go.Proofs.Ytiknjkkphdncfaa
open Go.RowKit

/-- A slice of integers, read. -/
def Sla (k : IntKind) (W : World) (v : Value) (zs : List Int) : Prop := ∃ a c, v = .slice a zs.length c ∧ RdI k W a zs ∧ (a = none → c = 0) ∧ zs.length ≤ c ∧ c ≤ 9223372036854775807
theorem Sla.frm {k : IntKind} {w w' : World} {v : Value} {zs : List Int} (h : Sla k w v zs) (hf : Frm [] w w') : Sla k w' v zs := by
  obtain ⟨a, c, h1, h2, h3⟩ := h
  exact ⟨a, c, h1, h2.below hf.below, h3⟩
theorem Sla.nil (k : IntKind) (w : World) : Sla k w (.slice none 0 0) [] := ⟨none, 0, rfl, RdI.nil _ _ _, fun _ => rfl, Nat.le_refl _, by omega⟩
theorem Sla.of_own {k : IntKind} {w : World} {base e : Nat} {v : Value} {n : Nat} {zs : List Int} (h : w.ownsRow base e 1 v n (zs.map (Value.int k))) : Sla k w v zs := by
  have hn : n = zs.length := by have := h.1; simpa using this.symm
  have h0 := h
  obtain ⟨a, c, rfl, hc, hr⟩ := RdI.of_own h
  refine ⟨a, c, rfl, hr, fun ha => ?_, hc, ?_⟩
  · obtain ⟨a', c', e1, _, h3⟩ := own_shape h0
    injection e1 with e1 _ e3
    subst e1 e3
    exact h3 ha
  · rcases h0.2 with ⟨e1, _⟩ | ⟨g, c', cur, e1, _, _, _, hm, _⟩
    · injection e1 with _ _ e3
      omega
    · injection e1 with _ _ e3
      subst e3
      unfold maxLen at hm
      omega
/-- What a packet says. -/
structure Pp where
  m : Bool
  pt : Int
  seq : Int
  ts : Int
  ss : Int
  C : List Int
  hx : Bool
  pf : Int
  E : List Int
  P : List Int
  D : List Int
/-- A packet. -/
structure Pk where
  pl : Pp
  cv : Value
  ev : Value
  pv : Value
  dv : Value
def Pk.cells (p : Pk) : Array Value := #[.bool p.pl.m, .int .i64 p.pl.pt, .int .u16 p.pl.seq, .int .u32 p.pl.ts, .int .u32 p.pl.ss, p.cv, .bool p.pl.hx, .int .u16 p.pl.pf, p.ev, p.pv, p.dv]
structure RdPk (W : World) (x : Pk) : Prop where
  c : Sla .u32 W x.cv x.pl.C
  e : Sla .u8 W x.ev x.pl.E
  p : Sla .u8 W x.pv x.pl.P
  d : Sla .u8 W x.dv x.pl.D
theorem RdPk.frm {w w' : World} {p : Pk} (h : RdPk w p) (hf : Frm [] w w') : RdPk w' p := ⟨h.c.frm hf, h.e.frm hf, h.p.frm hf, h.d.frm hf⟩
structure PpSm (x : Pp) : Prop where
  c : x.C.length ≤ 1000000
  e : x.E.length ≤ 1000000
  p : x.P.length ≤ 1000000
  d : x.D.length ≤ 1000000

set_option maxRecDepth 100000 in
set_option maxHeartbeats 4000000 in
theorem wsame_c (a b : Option Addr) (ca cb : Nat) (xs : List Int) (w : World) (rx : RdI .u32 w a xs) (ry : RdI .u32 w b xs) (hx : xs.length ≤ 1000000) :
    Calls Try.prog 30 #[.slice a xs.length ca, .slice b xs.length cb] w fun e w' => e = .returned (.bool true) ∧ ∃ m, w' = w.drewN m := by
  have HX := Lib.hid rx
  have HY := Lib.hid ry
  clear rx ry
  go_enter Try.func30, Try.ntmps30
  go_wp2_with fail
  go_loopw [5] (fun i wr => ∃ (k m : Nat), k ≤ xs.length ∧ i = .int .i64 k ∧ wr = w.drewN m) (fun i _ => xs.length - (intOf i).toNat)
  case atStart => exact ⟨0, 0, Nat.zero_le _, rfl, rfl⟩
  case round =>
    obtain ⟨k, m, hk, rfl, hwr⟩ := hrel
    by_cases hlt : k < xs.length
    · obtain ⟨b1, o1, x, hx1, rfl, _, cx⟩ := HX.out.at_ k hlt
      obtain ⟨b2, o2, y, hy1, rfl, _, cy⟩ := HY.out.at_ k hlt
      have hxy : y = x := by rw [hx1] at hy1; injection hy1 with h; exact h.symm
      subst hxy
      have cx2 : wr.cell? ⟨b1, o1 + k, none⟩ = some (.int .u32 y) := by rw [hwr]; exact cx
      have cy2 : wr.cell? ⟨b2, o2 + k, none⟩ = some (.int .u32 y) := by rw [hwr]; exact cy
      have i1 : (0 : Int) ≤ (k : Int) := by omega
      have i2 : (k : Int) < (xs.length : Int) := by omega
      have HW := Lib.hid hwr
      obtain ⟨wi, hwi⟩ : ∃ wi : World, wi = wr := ⟨_, rfl⟩
      rw [← hwi] at HW cx2 cy2 ⊢
      clear hwi hwr hx1 hy1 cx cy
      go_wp2_with fail
      go_quiet (fail)
      go_wp2_with fail
      go_roundw
      case rel => exact ⟨k + 1, m + nq, by omega, by go_num, by rw [HW.out]; simp⟩
      case measure => simp [intOf]; omega
    · obtain rfl : k = xs.length := by omega
      have HW := Lib.hid hwr
      clear hwr
      go_wp2_with fail
      go_ret
      exact ⟨rfl, m, HW.out⟩
set_option maxRecDepth 100000 in
set_option maxHeartbeats 8000000 in
theorem psame_c (p q : Pk) (w : World) (hp : RdPk w p) (hq : RdPk w q) (he : q.pl = p.pl) (sm : PpSm p.pl) :
    Calls Try.prog 15 #[.agg p.cells, .agg q.cells] w fun e w' => e = .returned (.bool true) ∧ Frm [] w w' := by
  obtain ⟨pl, cv, ev, pv, dv⟩ := p
  obtain ⟨ql, cv', ev', pv', dv'⟩ := q
  simp only at he
  subst he
  obtain ⟨a1, c1, e1, r1, _⟩ := hp.c
  obtain ⟨a2, c2, e2, r2, _⟩ := hp.e
  obtain ⟨a3, c3, e3, r3, _⟩ := hp.p
  obtain ⟨a4, c4, e4, r4, _⟩ := hp.d
  obtain ⟨b1, d1, f1, s1, _⟩ := hq.c
  obtain ⟨b2, d2, f2, s2, _⟩ := hq.e
  obtain ⟨b3, d3, f3, s3, _⟩ := hq.p
  obtain ⟨b4, d4, f4, s4, _⟩ := hq.d
  simp only at e1 e2 e3 e4 f1 f2 f3 f4
  subst e1 e2 e3 e4 f1 f2 f3 f4
  obtain ⟨m, pt, seq, ts, ss, C, hx, pf, E, P, D⟩ := ql
  unfold Pk.cells
  simp only at *
  have H1 := Lib.hid (fun X (h : Frm [] w X) => wsame_c a1 b1 c1 d1 C X (r1.below h.below) (s1.below h.below) sm.c)
  have hb : ∀ (a b : Option Addr) (c d : Nat) (zs : List Int) (X : World), RdI .u8 w a zs → RdI .u8 w b zs → zs.length ≤ 1000000 → Frm [] w X → Calls Try.prog 10 #[.slice a zs.length c, .slice b zs.length d] X fun e w' => e = .returned (.bool true) ∧ ∃ m, w' = X.drewN m := by
    intro a b c d zs X ha hb hl hX
    have h := bsame_c a b c d zs zs X (ha.below hX.below) (hb.below hX.below) hl hl
    rw [decide_eq_true rfl] at h
    exact h
  have H2 := Lib.hid (fun X (h : Frm [] w X) => hb a2 b2 c2 d2 E X r2 s2 sm.e h)
  have H3 := Lib.hid (fun X (h : Frm [] w X) => hb a3 b3 c3 d3 P X r3 s3 sm.p h)
  have H4 := Lib.hid (fun X (h : Frm [] w X) => hb a4 b4 c4 d4 D X r4 s4 sm.d h)
  have HF := Lib.hid (Frm.refl [] w)
  clear hp hq sm hb r1 r2 r3 r4 s1 s2 s3 s4
  go_enter Try.func15, Try.ntmps15
  go_wp2_with fail
  refine (H1.out _ ((HF.out.alloc _).alloc _)).mono ?_
  rintro e w1 ⟨rfl, m1, rfl⟩
  go_wp2_with fail
  refine (H2.out _ (((HF.out.alloc _).alloc _).drewN _)).mono ?_
  rintro e w1 ⟨rfl, m2, rfl⟩
  go_wp2_with fail
  refine (H3.out _ (((HF.out.alloc _).alloc _).drewN _)).mono ?_
  rintro e w1 ⟨rfl, m3, rfl⟩
  go_wp2_with fail
  refine (H4.out _ (((HF.out.alloc _).alloc _).drewN _)).mono ?_
  rintro e w1 ⟨rfl, m4, rfl⟩
  go_wp2_with fail
  go_ret
  exact ⟨rfl, (((HF.out.alloc _).alloc _).drewN _)⟩
def fewP (p : Pp) : Bool := decide (p.C.length ≤ 30 ∧ p.E.length ≤ 2000 ∧ p.P.length ≤ 2000 ∧ p.D.length ≤ 400)
set_option maxRecDepth 100000 in
set_option maxHeartbeats 8000000 in
theorem pfew_c (p : Pk) (w : World) (hp : RdPk w p) :
    Calls Try.prog 11 #[.agg p.cells] w fun e w' => e = .returned (.bool (fewP p.pl)) ∧ Frm [] w w' := by
  obtain ⟨pl, cv, ev, pv, dv⟩ := p
  obtain ⟨a1, c1, e1, r1, _, l1, m1⟩ := hp.c
  obtain ⟨a2, c2, e2, r2, _, l2, m2⟩ := hp.e
  obtain ⟨a3, c3, e3, r3, _, l3, m3⟩ := hp.p
  obtain ⟨a4, c4, e4, r4, _, l4, m4⟩ := hp.d
  simp only at e1 e2 e3 e4
  subst e1 e2 e3 e4
  obtain ⟨m, pt, seq, ts, ss, C, hx, pf, E, P, D⟩ := pl
  unfold Pk.cells
  simp only at *
  obtain ⟨T, hT⟩ : ∃ T, T = fewP ⟨m, pt, seq, ts, ss, C, hx, pf, E, P, D⟩ := ⟨_, rfl⟩
  rw [← hT]
  have hT' : T = decide (C.length ≤ 30 ∧ E.length ≤ 2000 ∧ P.length ≤ 2000 ∧ D.length ≤ 400) := hT
  clear hT
  have HF := Lib.hid (Frm.refl [] w)
  clear hp r1 r2 r3 r4
  by_cases h1 : C.length ≤ 30
  · by_cases h2 : E.length ≤ 2000
    · by_cases h3 : P.length ≤ 2000
      · by_cases h4 : D.length ≤ 400
        all_goals
          have HT : Hid (T = decide (D.length ≤ 400)) := Lib.hid (by rw [hT']; simp [h1, h2, h3])
          have q1 : decide ((C.length : Int) ≤ 30) = true := by rw [decide_eq_true_iff]; omega
          have q2 : decide ((E.length : Int) ≤ 2000) = true := by rw [decide_eq_true_iff]; omega
          have q3 : decide ((P.length : Int) ≤ 2000) = true := by rw [decide_eq_true_iff]; omega
          first
          | have q4 : decide ((D.length : Int) ≤ 400) = true := by rw [decide_eq_true_iff]; omega
          | have q4 : decide ((D.length : Int) ≤ 400) = false := by rw [decide_eq_false_iff_not]; omega
          have HR : Hid (T = decide ((D.length : Int) ≤ 400)) := Lib.hid (by rw [HT.out]; exact decide_eq_decide.2 (by omega))
          rw [q4] at HR
          clear hT' HT h1 h2 h3 h4
          go_enter Try.func11, Try.ntmps11
          go_wp2_with fail
          go_ret
          exact ⟨by rw [HR.out]; rfl, HF.out.alloc _⟩
      · have HR : Hid (T = false) := Lib.hid (by rw [hT']; simp [h3])
        have q1 : decide ((C.length : Int) ≤ 30) = true := by rw [decide_eq_true_iff]; omega
        have q2 : decide ((E.length : Int) ≤ 2000) = true := by rw [decide_eq_true_iff]; omega
        have q3 : decide ((P.length : Int) ≤ 2000) = false := by rw [decide_eq_false_iff_not]; omega
        clear hT' h1 h2 h3
        go_enter Try.func11, Try.ntmps11
        go_wp2_with fail
        go_ret
        exact ⟨by rw [HR.out]; rfl, HF.out.alloc _⟩
    · have HR : Hid (T = false) := Lib.hid (by rw [hT']; simp [h2])
      have q1 : decide ((C.length : Int) ≤ 30) = true := by rw [decide_eq_true_iff]; omega
      have q2 : decide ((E.length : Int) ≤ 2000) = false := by rw [decide_eq_false_iff_not]; omega
      clear hT' h1 h2
      go_enter Try.func11, Try.ntmps11
      go_wp2_with fail
      go_ret
      exact ⟨by rw [HR.out]; rfl, HF.out.alloc _⟩
  · have HR : Hid (T = false) := Lib.hid (by rw [hT']; simp [h1])
    have q1 : decide ((C.length : Int) ≤ 30) = false := by rw [decide_eq_false_iff_not]; omega
    clear hT' h1
    go_enter Try.func11, Try.ntmps11
    go_wp2_with fail
    go_ret
    exact ⟨by rw [HR.out]; rfl, HF.out.alloc _⟩
theorem info_u32 : (Try.prog.info? 33).map (fun i => (i.zero, i.size, i.bytes)) = some (some (.int .u32 0), 1, 4) := by kernel_rfl
set_option maxHeartbeats 4000000 in
/-- A copy of a row of words, in new memory. -/
theorem wclone_c (a : Option Addr) (cap : Nat) (zs : List Int) (w : World) (rd : RdI .u32 w a zs) (hc : a = none → cap = 0) (hz : zs.length ≤ 1000000) :
    Calls Try.prog 39 #[.slice a zs.length cap] w fun e w' => ∃ v, e = .returned v ∧ Sep [] w w' [ownR 33 1 v zs.length (zs.map (Value.int .u32))] := by
  obtain ⟨i0, hi, hz0, hz1, hz2⟩ := info_parts info_u32
  cases a with
  | none =>
    have : zs = [] := by
      cases zs with
      | nil => rfl
      | cons z zs => obtain ⟨b, off, h, _⟩ := rd 0 z rfl; cases h
    subst this
    obtain rfl := hc rfl
    clear rd
    have he : ∀ w : World, (binOp .eql 34 (.slice none 0 0) (.slice none 0 0)).run Try.prog w = .ok (.bool true) w := fun _ => rfl
    go_enter Try.func39, Try.ntmps39
    go_wp2_with fail
    go_ret
    exact ⟨_, rfl, (Sep.init w).nil _ 1⟩
  | some p =>
    have HR := Lib.hid rd
    clear rd hc
    have he : ∀ (w : World) n c, (binOp .eql 34 (.slice (some p) n c) (.slice none 0 0)).run Try.prog w = .ok (.bool false) w := fun _ _ _ => rfl
    have HS := Lib.hid ((Sep.init w).made 33 1 0 #[] (by unfold maxLen; omega) rfl)
    go_enter Try.func39, Try.ntmps39
    go_wp2_with (at_builtin; refine wpList_append_said rfl _ _ 34 rfl 0 33 i0 (.int .u32 0) 4 Try.underlying34 hi hz0 hz1 hz2 rfl .u32 _ _ _ rfl HS.out rfl (some p) cap zs.length zs rfl rfl (fun h => by cases h) (HR.out.alloc _) zs.length (Nat.zero_add _) (zs.map (Value.int .u32)) rfl (by unfold maxLen; omega) (by omega) ?_; intro v3 w3 hS3; have HS3 := Lib.hid hS3; clear hS3)
    go_ret
    exact ⟨_, rfl, HS3.out⟩
end Go.Proofs.Ytiknjkkphdncfaa
