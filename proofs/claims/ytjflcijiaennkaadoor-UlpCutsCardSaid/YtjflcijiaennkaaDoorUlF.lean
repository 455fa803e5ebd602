/-
  LEVELS READ IN MEMORY; THE WALKS of slices.ContainsFunc, ulp.wrong. Printed by gen_ulf.py.
-/
import Derived.Test.YtjflcijiaennkaaDoorUlE
import Derived.Test.YtjflcijiaennkaaDoorPkt
import Derived.Test.YtjflcijiaennkaaDoorTab
import Derived.Test.YtjflcijiaennkaaDoorBa
import Derived.Deep.DeepCutAuto
set_option linter.unusedVariables false
set_option linter.unusedSimpArgs false
namespace Go.Proofs.YtjflcijiaennkaaDoor
open Go.RowKit

/-- Levels in a slice, read. -/
structure RdLs (w : World) (a : Option Addr) (qs : List LvV) : Prop where
  rows : RdS 3 w a (qs.map LvV.row)
  bod : ∀ q ∈ qs, Sla .u8 w q.bv q.B
theorem RdLs.frm {w w' : World} {a : Option Addr} {qs : List LvV} (h : RdLs w a qs) (hf : Frm [] w w') : RdLs w' a qs := ⟨h.rows.below hf.below, fun q hq => (h.bod q hq).frm hf⟩
theorem RdLs.at_ {w : World} {a : Option Addr} {qs : List LvV} (h : RdLs w a qs) {i : Nat} {q : LvV} (hq : qs[i]? = some q) :
    ∃ b off, a = some ⟨b, off, none⟩ ∧ b < w.heap.size ∧ w.cell? ⟨b, off + i * 3, none⟩ = some (.int .u64 (q.h : Int)) ∧ w.cell? ⟨b, off + i * 3 + 1, none⟩ = some (.int .u64 (q.l : Int)) ∧ w.cell? ⟨b, off + i * 3 + 2, none⟩ = some q.bv := by
  obtain ⟨b, off, ha, hb, hc⟩ := h.rows i q.row (by rw [List.getElem?_map, hq]; rfl)
  exact ⟨b, off, ha, hb, hc 0 _ rfl, hc 1 _ rfl, hc 2 _ rfl⟩
theorem RdLs.nil (w : World) (a : Option Addr) : RdLs w a [] := ⟨fun i row h => by simp at h, by simp⟩
theorem lb_rd {e : TypeId} {v : Value} {qs : List LvV} {w : World} (h : (lbR e v qs).P w) : ∃ a c, v = .slice a qs.length c ∧ qs.length ≤ c ∧ c ≤ maxLen ∧ (a = none → c = 0) ∧ RdLs w a qs := by
  have h0 : (lvsR e v qs).P w := h.1 _ (by simp)
  obtain ⟨a, c, h1, h2, h3, h4, h5, h6⟩ := RdS.of_own (rows := qs.map LvV.row) h0 (fun r hr => by obtain ⟨b, _, rfl⟩ := List.mem_map.1 hr; rfl) (by decide) (by rw [List.length_map])
  rw [List.length_map] at h1 h2
  refine ⟨a, c, h1, h2, h3, fun ha => ?_, h5, fun q hq => Sla.of_own (h.1 _ (by simp; exact .inr ⟨q, hq, rfl⟩))⟩
  obtain ⟨a', c', e1, _, h7⟩ := lb_shape h
  have e2 := h1.symm.trans e1
  simp only [Value.slice.injEq] at e2
  rw [e2.2.2]
  exact h7 (e2.1.symm.trans ha)
theorem any_take_succ {α : Type} (F : α → Bool) {L : List α} {j : Nat} {x : α} (h : L[j]? = some x) : (L.take (j + 1)).any F = ((L.take j).any F || F x) := by
  simp [List.take_add_one, h]
set_option maxRecDepth 100000 in
set_option maxHeartbeats 4000000 in
theorem lvIndex_c {f : FuncId} {caps : Array Value} (w : World) (a : Option Addr) (c : Nat) (qs : List LvV) (hq : RdLs w a qs) (hn : qs.length ≤ 1000000) (hcf : CallsF f) (F : LvV → Bool)
    (hF : ∀ X q, Frm [] w X → q ∈ qs → Calls Tryd.prog f (#[.agg #[.int .u64 (q.h : Int), .int .u64 (q.l : Int), q.bv]] ++ caps) X fun e w' => e = .returned (.bool (F q)) ∧ Frm [] X w') :
    Calls Tryd.prog 73 #[.slice a qs.length c, .func (.func f) #[] caps] w fun e w' => ∃ i : Int, e = .returned (.int .i64 i) ∧ decide (0 ≤ i) = qs.any F ∧ Frm [] w w' := by
  have hcf2 := fun args W => hcf args W
  have HF := Lib.hid hF
  have HQ := Lib.hid (fun X (hX : Frm [] w X) => hq.frm hX)
  clear hq hF hcf
  go_enter Tryd.func73, Tryd.ntmps73
  go_wp2_with fail
  go_loopw [8] (fun i wr => ∃ j : Nat, j ≤ qs.length ∧ i = .int .i64 (j : Int) ∧ (qs.take j).any F = false ∧ Frm [] w wr) (fun i _ => qs.length - (intOf i).toNat)
  case atStart => exact ⟨0, Nat.zero_le _, rfl, by simp, Frm.refl _ _⟩
  case round =>
    obtain ⟨j, hj, rfl, hany, hf⟩ := hrel
    have HA := Lib.hid hany
    have HR := Lib.hid hf
    clear hany hf
    by_cases hlt : j < qs.length
    · obtain ⟨q, hq⟩ : ∃ q, qs[j]? = some q := ⟨_, List.getElem?_eq_getElem hlt⟩
      obtain ⟨b, off, rfl, hb, d0, d1, d2⟩ := (HQ.out wr HR.out).at_ hq
      have hm := List.mem_of_getElem? hq
      have HC := Lib.hid (HF.out wr q HR.out hm)
      have HS := Lib.hid (any_take_succ F hq)
      have i1 : (0 : Int) ≤ (j : Int) := by omega
      have i2 : (j : Int) < (qs.length : Int) := by omega
      obtain ⟨qh, ql, qb, qB⟩ := q
      simp only at d0 d1 d2 HC
      clear hb hq hm
      obtain ⟨n, hnn⟩ : ∃ n, n = qs.length := ⟨_, rfl⟩
      rw [← hnn] at i2 hlt hn ⊢
      have HN := Lib.hid hnn
      have HLt := Lib.hid hlt
      clear hnn hj hlt
      go_wp2_with fail
      refine HC.out.mono ?_
      rintro e w2 ⟨rfl, hf⟩
      have HR2 := Lib.hid (HR.out.trans hf)
      clear hf
      by_cases hx : F ⟨qh, ql, qb, qB⟩ = true
      · rw [hx]
        have ha : qs.any F = true := by
          have h := HS.out
          rw [hx, Bool.or_true] at h
          exact List.any_eq_true.2 (by obtain ⟨x, h1, h2⟩ := List.any_eq_true.1 h; exact ⟨x, List.mem_of_mem_take h1, h2⟩)
        have HA2 := Lib.hid ha
        clear ha hx
        go_wp2_with fail
        go_ret
        exact ⟨_, rfl, by rw [HA2.out]; exact decide_eq_true (by omega), HR2.out⟩
      · have hx2 : F ⟨qh, ql, qb, qB⟩ = false := by simpa using hx
        rw [hx2]
        have h3 : (qs.take (j + 1)).any F = false := by rw [HS.out, HA.out, hx2]; rfl
        have H3 := Lib.hid h3
        clear h3 hx hx2
        go_wp2_with fail
        go_roundw
        case rel => exact ⟨j + 1, by have := HN.out; have := HLt.out; omega, by go_num, H3.out, HR2.out⟩
        case measure => simp [intOf]; have := HN.out; have := HLt.out; omega
    · obtain rfl : j = qs.length := by omega
      have ha : qs.any F = false := by have := HA.out; rwa [List.take_length] at this
      have HA2 := Lib.hid ha
      clear ha
      go_wp2_with fail
      go_ret
      exact ⟨-1, rfl, by rw [HA2.out]; rfl, HR.out⟩

set_option maxRecDepth 100000 in
set_option maxHeartbeats 4000000 in
theorem lvContains_c {f : FuncId} {caps : Array Value} (w : World) (a : Option Addr) (c : Nat) (qs : List LvV) (hq : RdLs w a qs) (hn : qs.length ≤ 1000000) (hcf : CallsF f) (F : LvV → Bool)
    (hF : ∀ X q, Frm [] w X → q ∈ qs → Calls Tryd.prog f (#[.agg #[.int .u64 (q.h : Int), .int .u64 (q.l : Int), q.bv]] ++ caps) X fun e w' => e = .returned (.bool (F q)) ∧ Frm [] X w') :
    Calls Tryd.prog 54 #[.slice a qs.length c, .func (.func f) #[] caps] w fun e w' => e = .returned (.bool (qs.any F)) ∧ Frm [] w w' := by
  have HI := Lib.hid (lvIndex_c w a c qs hq hn hcf F hF)
  clear hq hn hcf hF
  go_enter Tryd.func54, Tryd.ntmps54
  go_wp2_with fail
  refine HI.out.mono ?_
  rintro e w2 ⟨i, rfl, hi, hf⟩
  have HI2 := Lib.hid hi
  have HF2 := Lib.hid hf
  clear hi hf
  go_wp2_with fail
  go_ret
  exact ⟨by rw [← HI2.out]; rfl, HF2.out⟩

set_option maxRecDepth 100000 in
set_option maxHeartbeats 4000000 in
theorem odd_c (q : LvV) (g : Nat) (lg : Bool) (w : World) (hg : w.cell? ⟨g, 9, none⟩ = some (.bool lg)) (hl : g < w.heap.size) (h0 : q.h < 18446744073709551616) (h1 : q.l < 18446744073709551616) (hT : Tabs w) :
    Calls Tryd.prog 52 #[.agg #[.int .u64 (q.h : Int), .int .u64 (q.l : Int), q.bv], .pointer (some ⟨g, 0, none⟩)] w fun e w' => e = .returned (.bool (farL lg q.lv)) ∧ Frm [] w w' := by
  have HLa := Lib.hid (fun X (hX : Frm [] w X) => last_c q.h q.l X h0 h1 (hT.frm hX (by simp)).1 (hT.frm hX (by simp)).2)
  have HG := Lib.hid (fun X (hX : Frm [] w X) => (hX.cell hl (by simp)).trans hg)
  obtain ⟨qh, ql, qb, qB⟩ := q
  simp only at HLa
  have HS0 := Lib.hid ((Sep.init w).alloc #[.int .u64 (qh : Int), .int .u64 (ql : Int), qb] 44)
  clear hg hT h0 h1
  unfold farL LvV.lv
  simp only
  obtain ⟨L, hL⟩ : ∃ L, L = laN qh ql := ⟨_, rfl⟩
  rw [← hL] at HLa ⊢
  unfold mV at HLa
  clear hL
  go_enter Tryd.func52, Tryd.ntmps52
  go_upto_region 1 with fail
  obtain ⟨w1, hw1⟩ : ∃ w1, w1 = w.alloc (.cells #[.int .u64 (qh : Int), .int .u64 (ql : Int), qb] 44) := ⟨_, rfl⟩
  obtain ⟨b, hb⟩ : ∃ b, b = w.heap.size := ⟨_, rfl⟩
  rw [← hw1, ← hb] at HS0
  rw [← hw1, ← hb]
  clear hw1 hb hl
  have n1 := HS0.out.inh
  have q0 := Cls.cell (S := []) (w0 := w) (L := [blkR b 44 #[.int .u64 (qh : Int), .int .u64 (ql : Int), qb]]) 0 rfl 0 (v := .int .u64 (qh : Int)) rfl
  have q1 := Cls.cell (S := []) (w0 := w) (L := [blkR b 44 #[.int .u64 (qh : Int), .int .u64 (ql : Int), qb]]) 0 rfl 1 (v := .int .u64 (ql : Int)) rfl
  have q2 := fun x : Cls (fun v => Sep [] w v [blkR b 44 #[.int .u64 (qh : Int), .int .u64 (ql : Int), qb]]) => HG.out x.world x.ok.frm
  refine region_sep HS0.out (by kernel_rfl) (by kernel_rfl) ?_
  repeat (go_big_quiet_step ((rename_i x; first
    | (go_at_call 40; exact call_keeps x.ok (HLa.out _ x.ok.frm))
    | (go_at_call 53; exact call_same x.ok (width_c _ _)))))
  refine wpQuiet_nil ?_
  intro w3 hS3
  have HS3 := Lib.hid hS3
  clear hS3 n1 q0 q1 q2
  go_wp2_with fail
  go_ret
  exact ⟨rfl, HS3.out.frm⟩

set_option maxRecDepth 100000 in
set_option maxHeartbeats 4000000 in
theorem ulong_c (q : LvV) (w : World) (hb : Sla .u8 w q.bv q.B) :
    Calls Tryd.prog 55 #[.agg #[.int .u64 (q.h : Int), .int .u64 (q.l : Int), q.bv]] w fun e w' => e = .returned (.bool (longL q.lv)) ∧ Frm [] w w' := by
  obtain ⟨qh, ql, qb, qB⟩ := q
  obtain ⟨a, c, hv, _⟩ := hb
  simp only at hv
  subst hv
  have HS0 := Lib.hid ((Sep.init w).alloc #[.int .u64 (qh : Int), .int .u64 (ql : Int), .slice a qB.length c] 44)
  unfold longL LvV.lv
  simp only
  have e1 : decide (1500 < qB.length) = decide ((1500 : Int) < (qB.length : Int)) := by simp; omega
  rw [e1]
  clear e1
  go_enter Tryd.func55, Tryd.ntmps55
  go_wp2_with fail
  go_ret
  exact ⟨rfl, HS0.out.frm⟩
theorem callsF_odd : CallsF 52 := fun _ _ => rfl
theorem callsF_long : CallsF 55 := fun _ _ => rfl

end Go.Proofs.YtjflcijiaennkaaDoor
