/-
  THE WALKS of ulp.Same, confluxref09.Same. Printed by gen_uls.py.
-/
import Derived.Test.YtjflcijiaennkaaDoorUlH
import Derived.Test.YtjflcijiaennkaaDoorBeq
import Derived.Test.YtjflcijiaennkaaDoorAeq
set_option linter.unusedVariables false
set_option linter.unusedSimpArgs false
namespace Go.Proofs.YtjflcijiaennkaaDoor
open Go.RowKit

set_option maxRecDepth 100000 in
theorem uheql (a0 a1 a2 a3 a4 a5 a6 a7 b0 b1 b2 b3 b4 b5 b6 b7 : Int) (w : World) : (Op.equalIn 10000 25 (.agg #[.int .u8 a0, .int .u8 a1, .int .u8 a2, .int .u8 a3, .int .u8 a4, .int .u8 a5, .int .u8 a6, .int .u8 a7]) (.agg #[.int .u8 b0, .int .u8 b1, .int .u8 b2, .int .u8 b3, .int .u8 b4, .int .u8 b5, .int .u8 b6, .int .u8 b7])).run Tryd.prog w = .ok (decide (a0 = b0 ∧ a1 = b1 ∧ a2 = b2 ∧ a3 = b3 ∧ a4 = b4 ∧ a5 = b5 ∧ a6 = b6 ∧ a7 = b7)) w := by
  have h := arr_equal (t := 25) Tryd.underlying25 w [a0, a1, a2, a3, a4, a5, a6, a7] [b0, b1, b2, b3, b4, b5, b6, b7] rfl rfl
  have e : decide ([a0, a1, a2, a3, a4, a5, a6, a7] = [b0, b1, b2, b3, b4, b5, b6, b7]) = decide (a0 = b0 ∧ a1 = b1 ∧ a2 = b2 ∧ a3 = b3 ∧ a4 = b4 ∧ a5 = b5 ∧ a6 = b6 ∧ a7 = b7) := by
    rw [Bool.eq_iff_iff, decide_eq_true_eq, decide_eq_true_eq]
    simp
  rw [e] at h
  exact h
def sameLv (q r : Lv) : Bool := decide (q.h = r.h) && decide (q.l = r.l) && decide (q.B = r.B)
def sameLs : List Lv → List Lv → Bool
  | [], [] => true
  | q :: qs, r :: rs => sameLv q r && sameLs qs rs
  | _, _ => false
theorem sameLv_iff (q r : Lv) : sameLv q r = true ↔ q = r := by
  cases q; cases r
  simp [sameLv]
  constructor
  · rintro ⟨⟨h1, h2⟩, h3⟩; exact ⟨h1, h2, h3⟩
  · rintro ⟨h1, h2, h3⟩; exact ⟨⟨h1, h2⟩, h3⟩
theorem sameLs_iff : ∀ (qs rs : List Lv), sameLs qs rs = true ↔ qs = rs
  | [], [] => by simp [sameLs]
  | [], r :: rs => by simp [sameLs]
  | q :: qs, [] => by simp [sameLs]
  | q :: qs, r :: rs => by simp [sameLs, sameLv_iff, sameLs_iff qs rs]
theorem sameLs_len {qs rs : List Lv} (h : qs.length ≠ rs.length) : sameLs qs rs = false := by
  cases h2 : sameLs qs rs
  · rfl
  · exact absurd (congrArg List.length ((sameLs_iff _ _).1 h2)) h
theorem sameLs_at {qs rs : List Lv} {k : Nat} {q r : Lv} (h1 : qs[k]? = some q) (h2 : rs[k]? = some r) (h : sameLv q r = false) : sameLs qs rs = false := by
  cases h3 : sameLs qs rs
  · rfl
  · have e := (sameLs_iff _ _).1 h3
    rw [e, h2] at h1
    injection h1 with h1
    subst h1
    rw [(sameLv_iff r r).2 rfl] at h
    cases h
theorem take_same {qs rs : List Lv} {k : Nat} {q r : Lv} (h1 : qs[k]? = some q) (h2 : rs[k]? = some r) (h : sameLv q r = true) (ht : qs.take k = rs.take k) : qs.take (k + 1) = rs.take (k + 1) := by
  rw [List.take_add_one, List.take_add_one, h1, h2, ht, (sameLv_iff q r).1 h]
/-- The same but for two bits of the head. -/
def usame (x y : Ul) : Bool := decide (x.h0 % 64 = y.h0 % 64 ∧ x.h1 = y.h1 ∧ x.h2 = y.h2 ∧ x.h3 = y.h3 ∧ x.h4 = y.h4 ∧ x.h5 = y.h5 ∧ x.h6 = y.h6 ∧ x.h7 = y.h7) && decide (x.b = y.b) && decide (x.lg = y.lg) && sameLs x.Ls y.Ls
theorem usame_self (x : Ul) : usame x x = true := by simp [usame, (sameLs_iff x.Ls x.Ls).2 rfl]
theorem lv_at {qs : List LvV} {k : Nat} {q : LvV} (h : qs[k]? = some q) : (qs.map LvV.lv)[k]? = some q.lv := by rw [List.getElem?_map, h]; rfl

set_option maxRecDepth 100000 in
set_option maxHeartbeats 4000000 in
theorem usame1_c (q r : LvV) (w : World) (hq : Sla .u8 w q.bv q.B) (hr : Sla .u8 w r.bv r.B) (bq : Byt q.B) (br : Byt r.B) :
    Calls Tryd.prog 37 #[.agg #[.int .u64 (q.h : Int), .int .u64 (q.l : Int), q.bv], .agg #[.int .u64 (r.h : Int), .int .u64 (r.l : Int), r.bv]] w fun e w' => e = .returned (.bool (sameLv q.lv r.lv)) ∧ Frm [] w w' := by
  obtain ⟨qh, ql, qb, qB⟩ := q
  obtain ⟨rh, rl, rb, rB⟩ := r
  obtain ⟨a, c, hv, rq, -⟩ := hq
  obtain ⟨a', c', hv', rr, -⟩ := hr
  simp only at hv hv' rq rr bq br
  subst hv hv'
  have HQ := Lib.hid (fun (X : World) (hf : Frm [] w X) => bequal_c a a' c c' qB rB X (rq.below hf.below) (rr.below hf.below) bq br)
  obtain ⟨T, hT⟩ : ∃ T, T = decide (qB = rB) := ⟨_, rfl⟩
  obtain ⟨R, hR⟩ : ∃ R, R = sameLv (LvV.mk qh ql (.slice a qB.length c) qB).lv (LvV.mk rh rl (.slice a' rB.length c') rB).lv := ⟨_, rfl⟩
  rw [← hR]
  unfold sameLv LvV.lv at hR
  simp only at hR
  obtain ⟨D2, hD2⟩ : ∃ D2 : Bool, D2 = decide (qh = rh) := ⟨_, rfl⟩
  obtain ⟨D6, hD6⟩ : ∃ D6 : Bool, D6 = decide (ql = rl) := ⟨_, rfl⟩
  rw [← hT] at HQ hR
  rw [← hD2, ← hD6] at hR
  have b2 : ((qh : Int) == (rh : Int)) = D2 := by rw [hD2]; exact decide_eq_decide.2 (by omega)
  have b6 : ((ql : Int) == (rl : Int)) = D6 := by rw [hD6]; exact decide_eq_decide.2 (by omega)
  have HR := Lib.hid hR
  obtain ⟨n, hn⟩ : ∃ n, n = qB.length := ⟨_, rfl⟩
  obtain ⟨m, hm⟩ : ∃ m, m = rB.length := ⟨_, rfl⟩
  rw [← hn, ← hm] at HQ ⊢
  clear hR hD2 hD6 hT hn hm rq rr bq br
  have HS0 := Lib.hid (((Sep.init w).alloc #[.int .u64 (qh : Int), .int .u64 (ql : Int), .slice a n c] 44).alloc #[.int .u64 (rh : Int), .int .u64 (rl : Int), .slice a' m c'] 44)
  simp only [World.size_alloc] at HS0
  go_enter Tryd.func37, Tryd.ntmps37
  go_upto_region 1 with fail
  obtain ⟨w1, hw1⟩ : ∃ w1, w1 = (w.alloc (.cells #[.int .u64 (qh : Int), .int .u64 (ql : Int), .slice a n c] 44)).alloc (.cells #[.int .u64 (rh : Int), .int .u64 (rl : Int), .slice a' m c'] 44) := ⟨_, rfl⟩
  obtain ⟨o, ho⟩ : ∃ o, o = w.heap.size := ⟨_, rfl⟩
  rw [← hw1, ← ho] at HS0
  rw [← hw1, ← ho]
  clear hw1 ho
  have k0 := (HS0.out.blk 1 rfl).cell 0 rfl
  have k1 := (HS0.out.blk 1 rfl).cell 1 rfl
  have k2 := (HS0.out.blk 1 rfl).cell 2 rfl
  have j0 := (HS0.out.blk 0 rfl).cell 0 rfl
  have j1 := (HS0.out.blk 0 rfl).cell 1 rfl
  have j2 := (HS0.out.blk 0 rfl).cell 2 rfl
  cases D2 with
  | false =>
    obtain rfl : R = false := by rw [HR.out]; simp
    clear HR HQ
    go_wp2_with fail
    go_ret
    exact ⟨rfl, HS0.out.frm⟩
  | true =>
    cases D6 with
    | false =>
      obtain rfl : R = false := by rw [HR.out]; simp
      clear HR HQ
      go_wp2_with fail
      go_ret
      exact ⟨rfl, HS0.out.frm⟩
    | true =>
      have HR2 : Hid (R = T) := Lib.hid (by rw [HR.out]; rfl)
      clear HR
      go_wp2_with fail
      refine (HQ.out _ HS0.out.frm).mono ?_
      rintro e w2 ⟨rfl, rfl⟩
      go_wp2_with fail
      go_ret
      exact ⟨by rw [HR2.out]; rfl, HS0.out.frm⟩
theorem callsF_same : CallsF 37 := fun _ _ => rfl
set_option maxRecDepth 100000 in
set_option maxHeartbeats 4000000 in
theorem lvEqual_c (w : World) (a a' : Option Addr) (c c' : Nat) (qs rs : List LvV) (hq : RdLs w a qs) (hr : RdLs w a' rs) (hn : qs.length ≤ 1000000) (hm : rs.length ≤ 1000000) (bq : ∀ q ∈ qs, Byt q.B) (br : ∀ q ∈ rs, Byt q.B) :
    Calls Tryd.prog 39 #[.slice a qs.length c, .slice a' rs.length c', .func (.func 37) #[] #[]] w fun e w' => e = .returned (.bool (sameLs (qs.map LvV.lv) (rs.map LvV.lv))) ∧ Frm [] w w' := by
  have hcf2 := fun args W => callsF_same args W
  have HQ := Lib.hid (fun X (hX : Frm [] w X) => hq.frm hX)
  have HR := Lib.hid (fun X (hX : Frm [] w X) => hr.frm hX)
  have HF := Lib.hid (fun X q r (hX : Frm [] w X) (h1 : q ∈ qs) (h2 : r ∈ rs) => usame1_c q r X ((hq.frm hX).bod q h1) ((hr.frm hX).bod r h2) (bq q h1) (br r h2))
  obtain ⟨R, hRR⟩ : ∃ R, R = sameLs (qs.map LvV.lv) (rs.map LvV.lv) := ⟨_, rfl⟩
  rw [← hRR]
  have HRR := Lib.hid hRR
  obtain ⟨n, hn2⟩ : ∃ n, n = qs.length := ⟨_, rfl⟩
  obtain ⟨m, hm2⟩ : ∃ m, m = rs.length := ⟨_, rfl⟩
  have HN := Lib.hid hn2
  have HM := Lib.hid hm2
  rw [← hn2] at hn ⊢
  rw [← hm2] at hm ⊢
  clear hq hr bq br hRR hn2 hm2
  go_enter Tryd.func39, Tryd.ntmps39
  by_cases hnm : n = m
  · have t0 : ((n : Int) != (m : Int)) = false := by simp [hnm]
    subst hnm
    go_wp2_with fail
    go_loopw [17] (fun i wr => ∃ j : Nat, j ≤ n ∧ i = .int .i64 (j : Int) ∧ (qs.map LvV.lv).take j = (rs.map LvV.lv).take j ∧ Frm [] w wr) (fun i _ => n - (intOf i).toNat)
    case atStart => exact ⟨0, Nat.zero_le _, rfl, by simp, Frm.refl _ _⟩
    case round =>
      obtain ⟨j, hj, rfl, ht, hf⟩ := hrel
      have HTk := Lib.hid ht
      have HFr := Lib.hid hf
      clear ht hf
      by_cases hlt : j < n
      · obtain ⟨q, hq⟩ : ∃ q, qs[j]? = some q := ⟨_, List.getElem?_eq_getElem (by rw [← HN.out]; exact hlt)⟩
        obtain ⟨r, hr⟩ : ∃ r, rs[j]? = some r := ⟨_, List.getElem?_eq_getElem (by rw [← HM.out]; exact hlt)⟩
        obtain ⟨b1, o1, rfl, _, d0, d1, d2⟩ := (HQ.out wr HFr.out).at_ hq
        obtain ⟨b2, o2, rfl, y0, e0, e1, e2⟩ := (HR.out wr HFr.out).at_ hr
        have hS := fun X (hX : Frm [] w X) => HF.out X q r hX (List.mem_of_getElem? hq) (List.mem_of_getElem? hr)
        obtain ⟨aq, cq, hvq, -⟩ := (HQ.out wr HFr.out).bod q (List.mem_of_getElem? hq)
        obtain ⟨ar, cr, hvr, -⟩ := (HR.out wr HFr.out).bod r (List.mem_of_getElem? hr)
        have i1 : (0 : Int) ≤ (j : Int) := by omega
        have i2 : (j : Int) < (n : Int) := by omega
        have HAt := Lib.hid (fun h => sameLs_at (lv_at hq) (lv_at hr) h)
        have HTs := Lib.hid (fun h => take_same (lv_at hq) (lv_at hr) h HTk.out)
        obtain ⟨S, hSS⟩ : ∃ S, S = sameLv q.lv r.lv := ⟨_, rfl⟩
        rw [← hSS] at hS HAt HTs
        have HS := Lib.hid hS
        obtain ⟨qh, ql, qb, qB⟩ := q
        obtain ⟨rh, rl, rb, rB⟩ := r
        simp only at d0 d1 d2 e0 e1 e2 HS hvq hvr
        obtain ⟨nq, hnq⟩ : ∃ n, n = qB.length := ⟨_, rfl⟩
        obtain ⟨nr, hnr⟩ : ∃ n, n = rB.length := ⟨_, rfl⟩
        rw [← hnq] at hvq
        rw [← hnr] at hvr
        subst hvq hvr
        have e0' := ((Frm.refl [] wr).alloc (.cells #[.int .u64 (qh : Int), .int .u64 (ql : Int), .slice aq nq cq] 44)).cell y0 (by simp) (i := o2 + j * 3)
        have e1' := ((Frm.refl [] wr).alloc (.cells #[.int .u64 (qh : Int), .int .u64 (ql : Int), .slice aq nq cq] 44)).cell y0 (by simp) (i := o2 + j * 3 + 1)
        have e2' := ((Frm.refl [] wr).alloc (.cells #[.int .u64 (qh : Int), .int .u64 (ql : Int), .slice aq nq cq] 44)).cell y0 (by simp) (i := o2 + j * 3 + 2)
        have HS2 := Lib.hid (((Sep.init wr).alloc #[.int .u64 (qh : Int), .int .u64 (ql : Int), .slice aq nq cq] 44).alloc #[.int .u64 (rh : Int), .int .u64 (rl : Int), .slice ar nr cr] 44)
        simp only [World.size_alloc] at HS2
        clear hq hr hS hSS hnq hnr
        go_upto_region 6 with fail
        obtain ⟨wx, hwx⟩ : ∃ wx, wx = wr.alloc (.cells #[.int .u64 (qh : Int), .int .u64 (ql : Int), .slice aq nq cq] 44) := ⟨_, rfl⟩
        rw [← hwx] at e0' e1' e2' HS2
        rw [← hwx]
        rw [e0] at e0'
        rw [e1] at e1'
        rw [e2] at e2'
        have hsz : wx.heap.size = wr.heap.size + 1 := by rw [hwx]; simp
        clear hwx y0 d0 d1 d2 e0 e1 e2
        go_upto_region 7 with fail
        obtain ⟨wy, hwy⟩ : ∃ wy, wy = wx.alloc (.cells #[.int .u64 (rh : Int), .int .u64 (rl : Int), .slice ar nr cr] 44) := ⟨_, rfl⟩
        obtain ⟨p, hp⟩ : ∃ p, p = wr.heap.size := ⟨_, rfl⟩
        rw [← hwy, ← hp] at HS2
        rw [← hwy, ← hp]
        clear hwy hp hsz e0' e1' e2'
        have k0 := (HS2.out.blk 1 rfl).cell 0 rfl
        have k1 := (HS2.out.blk 1 rfl).cell 1 rfl
        have k2 := (HS2.out.blk 1 rfl).cell 2 rfl
        have m0 := (HS2.out.blk 0 rfl).cell 0 rfl
        have m1 := (HS2.out.blk 0 rfl).cell 1 rfl
        have m2 := (HS2.out.blk 0 rfl).cell 2 rfl
        go_wp2_with fail
        refine (HS.out wy (HFr.out.trans HS2.out.frm)).mono ?_
        rintro e w9 ⟨rfl, hf⟩
        have HF9 := Lib.hid ((HFr.out.trans HS2.out.frm).trans hf)
        clear hf k0 k1 k2 m0 m1 m2
        cases S with
        | false =>
          obtain rfl : R = false := HRR.out.trans (HAt.out (by first | trivial | rfl))
          go_wp2_with fail
          go_ret
          exact ⟨rfl, HF9.out⟩
        | true =>
          go_wp2_with fail
          go_roundw
          case rel => exact ⟨j + 1, by omega, by go_num, HTs.out (by first | trivial | rfl), HF9.out⟩
          case measure => simp [intOf]; omega
      · obtain rfl : j = n := by omega
        have hR : R = true := by
          rw [HRR.out, sameLs_iff]
          have h := HTk.out
          rwa [List.take_of_length_le (by rw [List.length_map, ← HN.out]; exact Nat.le_refl _), List.take_of_length_le (by rw [List.length_map, ← HM.out]; exact Nat.le_refl _)] at h
        subst hR
        go_wp2_with fail
        go_ret
        exact ⟨rfl, HFr.out⟩
  · have t0 : ((n : Int) != (m : Int)) = true := by simp; omega
    obtain rfl : R = false := HRR.out.trans (sameLs_len (by rw [List.length_map, List.length_map, ← HN.out, ← HM.out]; exact hnm))
    clear hnm
    go_wp2_with fail
    go_ret
    exact ⟨rfl, Frm.refl _ _⟩
set_option maxRecDepth 100000 in
set_option maxHeartbeats 16000000 in
theorem usame_c (x y : Ul) (a a' : Option Addr) (c c' : Nat) (qs rs : List LvV) (w : World) (hqs : qs.map LvV.lv = x.Ls) (hrs : rs.map LvV.lv = y.Ls) (hx : x.Ok) (hy : y.Ok) (rx : RdLs w a qs) (ry : RdLs w a' rs) (lx : qs.length ≤ 1000000) (ly : rs.length ≤ 1000000) (bx : ∀ q ∈ qs, q.B.length ≤ 1000000) (bw : ∀ q ∈ rs, q.B.length ≤ 1000000) :
    Calls Tryd.prog 21 #[x.val (.slice a qs.length c), y.val (.slice a' rs.length c')] w fun e w' => e = .returned (.bool (usame x y)) ∧ Frm [] w w' := by
  have hbq : ∀ q ∈ qs, Byt q.B := fun q h => (hx.rL q.lv (by rw [← hqs]; exact List.mem_map.2 ⟨q, h, rfl⟩)).2.2
  have hbr : ∀ q ∈ rs, Byt q.B := fun q h => (hy.rL q.lv (by rw [← hrs]; exact List.mem_map.2 ⟨q, h, rfl⟩)).2.2
  have HQ := Lib.hid (fun (X : World) (hf : Frm [] w X) => lvEqual_c X a a' c c' qs rs (rx.frm hf) (ry.frm hf) lx ly hbq hbr)
  obtain ⟨R, hR⟩ : ∃ R, R = usame x y := ⟨_, rfl⟩
  rw [← hR]
  unfold usame at hR
  rw [← hqs, ← hrs] at hR
  have x0 := hx.r0
  have y0 := hy.r0
  obtain ⟨h0, h1, h2, h3, h4, h5, h6, h7, bb, lg, Ls⟩ := x
  obtain ⟨h0', h1', h2', h3', h4', h5', h6', h7', bb', lg', Ls'⟩ := y
  simp only [Ul.val, Ul.cells] at *
  clear hx hy rx ry hbq hbr hqs hrs bx bw
  obtain ⟨T, hT⟩ : ∃ T, T = sameLs (qs.map LvV.lv) (rs.map LvV.lv) := ⟨_, rfl⟩
  rw [← hT] at HQ hR
  obtain ⟨n, hn⟩ : ∃ n, n = qs.length := ⟨_, rfl⟩
  obtain ⟨m, hm⟩ : ∃ m, m = rs.length := ⟨_, rfl⟩
  rw [← hn, ← hm] at HQ ⊢
  clear lx ly
  clear hn hm hT
  have HR := Lib.hid hR
  clear hR
  have e1 := uand63_u x0.1 x0.2
  have e2 := uand63_u y0.1 y0.2
  obtain ⟨p, hp⟩ : ∃ p, p = h0 % 64 := ⟨_, rfl⟩
  obtain ⟨q, hq⟩ : ∃ q, q = h0' % 64 := ⟨_, rfl⟩
  rw [← hp] at e1 HR
  rw [← hq] at e2 HR
  clear hp hq
  go_enter Tryd.func21, Tryd.ntmps21
  go_upto_region 3 with fail
  have HS0 := Lib.hid ((((Sep.init w).alloc #[.int .u8 p, .int .u8 h1, .int .u8 h2, .int .u8 h3, .int .u8 h4, .int .u8 h5, .int .u8 h6, .int .u8 h7, .int .u16 bb, .bool lg, .slice a n c] 29).alloc #[.int .u8 q, .int .u8 h1', .int .u8 h2', .int .u8 h3', .int .u8 h4', .int .u8 h5', .int .u8 h6', .int .u8 h7', .int .u16 bb', .bool lg', .slice a' m c'] 29))
  simp only [World.size_alloc] at HS0
  obtain ⟨w1, hw1⟩ : ∃ w1, w1 = (w.alloc (.cells #[.int .u8 p, .int .u8 h1, .int .u8 h2, .int .u8 h3, .int .u8 h4, .int .u8 h5, .int .u8 h6, .int .u8 h7, .int .u16 bb, .bool lg, .slice a n c] 29)).alloc (.cells #[.int .u8 q, .int .u8 h1', .int .u8 h2', .int .u8 h3', .int .u8 h4', .int .u8 h5', .int .u8 h6', .int .u8 h7', .int .u16 bb', .bool lg', .slice a' m c'] 29) := ⟨_, rfl⟩
  obtain ⟨o, ho⟩ : ∃ o, o = w.heap.size := ⟨_, rfl⟩
  rw [← hw1, ← ho] at HS0
  rw [← hw1, ← ho]
  clear hw1 ho e1 e2
  have hq0 := uheql p h1 h2 h3 h4 h5 h6 h7 q h1' h2' h3' h4' h5' h6' h7' w1
  obtain ⟨D0, hD0⟩ : ∃ D0 : Bool, D0 = decide (p = q ∧ h1 = h1' ∧ h2 = h2' ∧ h3 = h3' ∧ h4 = h4' ∧ h5 = h5' ∧ h6 = h6' ∧ h7 = h7') := ⟨_, rfl⟩
  rw [← hD0] at hq0 HR
  obtain ⟨D1, hD1⟩ : ∃ D1 : Bool, D1 = decide (bb = bb') := ⟨_, rfl⟩
  rw [← hD1] at HR
  have b1 : (bb == bb') = D1 := hD1.symm
  obtain ⟨D3, hD3⟩ : ∃ D3 : Bool, D3 = decide (lg = lg') := ⟨_, rfl⟩
  rw [← hD3] at HR
  have b3 : (lg == lg') = D3 := by rw [hD3]; cases lg <;> cases lg' <;> rfl

  clear hD0 hD1 hD3 x0 y0
  have k0 := (HS0.out.blk 1 rfl).cell 0 rfl
  have k1 := (HS0.out.blk 1 rfl).cell 1 rfl
  have k2 := (HS0.out.blk 1 rfl).cell 2 rfl
  have k3 := (HS0.out.blk 1 rfl).cell 3 rfl
  have k4 := (HS0.out.blk 1 rfl).cell 4 rfl
  have k5 := (HS0.out.blk 1 rfl).cell 5 rfl
  have k6 := (HS0.out.blk 1 rfl).cell 6 rfl
  have k7 := (HS0.out.blk 1 rfl).cell 7 rfl
  have k8 := (HS0.out.blk 1 rfl).cell 8 rfl
  have k9 := (HS0.out.blk 1 rfl).cell 9 rfl
  have k10 := (HS0.out.blk 1 rfl).cell 10 rfl
  have j0 := (HS0.out.blk 0 rfl).cell 0 rfl
  have j1 := (HS0.out.blk 0 rfl).cell 1 rfl
  have j2 := (HS0.out.blk 0 rfl).cell 2 rfl
  have j3 := (HS0.out.blk 0 rfl).cell 3 rfl
  have j4 := (HS0.out.blk 0 rfl).cell 4 rfl
  have j5 := (HS0.out.blk 0 rfl).cell 5 rfl
  have j6 := (HS0.out.blk 0 rfl).cell 6 rfl
  have j7 := (HS0.out.blk 0 rfl).cell 7 rfl
  have j8 := (HS0.out.blk 0 rfl).cell 8 rfl
  have j9 := (HS0.out.blk 0 rfl).cell 9 rfl
  have j10 := (HS0.out.blk 0 rfl).cell 10 rfl
  cases D0 with
  | false =>
    obtain rfl : R = false := by rw [HR.out]; rfl
    clear HR HQ
    go_wp2_with fail
    go_ret
    exact ⟨rfl, HS0.out.frm⟩
  | true =>
    cases D1 with
    | false =>
      obtain rfl : R = false := by rw [HR.out]; rfl
      clear HR HQ
      go_wp2_with fail
      go_ret
      exact ⟨rfl, HS0.out.frm⟩
    | true =>
      cases D3 with
      | false =>
        obtain rfl : R = false := by rw [HR.out]; rfl
        clear HR HQ
        go_wp2_with fail
        go_ret
        exact ⟨rfl, HS0.out.frm⟩
      | true =>
        have HR2 : Hid (R = T) := Lib.hid (by rw [HR.out]; rfl)
        clear HR
        go_wp2_with fail
        refine (HQ.out _ HS0.out.frm).mono ?_
        rintro e w2 ⟨rfl, hf⟩
        have HF := Lib.hid (HS0.out.frm.trans hf)
        clear hf
        go_wp2_with fail
        go_ret
        exact ⟨by rw [HR2.out]; rfl, HF.out⟩
set_option maxRecDepth 100000 in
set_option maxHeartbeats 16000000 in
theorem ursame_c (x y : Ul) (a a' : Option Addr) (c c' : Nat) (qs rs : List LvV) (w : World) (hqs : qs.map LvV.lv = x.Ls) (hrs : rs.map LvV.lv = y.Ls) (hx : x.Ok) (hy : y.Ok) (rx : RdLs w a qs) (ry : RdLs w a' rs) (lx : qs.length ≤ 1000000) (ly : rs.length ≤ 1000000) (bx : ∀ q ∈ qs, q.B.length ≤ 1000000) (bw : ∀ q ∈ rs, q.B.length ≤ 1000000) :
    Calls Tryd.prog 12 #[x.val (.slice a qs.length c), y.val (.slice a' rs.length c')] w fun e w' => e = .returned (.bool (usame x y)) ∧ Frm [] w w' := by
  have hbq : ∀ q ∈ qs, Byt q.B := fun q h => (hx.rL q.lv (by rw [← hqs]; exact List.mem_map.2 ⟨q, h, rfl⟩)).2.2
  have hbr : ∀ q ∈ rs, Byt q.B := fun q h => (hy.rL q.lv (by rw [← hrs]; exact List.mem_map.2 ⟨q, h, rfl⟩)).2.2
  have HRx := Lib.hid (fun X (hX : Frm [] w X) => rx.frm hX)
  have HRy := Lib.hid (fun X (hX : Frm [] w X) => ry.frm hX)
  have HBx := Lib.hid bx
  have HBy := Lib.hid bw
  obtain ⟨R, hR⟩ : ∃ R, R = usame x y := ⟨_, rfl⟩
  rw [← hR]
  unfold usame at hR
  rw [← hqs, ← hrs] at hR
  have x0 := hx.r0
  have y0 := hy.r0
  obtain ⟨h0, h1, h2, h3, h4, h5, h6, h7, bb, lg, Ls⟩ := x
  obtain ⟨h0', h1', h2', h3', h4', h5', h6', h7', bb', lg', Ls'⟩ := y
  simp only [Ul.val, Ul.cells] at *
  clear hx hy rx ry hbq hbr hqs hrs bx bw
  obtain ⟨T, hT⟩ : ∃ T, T = sameLs (qs.map LvV.lv) (rs.map LvV.lv) := ⟨_, rfl⟩
  rw [← hT] at hR
  obtain ⟨n, hn⟩ : ∃ n, n = qs.length := ⟨_, rfl⟩
  obtain ⟨m, hm⟩ : ∃ m, m = rs.length := ⟨_, rfl⟩
  rw [← hn, ← hm] at ⊢
  rw [← hn] at lx
  rw [← hm] at ly
  have HN := Lib.hid hn
  have HM := Lib.hid hm
  have HTT := Lib.hid hT
  clear hn hm hT
  have HR := Lib.hid hR
  clear hR
  have e1 : Int.tmod h0 64 = h0 % 64 := Int.tmod_eq_emod_of_nonneg x0.1
  have e2 : Int.tmod h0' 64 = h0' % 64 := Int.tmod_eq_emod_of_nonneg y0.1
  obtain ⟨p, hp⟩ : ∃ p, p = h0 % 64 := ⟨_, rfl⟩
  obtain ⟨q, hq⟩ : ∃ q, q = h0' % 64 := ⟨_, rfl⟩
  rw [← hp] at e1 HR
  rw [← hq] at e2 HR
  clear hp hq
  go_enter Tryd.func12, Tryd.ntmps12
  go_upto_region 3 with fail
  have HS0 := Lib.hid ((((Sep.init w).alloc #[.int .u8 p, .int .u8 h1, .int .u8 h2, .int .u8 h3, .int .u8 h4, .int .u8 h5, .int .u8 h6, .int .u8 h7, .int .u16 bb, .bool lg, .slice a n c] 35).alloc #[.int .u8 q, .int .u8 h1', .int .u8 h2', .int .u8 h3', .int .u8 h4', .int .u8 h5', .int .u8 h6', .int .u8 h7', .int .u16 bb', .bool lg', .slice a' m c'] 35))
  simp only [World.size_alloc] at HS0
  obtain ⟨w1, hw1⟩ : ∃ w1, w1 = (w.alloc (.cells #[.int .u8 p, .int .u8 h1, .int .u8 h2, .int .u8 h3, .int .u8 h4, .int .u8 h5, .int .u8 h6, .int .u8 h7, .int .u16 bb, .bool lg, .slice a n c] 35)).alloc (.cells #[.int .u8 q, .int .u8 h1', .int .u8 h2', .int .u8 h3', .int .u8 h4', .int .u8 h5', .int .u8 h6', .int .u8 h7', .int .u16 bb', .bool lg', .slice a' m c'] 35) := ⟨_, rfl⟩
  obtain ⟨o, ho⟩ : ∃ o, o = w.heap.size := ⟨_, rfl⟩
  rw [← hw1, ← ho] at HS0
  rw [← hw1, ← ho]
  clear hw1 ho e1 e2
  have hq0 := uheql p h1 h2 h3 h4 h5 h6 h7 q h1' h2' h3' h4' h5' h6' h7' w1
  obtain ⟨D0, hD0⟩ : ∃ D0 : Bool, D0 = decide (p = q ∧ h1 = h1' ∧ h2 = h2' ∧ h3 = h3' ∧ h4 = h4' ∧ h5 = h5' ∧ h6 = h6' ∧ h7 = h7') := ⟨_, rfl⟩
  rw [← hD0] at hq0 HR
  obtain ⟨D1, hD1⟩ : ∃ D1 : Bool, D1 = decide (bb = bb') := ⟨_, rfl⟩
  rw [← hD1] at HR
  have b1 : (bb == bb') = D1 := hD1.symm
  obtain ⟨D3, hD3⟩ : ∃ D3 : Bool, D3 = decide (lg = lg') := ⟨_, rfl⟩
  rw [← hD3] at HR
  have b3 : (lg == lg') = D3 := by rw [hD3]; cases lg <;> cases lg' <;> rfl
  have b1n : (bb != bb') = !D1 := by rw [← b1]; rfl
  have b3n : (lg != lg') = !D3 := by rw [← b3]; rfl
  clear hD0 hD1 hD3 x0 y0
  have k0 := (HS0.out.blk 1 rfl).cell 0 rfl
  have k1 := (HS0.out.blk 1 rfl).cell 1 rfl
  have k2 := (HS0.out.blk 1 rfl).cell 2 rfl
  have k3 := (HS0.out.blk 1 rfl).cell 3 rfl
  have k4 := (HS0.out.blk 1 rfl).cell 4 rfl
  have k5 := (HS0.out.blk 1 rfl).cell 5 rfl
  have k6 := (HS0.out.blk 1 rfl).cell 6 rfl
  have k7 := (HS0.out.blk 1 rfl).cell 7 rfl
  have k8 := (HS0.out.blk 1 rfl).cell 8 rfl
  have k9 := (HS0.out.blk 1 rfl).cell 9 rfl
  have k10 := (HS0.out.blk 1 rfl).cell 10 rfl
  have j0 := (HS0.out.blk 0 rfl).cell 0 rfl
  have j1 := (HS0.out.blk 0 rfl).cell 1 rfl
  have j2 := (HS0.out.blk 0 rfl).cell 2 rfl
  have j3 := (HS0.out.blk 0 rfl).cell 3 rfl
  have j4 := (HS0.out.blk 0 rfl).cell 4 rfl
  have j5 := (HS0.out.blk 0 rfl).cell 5 rfl
  have j6 := (HS0.out.blk 0 rfl).cell 6 rfl
  have j7 := (HS0.out.blk 0 rfl).cell 7 rfl
  have j8 := (HS0.out.blk 0 rfl).cell 8 rfl
  have j9 := (HS0.out.blk 0 rfl).cell 9 rfl
  have j10 := (HS0.out.blk 0 rfl).cell 10 rfl
  cases D0 with
  | false =>
    obtain rfl : R = false := by rw [HR.out]; rfl
    clear HR
    go_wp2_with fail
    go_ret
    exact ⟨rfl, HS0.out.frm⟩
  | true =>
    cases D1 with
    | false =>
      obtain rfl : R = false := by rw [HR.out]; rfl
      clear HR
      go_wp2_with fail
      go_ret
      exact ⟨rfl, HS0.out.frm⟩
    | true =>
      cases D3 with
      | false =>
        obtain rfl : R = false := by rw [HR.out]; rfl
        clear HR
        go_wp2_with fail
        go_ret
        exact ⟨rfl, HS0.out.frm⟩
      | true =>
        have HR2 : Hid (R = T) := Lib.hid (by rw [HR.out]; rfl)
        clear HR
        by_cases hnm : n = m
        case neg =>
          have t0 : ((n : Int) != (m : Int)) = true := by simp; omega
          obtain rfl : R = false := by rw [HR2.out, HTT.out]; exact sameLs_len (by rw [List.length_map, List.length_map, ← HN.out, ← HM.out]; exact hnm)
          clear hnm
          go_wp2_with fail
          go_ret
          exact ⟨rfl, HS0.out.frm⟩
        subst hnm
        have t0 : ((n : Int) != (n : Int)) = false := by simp
        go_wp2_with fail
        clear hq0 k0 k1 k2 k3 k4 k5 k6 k7 k8 k9 k10 j0 j1 j2 j3 j4 j5 j6 j7 j8 j9 j10
        go_loopw [5] (fun i wr => ∃ k : Nat, k ≤ n ∧ i = .int .i64 (k : Int) ∧ (qs.map LvV.lv).take k = (rs.map LvV.lv).take k ∧ Sep [] w wr [blkR (o + 1) 35 #[.int .u8 q, .int .u8 h1', .int .u8 h2', .int .u8 h3', .int .u8 h4', .int .u8 h5', .int .u8 h6', .int .u8 h7', .int .u16 bb', .bool lg', .slice a' n c'], blkR o 35 #[.int .u8 p, .int .u8 h1, .int .u8 h2, .int .u8 h3, .int .u8 h4, .int .u8 h5, .int .u8 h6, .int .u8 h7, .int .u16 bb, .bool lg, .slice a n c]]) (fun i _ => n - (intOf i).toNat)
        case atStart => exact ⟨0, Nat.zero_le _, rfl, by simp, HS0.out⟩
        case round =>
          obtain ⟨k, hk, rfl, ht, hS⟩ := hrel
          have HTk := Lib.hid ht
          have HT := Lib.hid hS
          clear ht hS HS0
          have kk := (HT.out.blk 1 rfl).cell 10 rfl
          have jj := (HT.out.blk 0 rfl).cell 10 rfl
          by_cases hlt : k < n
          · obtain ⟨q9, hq⟩ : ∃ q, qs[k]? = some q := ⟨_, List.getElem?_eq_getElem (by rw [← HN.out]; exact hlt)⟩
            obtain ⟨r9, hr⟩ : ∃ r, rs[k]? = some r := ⟨_, List.getElem?_eq_getElem (by rw [← HM.out]; exact hlt)⟩
            obtain ⟨b1, o1, rfl, y1, -⟩ := (HRx.out wr HT.out.frm).at_ hq
            obtain ⟨b2, o2, rfl, y2, -⟩ := (HRy.out wr HT.out.frm).at_ hr
            have HCx := Lib.hid (fun X (hX : Frm [] w X) => (HRx.out X hX).at_ hq)
            have HCy := Lib.hid (fun X (hX : Frm [] w X) => (HRy.out X hX).at_ hr)
            have hSx := fun X (hX : Frm [] w X) => (HRx.out X hX).bod q9 (List.mem_of_getElem? hq)
            have hSy := fun X (hX : Frm [] w X) => (HRy.out X hX).bod r9 (List.mem_of_getElem? hr)
            have hlx := HBx.out q9 (List.mem_of_getElem? hq)
            have hly := HBy.out r9 (List.mem_of_getElem? hr)
            have i1 : (0 : Int) ≤ (k : Int) := by omega
            have i2 : (k : Int) < (n : Int) := by omega
            have HAt := Lib.hid (fun h => sameLs_at (lv_at hq) (lv_at hr) h)
            have HTs := Lib.hid (fun h => take_same (lv_at hq) (lv_at hr) h HTk.out)
            obtain ⟨S, hSS⟩ : ∃ S, S = sameLv q9.lv r9.lv := ⟨_, rfl⟩
            rw [← hSS] at HAt HTs
            obtain ⟨qh, ql, qb, qB⟩ := q9
            obtain ⟨rh, rl, rb, rB⟩ := r9
            simp only at hSx hSy hlx hly HCx HCy
            obtain ⟨aq, cq, hvq, -⟩ := hSx wr HT.out.frm
            obtain ⟨ar, cr, hvr, -⟩ := hSy wr HT.out.frm
            subst hvq hvr
            have HSa := Lib.hid (fun X (hX : Frm [] w X) => (by
              obtain ⟨a1, c1, e1, r1, -⟩ := hSx X hX
              obtain ⟨a2, c2, e2, r2, -⟩ := hSy X hX
              simp only [Value.slice.injEq] at e1 e2
              rw [← e1.1] at r1
              rw [← e2.1] at r2
              exact (bsame_c aq ar cq cr qB rB X r1 r2 hlx hly).mono (fun e w' ⟨h1, m, h2⟩ => ⟨h1, h2 ▸ (Frm.refl _ _).drewN m⟩) : Calls Tryd.prog 14 #[.slice aq qB.length cq, .slice ar rB.length cr] X fun e w' => e = .returned (.bool (decide (qB = rB))) ∧ Frm [] X w'))
            have hS3 : S = (decide (qh = rh) && decide (ql = rl) && decide (qB = rB)) := hSS
            obtain ⟨U, hU⟩ : ∃ U, U = decide (qB = rB) := ⟨_, rfl⟩
            rw [← hU] at HSa hS3
            obtain ⟨E2, hE2⟩ : ∃ E2 : Bool, E2 = decide (qh = rh) := ⟨_, rfl⟩
            obtain ⟨E6, hE6⟩ : ∃ E6 : Bool, E6 = decide (ql = rl) := ⟨_, rfl⟩
            rw [← hE2, ← hE6] at hS3
            have nb2 : ((qh : Int) != (rh : Int)) = !E2 := by rw [hE2]; show (!((qh : Int) == (rh : Int))) = _; congr 1; exact decide_eq_decide.2 (by omega)
            have nb6 : ((ql : Int) != (rl : Int)) = !E6 := by rw [hE6]; show (!((ql : Int) == (rl : Int))) = _; congr 1; exact decide_eq_decide.2 (by omega)
            have HS3 := Lib.hid hS3
            obtain ⟨nq, hnq⟩ : ∃ n, n = qB.length := ⟨_, rfl⟩
            obtain ⟨nr, hnr⟩ : ∃ n, n = rB.length := ⟨_, rfl⟩
            rw [← hnq] at HSa HCx
            rw [← hnr] at HSa HCy
            have HC1 := Lib.hid (fun X (hX : Frm [] w X) => (by
              obtain ⟨b, o, e, _, h1, h2, h3⟩ := HCx.out X hX
              simp only [Option.some.injEq, Addr.mk.injEq] at e
              rw [← e.1, ← e.2.1] at h1 h2 h3
              exact ⟨h1, h2, h3⟩ : X.cell? ⟨b1, o1 + k * 3, none⟩ = some (.int .u64 (qh : Int)) ∧ X.cell? ⟨b1, o1 + k * 3 + 1, none⟩ = some (.int .u64 (ql : Int)) ∧ X.cell? ⟨b1, o1 + k * 3 + 2, none⟩ = some (.slice aq nq cq)))
            have HC2 := Lib.hid (fun X (hX : Frm [] w X) => (by
              obtain ⟨b, o, e, _, h1, h2, h3⟩ := HCy.out X hX
              simp only [Option.some.injEq, Addr.mk.injEq] at e
              rw [← e.1, ← e.2.1] at h1 h2 h3
              exact ⟨h1, h2, h3⟩ : X.cell? ⟨b2, o2 + k * 3, none⟩ = some (.int .u64 (rh : Int)) ∧ X.cell? ⟨b2, o2 + k * 3 + 1, none⟩ = some (.int .u64 (rl : Int)) ∧ X.cell? ⟨b2, o2 + k * 3 + 2, none⟩ = some (.slice ar nr cr)))
            clear hq hr y1 y2 hSx hSy hlx hly hSS hU hE2 hE6 hS3 hnq hnr HCx HCy
            go_upto_region 8 with fail
            go_cut [96] (fun v wx => v = .bool (!S) ∧ Sep [] w wx [blkR (o + 1) 35 #[.int .u8 q, .int .u8 h1', .int .u8 h2', .int .u8 h3', .int .u8 h4', .int .u8 h5', .int .u8 h6', .int .u8 h7', .int .u16 bb', .bool lg', .slice (some ⟨b2, o2, none⟩) n c'], blkR o 35 #[.int .u8 p, .int .u8 h1, .int .u8 h2, .int .u8 h3, .int .u8 h4, .int .u8 h5, .int .u8 h6, .int .u8 h7, .int .u16 bb, .bool lg, .slice (some ⟨b1, o1, none⟩) n c]])
            case first =>
              have n1 := HT.out.inh
              have p0 := fun x : Cls (fun v => Sep [] w v [blkR (o + 1) 35 #[.int .u8 q, .int .u8 h1', .int .u8 h2', .int .u8 h3', .int .u8 h4', .int .u8 h5', .int .u8 h6', .int .u8 h7', .int .u16 bb', .bool lg', .slice (some ⟨b2, o2, none⟩) n c'], blkR o 35 #[.int .u8 p, .int .u8 h1, .int .u8 h2, .int .u8 h3, .int .u8 h4, .int .u8 h5, .int .u8 h6, .int .u8 h7, .int .u16 bb, .bool lg, .slice (some ⟨b1, o1, none⟩) n c]]) => (HC1.out x.world x.ok.frm).1
              have p1 := fun x : Cls (fun v => Sep [] w v [blkR (o + 1) 35 #[.int .u8 q, .int .u8 h1', .int .u8 h2', .int .u8 h3', .int .u8 h4', .int .u8 h5', .int .u8 h6', .int .u8 h7', .int .u16 bb', .bool lg', .slice (some ⟨b2, o2, none⟩) n c'], blkR o 35 #[.int .u8 p, .int .u8 h1, .int .u8 h2, .int .u8 h3, .int .u8 h4, .int .u8 h5, .int .u8 h6, .int .u8 h7, .int .u16 bb, .bool lg, .slice (some ⟨b1, o1, none⟩) n c]]) => (HC1.out x.world x.ok.frm).2.1
              have p2 := fun x : Cls (fun v => Sep [] w v [blkR (o + 1) 35 #[.int .u8 q, .int .u8 h1', .int .u8 h2', .int .u8 h3', .int .u8 h4', .int .u8 h5', .int .u8 h6', .int .u8 h7', .int .u16 bb', .bool lg', .slice (some ⟨b2, o2, none⟩) n c'], blkR o 35 #[.int .u8 p, .int .u8 h1, .int .u8 h2, .int .u8 h3, .int .u8 h4, .int .u8 h5, .int .u8 h6, .int .u8 h7, .int .u16 bb, .bool lg, .slice (some ⟨b1, o1, none⟩) n c]]) => (HC1.out x.world x.ok.frm).2.2
              have q0 := fun x : Cls (fun v => Sep [] w v [blkR (o + 1) 35 #[.int .u8 q, .int .u8 h1', .int .u8 h2', .int .u8 h3', .int .u8 h4', .int .u8 h5', .int .u8 h6', .int .u8 h7', .int .u16 bb', .bool lg', .slice (some ⟨b2, o2, none⟩) n c'], blkR o 35 #[.int .u8 p, .int .u8 h1, .int .u8 h2, .int .u8 h3, .int .u8 h4, .int .u8 h5, .int .u8 h6, .int .u8 h7, .int .u16 bb, .bool lg, .slice (some ⟨b1, o1, none⟩) n c]]) => (HC2.out x.world x.ok.frm).1
              have q1 := fun x : Cls (fun v => Sep [] w v [blkR (o + 1) 35 #[.int .u8 q, .int .u8 h1', .int .u8 h2', .int .u8 h3', .int .u8 h4', .int .u8 h5', .int .u8 h6', .int .u8 h7', .int .u16 bb', .bool lg', .slice (some ⟨b2, o2, none⟩) n c'], blkR o 35 #[.int .u8 p, .int .u8 h1, .int .u8 h2, .int .u8 h3, .int .u8 h4, .int .u8 h5, .int .u8 h6, .int .u8 h7, .int .u16 bb, .bool lg, .slice (some ⟨b1, o1, none⟩) n c]]) => (HC2.out x.world x.ok.frm).2.1
              have q2 := fun x : Cls (fun v => Sep [] w v [blkR (o + 1) 35 #[.int .u8 q, .int .u8 h1', .int .u8 h2', .int .u8 h3', .int .u8 h4', .int .u8 h5', .int .u8 h6', .int .u8 h7', .int .u16 bb', .bool lg', .slice (some ⟨b2, o2, none⟩) n c'], blkR o 35 #[.int .u8 p, .int .u8 h1, .int .u8 h2, .int .u8 h3, .int .u8 h4, .int .u8 h5, .int .u8 h6, .int .u8 h7, .int .u16 bb, .bool lg, .slice (some ⟨b1, o1, none⟩) n c]]) => (HC2.out x.world x.ok.frm).2.2
              have l0 := fun x : Cls (fun v => Sep [] w v [blkR (o + 1) 35 #[.int .u8 q, .int .u8 h1', .int .u8 h2', .int .u8 h3', .int .u8 h4', .int .u8 h5', .int .u8 h6', .int .u8 h7', .int .u16 bb', .bool lg', .slice (some ⟨b2, o2, none⟩) n c'], blkR o 35 #[.int .u8 p, .int .u8 h1, .int .u8 h2, .int .u8 h3, .int .u8 h4, .int .u8 h5, .int .u8 h6, .int .u8 h7, .int .u16 bb, .bool lg, .slice (some ⟨b1, o1, none⟩) n c]]) => (x.ok.blk 1 rfl).cell 10 rfl
              have l1 := fun x : Cls (fun v => Sep [] w v [blkR (o + 1) 35 #[.int .u8 q, .int .u8 h1', .int .u8 h2', .int .u8 h3', .int .u8 h4', .int .u8 h5', .int .u8 h6', .int .u8 h7', .int .u16 bb', .bool lg', .slice (some ⟨b2, o2, none⟩) n c'], blkR o 35 #[.int .u8 p, .int .u8 h1, .int .u8 h2, .int .u8 h3, .int .u8 h4, .int .u8 h5, .int .u8 h6, .int .u8 h7, .int .u16 bb, .bool lg, .slice (some ⟨b1, o1, none⟩) n c]]) => (x.ok.blk 0 rfl).cell 10 rfl
              clear kk jj
              have HF0 := Lib.hid (fun X (hX : Sep [] w X [blkR (o + 1) 35 #[.int .u8 q, .int .u8 h1', .int .u8 h2', .int .u8 h3', .int .u8 h4', .int .u8 h5', .int .u8 h6', .int .u8 h7', .int .u16 bb', .bool lg', .slice (some ⟨b2, o2, none⟩) n c'], blkR o 35 #[.int .u8 p, .int .u8 h1, .int .u8 h2, .int .u8 h3, .int .u8 h4, .int .u8 h5, .int .u8 h6, .int .u8 h7, .int .u16 bb, .bool lg, .slice (some ⟨b1, o1, none⟩) n c]]) => hX)
              cases E2 with
              | false =>
                obtain rfl : S = false := by rw [HS3.out]; rfl
                refine region_sep HT.out (by kernel_rfl) (by kernel_rfl) ?_
                repeat (go_big_quiet_step (fail))
                refine wpQuiet_nil ?_
                intro w3 hS3
                go_wp2_with fail
                go_meet
                exact ⟨rfl, hS3⟩
              | true =>
                cases E6 with
                | false =>
                  obtain rfl : S = false := by rw [HS3.out]; rfl
                  refine region_sep HT.out (by kernel_rfl) (by kernel_rfl) ?_
                  repeat (go_big_quiet_step (fail))
                  refine wpQuiet_nil ?_
                  intro w3 hS3
                  go_wp2_with fail
                  go_meet
                  exact ⟨rfl, hS3⟩
                | true =>
                  obtain rfl : S = U := by rw [HS3.out]; rfl
                  refine region_sep HT.out (by kernel_rfl) (by kernel_rfl) ?_
                  repeat (go_big_quiet_step ((rename_i x; exact call_keeps x.ok (HSa.out _ x.ok.frm))))
                  refine wpQuiet_nil ?_
                  intro w3 hS3
                  go_wp2_with fail
                  go_meet
                  exact ⟨rfl, hS3⟩
            obtain ⟨rfl, hf⟩ := hcut
            obtain ⟨wd, hwd⟩ : ∃ w5, w5 = wc := ⟨_, rfl⟩
            rw [← hwd] at hf ⊢
            have HT2 := Lib.hid hf
            clear hf hwd HT kk jj
            cases S with
            | false =>
              obtain rfl : R = false := by rw [HR2.out, HTT.out]; exact HAt.out (by first | trivial | rfl)
              go_wp2_with fail
              go_ret
              exact ⟨rfl, HT2.out.frm⟩
            | true =>
              go_wp2_with fail
              go_roundw
              case rel => exact ⟨k + 1, by omega, by go_num, HTs.out (by first | trivial | rfl), HT2.out⟩
              case measure => simp [intOf]; omega
          · obtain rfl : k = n := by omega
            have hR : R = true := by
              rw [HR2.out, HTT.out, sameLs_iff]
              have h := HTk.out
              rwa [List.take_of_length_le (by rw [List.length_map, ← HN.out]; exact Nat.le_refl _), List.take_of_length_le (by rw [List.length_map, ← HM.out]; exact Nat.le_refl _)] at h
            subst hR
            go_wp2_with fail
            go_ret
            exact ⟨rfl, HT.out.frm⟩

end Go.Proofs.YtjflcijiaennkaaDoor
