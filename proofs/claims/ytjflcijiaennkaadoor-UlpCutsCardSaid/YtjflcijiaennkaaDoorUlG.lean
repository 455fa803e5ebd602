/-
  THE WALK of ulp.wrong. Printed by gen_ulg.py.
-/
import Derived.Test.YtjflcijiaennkaaDoorUlF
set_option linter.unusedVariables false
set_option linter.unusedSimpArgs false
namespace Go.Proofs.YtjflcijiaennkaaDoor
open Go.RowKit

theorem any_lv (qs : List LvV) (F : Lv → Bool) : (qs.map LvV.lv).any F = qs.any fun q => F q.lv := by rw [List.any_map]; rfl
theorem uwr_none {x : Ul} (h : x.Ls.length = 0) : uwrX x = 4 := by unfold uwrX; rw [if_pos h]
theorem uwr_many {x : Ul} (h : 2 < x.Ls.length) : uwrX x = 3 := by unfold uwrX; rw [if_neg (by omega), if_pos h]
theorem uwr_bits {x : Ul} (h0 : x.Ls.length ≠ 0) (h1 : ¬ 2 < x.Ls.length) (h : (x.Ls.any (farL x.lg) || (x.Ls.head?.map isNil).getD true) = true) : uwrX x = 30 := by unfold uwrX; rw [if_neg h0, if_neg h1, if_pos h]
theorem uwr_long {x : Ul} (h0 : x.Ls.length ≠ 0) (h1 : ¬ 2 < x.Ls.length) (h : ¬ (x.Ls.any (farL x.lg) || (x.Ls.head?.map isNil).getD true) = true) : uwrX x = if x.Ls.any longL = true then 2 else 0 := by unfold uwrX; rw [if_neg h0, if_neg h1, if_neg h]
set_option maxRecDepth 100000 in
set_option maxHeartbeats 16000000 in
theorem uwrong_c (x : Ul) (a : Option Addr) (c : Nat) (qs : List LvV) (w : World) (hq : qs.map LvV.lv = x.Ls) (hok : x.Ok) (rd : RdLs w a qs) (hT : Tabs w) (hn : qs.length ≤ 1000000) :
    Calls Tryd.prog 30 #[x.val (.slice a qs.length c)] w fun e w' => e = .returned (.int .i64 (uwrX x)) ∧ Frm [] w w' := by
  have HE0 := Lib.hid (fun (h : x.Ls.length = 0) => uwr_none h)
  have HE1 := Lib.hid (fun (h : 2 < x.Ls.length) => uwr_many h)
  have HE2 := Lib.hid (fun h0 h1 h => uwr_bits (x := x) h0 h1 h)
  have HE3 := Lib.hid (fun h0 h1 h => uwr_long (x := x) h0 h1 h)
  have hlt : ∀ q ∈ qs, q.h < 18446744073709551616 ∧ q.l < 18446744073709551616 := fun q h => by
    have := hok.rL q.lv (by rw [← hq]; exact List.mem_map.2 ⟨q, h, rfl⟩)
    exact ⟨this.1, this.2.1⟩
  have HLt := Lib.hid hlt
  obtain ⟨E, hE⟩ : ∃ E, E = uwrX x := ⟨_, rfl⟩
  rw [← hE] at HE0 HE1 HE2 HE3 ⊢
  have HRd := Lib.hid (fun X (hX : Frm [] w X) => rd.frm hX)
  have HT := Lib.hid (fun X (hX : Frm [] w X) => hT.frm hX (by simp))
  rw [← hq] at HE0 HE1 HE2 HE3
  clear hE rd hT hlt
  obtain ⟨h0, h1, h2, h3, h4, h5, h6, h7, bb, lg, Ls⟩ := x
  simp only [Ul.val, Ul.cells] at *
  clear hq hok
  simp only [List.length_map] at HE0 HE1 HE2 HE3
  obtain ⟨n, hnn⟩ : ∃ n, n = qs.length := ⟨_, rfl⟩
  rw [← hnn] at HE0 HE1 HE2 HE3 hn ⊢
  have HN := Lib.hid hnn
  clear hnn
  have HS0 := Lib.hid ((Sep.init w).alloc #[.int .u8 h0, .int .u8 h1, .int .u8 h2, .int .u8 h3, .int .u8 h4, .int .u8 h5, .int .u8 h6, .int .u8 h7, .int .u16 bb, .bool lg, .slice a n c] 29)
  go_enter Tryd.func30, Tryd.ntmps30
  go_upto_region 1 with fail
  obtain ⟨w1, hw1⟩ : ∃ w1, w1 = w.alloc (.cells #[.int .u8 h0, .int .u8 h1, .int .u8 h2, .int .u8 h3, .int .u8 h4, .int .u8 h5, .int .u8 h6, .int .u8 h7, .int .u16 bb, .bool lg, .slice a n c] 29) := ⟨_, rfl⟩
  obtain ⟨b, hb⟩ : ∃ b, b = w.heap.size := ⟨_, rfl⟩
  rw [← hw1, ← hb] at HS0
  rw [← hw1, ← hb]
  clear hw1 hb
  have k9 := (HS0.out.blk 0 rfl).cell 9 rfl
  have k10 := (HS0.out.blk 0 rfl).cell 10 rfl
  by_cases g0 : n = 0
  · have t0 : ((n : Int) == 0) = true := by simp [g0]
    obtain rfl := HE0.out g0
    clear g0
    go_wp2_with fail
    go_ret
    exact ⟨rfl, HS0.out.frm⟩
  have t0 : ((n : Int) == 0) = false := by simp; exact g0
  by_cases g1 : 2 < n
  · have t1 : decide (2 < (n : Int)) = true := decide_eq_true (by omega)
    obtain rfl := HE1.out g1
    clear g0 g1
    go_wp2_with fail
    go_ret
    exact ⟨rfl, HS0.out.frm⟩
  have t1 : decide (2 < (n : Int)) = false := decide_eq_false (by omega)
  obtain ⟨q, qs', hqs⟩ : ∃ q qs', qs = q :: qs' := by
    cases qs with
    | nil => have := HN.out; simp at this; omega
    | cons q qs' => exact ⟨q, qs', rfl⟩
  have HQs := Lib.hid hqs
  have HOd := Lib.hid (fun X (hX : Frm [] w1 X) => (by
    have h := lvContains_c X a c qs (HRd.out X (HS0.out.frm.trans hX)) (by rw [← HN.out]; omega) callsF_odd (caps := #[.pointer (some ⟨b, 0, none⟩)]) (fun q => farL lg q.lv) (fun Y q hY hq => odd_c q b lg Y (((hX.trans hY).blk (HS0.out.blk 0 rfl) (by simp)).cell 9 rfl) ((hX.trans hY).blk (HS0.out.blk 0 rfl) (by simp)).lt (HLt.out q hq).1 (HLt.out q hq).2 (HT.out Y (HS0.out.frm.trans (hX.trans hY))))
    rw [← HN.out] at h
    exact h : Calls Tryd.prog 54 #[.slice a n c, .func (.func 52) #[] #[.pointer (some ⟨b, 0, none⟩)]] X fun e w' => e = .returned (.bool (qs.any fun q => farL lg q.lv)) ∧ Frm [] X w'))
  have HLo := Lib.hid (fun X (hX : Frm [] w1 X) => (by
    have h := lvContains_c X a c qs (HRd.out X (HS0.out.frm.trans hX)) (by rw [← HN.out]; omega) callsF_long (caps := #[]) (fun q => longL q.lv) (fun Y q hY hq => ulong_c q Y ((HRd.out Y (HS0.out.frm.trans (hX.trans hY))).bod q hq))
    rw [← HN.out] at h
    exact h : Calls Tryd.prog 54 #[.slice a n c, .func (.func 55) #[] #[]] X fun e w' => e = .returned (.bool (qs.any fun q => longL q.lv)) ∧ Frm [] X w'))
  have HA1 := Lib.hid (any_lv qs (farL lg))
  have HA2 := Lib.hid (any_lv qs longL)
  clear hqs
  obtain ⟨O, hO⟩ : ∃ O, O = qs.any fun q => farL lg q.lv := ⟨_, rfl⟩
  obtain ⟨G, hG⟩ : ∃ G, G = qs.any fun q => longL q.lv := ⟨_, rfl⟩
  rw [← hO] at HOd HA1
  rw [← hG] at HLo HA2
  clear hO hG
  have hz := HLt.out q (by rw [HQs.out]; simp)
  have hhd : ((qs.map LvV.lv).head?.map isNil).getD true = (decide (q.h = 0) && decide (q.l = 0)) := by rw [HQs.out]; rfl
  have HHd := Lib.hid hhd
  have HCt := Lib.hid (fun X : World => count_c q.h q.l X hz.1 hz.2)
  have hcn : (cnt q.h 64 + cnt q.l 64 = 0) ↔ (q.h = 0 ∧ q.l = 0) := ⟨fun h => ⟨(cnt_nil hz.1).1 (by omega), (cnt_nil hz.2).1 (by omega)⟩, fun h => by rw [h.1, h.2]; decide +kernel⟩
  have HCn := Lib.hid hcn
  clear hz hhd hcn
  go_wp2_with fail
  refine (HOd.out w1 (Frm.refl _ _)).mono ?_
  rintro e w2 ⟨rfl, hf⟩
  have HF1 := Lib.hid hf
  have HS1 := Lib.hid (HS0.out.keep hf)
  clear hf k9 k10
  have k10 := (HS1.out.blk 0 rfl).cell 10 rfl
  obtain ⟨gb, off, ha, hb, d0, d1, d2⟩ := (HRd.out w2 HS1.out.frm).at_ (i := 0) (q := q) (by rw [HQs.out]; rfl)
  obtain ⟨qh, ql, qb, qB⟩ := q
  simp only [Nat.zero_mul, Nat.add_zero] at d0 d1 HCt HCn HHd
  subst ha
  have i1 : (0 : Int) < (n : Int) := by omega
  clear hb d2
  cases O with
  | true =>
    obtain rfl := HE2.out g0 g1 (by rw [HA1.out]; rfl)
    clear g0 g1
    go_wp2_with fail
    go_ret
    exact ⟨rfl, HS1.out.frm⟩
  | false =>
    unfold mV at HCt
    by_cases hz : qh = 0 ∧ ql = 0
    · obtain rfl := HE2.out g0 g1 (by rw [HA1.out, HHd.out]; simp [hz.1, hz.2])
      have hcz : decide (((cnt qh 64 + cnt ql 64 : Nat) : Int) = 0) = true := decide_eq_true (by rw [hz.1, hz.2]; decide +kernel)
      obtain ⟨C, hC⟩ : ∃ C : Int, C = ((cnt qh 64 + cnt ql 64 : Nat) : Int) := ⟨_, rfl⟩
      rw [← hC] at HCt hcz
      have hcb : (C == 0) = true := beq_iff_eq.2 (of_decide_eq_true hcz)
      clear hz hC g0 g1
      go_wp2_with fail
      refine (HCt.out _).mono ?_
      rintro x w13 ⟨rfl, hF⟩
      have HF := Lib.hid (HS1.out.frm.trans hF)
      clear hF
      go_wp2_with fail
      go_ret
      exact ⟨rfl, HF.out⟩
    · have hE := HE3.out g0 g1 (by rw [HA1.out, HHd.out]; simp; exact fun h h2 => hz ⟨h, h2⟩)
      rw [HA2.out] at hE
      have hcz : decide (((cnt qh 64 + cnt ql 64 : Nat) : Int) = 0) = false := decide_eq_false (fun h => hz (HCn.out.1 (by omega)))
      obtain ⟨C, hC⟩ : ∃ C : Int, C = ((cnt qh 64 + cnt ql 64 : Nat) : Int) := ⟨_, rfl⟩
      rw [← hC] at HCt hcz
      have hcb : (C == 0) = false := beq_eq_false_iff_ne.2 (of_decide_eq_false hcz)
      have HEE := Lib.hid hE
      clear hz hC g0 g1 hE
      go_wp2_with fail
      refine (HCt.out _).mono ?_
      rintro x w13 ⟨rfl, hF⟩
      have HF2 := Lib.hid (HF1.out.trans hF)
      have HS2 := Lib.hid (HS1.out.keep hF)
      clear hF d0 d1 k10
      have k10 := (HS2.out.blk 0 rfl).cell 10 rfl
      go_wp2_with fail
      refine (HLo.out w13 HF2.out).mono ?_
      rintro e w14 ⟨rfl, hf⟩
      have HS3 := Lib.hid (HS2.out.keep hf)
      clear hf k10
      cases G with
      | true =>
        obtain rfl : E = 2 := HEE.out
        go_wp2_with fail
        go_ret
        exact ⟨rfl, HS3.out.frm⟩
      | false =>
        obtain rfl : E = 0 := HEE.out
        go_wp2_with fail
        go_ret
        exact ⟨rfl, HS3.out.frm⟩

end Go.Proofs.YtjflcijiaennkaaDoor
