/-
  THE WALK of flex.Write. Printed by gen_fxh.py.
-/
import Derived.Test.YtnloabpdjedanaaDoorFxG
set_option linter.unusedVariables false
set_option linter.unusedSimpArgs false
namespace Go.Proofs.YtnloabpdjedanaaDoor
open Go.RowKit

theorem and63_8 : ∀ v : Fin 256, bits .and .u8 (v.val : Int) 63 = (v.val % 64 : Nat) := by decide +kernel
theorem or64 : ∀ v : Fin 64, bits .or .i64 (v.val : Int) 64 = (v.val : Int) + 64 := by decide +kernel
theorem and63_u {v : Int} (h0 : 0 ≤ v) (h1 : v ≤ 255) : bits .and .u8 v 63 = v % 64 := by
  obtain ⟨f, rfl⟩ := fin_of h0 h1
  rw [and63_8]
  omega
theorem or64_i {v : Int} (h0 : 0 ≤ v) (h1 : v ≤ 63) : bits .or .i64 v 64 = v + 64 := by
  have h := or64 ⟨v.toNat, by omega⟩
  have e : ((v.toNat : Nat) : Int) = v := Int.toNat_of_nonneg h0
  simp only [e] at h
  exact h
theorem bigL_byte {n : Int} (h0 : 0 ≤ n) (h1 : n ≤ 255) : bigL n 1 = [n] := by rw [bigL_one]; congr 1; omega
/-- What Write gives. -/
def WrP (w : World) (o : List Int) (e : Int) (x : Ending) (W' : World) : Prop := ∃ v, x = .returned (.tuple #[v, .int .i64 e]) ∧ Sep [] w W' [sumR v o]
structure Fx.Good (x : Fx) : Prop where
  fix : x.fx = true → 1 ≤ x.L ∧ x.L ≤ 255 ∧ 0 ≤ x.D ∧ x.D ≤ 255 ∧ x.h = 0 ∧ x.l = 0
  msk : x.fx = false → x.L = 0 ∧ x.D = 0 ∧ ¬ (x.h = 0 ∧ x.l = 0)
  last : laN x.h x.l < 109
  body : x.B.length ≤ 1500
theorem good_of {x : Fx} (h0 : x.h < 18446744073709551616) (h1 : x.l < 18446744073709551616) (hw : wrX x = 0) : x.Good := by
  unfold wrX at hw
  split at hw
  · omega
  · rename_i g1
    split at hw
    · omega
    · rename_i g2
      split at hw
      · omega
      · rename_i g3
        have e0 : cnt x.h 64 + cnt x.l 64 = 0 ↔ x.h = 0 ∧ x.l = 0 := by
          have a := cnt_nil h0
          have b := cnt_nil h1
          constructor
          · intro h; exact ⟨a.1 (by omega), b.1 (by omega)⟩
          · intro h; have := a.2 h.1; have := b.2 h.2; omega
        refine ⟨fun hf => ?_, fun hf => ?_, by omega, by omega⟩
        · rw [hf] at g1 g2
          have g4 : cnt x.h 64 + cnt x.l 64 = 0 := by
            by_cases h : cnt x.h 64 + cnt x.l 64 = 0
            · exact h
            · exact absurd (.inl (by rw [decide_eq_false h]; rfl)) g2
          have g5 := e0.1 g4
          simp [gridB] at g1
          exact ⟨g1.1.1.1, g1.1.1.2, g1.1.2, g1.2, g5.1, g5.2⟩
        · rw [hf] at g1 g2
          have g4 : ¬ cnt x.h 64 + cnt x.l 64 = 0 := fun h => g2 (.inl (by simp [h]))
          simp at g1
          exact ⟨g1.1, g1.2, fun h => g4 (e0.2 h)⟩
theorem we_bad {x : Fx} (h : wrX x ≠ 0) : weX x = wrX x ∧ woX x = [] := by
  have e : weX x = wrX x := by unfold weX; rw [if_pos h]
  exact ⟨e, by unfold woX; rw [e, if_pos h]⟩
theorem we_long {x : Fx} (h : wrX x = 0) (hl : 1500 < (byX x).length) : weX x = 2 ∧ woX x = [] := by
  have e : weX x = 2 := by unfold weX; rw [if_neg (by omega), if_pos hl]
  exact ⟨e, by unfold woX; rw [e, if_pos (by decide)]⟩
theorem we_good {x : Fx} (h : wrX x = 0) (hl : ¬ 1500 < (byX x).length) : weX x = 0 ∧ woX x = byX x := by
  have e : weX x = 0 := by unfold weX; rw [if_neg (by omega), if_neg hl]
  exact ⟨e, by unfold woX; rw [e, if_neg (by decide)]⟩

set_option maxRecDepth 100000 in
set_option maxHeartbeats 16000000 in
theorem write_c (x : Fx) (a : Option Addr) (c : Nat) (w : World) (hok : x.Ok) (hrd : RdI .u8 w a x.B) (hn : a = none → c = 0) (hT : Tabs w) (hl : x.B.length ≤ 9223372036854775807) :
    Calls Tryd.prog 15 #[x.val (.slice a x.B.length c)] w (WrP w (woX x) (weX x)) := by
  have HW := Lib.hid (fun X (hX : Frm [] w X) => wrong_c x a c X hok.rh hok.rl (hT.frm hX (by simp)) hl)
  have HT := Lib.hid (fun X (hX : Frm [] w X) => hT.frm hX (by simp))
  have HG := Lib.hid (fun h => good_of hok.rh hok.rl h)
  have HBd := Lib.hid (@we_bad x)
  have HLg := Lib.hid (@we_long x)
  have HGd := Lib.hid (@we_good x)
  obtain ⟨E, hE⟩ : ∃ E, E = wrX x := ⟨_, rfl⟩
  obtain ⟨r, hr⟩ : ∃ r, r = weX x := ⟨_, rfl⟩
  obtain ⟨O, hO⟩ : ∃ O, O = woX x := ⟨_, rfl⟩
  rw [← hE] at HW HG HBd HLg HGd
  rw [← hr] at HBd HLg HGd ⊢
  rw [← hO] at HBd HLg HGd ⊢
  have HRd := Lib.hid (fun X (hX : Frm [] w X) => hrd.below (w' := X) hX.below)
  have HN := Lib.hid hn
  have HY : Hid (byX x = _) := Lib.hid rfl
  obtain ⟨r0, r1, r2, r3, r4, r5, r6, r7, rb, rh, rl, rL, rD, rB⟩ := hok
  clear hE hr hO hrd hn hT
  obtain ⟨h0, h1, h2, h3, h4, h5, h6, h7, b, h, l, fx, L, D, B⟩ := x
  simp only [Fx.val, Fx.cells] at *
  obtain ⟨n, hn⟩ : ∃ n, n = B.length := ⟨_, rfl⟩
  have HNn := Lib.hid hn
  rw [← hn] at HW hl ⊢
  clear hn
  have HS0 := Lib.hid ((Sep.init w).alloc #[.int .u8 h0, .int .u8 h1, .int .u8 h2, .int .u8 h3, .int .u8 h4, .int .u8 h5, .int .u8 h6, .int .u8 h7, .int .u16 b, .int .u64 (h : Int), .int .u64 (l : Int), .bool fx, .int .i64 L, .int .i64 D, .slice a n c] 31)
  go_enter Tryd.func15, Tryd.ntmps15
  go_upto_region 1 with fail
  obtain ⟨w1, hw1⟩ : ∃ w1, w1 = w.alloc (.cells #[.int .u8 h0, .int .u8 h1, .int .u8 h2, .int .u8 h3, .int .u8 h4, .int .u8 h5, .int .u8 h6, .int .u8 h7, .int .u16 b, .int .u64 (h : Int), .int .u64 (l : Int), .bool fx, .int .i64 L, .int .i64 D, .slice a n c] 31) := ⟨_, rfl⟩
  obtain ⟨o, ho⟩ : ∃ o, o = w.heap.size := ⟨_, rfl⟩
  rw [← hw1, ← ho] at HS0
  rw [← hw1, ← ho]
  clear hw1 ho
  have k0 := (HS0.out.blk 0 rfl).cell 0 rfl
  have k1 := (HS0.out.blk 0 rfl).cell 1 rfl
  have k2 := (HS0.out.blk 0 rfl).cell 2 rfl
  have k3 := (HS0.out.blk 0 rfl).cell 3 rfl
  have k4 := (HS0.out.blk 0 rfl).cell 4 rfl
  have k5 := (HS0.out.blk 0 rfl).cell 5 rfl
  have k6 := (HS0.out.blk 0 rfl).cell 6 rfl
  have k7 := (HS0.out.blk 0 rfl).cell 7 rfl
  have k8 := (HS0.out.blk 0 rfl).cell 8 rfl
  have k9 := (HS0.out.blk 0 rfl).cell 9 rfl
  have k10 := (HS0.out.blk 0 rfl).cell 10 rfl
  have k11 := (HS0.out.blk 0 rfl).cell 11 rfl
  have k12 := (HS0.out.blk 0 rfl).cell 12 rfl
  have k13 := (HS0.out.blk 0 rfl).cell 13 rfl
  have k14 := (HS0.out.blk 0 rfl).cell 14 rfl
  go_wp2_with fail
  clear k0 k1 k2 k3 k4 k5 k6 k7 k8 k9 k10 k11 k12 k13 k14
  refine (HW.out _ HS0.out.frm).mono ?_
  rintro e w2 ⟨rfl, hf⟩
  have HS1 := Lib.hid (HS0.out.keep hf)
  clear hf HS0 HW
  by_cases hE0 : E = 0
  · subst hE0
    have HGo := Lib.hid (HG.out rfl)
    have HLg2 := Lib.hid (HLg.out rfl)
    have HGd2 := Lib.hid (HGd.out rfl)
    clear HG HBd HLg HGd
    have HS2 := Lib.hid (((HS1.out.alloc #[.slice none 0 0] 75).nil 5 1).at_ [0, 1, 2] (by decide) rfl)
    go_upto_region 5 with fail
    obtain ⟨w3, hw3⟩ : ∃ w3, w3 = w2.alloc (.cells #[.slice none 0 0] 75) := ⟨_, rfl⟩
    obtain ⟨s, hs⟩ : ∃ s, s = w2.heap.size := ⟨_, rfl⟩
    rw [← hw3, ← hs] at HS2
    rw [← hw3, ← hs]
    clear hw3 hs HS1
    have HS3 := Lib.hid (show Sep [] w w3 [sumR (.slice none 0 0) [], wtrR s (.slice none 0 0), blkR o 31 #[.int .u8 h0, .int .u8 h1, .int .u8 h2, .int .u8 h3, .int .u8 h4, .int .u8 h5, .int .u8 h6, .int .u8 h7, .int .u16 b, .int .u64 (h : Int), .int .u64 (l : Int), .bool fx, .int .i64 L, .int .i64 D, .slice a n c]] from HS2.out)
    clear HS2
    have e1 := and63_u r0.1 r0.2
    have e2 : IntKind.i64.wrap (h0 % 64) = h0 % 64 := IntWalk.i64_in _ (by omega)
    have e3 := or64_i (v := h0 % 64) (by omega) (by omega)
    obtain ⟨f, hf⟩ : ∃ f : Int, f = h0 % 64 + if fx then 64 else 0 := ⟨_, rfl⟩
    have hf0 : 0 ≤ f ∧ f ≤ 255 := by rw [hf]; cases fx <;> simp <;> omega
    have HF := Lib.hid hf
    have k0 := (HS3.out.blk 2 rfl).cell 0 rfl
    have k11 := (HS3.out.blk 2 rfl).cell 11 rfl
    clear hf
    go_upto_if 18 with fail
    go_cut [6] (fun v wx => v = .int .i64 f ∧ wx = w3)
    case first =>
      cases fx with
      | true =>
        go_wp2_with fail
        go_meet
        exact ⟨by rw [HF.out]; rfl, rfl⟩
      | false =>
        go_wp2_with fail
        go_meet
        exact ⟨by rw [HF.out]; simp, rfl⟩
    case rest =>
      obtain ⟨rfl, rfl⟩ := hcut
      obtain ⟨w4, rfl⟩ : ∃ w4, w4 = wc := ⟨_, rfl⟩
      clear e1 e2 e3 k0 k11
      have HF0 := Lib.hid (bigL_byte hf0.1 hf0.2)
      have HB := Lib.hid (HS3.out.wr (wbyte_c _ _ _ _ _ HS3.out.part2 (by (try simp only [List.length_append, List.length_nil, List.length_cons, bigL_len]); omega) f hf0.1 (by omega)))
      go_wp2_with fail
      refine HB.out.mono ?_
      rintro e w5 ⟨rfl, v5, h⟩
      rw [HF0.out] at h
      have HS5 := Lib.hid h
      clear h HB
      have e1 : IntKind.i64.wrap h1 = h1 := IntWalk.i64_in _ (by omega)
      have HF1 := Lib.hid (bigL_byte r1.1 r1.2)
      have k1 := (HS5.out.blk 2 rfl).cell 1 rfl

      have HB := Lib.hid (HS5.out.wr (wbyte_c _ _ _ _ _ HS5.out.part2 (by (try simp only [List.length_append, List.length_nil, List.length_cons, bigL_len]); omega) h1 r1.1 (by omega)))
      go_wp2_with fail
      refine HB.out.mono ?_
      rintro e w6 ⟨rfl, v6, h⟩
      rw [HF1.out] at h
      clear k1 e1
      have HS6 := Lib.hid h
      clear h HB
      have HR : Hid (RdI .u8 w6 (some ⟨o, 6, none⟩) [h6, h7]) := Lib.hid (fun i x hi => ⟨o, 6, rfl, (HS6.out.blk 2 rfl).lt, by
        rcases i with _ | _ | i
        · simp at hi; subst hi; exact (HS6.out.blk 2 rfl).cell 6 rfl
        · simp at hi; subst hi; exact (HS6.out.blk 2 rfl).cell 7 rfl
        · simp at hi⟩)
      have HP : Hid (Calls Tryd.prog 36 #[.pointer (some ⟨s, 0, none⟩), .slice (some ⟨o, 6, none⟩) 2 2] w6 _) := Lib.hid (HS6.out.wr (wput_c _ _ _ _ _ HS6.out.part2 (by (try simp only [List.length_append, List.length_nil, List.length_cons, bigL_len]); omega) (some ⟨o, 6, none⟩) 2 [h6, h7] HR.out (fun h => by cases h) (by simp)))
      go_wp2_with fail
      refine HP.out.mono ?_
      rintro e w7 ⟨rfl, v7, h⟩
      have HS7 := Lib.hid h
      clear h HP HR
      have HR : Hid (RdI .u8 w7 (some ⟨o, 2, none⟩) [h2, h3, h4, h5]) := Lib.hid (fun i x hi => ⟨o, 2, rfl, (HS7.out.blk 2 rfl).lt, by
        rcases i with _ | _ | _ | _ | i
        · simp at hi; subst hi; exact (HS7.out.blk 2 rfl).cell 2 rfl
        · simp at hi; subst hi; exact (HS7.out.blk 2 rfl).cell 3 rfl
        · simp at hi; subst hi; exact (HS7.out.blk 2 rfl).cell 4 rfl
        · simp at hi; subst hi; exact (HS7.out.blk 2 rfl).cell 5 rfl
        · simp at hi⟩)
      have HP : Hid (Calls Tryd.prog 36 #[.pointer (some ⟨s, 0, none⟩), .slice (some ⟨o, 2, none⟩) 4 6] w7 _) := Lib.hid (HS7.out.wr (wput_c _ _ _ _ _ HS7.out.part2 (by (try simp only [List.length_append, List.length_nil, List.length_cons, bigL_len]); omega) (some ⟨o, 2, none⟩) 6 [h2, h3, h4, h5] HR.out (fun h => by cases h) (by simp)))
      go_wp2_with fail
      refine HP.out.mono ?_
      rintro e w8 ⟨rfl, v8, h⟩
      have HS8 := Lib.hid h
      clear h HP HR
      have k8 := (HS8.out.blk 2 rfl).cell 8 rfl

      have HB := Lib.hid (HS8.out.wr (wword_c _ _ _ _ _ HS8.out.part2 (by (try simp only [List.length_append, List.length_nil, List.length_cons, bigL_len]); omega) b rb.1 (by omega)))
      go_wp2_with fail
      refine HB.out.mono ?_
      rintro e w9 ⟨rfl, v9, h⟩
      clear k8
      have HS9 := Lib.hid h
      clear h HB
      have HLn : Hid (n ≤ 1500) := Lib.hid (by rw [HNn.out]; exact HGo.out.body)
      obtain ⟨pre, hpre⟩ : ∃ pre, pre = [] ++ [f] ++ [h1] ++ [h6, h7] ++ [h2, h3, h4, h5] ++ bigL b 2 := ⟨_, rfl⟩
      have HPre := Lib.hid hpre
      have hpl : pre.length = 10 := by rw [hpre]; simp [bigL_len]
      rw [← hpre] at HS9
      clear hpre
      obtain ⟨mid, hmid⟩ : ∃ mid, mid = if fx then [L, D] else mkB h l 3 0 := ⟨_, rfl⟩
      have HMid := Lib.hid hmid
      have hml : mid.length ≤ 24 := by
        rw [hmid]
        cases fx
        · have := @mkB_len h l 3 0
          simpa using this
        · simp
      clear hmid
      have k11 := (HS9.out.blk 2 rfl).cell 11 rfl
      go_upto_if 38 with fail
      go_cut [6] (fun u wx => u = .int .i64 f ∧ ∃ v', Sep [] w wx [sumR v' (pre ++ mid), wtrR s v', blkR o 31 #[.int .u8 h0, .int .u8 h1, .int .u8 h2, .int .u8 h3, .int .u8 h4, .int .u8 h5, .int .u8 h6, .int .u8 h7, .int .u16 b, .int .u64 (h : Int), .int .u64 (l : Int), .bool fx, .int .i64 L, .int .i64 D, .slice a n c]])
      case first =>
        cases fx with
        | true =>
          obtain ⟨g1, g2, g3, g4⟩ : 1 ≤ L ∧ L ≤ 255 ∧ 0 ≤ D ∧ D ≤ 255 := ⟨(HGo.out.fix rfl).1, (HGo.out.fix rfl).2.1, (HGo.out.fix rfl).2.2.1, (HGo.out.fix rfl).2.2.2.1⟩
          have k12 := (HS9.out.blk 2 rfl).cell 12 rfl
          have HF0 := Lib.hid (bigL_byte (show 0 ≤ L by omega) g2)
          have HB := Lib.hid (HS9.out.wr (wbyte_c _ _ _ _ _ HS9.out.part2 (by (try simp only [List.length_append, List.length_nil, List.length_cons, bigL_len]); omega) L (by omega) (by omega)))
          go_wp2_with fail
          refine HB.out.mono ?_
          rintro e w10 ⟨rfl, v10, h⟩
          rw [HF0.out] at h
          clear k12
          have HS10 := Lib.hid h
          clear h HB
          have k13 := (HS10.out.blk 2 rfl).cell 13 rfl
          have HF1 := Lib.hid (bigL_byte g3 g4)
          have HB := Lib.hid (HS10.out.wr (wbyte_c _ _ _ _ _ HS10.out.part2 (by (try simp only [List.length_append, List.length_nil, List.length_cons, bigL_len]); omega) D (by omega) (by omega)))
          go_wp2_with fail
          refine HB.out.mono ?_
          rintro e w11 ⟨rfl, v11, h⟩
          rw [HF1.out] at h
          clear k13
          have HS11 := Lib.hid h
          clear h HB
          go_wp2_with fail
          go_meet
          refine ⟨rfl, v11, ?_⟩
          rw [show mid = [L, D] by rw [HMid.out]; simp, show pre ++ [L, D] = pre ++ [L] ++ [D] by simp]
          exact HS11.out
        | false =>
          have k9 := (HS9.out.blk 2 rfl).cell 9 rfl
          have k10 := (HS9.out.blk 2 rfl).cell 10 rfl
          have HB := Lib.hid (HS9.out.wr (writeMask_c _ _ _ _ _ HS9.out.part2 (by omega) h l rh rl (HT.out _ HS9.out.frm) (by
            have h1 := (HT.out w (Frm.refl _ _)).2
            intro hm
            rcases List.mem_append.1 hm with hm | hm
            · rcases HS9.out.mine _ (List.mem_cons_self ..) 0 hm with h2 | h2
              · simp at h2
              · omega
            · rcases HS9.out.mine _ (List.mem_cons_of_mem _ (List.mem_cons_self ..)) 0 hm with h2 | h2
              · simp at h2
              · omega)))
          unfold mV at HB
          go_wp2_with fail
          refine HB.out.mono ?_
          rintro e w10 ⟨rfl, v10, h⟩
          have HS10 := Lib.hid h
          clear h HB k9 k10
          go_wp2_with fail
          go_meet
          refine ⟨rfl, v10, ?_⟩
          rw [show mid = mkB h l 3 0 by rw [HMid.out]; simp]
          exact HS10.out
      case rest =>
        obtain ⟨rfl, v11, hS⟩ := hcut
        obtain ⟨w11, rfl⟩ : ∃ w11, w11 = wc := ⟨_, rfl⟩
        have HS11 := Lib.hid hS
        clear hS k11
        have k14 := (HS11.out.blk 2 rfl).cell 14 rfl
        have HPu := HS11.out.wr (wput_c _ _ _ _ _ HS11.out.part2 (by rw [List.length_append]; omega) a c B (HRd.out _ HS11.out.frm) HN.out (by have := HLn.out; have := HNn.out; omega))
        rw [← HNn.out] at HPu
        have HP := Lib.hid HPu
        clear HPu
        go_wp2_with fail
        refine HP.out.mono ?_
        rintro e w12 ⟨rfl, v12, h⟩
        have HS12 := Lib.hid h
        clear h HP k14
        have hby : pre ++ mid ++ B = byX ⟨h0, h1, h2, h3, h4, h5, h6, h7, b, h, l, fx, L, D, B⟩ := by
          rw [HPre.out, HMid.out]
          unfold byX
          rw [← HF.out]
          simp
        have HBy := Lib.hid hby
        obtain ⟨R, hR⟩ : ∃ R, R = byX ⟨h0, h1, h2, h3, h4, h5, h6, h7, b, h, l, fx, L, D, B⟩ := ⟨_, rfl⟩
        have hRl : R.length ≤ 1000000 := by rw [hR, ← hby, List.length_append, List.length_append]; have := HLn.out; have := HNn.out; omega
        rw [hby, ← hR] at HS12
        rw [← hR] at HLg2 HGd2
        obtain ⟨m, hm⟩ : ∃ m, m = R.length := ⟨_, rfl⟩
        rw [← hm] at HLg2 HGd2
        have hlen := fun (X : World) (L : List Res) (h : Sep [] w X (sumR v12 R :: wtrR s v12 :: L)) => wlen_c s v12 R X h
        rw [← hm] at hlen
        have HLen := Lib.hid (hlen _ _ HS12.out)
        have HDn := Lib.hid (wdone_c s v12 R _ HS12.out hRl)
        clear hlen hm hby hR
        by_cases h15 : 1500 < m
        · obtain ⟨rfl, rfl⟩ := HLg2.out h15
          have d1 : decide (1500 < (m : Int)) = true := decide_eq_true (by omega)
          clear h15 HLg2 HGd2
          go_wp2_with fail
          refine HLen.out.mono ?_
          rintro e w13 ⟨rfl, rfl⟩
          go_wp2_with fail
          refine bodyPost_ret (v := .tuple #[.slice none 0 0, .int .i64 2]) ?_ rfl ⟨_, rfl, (HS12.out.nil 5 1).at_ [0] (by decide) rfl⟩
          simp [results, Tryd.results15]
        · obtain ⟨rfl, hO⟩ := HGd2.out h15
          have d1 : decide (1500 < (m : Int)) = false := decide_eq_false (by omega)
          subst hO
          clear h15 HLg2 HGd2
          go_wp2_with fail
          refine HLen.out.mono ?_
          rintro e w13 ⟨rfl, rfl⟩
          go_wp2_with fail
          refine HDn.out.mono ?_
          rintro e w14 ⟨v14, rfl, hD⟩
          have HD := Lib.hid (sep_rebase HS12.out.frm hD)
          clear hD
          go_wp2_with fail
          refine bodyPost_ret (v := .tuple #[v14, .int .i64 0]) ?_ rfl ⟨v14, rfl, HD.out⟩
          simp [results, Tryd.results15]
  · obtain ⟨hr, hO⟩ := HBd.out hE0
    subst hr
    subst hO
    have d0 : (r != 0) = true := by simp [hE0]
    clear hE0 HG HBd HLg HGd
    go_wp2_with fail
    refine bodyPost_ret (v := .tuple #[.slice none 0 0, .int .i64 r]) ?_ rfl ⟨_, rfl, (HS1.out.nil 5 1).at_ [0] (by decide) rfl⟩
    simp [results, Tryd.results15]

end Go.Proofs.YtnloabpdjedanaaDoor
