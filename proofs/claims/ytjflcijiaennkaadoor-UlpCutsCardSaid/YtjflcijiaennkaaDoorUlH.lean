/-
  THE WALKS of ulp.write, ulp.Write. Printed by gen_ulh.py.
-/
import Derived.Test.YtjflcijiaennkaaDoorUlG
import Derived.Test.YtjflcijiaennkaaDoorBa
import Derived.BigQuiet
set_option linter.unusedVariables false
set_option linter.unusedSimpArgs false
namespace Go.Proofs.YtjflcijiaennkaaDoor
open Go.RowKit

theorem and63_8u : ∀ v : Fin 256, bits .and .u8 (v.val : Int) 63 = (v.val % 64 : Nat) := by decide +kernel
theorem or64u : ∀ v : Fin 64, bits .or .i64 (v.val : Int) 64 = (v.val : Int) + 64 := by decide +kernel
theorem uand63_u {v : Int} (h0 : 0 ≤ v) (h1 : v ≤ 255) : bits .and .u8 v 63 = v % 64 := by
  obtain ⟨f, rfl⟩ := fin_of h0 h1
  rw [and63_8u]
  omega
theorem uor64_i {v : Int} (h0 : 0 ≤ v) (h1 : v ≤ 63) : bits .or .i64 v 64 = v + 64 := by
  have h := or64u ⟨v.toNat, by omega⟩
  have e : ((v.toNat : Nat) : Int) = v := Int.toNat_of_nonneg h0
  simp only [e] at h
  exact h
theorem ubigL_byte {n : Int} (h0 : 0 ≤ n) (h1 : n ≤ 255) : bigL n 1 = [n] := by rw [bigL_one]; congr 1; omega
theorem ubigL6 (x : Int) : bigL x 6 = bigL (x / 4294967296) 2 ++ bigL (x % 4294967296) 4 := by
  simp [bigL, dig, List.range_succ]
  omega
theorem upt_lt {h l : Nat} (h0 : h < 18446744073709551616) (h1 : l < 18446744073709551616) (lg : Bool) : ptN h l 0 (wid lg) < 2 ^ wid lg := by
  unfold ptN
  have hd := dwH_lt h l (-(held 0 (-128) 128)) h0 h1
  obtain ⟨D, hD⟩ : ∃ D, D = dwH h l (-(held 0 (-128) 128)) := ⟨_, rfl⟩
  rw [← hD] at hd ⊢
  cases lg
  · rw [show (64 - held ((wid false : Nat) : Int) 0 64).toNat = 48 from by decide, show wid false = 16 from rfl]
    omega
  · rw [show (64 - held ((wid true : Nat) : Int) 0 64).toNat = 16 from by decide, show wid true = 48 from rfl]
    omega
/-- What Write gives. -/
def UWrP (w : World) (o : List Int) (e : Int) (x : Ending) (W' : World) : Prop := ∃ v, x = .returned (.tuple #[v, .int .i64 e]) ∧ Sep [] w W' [sumR v o]
structure Ul.Good (x : Ul) : Prop where
  n0 : x.Ls.length ≠ 0
  n2 : x.Ls.length ≤ 2
  far : ∀ L ∈ x.Ls, laN L.h L.l < (wid x.lg : Int)
  one : (x.Ls.head?.map isNil).getD true = false
  body : ∀ L ∈ x.Ls, L.B.length ≤ 1500
theorem ugood_of {x : Ul} (hw : uwrX x = 0) : x.Good := by
  unfold uwrX at hw
  split at hw
  · omega
  · rename_i g0
    split at hw
    · omega
    · rename_i g1
      split at hw
      · omega
      · rename_i g2
        split at hw
        · omega
        · rename_i g3
          simp only [Bool.or_eq_true, not_or, Bool.not_eq_true] at g2 g3
          refine ⟨g0, by omega, fun L hL => ?_, g2.2, fun L hL => ?_⟩
          · have := List.any_eq_false.1 g2.1 L hL
            simpa [farL] using this
          · have := List.any_eq_false.1 g3 L hL
            simpa [longL] using this
theorem uwe_bad {x : Ul} (h : uwrX x ≠ 0) : uweX x = uwrX x ∧ uwoX x = [] := by
  have e : uweX x = uwrX x := by unfold uweX; rw [if_pos h]
  exact ⟨e, by unfold uwoX; rw [e, if_pos h]⟩
theorem uwe_long {x : Ul} (h : uwrX x = 0) (hl : 1500 < (ubyX x).length) : uweX x = 2 ∧ uwoX x = [] := by
  have e : uweX x = 2 := by unfold uweX; rw [if_neg (by omega), if_pos hl]
  exact ⟨e, by unfold uwoX; rw [e, if_pos (by decide)]⟩
theorem uwe_good {x : Ul} (h : uwrX x = 0) (hl : ¬ 1500 < (ubyX x).length) : uweX x = 0 ∧ uwoX x = ubyX x := by
  have e : uweX x = 0 := by unfold uweX; rw [if_neg (by omega), if_neg hl]
  exact ⟨e, by unfold uwoX; rw [e, if_neg (by decide)]⟩
/-- The bytes of the first levels. -/
def lvsB (lg : Bool) (qs : List LvV) (k : Nat) : List Int := (qs.take k).flatMap fun q => lvB lg q.lv
theorem lvsB_succ {lg : Bool} {qs : List LvV} {k : Nat} {q : LvV} (h : qs[k]? = some q) : lvsB lg qs (k + 1) = lvsB lg qs k ++ lvB lg q.lv := by
  simp [lvsB, List.take_add_one, h]
theorem siz_le (lg : Bool) : siz lg ≤ 6 := by cases lg <;> decide
theorem lvB_len (lg : Bool) (L : Lv) : (lvB lg L).length = 2 + siz lg + L.B.length := by simp [lvB, bigL_len]; omega
theorem lvsB_len {lg : Bool} {qs : List LvV} (hb : ∀ q ∈ qs, q.B.length ≤ 1500) : ∀ k, (lvsB lg qs k).length ≤ k * 1508
  | 0 => by simp [lvsB]
  | k + 1 => by
    by_cases hk : k < qs.length
    · obtain ⟨q, hq⟩ : ∃ q, qs[k]? = some q := ⟨_, List.getElem?_eq_getElem hk⟩
      rw [lvsB_succ hq, List.length_append, lvB_len]
      have h1 := lvsB_len (lg := lg) hb k
      have h2 := hb q (List.mem_of_getElem? hq)
      have h3 := siz_le lg
      have h4 : q.lv.B.length = q.B.length := rfl
      rw [h4, Nat.add_mul, Nat.one_mul]
      exact Nat.add_le_add h1 (by clear h1; omega)
    · have h1 := lvsB_len (lg := lg) hb k
      have e : lvsB lg qs (k + 1) = lvsB lg qs k := by unfold lvsB; rw [List.take_of_length_le (by omega), List.take_of_length_le (by omega)]
      rw [e, Nat.add_mul]; exact Nat.le_trans h1 (Nat.le_add_right _ _)

set_option maxRecDepth 100000 in
set_option maxHeartbeats 16000000 in
theorem uwrite_c (x : Ul) (a : Option Addr) (c : Nat) (qs : List LvV) (w : World) (hq : qs.map LvV.lv = x.Ls) (hok : x.Ok) (rd : RdLs w a qs) (hn2 : qs.length ≤ 2) (hb : ∀ q ∈ qs, q.B.length ≤ 1500) :
    Calls Tryd.prog 31 #[x.val (.slice a qs.length c)] w fun e w' => ∃ v, e = .returned v ∧ Sep [] w w' [sumR v (ubyX x)] := by
  have hlt : ∀ q ∈ qs, q.h < 18446744073709551616 ∧ q.l < 18446744073709551616 := fun q h => by
    have := hok.rL q.lv (by rw [← hq]; exact List.mem_map.2 ⟨q, h, rfl⟩)
    exact ⟨this.1, this.2.1⟩
  have HLt := Lib.hid hlt
  have HRd := Lib.hid (fun X (hX : Frm [] w X) => rd.frm hX)
  have HBd := Lib.hid hb
  have HLn := Lib.hid (fun lg k => lvsB_len (lg := lg) hb k)
  have hby : ubyX x = uhdB x ++ lvsB x.lg qs qs.length := by
    unfold ubyX lvsB
    rw [← hq, List.take_length, List.flatMap_map]
  obtain ⟨r0, r1, r2, r3, r4, r5, r6, r7, rb, rL⟩ := hok
  rw [hby]
  clear rd hlt hb rL hby hq
  obtain ⟨h0, h1, h2, h3, h4, h5, h6, h7, bb, lg, Ls⟩ := x
  simp only [Ul.val, Ul.cells, uhdB] at *
  obtain ⟨n, hn⟩ : ∃ n, n = qs.length := ⟨_, rfl⟩
  have HN := Lib.hid hn
  rw [← hn] at hn2 ⊢
  clear hn
  obtain ⟨pre, hpre⟩ : ∃ pre : List Int, pre = [h0 % 64 + if lg = true then 64 else 0, h1] ++ bigL bb 2 ++ [h2, h3, h4, h5, h6, h7] := ⟨_, rfl⟩
  rw [← hpre]
  have HPre := Lib.hid hpre
  clear hpre
  have HS0 := Lib.hid ((Sep.init w).alloc #[.int .u8 h0, .int .u8 h1, .int .u8 h2, .int .u8 h3, .int .u8 h4, .int .u8 h5, .int .u8 h6, .int .u8 h7, .int .u16 bb, .bool lg, .slice a n c] 29)
  go_enter Tryd.func31, Tryd.ntmps31
  go_upto_region 1 with fail
  obtain ⟨w2, hw2⟩ : ∃ w2, w2 = w.alloc (.cells #[.int .u8 h0, .int .u8 h1, .int .u8 h2, .int .u8 h3, .int .u8 h4, .int .u8 h5, .int .u8 h6, .int .u8 h7, .int .u16 bb, .bool lg, .slice a n c] 29) := ⟨_, rfl⟩
  obtain ⟨o, ho⟩ : ∃ o, o = w.heap.size := ⟨_, rfl⟩
  rw [← hw2, ← ho] at HS0
  rw [← hw2, ← ho]
  clear hw2 ho
  have HS2 := Lib.hid (((HS0.out.alloc #[.slice none 0 0] 100).nil 5 1).at_ [0, 1, 2] (by decide) rfl)
  go_upto_region 2 with fail
  obtain ⟨w3, hw3⟩ : ∃ w3, w3 = w2.alloc (.cells #[.slice none 0 0] 100) := ⟨_, rfl⟩
  obtain ⟨s, hs⟩ : ∃ s, s = w2.heap.size := ⟨_, rfl⟩
  rw [← hw3, ← hs] at HS2
  rw [← hw3, ← hs]
  clear hw3 hs HS0
  have HS3 := Lib.hid (show Sep [] w w3 [sumR (.slice none 0 0) [], wtrR s (.slice none 0 0), blkR o 29 #[.int .u8 h0, .int .u8 h1, .int .u8 h2, .int .u8 h3, .int .u8 h4, .int .u8 h5, .int .u8 h6, .int .u8 h7, .int .u16 bb, .bool lg, .slice a n c]] from HS2.out)
  clear HS2
  have e1 := uand63_u r0.1 r0.2
  have e2 : IntKind.i64.wrap (h0 % 64) = h0 % 64 := IntWalk.i64_in _ (by omega)
  have e3 := uor64_i (v := h0 % 64) (by omega) (by omega)
  obtain ⟨f, hf⟩ : ∃ f : Int, f = h0 % 64 + if lg then 64 else 0 := ⟨_, rfl⟩
  have hf0 : 0 ≤ f ∧ f ≤ 255 := by rw [hf]; cases lg <;> simp <;> omega
  have HF := Lib.hid hf
  have k0 := (HS3.out.blk 2 rfl).cell 0 rfl
  have k9 := (HS3.out.blk 2 rfl).cell 9 rfl
  clear hf
  go_upto_if 14 with fail
  go_cut [4] (fun v wx => v = .int .i64 f ∧ wx = w3)
  case first =>
    cases lg with
    | true =>
      go_wp2_with fail
      go_meet
      exact ⟨by rw [HF.out]; rfl, rfl⟩
    | false =>
      go_wp2_with fail
      go_meet
      exact ⟨by rw [HF.out]; simp, rfl⟩
  case rest =>
    obtain ⟨rfl, rfl⟩ := hcut
    obtain ⟨w4, rfl⟩ : ∃ w4, w4 = wc := ⟨_, rfl⟩
    clear e1 e2 e3 k0 k9
    have HF0 := Lib.hid (ubigL_byte hf0.1 hf0.2)
    have HB := Lib.hid (HS3.out.wr (wbyte_c _ _ _ _ _ HS3.out.part2 (by (try simp only [List.length_append, List.length_nil, List.length_cons, bigL_len]); omega) f hf0.1 (by omega)))
    go_wp2_with fail
    refine HB.out.mono ?_
    rintro e w5 ⟨rfl, v5, h⟩
    rw [HF0.out] at h
    have HS5 := Lib.hid h
    clear h HB HS3
    have e1 : IntKind.i64.wrap h1 = h1 := IntWalk.i64_in _ (by omega)
    have HF1 := Lib.hid (ubigL_byte r1.1 r1.2)
    have k1 := (HS5.out.blk 2 rfl).cell 1 rfl

    have HB := Lib.hid (HS5.out.wr (wbyte_c _ _ _ _ _ HS5.out.part2 (by (try simp only [List.length_append, List.length_nil, List.length_cons, bigL_len]); omega) h1 r1.1 (by omega)))
    go_wp2_with fail
    refine HB.out.mono ?_
    rintro e w6 ⟨rfl, v6, h⟩
    rw [HF1.out] at h
    clear k1 e1
    have HS6 := Lib.hid h
    clear h HB HS5
    have k8 := (HS6.out.blk 2 rfl).cell 8 rfl

    have HB := Lib.hid (HS6.out.wr (wword_c _ _ _ _ _ HS6.out.part2 (by (try simp only [List.length_append, List.length_nil, List.length_cons, bigL_len]); omega) bb rb.1 (by omega)))
    go_wp2_with fail
    refine HB.out.mono ?_
    rintro e w7 ⟨rfl, v7, h⟩
    clear k8
    have HS7 := Lib.hid h
    clear h HB HS6
    have HR : Hid (RdI .u8 w7 (some ⟨o, 2, none⟩) [h2, h3, h4, h5, h6, h7]) := Lib.hid (fun i x hi => ⟨o, 2, rfl, (HS7.out.blk 2 rfl).lt, by
      rcases i with _ | _ | _ | _ | _ | _ | i
      · simp at hi; subst hi; exact (HS7.out.blk 2 rfl).cell 2 rfl
      · simp at hi; subst hi; exact (HS7.out.blk 2 rfl).cell 3 rfl
      · simp at hi; subst hi; exact (HS7.out.blk 2 rfl).cell 4 rfl
      · simp at hi; subst hi; exact (HS7.out.blk 2 rfl).cell 5 rfl
      · simp at hi; subst hi; exact (HS7.out.blk 2 rfl).cell 6 rfl
      · simp at hi; subst hi; exact (HS7.out.blk 2 rfl).cell 7 rfl
      · simp at hi⟩)
    have HP : Hid (Calls Tryd.prog 58 #[.pointer (some ⟨s, 0, none⟩), .slice (some ⟨o, 2, none⟩) 6 6] w7 _) := Lib.hid (HS7.out.wr (wput_c _ _ _ _ _ HS7.out.part2 (by (try simp only [List.length_append, List.length_nil, List.length_cons, bigL_len]); omega) (some ⟨o, 2, none⟩) 6 [h2, h3, h4, h5, h6, h7] HR.out (fun h => by cases h) (by simp)))
    go_wp2_with fail
    refine HP.out.mono ?_
    rintro e w8 ⟨rfl, v8, h⟩
    have HS8 := Lib.hid h
    clear h HP HR HS7
    have hpe : [] ++ [f] ++ [h1] ++ bigL bb 2 ++ [h2, h3, h4, h5, h6, h7] = pre := by rw [HPre.out, HF.out]; simp
    have hpl : pre.length = 10 := by rw [← hpe]; simp [bigL_len]
    rw [hpe] at HS8
    clear hpe
    have k10 := (HS8.out.blk 2 rfl).cell 10 rfl
    go_wp2_with fail
    clear k10
    go_loopw [33] (fun i wi => ∃ (j : Nat) (v : Value), j ≤ n ∧ i = .int .i64 (j : Int) ∧ Sep [] w wi [sumR v (pre ++ lvsB lg qs j), wtrR s v, blkR o 29 #[.int .u8 h0, .int .u8 h1, .int .u8 h2, .int .u8 h3, .int .u8 h4, .int .u8 h5, .int .u8 h6, .int .u8 h7, .int .u16 bb, .bool lg, .slice a n c]]) (fun i _ => n - (intOf i).toNat)
    case atStart => exact ⟨0, v8, Nat.zero_le _, rfl, by rw [show pre ++ lvsB lg qs 0 = pre by simp [lvsB]]; exact HS8.out⟩
    case round =>
      obtain ⟨j, v, hj, rfl, hS⟩ := hrel
      have HT := Lib.hid hS
      clear hS HS8
      have hll := HLn.out lg j
      obtain ⟨cur, hcur⟩ : ∃ cur, cur = pre ++ lvsB lg qs j := ⟨_, rfl⟩
      have hcl : cur.length ≤ 10 + j * 1508 := by rw [hcur, List.length_append]; omega
      rw [← hcur] at HT
      have HCur := Lib.hid hcur
      clear hcur hll
      by_cases hlt : j < n
      · obtain ⟨q, hq⟩ : ∃ q, qs[j]? = some q := ⟨_, List.getElem?_eq_getElem (by rw [← HN.out]; exact hlt)⟩
        obtain ⟨gb, off, ha, hb, d0, d1, d2⟩ := (HRd.out wr HT.out.frm).at_ hq
        have hm := List.mem_of_getElem? hq
        obtain ⟨ab, cb, hbv, -⟩ := (HRd.out wr HT.out.frm).bod q hm
        have HSl := Lib.hid (fun X (hX : Frm [] w X) => (HRd.out X hX).bod q hm)
        have hz := HLt.out q hm
        have hbl := HBd.out q hm
        have HSc := Lib.hid (lvsB_succ (lg := lg) hq)
        obtain ⟨qh, ql, qb, qB⟩ := q
        simp only at hbv d0 d1 d2 hz hbl HSl
        subst ha hbv
        have HPt := Lib.hid (fun X : World => part_c qh ql 0 (wid lg : Int) X hz.1 hz.2)
        have hpt := upt_lt hz.1 hz.2 lg
        obtain ⟨X, hX⟩ : ∃ X, X = ptN qh ql 0 (wid lg) := ⟨_, rfl⟩
        rw [← hX] at HPt hpt
        unfold mV at HPt
        have HX := Lib.hid hX
        have i1 : (0 : Int) ≤ (j : Int) := by omega
        have i2 : (j : Int) < (n : Int) := by omega
        obtain ⟨m, hm2⟩ : ∃ m, m = qB.length := ⟨_, rfl⟩
        rw [← hm2] at d2 hbl
        have HM := Lib.hid hm2
        have HT2 := Lib.hid ((HT.out.alloc #[.int .u64 (qh : Int), .int .u64 (ql : Int), .slice ab m cb] 44).at_ [1, 2, 3, 0] (by decide) rfl)
        clear hm hq hb hz hX hm2 HT
        have HPt2 := Lib.hid hpt
        clear hpt
        go_upto_region 12 with fail
        obtain ⟨wx, hwx⟩ : ∃ wx, wx = wr.alloc (.cells #[.int .u64 (qh : Int), .int .u64 (ql : Int), .slice ab m cb] 44) := ⟨_, rfl⟩
        obtain ⟨q, hq⟩ : ∃ q, q = wr.heap.size := ⟨_, rfl⟩
        rw [← hwx, ← hq] at HT2
        rw [← hwx, ← hq]
        clear hwx hq d0 d1 d2
        have c2 := (HT2.out.blk 3 rfl).cell 2 rfl
        have e16 : IntKind.u16.wrap (m : Int) = (m : Int) := by simp [IntKind.wrap, IntKind.bits, IntKind.signed]; omega

        have HB := Lib.hid (HT2.out.wr (wword_c _ _ _ _ _ HT2.out.part2 (by omega) (m : Int) (by omega) (by omega)))
        go_wp2_with fail
        refine HB.out.mono ?_
        rintro e wT3 ⟨rfl, vT3, h⟩
        clear c2 e16
        have HT3 := Lib.hid h
        clear h HB HT2
        have HT4 := Lib.hid (show Sep [] w wT3 [sumR vT3 (cur ++ bigL (m : Int) 2), wtrR s vT3, blkR o 29 #[.int .u8 h0, .int .u8 h1, .int .u8 h2, .int .u8 h3, .int .u8 h4, .int .u8 h5, .int .u8 h6, .int .u8 h7, .int .u16 bb, .bool lg, .slice (some ⟨gb, off, none⟩) n c], blkR q 44 #[.int .u64 (qh : Int), .int .u64 (ql : Int), .slice ab m cb]] from HT3.out)
        clear HT3
        go_upto_region 13 with fail
        have n1 := HT4.out.inh
        have q0 := Cls.cell (S := []) (w0 := w) (L := [sumR vT3 (cur ++ bigL (m : Int) 2), wtrR s vT3, blkR o 29 #[.int .u8 h0, .int .u8 h1, .int .u8 h2, .int .u8 h3, .int .u8 h4, .int .u8 h5, .int .u8 h6, .int .u8 h7, .int .u16 bb, .bool lg, .slice (some ⟨gb, off, none⟩) n c], blkR q 44 #[.int .u64 (qh : Int), .int .u64 (ql : Int), .slice ab m cb]]) 3 rfl 0 (v := .int .u64 (qh : Int)) rfl
        have q1 := Cls.cell (S := []) (w0 := w) (L := [sumR vT3 (cur ++ bigL (m : Int) 2), wtrR s vT3, blkR o 29 #[.int .u8 h0, .int .u8 h1, .int .u8 h2, .int .u8 h3, .int .u8 h4, .int .u8 h5, .int .u8 h6, .int .u8 h7, .int .u16 bb, .bool lg, .slice (some ⟨gb, off, none⟩) n c], blkR q 44 #[.int .u64 (qh : Int), .int .u64 (ql : Int), .slice ab m cb]]) 3 rfl 1 (v := .int .u64 (ql : Int)) rfl
        have q2 := Cls.cell (S := []) (w0 := w) (L := [sumR vT3 (cur ++ bigL (m : Int) 2), wtrR s vT3, blkR o 29 #[.int .u8 h0, .int .u8 h1, .int .u8 h2, .int .u8 h3, .int .u8 h4, .int .u8 h5, .int .u8 h6, .int .u8 h7, .int .u16 bb, .bool lg, .slice (some ⟨gb, off, none⟩) n c], blkR q 44 #[.int .u64 (qh : Int), .int .u64 (ql : Int), .slice ab m cb]]) 2 rfl 9 (v := .bool lg) rfl
        refine region_sep HT4.out (by kernel_rfl) (by kernel_rfl) ?_
        repeat (go_big_quiet_step ((rename_i x; first
          | (go_at_call 53; exact call_same x.ok (width_c _ _))
          | (go_at_call 59; exact call_keeps x.ok (HPt.out _)))))
        refine wpQuiet_nil ?_
        intro w5 hS5
        have HT5 := Lib.hid hS5
        clear hS5 n1 q0 q1 q2 HT4
        have k9 := (HT5.out.blk 2 rfl).cell 9 rfl
        go_upto_if 49 with fail
        go_cut [6] (fun u wx => u = .pointer (some ⟨q, 0, none⟩) ∧ ∃ v', Sep [] w wx [sumR v' (cur ++ bigL (m : Int) 2 ++ bigL (X : Int) (siz lg)), wtrR s v', blkR o 29 #[.int .u8 h0, .int .u8 h1, .int .u8 h2, .int .u8 h3, .int .u8 h4, .int .u8 h5, .int .u8 h6, .int .u8 h7, .int .u16 bb, .bool lg, .slice (some ⟨gb, off, none⟩) n c], blkR q 44 #[.int .u64 (qh : Int), .int .u64 (ql : Int), .slice ab m cb]])
        case first =>
          cases lg with
          | true =>
            have hX8 : X < 281474976710656 := HPt2.out
            have e1 : IntKind.u16.wrap ((X : Int) / 4294967296) = (X : Int) / 4294967296 := by simp [IntKind.wrap, IntKind.bits, IntKind.signed]; omega
            have e2 : IntKind.u32.wrap (X : Int) = (X : Int) % 4294967296 := by simp [IntKind.wrap, IntKind.bits, IntKind.signed]

            have HB := Lib.hid (HT5.out.wr (wword_c _ _ _ _ _ HT5.out.part2 (by rw [List.length_append, bigL_len]; omega) ((X : Int) / 4294967296) (by omega) (by omega)))
            go_wp2_with fail
            refine HB.out.mono ?_
            rintro e wT6 ⟨rfl, vT6, h⟩
            have HT6 := Lib.hid h
            clear h HB HT5

            have HB := Lib.hid (HT6.out.wr (wlong_c _ _ _ _ _ HT6.out.part2 (by rw [List.length_append, List.length_append, bigL_len, bigL_len]; omega) ((X : Int) % 4294967296) (by omega) (by omega)))
            go_wp2_with fail
            refine HB.out.mono ?_
            rintro e wT7 ⟨rfl, vT7, h⟩
            have HT7 := Lib.hid h
            clear h HB HT6
            go_wp2_with fail
            go_meet
            refine ⟨rfl, vT7, ?_⟩
            rw [show siz true = 6 from rfl, ubigL6, ← List.append_assoc]
            exact HT7.out
          | false =>
            have hX8 : X < 65536 := HPt2.out
            have e1 : IntKind.u16.wrap (X : Int) = (X : Int) := by simp [IntKind.wrap, IntKind.bits, IntKind.signed]; omega

            have HB := Lib.hid (HT5.out.wr (wword_c _ _ _ _ _ HT5.out.part2 (by rw [List.length_append, bigL_len]; omega) (X : Int) (by omega) (by omega)))
            go_wp2_with fail
            refine HB.out.mono ?_
            rintro e wT6 ⟨rfl, vT6, h⟩
            have HT6 := Lib.hid h
            clear h HB HT5
            go_wp2_with fail
            go_meet
            exact ⟨rfl, vT6, HT6.out⟩
        case rest =>
          obtain ⟨rfl, v8, hS8⟩ := hcut
          obtain ⟨wd, hwd⟩ : ∃ w5, w5 = wc := ⟨_, rfl⟩
          rw [← hwd] at hS8 ⊢
          have HT8 := Lib.hid hS8
          clear hS8 hwd HT5 k9
          have c2 := (HT8.out.blk 3 rfl).cell 2 rfl
          have hsl := HSl.out wd HT8.out.frm
          obtain ⟨ab', cb', hv, rd, hnn, _, _⟩ := hsl
          simp only [Value.slice.injEq] at hv
          obtain ⟨hv1, hv2, hv3⟩ := hv
          rw [← hv1] at rd hnn
          rw [← hv3] at hnn
          have hPu := HT8.out.wr (wput_c _ _ _ _ _ HT8.out.part2 (by rw [List.length_append, List.length_append, bigL_len, bigL_len]; have := siz_le lg; omega) ab cb qB rd hnn (by rw [← HM.out]; omega))
          rw [← HM.out] at hPu
          have HP := Lib.hid hPu
          clear hPu rd hnn hv1 hv2 hv3
          go_wp2_with fail
          refine HP.out.mono ?_
          rintro e w10 ⟨rfl, v10, h⟩
          have hcat : cur ++ bigL (m : Int) 2 ++ bigL (X : Int) (siz lg) ++ qB = pre ++ lvsB lg qs (j + 1) := by
            rw [HSc.out, ← List.append_assoc, ← HCur.out]
            show _ = cur ++ (bigL (qB.length : Int) 2 ++ bigL (ptN qh ql 0 (wid lg) : Int) (siz lg) ++ qB)
            rw [← HM.out, ← HX.out]
            simp only [List.append_assoc]
          rw [hcat] at h
          have HT9 := Lib.hid (h.at_ [0, 1, 2] (by decide) rfl)
          clear h hcat HP c2 HT8
          go_wp2_with fail
          go_roundw
          case rel => exact ⟨j + 1, v10, by omega, by go_num, HT9.out⟩
          case measure => simp [intOf]; omega
      · obtain rfl : j = n := by omega
        have HDn := Lib.hid (wdone_c s v cur _ HT.out (by omega))
        go_wp2_with fail
        refine HDn.out.mono ?_
        rintro e w14 ⟨v14, rfl, hD⟩
        have HD := Lib.hid (sep_rebase HT.out.frm hD)
        clear hD
        go_wp2_with fail
        go_ret
        exact ⟨v14, rfl, by rw [← HCur.out]; exact HD.out⟩
set_option maxRecDepth 100000 in
set_option maxHeartbeats 16000000 in
theorem uWrite_c (x : Ul) (a : Option Addr) (c : Nat) (qs : List LvV) (w : World) (hq : qs.map LvV.lv = x.Ls) (hok : x.Ok) (rd : RdLs w a qs) (hT : Tabs w) (hn : qs.length ≤ 1000000) :
    Calls Tryd.prog 16 #[x.val (.slice a qs.length c)] w (UWrP w (uwoX x) (uweX x)) := by
  have HW := Lib.hid (fun X (hX : Frm [] w X) => uwrong_c x a c qs X hq hok (rd.frm hX) (hT.frm hX (by simp)) hn)
  have HWr := Lib.hid (fun (h : uwrX x = 0) X (hX : Frm [] w X) => (by
    have hg := ugood_of h
    exact uwrite_c x a c qs X hq hok (rd.frm hX) (by have := hg.n2; rw [← hq, List.length_map] at this; exact this) (fun q hm => hg.body q.lv (by rw [← hq]; exact List.mem_map.2 ⟨q, hm, rfl⟩)) : Calls Tryd.prog 31 #[x.val (.slice a qs.length c)] X fun e w' => ∃ v, e = .returned v ∧ Sep [] X w' [sumR v (ubyX x)]))
  have HBd := Lib.hid (@uwe_bad x)
  have HLg := Lib.hid (@uwe_long x)
  have HGd := Lib.hid (@uwe_good x)
  obtain ⟨E, hE⟩ : ∃ E, E = uwrX x := ⟨_, rfl⟩
  obtain ⟨r, hr⟩ : ∃ r, r = uweX x := ⟨_, rfl⟩
  obtain ⟨O, hO⟩ : ∃ O, O = uwoX x := ⟨_, rfl⟩
  obtain ⟨R, hR⟩ : ∃ R, R = ubyX x := ⟨_, rfl⟩
  rw [← hE] at HW HWr HBd HLg HGd
  rw [← hr] at HBd HLg HGd ⊢
  rw [← hO] at HBd HLg HGd ⊢
  rw [← hR] at HWr HLg HGd
  clear hE hr hO hq hok rd hT hR
  obtain ⟨h0, h1, h2, h3, h4, h5, h6, h7, bb, lg, Ls⟩ := x
  simp only [Ul.val, Ul.cells] at *
  obtain ⟨n, hn2⟩ : ∃ n, n = qs.length := ⟨_, rfl⟩
  rw [← hn2] at HW HWr ⊢
  clear hn2 hn
  have HS0 := Lib.hid ((Sep.init w).alloc #[.int .u8 h0, .int .u8 h1, .int .u8 h2, .int .u8 h3, .int .u8 h4, .int .u8 h5, .int .u8 h6, .int .u8 h7, .int .u16 bb, .bool lg, .slice a n c] 29)
  go_enter Tryd.func16, Tryd.ntmps16
  go_upto_region 1 with fail
  obtain ⟨w1, hw1⟩ : ∃ w1, w1 = w.alloc (.cells #[.int .u8 h0, .int .u8 h1, .int .u8 h2, .int .u8 h3, .int .u8 h4, .int .u8 h5, .int .u8 h6, .int .u8 h7, .int .u16 bb, .bool lg, .slice a n c] 29) := ⟨_, rfl⟩
  obtain ⟨o, ho⟩ : ∃ o, o = w.heap.size := ⟨_, rfl⟩
  rw [← hw1, ← ho] at HS0
  rw [← hw1, ← ho]
  clear hw1 ho
  have k0 := (HS0.out.blk 0 rfl).cell 0 rfl
  have k1 := (HS0.out.blk 0 rfl).cell 1 rfl
  have k2 := (HS0.out.blk 0 rfl).cell 2 rfl
  have k3 := (HS0.out.blk 0 rfl).cell 3 rfl
  have k4 := (HS0.out.blk 0 rfl).cell 4 rfl
  have k5 := (HS0.out.blk 0 rfl).cell 5 rfl
  have k6 := (HS0.out.blk 0 rfl).cell 6 rfl
  have k7 := (HS0.out.blk 0 rfl).cell 7 rfl
  have k8 := (HS0.out.blk 0 rfl).cell 8 rfl
  have k9 := (HS0.out.blk 0 rfl).cell 9 rfl
  have k10 := (HS0.out.blk 0 rfl).cell 10 rfl
  go_wp2_with fail
  clear k0 k1 k2 k3 k4 k5 k6 k7 k8 k9 k10
  refine (HW.out _ HS0.out.frm).mono ?_
  rintro e w2 ⟨rfl, hf⟩
  have HS1 := Lib.hid (HS0.out.keep hf)
  clear hf HS0 HW
  by_cases hE0 : E = 0
  · subst hE0
    have HLg2 := Lib.hid (HLg.out rfl)
    have HGd2 := Lib.hid (HGd.out rfl)
    have HWr2 := Lib.hid (HWr.out rfl w2 HS1.out.frm)
    clear HBd HLg HGd HWr
    have k0 := (HS1.out.blk 0 rfl).cell 0 rfl
    have k1 := (HS1.out.blk 0 rfl).cell 1 rfl
    have k2 := (HS1.out.blk 0 rfl).cell 2 rfl
    have k3 := (HS1.out.blk 0 rfl).cell 3 rfl
    have k4 := (HS1.out.blk 0 rfl).cell 4 rfl
    have k5 := (HS1.out.blk 0 rfl).cell 5 rfl
    have k6 := (HS1.out.blk 0 rfl).cell 6 rfl
    have k7 := (HS1.out.blk 0 rfl).cell 7 rfl
    have k8 := (HS1.out.blk 0 rfl).cell 8 rfl
    have k9 := (HS1.out.blk 0 rfl).cell 9 rfl
    have k10 := (HS1.out.blk 0 rfl).cell 10 rfl
    go_wp2_with fail
    clear k0 k1 k2 k3 k4 k5 k6 k7 k8 k9 k10
    refine HWr2.out.mono ?_
    rintro e w3 ⟨v, rfl, hS⟩
    obtain ⟨av, cv, rfl, _, _⟩ := own_shape (hS.own 0 rfl)
    have HS3 := Lib.hid (HS1.out.more hS)
    obtain ⟨m, hm⟩ : ∃ m, m = R.length := ⟨_, rfl⟩
    rw [← hm] at HLg2 HGd2 HS3 ⊢
    clear hS HWr2
    by_cases h15 : 1500 < m
    · obtain ⟨rfl, rfl⟩ := HLg2.out h15
      have d1 : decide (1500 < (m : Int)) = true := decide_eq_true (by omega)
      clear h15 HLg2 HGd2 hm
      go_wp2_with fail
      refine bodyPost_ret (v := .tuple #[.slice none 0 0, .int .i64 2]) ?_ rfl ⟨_, rfl, (HS3.out.nil 5 1).at_ [0] (by decide) rfl⟩
      simp [results, Tryd.results16]
    · obtain ⟨rfl, hO⟩ := HGd2.out h15
      have d1 : decide (1500 < (m : Int)) = false := decide_eq_false (by omega)
      subst hO
      clear h15 HLg2 HGd2 hm
      go_wp2_with fail
      refine bodyPost_ret (v := .tuple #[.slice av m cv, .int .i64 0]) ?_ rfl ⟨_, rfl, HS3.out.at_ [0] (by decide) rfl⟩
      simp [results, Tryd.results16]
  · obtain ⟨hr, hO⟩ := HBd.out hE0
    subst hr
    subst hO
    have d0 : (r != 0) = true := by simp [hE0]
    clear hE0 HBd HLg HGd HWr
    go_wp2_with fail
    refine bodyPost_ret (v := .tuple #[.slice none 0 0, .int .i64 r]) ?_ rfl ⟨_, rfl, (HS1.out.nil 5 1).at_ [0] (by decide) rfl⟩
    simp [results, Tryd.results16]

end Go.Proofs.YtjflcijiaennkaaDoor
