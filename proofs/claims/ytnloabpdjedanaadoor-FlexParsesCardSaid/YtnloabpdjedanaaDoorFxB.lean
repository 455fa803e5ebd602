/-
  THE WALKS of flex.parse, flex.Parse. Printed by gen_fxb.py.
-/
import Derived.Test.YtnloabpdjedanaaDoorFxA
import Derived.Test.YtnloabpdjedanaaDoorBb
import Derived.Laws.CopyOwn
set_option linter.unusedVariables false
set_option linter.unusedSimpArgs false
namespace Go.Proofs.YtnloabpdjedanaaDoor
open Go.RowKit

theorem and128 : ∀ v : Fin 256, bits .and .i64 (v.val : Int) 128 = if v.val < 128 then 0 else 128 := by decide +kernel
theorem and64 : ∀ v : Fin 256, bits .and .i64 (v.val : Int) 64 = if v.val % 128 < 64 then 0 else 64 := by decide +kernel
theorem and63 : ∀ v : Fin 256, bits .and .i64 (v.val : Int) 63 = (v.val % 64 : Nat) := by decide +kernel
theorem fin_of {v : Int} (h0 : 0 ≤ v) (h1 : v ≤ 255) : ∃ f : Fin 256, v = (f.val : Int) := ⟨⟨v.toNat, by omega⟩, by simp; omega⟩
theorem and128_i {v : Int} (h0 : 0 ≤ v) (h1 : v ≤ 255) : bits .and .i64 v 128 = if v < 128 then 0 else 128 := by
  obtain ⟨f, rfl⟩ := fin_of h0 h1
  rw [and128 f]
  by_cases h2 : f.val < 128
  · rw [if_pos h2, if_pos (by omega)]
  · rw [if_neg h2, if_neg (by omega)]
theorem and64_i {v : Int} (h0 : 0 ≤ v) (h1 : v < 128) : bits .and .i64 v 64 = if v < 64 then 0 else 64 := by
  obtain ⟨f, rfl⟩ := fin_of h0 (by omega)
  rw [and64 f]
  have : f.val % 128 = f.val := Nat.mod_eq_of_lt (by omega)
  rw [this]
  by_cases h2 : f.val < 64
  · rw [if_pos h2, if_pos (by omega)]
  · rw [if_neg h2, if_neg (by omega)]
theorem and63_i {v : Int} (h0 : 0 ≤ v) (h1 : v ≤ 255) : bits .and .i64 v 63 = v % 64 := by
  obtain ⟨f, rfl⟩ := fin_of h0 h1
  rw [and63 f]
  omega
theorem u8_wrap {v : Int} (h0 : 0 ≤ v) (h1 : v ≤ 255) : IntKind.u8.wrap v = v := by
  simp [IntKind.wrap, IntKind.bits, IntKind.signed]
  omega
theorem at_of {zs : List Int} {i : Nat} {y : Int} (h : zs[i]? = some y) : at_ zs i = y := by unfold at_; rw [List.getD_eq_getElem?_getD, h]; rfl
theorem rd_odd {zs : List Int} (h : 1 ≤ zs.length) (h2 : 128 ≤ at_ zs 0) : rdX zs = .error 21 := by unfold rdX; rw [if_pos ⟨h, h2⟩]
theorem rd_short {zs : List Int} (h : ¬ (1 ≤ zs.length ∧ 128 ≤ at_ zs 0)) (h2 : zs.length < 12) : rdX zs = .error 20 := by unfold rdX; rw [if_neg h, if_pos h2]
theorem rd_fix0 {zs : List Int} (h : at_ zs 0 < 128) (h2 : 12 ≤ zs.length) (h3 : 64 ≤ at_ zs 0) (h4 : at_ zs 10 = 0) : rdX zs = .error 30 := by unfold rdX; rw [if_neg (by omega), if_neg (by omega), if_pos h3, if_pos h4]
theorem rd_fix {zs : List Int} (h : at_ zs 0 < 128) (h2 : 12 ≤ zs.length) (h3 : 64 ≤ at_ zs 0) (h4 : at_ zs 10 ≠ 0) : rdX zs = .ok ⟨at_ zs 0 % 64, at_ zs 1, at_ zs 4, at_ zs 5, at_ zs 6, at_ zs 7, at_ zs 2, at_ zs 3, bigN (cut zs 8 2), 0, 0, true, at_ zs 10, at_ zs 11, zs.drop 12⟩ := by unfold rdX; rw [if_neg (by omega), if_neg (by omega), if_pos h3, if_neg h4]
theorem rd_mask {zs : List Int} (h : at_ zs 0 < 128) (h2 : 12 ≤ zs.length) (h3 : ¬ 64 ≤ at_ zs 0) : rdX zs = match mkF zs 3 0 10 0 0 with
    | .error e => .error e
    | .ok (h, l, n) => if h = 0 ∧ l = 0 then .error 30 else
      .ok ⟨at_ zs 0 % 64, at_ zs 1, at_ zs 4, at_ zs 5, at_ zs 6, at_ zs 7, at_ zs 2, at_ zs 3, bigN (cut zs 8 2), h, l, false, 0, 0, zs.drop n⟩ := by unfold rdX; rw [if_neg (by omega), if_neg (by omega), if_neg h3]; cases mkF zs 3 0 10 0 0 <;> rfl
theorem mk_short {zs : List Int} (h2 : zs.length < 12) : mkF zs 3 0 10 0 0 = .error 20 := mkF_short (by unfold mkS; rw [if_pos rfl]; omega)
theorem cnt_nil {x : Nat} (h : x < 18446744073709551616) : cnt x 64 = 0 ↔ x = 0 := by
  constructor
  · intro h2
    apply Nat.eq_of_testBit_eq
    intro j
    rw [Nat.zero_testBit]
    rcases Nat.lt_or_ge j 64 with hj | hj
    · unfold cnt at h2
      rw [List.countP_eq_zero] at h2
      have := h2 j (List.mem_range.2 hj)
      simpa using this
    · exact tb_none h hj
  · intro h2; subst h2; decide +kernel
theorem frm_setRow (w : World) (p : Nat) (cs : Array Value) : Frm [p] w (w.setRow p cs) := ⟨rfl, rfl, rfl, by simp [World.setRow], fun k hk hs => setRow_other w p k cs (by simpa using hs)⟩
theorem Sep.row {S : List Nat} {w0 w : World} {L : List Res} (h : Sep S w0 w L) (i : Nat) {p : Nat} {t : TypeId} {cs : Array Value} (hi : L[i]? = some (blkR p t cs)) (cs' : Array Value) : Sep S w0 (w.setRow p cs') (L.set i (blkR p t cs')) :=
  h.call i hi (frm_setRow w p cs') (setRow_heap w p cs cs' t (0, 0) (h.blk i hi))

theorem own_slice1 {w : World} {base e size : Nat} {v : Value} {n : Nat} {xs : List Value} (h : w.ownsRow base e size v n xs) (hn : 0 < n) : ∃ g c, v = .slice (some ⟨g, 0, none⟩) n c := by
  rcases h.2 with ⟨rfl, h0⟩ | ⟨g, c, cur, rfl, _, _, hc, _⟩
  · omega
  · exact ⟨g, c, rfl⟩

theorem put_panic {P : Program} {fn : Func} {R : Ending → World → Prop} {K : Act → World → Prop} : ∀ c a w d v, Exit.then K (bodyPost P fn R) (.panic c) (Act.put a d v) w → Exit.then K (bodyPost P fn R) (.panic c) a w := fun _ _ _ d _ h => by
  cases d
  · exact h
  · exact h

theorem mkF_lt {zs : List Int} : ∀ (f k p h l : Nat) (r : Nat × Nat × Nat), h < 18446744073709551616 → l < 18446744073709551616 → mkF zs f k p h l = .ok r → r.1 < 18446744073709551616 ∧ r.2.1 < 18446744073709551616
  | 0, k, p, h, l, r, _, _, e => by cases e
  | f + 1, k, p, h, l, r, hh, hl, e => by
    have h1 := Nat.or_lt_two_pow (n := 64) hh (lyH_lt (mkA k) (mkN k) (bigN (cut zs p (mkS k))).toNat)
    have h2 := Nat.or_lt_two_pow (n := 64) hl (lyL_lt (mkA k) (mkN k) (bigN (cut zs p (mkS k))).toNat)
    rw [mkF] at e
    split at e
    · cases e
    split at e
    · cases e; exact ⟨h1, h2⟩
    · exact mkF_lt f _ _ _ _ r h1 h2 e
def rdM (zs : List Int) : Except Int (Nat × Nat × Nat) → Except Int Fx
    | .error e => .error e
    | .ok (h, l, n) => if h = 0 ∧ l = 0 then .error 30 else
      .ok ⟨at_ zs 0 % 64, at_ zs 1, at_ zs 4, at_ zs 5, at_ zs 6, at_ zs 7, at_ zs 2, at_ zs 3, bigN (cut zs 8 2), h, l, false, 0, 0, zs.drop n⟩
theorem rd_maskM {zs : List Int} (h : at_ zs 0 < 128) (h3 : ¬ 64 ≤ at_ zs 0) : rdX zs = rdM zs (mkF zs 3 0 10 0 0) := by
  by_cases h2 : 12 ≤ zs.length
  · rw [rd_mask h h2 h3]; unfold rdM; cases mkF zs 3 0 10 0 0 <;> rfl
  · rw [rd_short (by omega) (by omega), mk_short (by omega)]; rfl
/-- A row of values laid into a block. -/
def putAll (b : Nat) : Nat → List Value → World → World
  | _, [], w => w
  | k, v :: vs, w => putAll b (k + 1) vs (w.setCell ⟨b, k, none⟩ v)
def setAll : Nat → List Value → Array Value → Array Value
  | _, [], cs => cs
  | k, v :: vs, cs => setAll (k + 1) vs (cs.setIfInBounds k v)
theorem setAll_row : ∀ (vs pre l : List Value), l.length = vs.length → setAll pre.length vs ⟨pre ++ l⟩ = ⟨pre ++ vs⟩
  | [], pre, l, h => by rw [List.eq_nil_of_length_eq_zero h]; rfl
  | v :: vs, pre, x :: l, h => by
    have ih := setAll_row vs (pre ++ [v]) l (by simpa using h)
    have e : (⟨pre ++ x :: l⟩ : Array Value).setIfInBounds pre.length v = ⟨(pre ++ [v]) ++ l⟩ := by simp
    rw [List.length_append] at ih
    show setAll (pre.length + 1) vs ((⟨pre ++ x :: l⟩ : Array Value).setIfInBounds pre.length v) = _
    rw [e]
    exact ih.trans (by simp)
theorem sep_putAll {S : List Nat} {w0 : World} {i b : Nat} {t : TypeId} : ∀ (vs : List Value) (k : Nat) (cs : Array Value) (L : List Res) (w : World), Sep S w0 w L → L[i]? = some (blkR b t cs) → Sep S w0 (putAll b k vs w) (L.set i (blkR b t (setAll k vs cs)))
  | [], k, cs, L, w, h, hi => by
    have : L.set i (blkR b t cs) = L := by
      apply List.ext_getElem?
      intro j
      rw [List.getElem?_set]
      split
      · rename_i hj; subst hj; rw [hi]; split
        · rfl
        · rename_i hk; exact absurd (List.getElem?_eq_some_iff.1 hi).1 hk
      · rfl
    rw [show setAll k [] cs = cs from rfl, this]
    exact h
  | v :: vs, k, cs, L, w, h, hi => by
    have h1 := h.put i hi k v
    have hl := (List.getElem?_eq_some_iff.1 hi).1
    have h2 := sep_putAll vs (k + 1) _ _ _ h1 (by rw [List.getElem?_set_self hl])
    rw [List.set_set] at h2
    exact h2
theorem Sep.puts {S : List Nat} {w0 w : World} {L : List Res} (h : Sep S w0 w L) (i : Nat) {b : Nat} {t : TypeId} {cs : Array Value} (hi : L[i]? = some (blkR b t cs)) (vs : List Value) (hn : cs.size = vs.length) : Sep S w0 (putAll b 0 vs w) (L.set i (blkR b t vs.toArray)) := by
  have h1 := sep_putAll vs 0 cs L w h hi
  have e : setAll 0 vs cs = vs.toArray := setAll_row vs [] cs.toList hn
  rwa [e] at h1

/-- What parse gives. -/
def PackP (w : World) (g : Nat) (a : Option Addr) (c : Nat) (zs : List Int) (r : Except Int Fx) (x : Ending) (w' : World) : Prop :=
  match r with
  | .error e => x = .panicked (faultV e) ∧ Frm [g] w w'
  | .ok X => ∃ v, x = .returned (X.val v) ∧ Sep [g] w w' [blkR g 106 #[.slice a zs.length c, .int .i64 (zs.length : Int)], sumR v X.B]

set_option maxRecDepth 100000 in
set_option maxHeartbeats 16000000 in
theorem parse_c {w : World} {g : Nat} {a : Option Addr} {c : Nat} {zs : List Int} (hR : Rdr w g a c zs 0) :
    Calls Tryd.prog 29 #[.pointer (some ⟨g, 0, none⟩)] w (PackP w g a c zs (rdX zs)) := by
  obtain ⟨i0, hi, hz0, hz1, hz2⟩ := info_parts info_u8
  have hsz8 : (Tryd.prog.info? 5).map (·.size) = some 1 := by rw [hi]; exact congrArg some hz1
  obtain ⟨R, hRX⟩ : ∃ R, R = rdX zs := ⟨_, rfl⟩
  rw [← hRX]
  have HS0 := Lib.hid ((Sep.enter (r := blkR g 106 #[.slice a zs.length c, .int .i64 (((0 : Nat) : Int) : Int)]) hR.blk).alloc #[.int .u8 0, .int .u8 0, .int .u8 0, .int .u8 0, .int .u8 0, .int .u8 0, .int .u8 0, .int .u8 0, .int .u16 0, .int .u64 0, .int .u64 0, .bool false, .int .i64 0, .int .i64 0, .slice none 0 0] 31)
  have HR0 := Lib.hid hR
  have HRX := Lib.hid hRX
  have hbt := hR.byt
  have hsmz := hR.sm
  have HBt := Lib.hid hbt
  clear hR hRX hbt
  go_enter Tryd.func29, Tryd.ntmps29
  go_upto_region 1 with fail
  obtain ⟨w1, hw1⟩ : ∃ w1, w1 = w.alloc (.cells #[.int .u8 0, .int .u8 0, .int .u8 0, .int .u8 0, .int .u8 0, .int .u8 0, .int .u8 0, .int .u8 0, .int .u16 0, .int .u64 0, .int .u64 0, .bool false, .int .i64 0, .int .i64 0, .slice none 0 0] 31) := ⟨_, rfl⟩
  obtain ⟨o, ho⟩ : ∃ o, o = w.heap.size := ⟨_, rfl⟩
  rw [← hw1, ← ho] at HS0
  rw [← hw1, ← ho]
  clear hw1 ho
  have hRd := HR0.out.to HS0.out.frm (HS0.out.blk 1 rfl) (by omega)
  by_cases hsh : zs.length < 0 + 1
  · have HB := Lib.hid (byte_short hRd hsh)
    have hr : R = .error 20 := by rw [HRX.out]; exact rd_short (by omega) (by omega)
    subst hr
    clear hsh hRd
    go_wp2_with fail
    refine HB.out.mono ?_
    rintro x w9 ⟨rfl, hF⟩
    exact ⟨rfl, by simp, HS0.out.frm.trans hF.more⟩
  obtain ⟨y0, hy0, l0, u0, b0, g0⟩ := cut_byte HBt.out (p := 0) (by omega)
  have hby := byte_ok hRd (by omega)
  rw [b0] at hby
  have HB := Lib.hid hby
  have a0 := at_of g0
  have e1 := and128_i l0 u0
  have e63 := and63_i l0 u0
  have hlen : 0 + 1 ≤ zs.length := by omega
  clear hRd hby hy0 b0 g0
  by_cases hodd : ¬ y0 < 128
  · rw [if_neg hodd] at e1
    have hr : R = .error 21 := by rw [HRX.out]; exact rd_odd (by omega) (by omega)
    subst hr
    clear hodd hsh a0 e63
    go_wp2_with fail
    refine HB.out.mono ?_
    rintro x w2 ⟨rfl, hR2, hF⟩
    have HF := Lib.hid (HS0.out.frm.trans hF)
    clear hR2 hF HB
    go_wp2_with fail
    refine (fail_c _ _ _).mono ?_
    rintro x w3 ⟨rfl, rfl⟩
    exact ⟨rfl, by simp, HF.out⟩
  have hodd := Decidable.not_not.1 hodd
  rw [if_pos hodd] at e1
  have e64 := and64_i l0 hodd
  obtain ⟨F, hF0⟩ : ∃ F, F = decide (64 ≤ y0) := ⟨_, rfl⟩
  have e64b : (bits .and .i64 y0 64 != 0) = F := by
    rw [e64, hF0]
    by_cases h : y0 < 64
    · rw [if_pos h, decide_eq_false (by omega)]; rfl
    · rw [if_neg h, decide_eq_true (by omega)]; rfl
  have HA0 := Lib.hid (And.intro a0 (And.intro hodd (And.intro l0 hF0)))
  have e8 : IntKind.u8.wrap (y0 % 64) = y0 % 64 := u8_wrap (by omega) (by omega)
  clear hodd hsh a0 e64 hF0
  go_wp2_with fail
  refine HB.out.mono ?_
  rintro x w2 ⟨rfl, hR2, hF⟩
  have HS1 := Lib.hid ((HS0.out.call 1 rfl hF hR2.blk).alloc #[.int .u8 0, .int .u8 0, .int .u8 0, .int .u8 0, .int .u8 0, .int .u8 0, .int .u8 0, .int .u8 0, .int .u16 0, .int .u64 0, .int .u64 0, .bool F, .int .i64 0, .int .i64 0, .slice none 0 0] 31)
  clear hR2 hF HB HS0
  go_upto_region 5 with fail
  obtain ⟨w3, hw3⟩ : ∃ w3, w3 = w2.alloc (.cells #[.int .u8 0, .int .u8 0, .int .u8 0, .int .u8 0, .int .u8 0, .int .u8 0, .int .u8 0, .int .u8 0, .int .u16 0, .int .u64 0, .int .u64 0, .bool F, .int .i64 0, .int .i64 0, .slice none 0 0] 31) := ⟨_, rfl⟩
  obtain ⟨p, hp⟩ : ∃ p, p = w2.heap.size := ⟨_, rfl⟩
  rw [← hw3, ← hp] at HS1
  rw [← hw3, ← hp]
  clear hw3 hp e1 e64b
  have hRd := HR0.out.to HS1.out.frm (HS1.out.blk 2 rfl) (by omega)
  by_cases hsh : zs.length < 0 + 1 + 1
  · have HB := Lib.hid (byte_short hRd hsh)
    have hr : R = .error 20 := by rw [HRX.out]; exact rd_short (by have := HA0.out; omega) (by omega)
    subst hr
    clear hsh hRd
    go_wp2_with fail
    refine HB.out.mono ?_
    rintro x w9 ⟨rfl, hF⟩
    exact ⟨rfl, by simp, HS1.out.frm.trans hF.more⟩
  obtain ⟨y1, hy1, l1, u1, b1, g1⟩ := cut_byte HBt.out (p := 0 + 1) (by omega)
  have hby := byte_ok hRd (by omega)
  rw [b1] at hby
  have HB := Lib.hid hby
  have A1 := Lib.hid (at_of g1)
  have e9 : IntKind.u8.wrap y1 = y1 := u8_wrap l1 u1
  replace hlen : 0 + 1 + 1 ≤ zs.length := by omega
  clear hRd hby hy1 b1 g1 hsh
  go_wp2_with fail
  refine HB.out.mono ?_
  rintro x w4 ⟨rfl, hR4, hF⟩
  have HS2 := Lib.hid (HS1.out.call 2 rfl hF hR4.blk)
  clear hR4 hF HB HS1
  have k0 := (HS2.out.blk 0 rfl).cell 0 rfl
  have k1 := (HS2.out.blk 0 rfl).cell 1 rfl
  have f0 := (HS2.out.blk 0 rfl).free 0
  have f1 := (HS2.out.blk 0 rfl).free 1
  go_upto_region 6 with fail
  clear e8 e9 e63
  have HS3 := Lib.hid ((HS2.out.put 0 rfl 0 (.int .u8 (y0 % 64))).put 0 rfl 1 (.int .u8 y1))
  obtain ⟨w5, hw5⟩ : ∃ w5, w5 = (w4.setCell ⟨p, 0, none⟩ (.int .u8 (y0 % 64))).setCell ⟨p, 1, none⟩ (.int .u8 y1) := ⟨_, rfl⟩
  rw [← hw5] at HS3
  rw [← hw5]
  clear hw5 k0 k1 f0 f1 HS2
  have hRd := HR0.out.to HS3.out.frm (HS3.out.blk 2 rfl) (by omega)
  refine region_segsQ (G := [g, p]) [0, 1, 2, 3, 4] [3, 0] put_panic (by decide) (by kernel_rfl) (by kernel_rfl) (by kernel_rfl) (by kernel_rfl) (by kernel_rfl) (by kernel_rfl) (by kernel_rfl) ?_
  simp only [remOf, List.filterMap_cons, List.filterMap_nil, List.getElem?_cons_zero, List.getElem?_cons_succ]
  have HS3d := Lib.hid HS3.out.drew
  replace hRd := Lib.hid (show Rdr w5.drew g a c zs (0 + 1 + 1) from HR0.out.to HS3d.out.frm (HS3d.out.blk 2 rfl) (by omega))
  obtain ⟨w5d, hw5d⟩ : ∃ w5d, w5d = w5.drew := ⟨_, rfl⟩
  rw [← hw5d] at hRd HS3d
  rw [← hw5d]
  clear hw5d HS3
  unfold wpSegs
  simp only [List.take_succ_cons, List.take_zero, List.drop_succ_cons, List.drop_zero]
  have n1 : Nonempty (Cls (fun v => Frm [g, p] w5d v)) := ⟨⟨_, Frm.refl _ _⟩⟩
  repeat (go_big_quiet_step (fail))
  refine wpQuiet_nil ?_
  refine only_step (fun K' hK => ?_)
  clear n1
  by_cases hsh : zs.length < 0 + 1 + 1 + 2
  · have HB := Lib.hid (take_short hRd.out 2 hsh)
    have hr : R = .error 20 := by rw [HRX.out]; exact rd_short (by have := HA0.out; omega) (by omega)
    subst hr
    clear hsh hRd
    go_wp2_with fail
    refine HB.out.mono ?_
    rintro x w9 ⟨rfl, hF⟩
    exact ⟨rfl, by simp, HS3d.out.frm.trans hF.more⟩
  have HB := Lib.hid (take_ok hRd.out 2 2 rfl (by omega))
  replace hlen : 0 + 1 + 1 + 2 ≤ zs.length := by omega
  clear hRd hsh
  go_wp2_with fail
  refine HB.out.mono ?_
  rintro x w5t ⟨v, rfl, hR4, hS⟩
  obtain ⟨va, vc, rfl⟩ : ∃ va vc, v = .slice va 2 vc := by
    obtain ⟨va, vc, hv, _⟩ := own_shape (hS.own 1 rfl)
    exact ⟨va, vc, by rw [hv, cut_len (by omega)]⟩
  obtain ⟨gt, rfl⟩ : ∃ gt, va = some ⟨gt, 0, none⟩ := by
    obtain ⟨gt, vc', hv⟩ := own_slice1 (hS.own 1 rfl) (by rw [cut_len (by omega)]; omega)
    injection hv with hv
    exact ⟨gt, hv⟩
  have HS4a := Lib.hid (HS3d.out.call 2 rfl hS.frm hR4.blk)
  have HV := Lib.hid hS

  obtain ⟨y2, cy2, ly2, uy2, z2, gy2⟩ := cut_byte HBt.out (p := 0 + 1 + 1 + 0) (by omega)
  have Ay2 := Lib.hid (at_of gy2)
  have Ly2 := Lib.hid (And.intro ly2 uy2)
  clear z2 ly2 uy2 gy2
  obtain ⟨y3, cy3, ly3, uy3, z2, gy3⟩ := cut_byte HBt.out (p := 0 + 1 + 1 + 1) (by omega)
  have Ay3 := Lib.hid (at_of gy3)
  have Ly3 := Lib.hid (And.intro ly3 uy3)
  clear z2 ly3 uy3 gy3
  have hvl : (cut zs (0 + 1 + 1) 1) = [y2] := cy2
  replace hvl : (cut zs (0 + 1 + 1) 2) = [y2, y3] := by rw [cut_snoc (j := 1) cy3, hvl]; rfl
  have HVl := Lib.hid hvl
  have HF1 := Lib.hid (hS.frm.mono (T := [g, p]) (by simp))
  clear hvl hR4 hS HB cy2 cy3 HS3d
  go_wp2_with fail
  refine hK.out _ _ ⟨HF1.out, ?_⟩
  clear hK HF1
  unfold wpSegs
  simp only [List.take_succ_cons, List.take_zero, List.drop_succ_cons, List.drop_zero]
  refine wpQuiet_nil ?_
  refine only_step (fun K' hK => ?_)
  refine wpList_copy_own rfl (.tmp 27) (.tmp 29) 22 22 rfl 5 Tryd.underlying22 hsz8 p 6 2 2 ⟨gt, 0, none⟩ 2 vc rfl rfl #[.int .u8 (y0 % 64), .int .u8 y1, .int .u8 0, .int .u8 0, .int .u8 0, .int .u8 0, .int .u8 0, .int .u8 0, .int .u16 0, .int .u64 0, .int .u64 0, .bool F, .int .i64 0, .int .i64 0, .slice none 0 0] 31 (HS4a.out.blk 0 rfl) [.int .u8 y2, .int .u8 y3] rfl (fun j v hj => ?_) (by simp) (by simp [Value.oneCell']) ?_
  · have h2 := (HV.out.own 1 rfl).cells (g := gt) rfl j v (by rw [HVl.out]; exact hj)
    exact h2
  have HS4 := Lib.hid (HS4a.out.row 0 rfl #[.int .u8 (y0 % 64), .int .u8 y1, .int .u8 0, .int .u8 0, .int .u8 0, .int .u8 0, .int .u8 y2, .int .u8 y3, .int .u16 0, .int .u64 0, .int .u64 0, .bool F, .int .i64 0, .int .i64 0, .slice none 0 0])
  refine hK.out _ (w5t.setRow p #[.int .u8 (y0 % 64), .int .u8 y1, .int .u8 0, .int .u8 0, .int .u8 0, .int .u8 0, .int .u8 y2, .int .u8 y3, .int .u16 0, .int .u64 0, .int .u64 0, .bool F, .int .i64 0, .int .i64 0, .slice none 0 0]) ⟨(frm_setRow _ _ _).mono (by simp), ?_⟩
  obtain ⟨w6, hw6⟩ : ∃ w6, w6 = w5t.setRow p #[.int .u8 (y0 % 64), .int .u8 y1, .int .u8 0, .int .u8 0, .int .u8 0, .int .u8 0, .int .u8 y2, .int .u8 y3, .int .u16 0, .int .u64 0, .int .u64 0, .bool F, .int .i64 0, .int .i64 0, .slice none 0 0] := ⟨_, rfl⟩
  rw [← hw6] at HS4
  rw [← hw6]
  clear hK hw6 HV HVl HS4a
  unfold wpSegs
  simp only [List.length_cons, List.length_nil, Act.put, List.setIfInBounds_toArray, List.set_cons_succ, List.set_cons_zero]
  refine wpQuiet_nil ?_
  go_upto_region 7 with fail
  have hRd := HR0.out.to HS4.out.frm (HS4.out.blk 2 rfl) (by omega)
  refine region_segsQ (G := [g, p]) [0, 1, 2, 3, 4] [3, 0] put_panic (by decide) (by kernel_rfl) (by kernel_rfl) (by kernel_rfl) (by kernel_rfl) (by kernel_rfl) (by kernel_rfl) (by kernel_rfl) ?_
  simp only [remOf, List.filterMap_cons, List.filterMap_nil, List.getElem?_cons_zero, List.getElem?_cons_succ]
  have HS4d := Lib.hid HS4.out.drew
  replace hRd := Lib.hid (show Rdr w6.drew g a c zs (0 + 1 + 1 + 2) from HR0.out.to HS4d.out.frm (HS4d.out.blk 2 rfl) (by omega))
  obtain ⟨w6d, hw6d⟩ : ∃ w6d, w6d = w6.drew := ⟨_, rfl⟩
  rw [← hw6d] at hRd HS4d
  rw [← hw6d]
  clear hw6d HS4
  unfold wpSegs
  simp only [List.take_succ_cons, List.take_zero, List.drop_succ_cons, List.drop_zero]
  have n1 : Nonempty (Cls (fun v => Frm [g, p] w6d v)) := ⟨⟨_, Frm.refl _ _⟩⟩
  repeat (go_big_quiet_step (fail))
  refine wpQuiet_nil ?_
  refine only_step (fun K' hK => ?_)
  clear n1
  by_cases hsh : zs.length < 0 + 1 + 1 + 2 + 4
  · have HB := Lib.hid (take_short hRd.out 4 hsh)
    have hr : R = .error 20 := by rw [HRX.out]; exact rd_short (by have := HA0.out; omega) (by omega)
    subst hr
    clear hsh hRd
    go_wp2_with fail
    refine HB.out.mono ?_
    rintro x w9 ⟨rfl, hF⟩
    exact ⟨rfl, by simp, HS4d.out.frm.trans hF.more⟩
  have HB := Lib.hid (take_ok hRd.out 4 4 rfl (by omega))
  replace hlen : 0 + 1 + 1 + 2 + 4 ≤ zs.length := by omega
  clear hRd hsh
  go_wp2_with fail
  refine HB.out.mono ?_
  rintro x w6t ⟨v, rfl, hR4, hS⟩
  obtain ⟨va, vc, rfl⟩ : ∃ va vc, v = .slice va 4 vc := by
    obtain ⟨va, vc, hv, _⟩ := own_shape (hS.own 1 rfl)
    exact ⟨va, vc, by rw [hv, cut_len (by omega)]⟩
  obtain ⟨gt, rfl⟩ : ∃ gt, va = some ⟨gt, 0, none⟩ := by
    obtain ⟨gt, vc', hv⟩ := own_slice1 (hS.own 1 rfl) (by rw [cut_len (by omega)]; omega)
    injection hv with hv
    exact ⟨gt, hv⟩
  have HS5a := Lib.hid (HS4d.out.call 2 rfl hS.frm hR4.blk)
  have HV := Lib.hid hS

  obtain ⟨y4, cy4, ly4, uy4, z2, gy4⟩ := cut_byte HBt.out (p := 0 + 1 + 1 + 2 + 0) (by omega)
  have Ay4 := Lib.hid (at_of gy4)
  have Ly4 := Lib.hid (And.intro ly4 uy4)
  clear z2 ly4 uy4 gy4
  obtain ⟨y5, cy5, ly5, uy5, z2, gy5⟩ := cut_byte HBt.out (p := 0 + 1 + 1 + 2 + 1) (by omega)
  have Ay5 := Lib.hid (at_of gy5)
  have Ly5 := Lib.hid (And.intro ly5 uy5)
  clear z2 ly5 uy5 gy5
  obtain ⟨y6, cy6, ly6, uy6, z2, gy6⟩ := cut_byte HBt.out (p := 0 + 1 + 1 + 2 + 2) (by omega)
  have Ay6 := Lib.hid (at_of gy6)
  have Ly6 := Lib.hid (And.intro ly6 uy6)
  clear z2 ly6 uy6 gy6
  obtain ⟨y7, cy7, ly7, uy7, z2, gy7⟩ := cut_byte HBt.out (p := 0 + 1 + 1 + 2 + 3) (by omega)
  have Ay7 := Lib.hid (at_of gy7)
  have Ly7 := Lib.hid (And.intro ly7 uy7)
  clear z2 ly7 uy7 gy7
  have hvl : (cut zs (0 + 1 + 1 + 2) 1) = [y4] := cy4
  replace hvl : (cut zs (0 + 1 + 1 + 2) 2) = [y4, y5] := by rw [cut_snoc (j := 1) cy5, hvl]; rfl
  replace hvl : (cut zs (0 + 1 + 1 + 2) 3) = [y4, y5, y6] := by rw [cut_snoc (j := 2) cy6, hvl]; rfl
  replace hvl : (cut zs (0 + 1 + 1 + 2) 4) = [y4, y5, y6, y7] := by rw [cut_snoc (j := 3) cy7, hvl]; rfl
  have HVl := Lib.hid hvl
  have HF1 := Lib.hid (hS.frm.mono (T := [g, p]) (by simp))
  clear hvl hR4 hS HB cy4 cy5 cy6 cy7 HS4d
  go_wp2_with fail
  refine hK.out _ _ ⟨HF1.out, ?_⟩
  clear hK HF1
  unfold wpSegs
  simp only [List.take_succ_cons, List.take_zero, List.drop_succ_cons, List.drop_zero]
  refine wpQuiet_nil ?_
  refine only_step (fun K' hK => ?_)
  refine wpList_copy_own rfl (.tmp 32) (.tmp 34) 22 22 rfl 5 Tryd.underlying22 hsz8 p 2 4 6 ⟨gt, 0, none⟩ 4 vc rfl rfl #[.int .u8 (y0 % 64), .int .u8 y1, .int .u8 0, .int .u8 0, .int .u8 0, .int .u8 0, .int .u8 y2, .int .u8 y3, .int .u16 0, .int .u64 0, .int .u64 0, .bool F, .int .i64 0, .int .i64 0, .slice none 0 0] 31 (HS5a.out.blk 0 rfl) [.int .u8 y4, .int .u8 y5, .int .u8 y6, .int .u8 y7] rfl (fun j v hj => ?_) (by simp) (by simp [Value.oneCell']) ?_
  · have h2 := (HV.out.own 1 rfl).cells (g := gt) rfl j v (by rw [HVl.out]; exact hj)
    exact h2
  have HS5 := Lib.hid (HS5a.out.row 0 rfl #[.int .u8 (y0 % 64), .int .u8 y1, .int .u8 y4, .int .u8 y5, .int .u8 y6, .int .u8 y7, .int .u8 y2, .int .u8 y3, .int .u16 0, .int .u64 0, .int .u64 0, .bool F, .int .i64 0, .int .i64 0, .slice none 0 0])
  refine hK.out _ (w6t.setRow p #[.int .u8 (y0 % 64), .int .u8 y1, .int .u8 y4, .int .u8 y5, .int .u8 y6, .int .u8 y7, .int .u8 y2, .int .u8 y3, .int .u16 0, .int .u64 0, .int .u64 0, .bool F, .int .i64 0, .int .i64 0, .slice none 0 0]) ⟨(frm_setRow _ _ _).mono (by simp), ?_⟩
  obtain ⟨w7, hw7⟩ : ∃ w7, w7 = w6t.setRow p #[.int .u8 (y0 % 64), .int .u8 y1, .int .u8 y4, .int .u8 y5, .int .u8 y6, .int .u8 y7, .int .u8 y2, .int .u8 y3, .int .u16 0, .int .u64 0, .int .u64 0, .bool F, .int .i64 0, .int .i64 0, .slice none 0 0] := ⟨_, rfl⟩
  rw [← hw7] at HS5
  rw [← hw7]
  clear hK hw7 HV HVl HS5a
  unfold wpSegs
  simp only [List.length_cons, List.length_nil, Act.put, List.setIfInBounds_toArray, List.set_cons_succ, List.set_cons_zero]
  refine wpQuiet_nil ?_
  go_upto_region 8 with fail
  have hRd := HR0.out.to HS5.out.frm (HS5.out.blk 2 rfl) (by omega)
  by_cases hsh : zs.length < 0 + 1 + 1 + 2 + 4 + 2
  · have HB := Lib.hid (word_short hRd hsh)
    have hr : R = .error 20 := by rw [HRX.out]; exact rd_short (by have := HA0.out; omega) (by omega)
    subst hr
    clear hsh hRd
    go_wp2_with fail
    refine HB.out.mono ?_
    rintro x w9 ⟨rfl, hF⟩
    exact ⟨rfl, by simp, HS5.out.frm.trans hF.more⟩
  obtain ⟨B, hB⟩ : ∃ B, B = bigN (cut zs (0 + 1 + 1 + 2 + 4) 2) := ⟨_, rfl⟩
  have hby := word_ok hRd (by omega)
  rw [← hB] at hby
  have HB := Lib.hid hby
  have HBB := Lib.hid hB
  replace hlen : 0 + 1 + 1 + 2 + 4 + 2 ≤ zs.length := by omega
  clear hRd hby hB hsh
  go_wp2_with fail
  refine HB.out.mono ?_
  rintro x w8 ⟨rfl, hR4, hF⟩
  have HS6 := Lib.hid (HS5.out.call 2 rfl hF hR4.blk)
  clear hR4 hF HB HS5
  have k8 := (HS6.out.blk 0 rfl).cell 8 rfl
  have f8 := (HS6.out.blk 0 rfl).free 8
  go_upto_region 9 with fail
  have HS7 := Lib.hid (HS6.out.put 0 rfl 8 (.int .u16 B))
  obtain ⟨w9, hw9⟩ : ∃ w9, w9 = w8.setCell ⟨p, 8, none⟩ (.int .u16 B) := ⟨_, rfl⟩
  rw [← hw9] at HS7
  rw [← hw9]
  clear hw9 k8 f8 HS6
  have k11 := (HS7.out.blk 0 rfl).cell 11 rfl
  cases F with
  | true =>
    have hfx : 64 ≤ y0 := of_decide_eq_true HA0.out.2.2.2.symm
    have HS7 := Lib.hid HS7.out
    go_upto_region 10 with fail
    clear k11
    have hRd := HR0.out.to HS7.out.frm (HS7.out.blk 2 rfl) (by omega)
    by_cases hsh : zs.length < 0 + 1 + 1 + 2 + 4 + 2 + 1
    · have HB := Lib.hid (byte_short hRd hsh)
      have hr : R = .error 20 := by rw [HRX.out]; exact rd_short (by have := HA0.out; omega) (by omega)
      subst hr
      clear hsh hRd
      go_wp2_with fail
      refine HB.out.mono ?_
      rintro x w9 ⟨rfl, hF⟩
      exact ⟨rfl, by simp, HS7.out.frm.trans hF.more⟩
    obtain ⟨y10, c10, l10, u10, b10, g10⟩ := cut_byte HBt.out (p := 0 + 1 + 1 + 2 + 4 + 2) (by omega)
    have hby := byte_ok hRd (by omega)
    rw [b10] at hby
    have HB := Lib.hid hby
    have A10 := Lib.hid (at_of g10)
    replace hlen : 0 + 1 + 1 + 2 + 4 + 2 + 1 ≤ zs.length := by omega
    clear hRd hby hsh c10 b10 g10
    go_wp2_with fail
    refine HB.out.mono ?_
    rintro x w10 ⟨rfl, hR4, hF⟩
    have HS8 := Lib.hid (HS7.out.call 2 rfl hF hR4.blk)
    clear hR4 hF HB HS7
    have hRd := HR0.out.to HS8.out.frm (HS8.out.blk 2 rfl) (by omega)
    by_cases hsh : zs.length < 0 + 1 + 1 + 2 + 4 + 2 + 1 + 1
    · have HB := Lib.hid (byte_short hRd hsh)
      have hr : R = .error 20 := by rw [HRX.out]; exact rd_short (by have := HA0.out; omega) (by omega)
      subst hr
      clear hsh hRd
      go_wp2_with fail
      refine HB.out.mono ?_
      rintro x w9 ⟨rfl, hF⟩
      exact ⟨rfl, by simp, HS8.out.frm.trans hF.more⟩
    obtain ⟨y11, c11, l11, u11, b11, g11⟩ := cut_byte HBt.out (p := 0 + 1 + 1 + 2 + 4 + 2 + 1) (by omega)
    have hby := byte_ok hRd (by omega)
    rw [b11] at hby
    have HB := Lib.hid hby
    have A11 := Lib.hid (at_of g11)
    replace hlen : 0 + 1 + 1 + 2 + 4 + 2 + 1 + 1 ≤ zs.length := by omega
    clear hRd hby hsh c11 b11 g11
    go_wp2_with fail
    refine HB.out.mono ?_
    rintro x w11 ⟨rfl, hR4, hF⟩
    have HS9 := Lib.hid (HS8.out.call 2 rfl hF hR4.blk)
    clear hR4 hF HB HS8
    have k12 := (HS9.out.blk 0 rfl).cell 12 rfl
    have k13 := (HS9.out.blk 0 rfl).cell 13 rfl
    have f12 := (HS9.out.blk 0 rfl).free 12
    have f13 := (HS9.out.blk 0 rfl).free 13
    go_upto_region 12 with fail
    have HS10 := Lib.hid ((HS9.out.put 0 rfl 12 (.int .i64 y10)).put 0 rfl 13 (.int .i64 y11))
    obtain ⟨w12, hw12⟩ : ∃ w12, w12 = (w11.setCell ⟨p, 12, none⟩ (.int .i64 y10)).setCell ⟨p, 13, none⟩ (.int .i64 y11) := ⟨_, rfl⟩
    rw [← hw12] at HS10
    rw [← hw12]
    clear hw12 k12 k13 f12 f13 HS9
    have k9 := (HS10.out.blk 0 rfl).cell 9 rfl
    have k10 := (HS10.out.blk 0 rfl).cell 10 rfl
    have k12 := (HS10.out.blk 0 rfl).cell 12 rfl
    by_cases hz : y10 = 0
    · have hr : R = .error 30 := by rw [HRX.out]; exact rd_fix0 (by have := HA0.out; omega) (by omega) (by have := HA0.out; omega) (A10.out.trans hz)
      subst hr
      have hcz : decide (y10 = 0) = true := decide_eq_true hz
      have HZ := Lib.hid hz
      have HCt := Lib.hid (fun X : World => count_c 0 0 X (by decide) (by decide))
      clear hz hfx
      go_wp2_with fail
      refine (HCt.out _).mono ?_
      rintro x w13 ⟨rfl, hF⟩
      have HF := Lib.hid (HS10.out.frm.trans hF.more)
      clear hF HS10
      go_wp2_with fail
      refine (fail_c _ _ _).mono ?_
      rintro x w14 ⟨rfl, rfl⟩
      exact ⟨rfl, by simp, HF.out⟩
    · have hr : R = .ok ⟨y0 % 64, y1, y4, y5, y6, y7, y2, y3, B, 0, 0, true, y10, y11, zs.drop 12⟩ := by
        have e0 : at_ zs 0 = y0 := HA0.out.1
        have e1 : at_ zs 1 = y1 := A1.out
        have e2 : at_ zs 2 = y2 := Ay2.out
        have e3 : at_ zs 3 = y3 := Ay3.out
        have e4 : at_ zs 4 = y4 := Ay4.out
        have e5 : at_ zs 5 = y5 := Ay5.out
        have e6 : at_ zs 6 = y6 := Ay6.out
        have e7 : at_ zs 7 = y7 := Ay7.out
        have eB : bigN (cut zs 8 2) = B := HBB.out.symm
        have e10 : at_ zs 10 = y10 := A10.out
        have e11 : at_ zs 11 = y11 := A11.out
        rw [HRX.out, rd_fix (by have := HA0.out; omega) (by omega) (by omega) (by rw [e10]; exact hz), e0, e1, e2, e3, e4, e5, e6, e7, eB, e10, e11]
      have hcz : decide (y10 = 0) = false := decide_eq_false hz
      have HZ := Lib.hid hz
      clear hz hfx
      go_upto_region 14 with fail
      have hRd := HR0.out.to HS10.out.frm (HS10.out.blk 2 rfl) (by omega)
      have HB := Lib.hid (rest_ok hRd)
      clear hRd
      go_wp2_with fail
      refine HB.out.mono ?_
      rintro x w20 ⟨v, rfl, hR4, hS⟩
      obtain ⟨va, vn, vc, rfl⟩ : ∃ va vn vc, v = .slice va vn vc := by
        obtain ⟨va, vc, hv, _⟩ := own_shape (hS.own 1 rfl)
        exact ⟨va, _, vc, hv⟩
      have HSa := Lib.hid (show Sep [g] w w20 [blkR g 106 #[.slice a zs.length c, .int .i64 ((zs.length : Int) : Int)], sumR (.slice va vn vc) (zs.drop (0 + 1 + 1 + 2 + 4 + 2 + 1 + 1)), blkR p 31 #[.int .u8 (y0 % 64), .int .u8 y1, .int .u8 y4, .int .u8 y5, .int .u8 y6, .int .u8 y7, .int .u8 y2, .int .u8 y3, .int .u16 B, .int .u64 0, .int .u64 0, .bool true, .int .i64 y10, .int .i64 y11, .slice none 0 0], blkR o 31 #[.int .u8 0, .int .u8 0, .int .u8 0, .int .u8 0, .int .u8 0, .int .u8 0, .int .u8 0, .int .u8 0, .int .u16 0, .int .u64 0, .int .u64 0, .bool false, .int .i64 0, .int .i64 0, .slice none 0 0]] from (HS10.out.at_ [2, 0, 1] (by decide) rfl).callMany hS (by simp [blkR]))
      clear hR4 hS HB HS10
      have k14 := (HSa.out.blk 2 rfl).cell 14 rfl
      have f14 := (HSa.out.blk 2 rfl).free 14
      go_upto_region 15 with fail
      have HSb := Lib.hid (HSa.out.put 2 rfl 14 (.slice va vn vc))
      obtain ⟨w21, hw21⟩ : ∃ w21, w21 = w20.setCell ⟨p, 14, none⟩ (.slice va vn vc) := ⟨_, rfl⟩
      rw [← hw21] at HSb
      rw [← hw21]
      clear hw21 k14 f14 HSa
      have hb := (HSb.out.blk 2 rfl)
      have ho := (HSb.out.blk 3 rfl)
      have q0 := hb.cell 0 rfl
      have q1 := hb.cell 1 rfl
      have q2 := hb.cell 2 rfl
      have q3 := hb.cell 3 rfl
      have q4 := hb.cell 4 rfl
      have q5 := hb.cell 5 rfl
      have q6 := hb.cell 6 rfl
      have q7 := hb.cell 7 rfl
      have q8 := hb.cell 8 rfl
      have q9 := hb.cell 9 rfl
      have q10 := hb.cell 10 rfl
      have q11 := hb.cell 11 rfl
      have q12 := hb.cell 12 rfl
      have q13 := hb.cell 13 rfl
      have q14 := hb.cell 14 rfl
      have z0 := ho.cell 0 rfl
      have z1 := ho.cell 1 rfl
      have z2 := ho.cell 2 rfl
      have z3 := ho.cell 3 rfl
      have z4 := ho.cell 4 rfl
      have z5 := ho.cell 5 rfl
      have z6 := ho.cell 6 rfl
      have z7 := ho.cell 7 rfl
      have z8 := ho.cell 8 rfl
      have z9 := ho.cell 9 rfl
      have z10 := ho.cell 10 rfl
      have z11 := ho.cell 11 rfl
      have z12 := ho.cell 12 rfl
      have z13 := ho.cell 13 rfl
      have z14 := ho.cell 14 rfl
      have f0 := ho.free 0
      have f1 := ho.free 1
      have f2 := ho.free 2
      have f3 := ho.free 3
      have f4 := ho.free 4
      have f5 := ho.free 5
      have f6 := ho.free 6
      have f7 := ho.free 7
      have f8 := ho.free 8
      have f9 := ho.free 9
      have f10 := ho.free 10
      have f11 := ho.free 11
      have f12 := ho.free 12
      have f13 := ho.free 13
      have f14 := ho.free 14
      go_wp2_with fail
      obtain ⟨w22, hw22⟩ : ∃ w22, w22 = (((((((((((((((w21.setCell ⟨o, 0, none⟩ (.int .u8 (y0 % 64))).setCell ⟨o, 1, none⟩ (.int .u8 y1)).setCell ⟨o, 2, none⟩ (.int .u8 y4)).setCell ⟨o, 3, none⟩ (.int .u8 y5)).setCell ⟨o, 4, none⟩ (.int .u8 y6)).setCell ⟨o, 5, none⟩ (.int .u8 y7)).setCell ⟨o, 6, none⟩ (.int .u8 y2)).setCell ⟨o, 7, none⟩ (.int .u8 y3)).setCell ⟨o, 8, none⟩ (.int .u16 B)).setCell ⟨o, 9, none⟩ (.int .u64 0)).setCell ⟨o, 10, none⟩ (.int .u64 0)).setCell ⟨o, 11, none⟩ (.bool true)).setCell ⟨o, 12, none⟩ (.int .i64 y10)).setCell ⟨o, 13, none⟩ (.int .i64 y11)).setCell ⟨o, 14, none⟩ (.slice va vn vc)) := ⟨_, rfl⟩
      have HSd := Lib.hid (show Sep [g] w w22 [blkR g 106 #[.slice a zs.length c, .int .i64 ((zs.length : Int) : Int)], sumR (.slice va vn vc) (zs.drop (0 + 1 + 1 + 2 + 4 + 2 + 1 + 1)), blkR p 31 #[.int .u8 (y0 % 64), .int .u8 y1, .int .u8 y4, .int .u8 y5, .int .u8 y6, .int .u8 y7, .int .u8 y2, .int .u8 y3, .int .u16 B, .int .u64 0, .int .u64 0, .bool true, .int .i64 y10, .int .i64 y11, .slice va vn vc], blkR o 31 #[.int .u8 (y0 % 64), .int .u8 y1, .int .u8 y4, .int .u8 y5, .int .u8 y6, .int .u8 y7, .int .u8 y2, .int .u8 y3, .int .u16 B, .int .u64 0, .int .u64 0, .bool true, .int .i64 y10, .int .i64 y11, .slice va vn vc]] from hw22 ▸ HSb.out.puts 3 rfl [.int .u8 (y0 % 64), .int .u8 y1, .int .u8 y4, .int .u8 y5, .int .u8 y6, .int .u8 y7, .int .u8 y2, .int .u8 y3, .int .u16 B, .int .u64 0, .int .u64 0, .bool true, .int .i64 y10, .int .i64 y11, .slice va vn vc] rfl)
      rw [← hw22]
      clear hw22 HSb hb ho q0 z0 f0 q1 z1 f1 q2 z2 f2 q3 z3 f3 q4 z4 f4 q5 z5 f5 q6 z6 f6 q7 z7 f7 q8 z8 f8 q9 z9 f9 q10 z10 f10 q11 z11 f11 q12 z12 f12 q13 z13 f13 q14 z14 f14
      have ho := HSd.out.blk 3 rfl
      have e0 := ho.cell 0 rfl
      have e1 := ho.cell 1 rfl
      have e2 := ho.cell 2 rfl
      have e3 := ho.cell 3 rfl
      have e4 := ho.cell 4 rfl
      have e5 := ho.cell 5 rfl
      have e6 := ho.cell 6 rfl
      have e7 := ho.cell 7 rfl
      have e8 := ho.cell 8 rfl
      have e9 := ho.cell 9 rfl
      have e10 := ho.cell 10 rfl
      have e11 := ho.cell 11 rfl
      have e12 := ho.cell 12 rfl
      have e13 := ho.cell 13 rfl
      have e14 := ho.cell 14 rfl
      subst hr
      refine bodyPost_ret (v := .agg #[.int .u8 (y0 % 64), .int .u8 y1, .int .u8 y4, .int .u8 y5, .int .u8 y6, .int .u8 y7, .int .u8 y2, .int .u8 y3, .int .u16 B, .int .u64 0, .int .u64 0, .bool true, .int .i64 y10, .int .i64 y11, .slice va vn vc]) ?_ rfl ⟨.slice va vn vc, rfl, HSd.out.at_ [0, 1] (by decide) rfl⟩
      simp [results, Tryd.results29, go_sem, e0, e1, e2, e3, e4, e5, e6, e7, e8, e9, e10, e11, e12, e13, e14]
  | false =>
    have hfx : ¬ 64 ≤ y0 := of_decide_eq_false HA0.out.2.2.2.symm
    have HS7 := Lib.hid HS7.out
    go_upto_region 11 with fail
    clear k11
    have hRd := HR0.out.to HS7.out.frm (HS7.out.blk 2 rfl) (by omega)
    obtain ⟨M, hM⟩ : ∃ M, M = mkF zs 3 0 (0 + 1 + 1 + 2 + 4 + 2) 0 0 := ⟨_, rfl⟩
    have hrm := readMask_c hRd
    rw [← hM] at hrm
    have HB := Lib.hid hrm
    have hRM : R = rdM zs M := by rw [HRX.out, hM]; exact rd_maskM (by have := HA0.out; omega) (by have := HA0.out; omega)
    have HRM := Lib.hid hRM
    have HM := Lib.hid hM
    clear hRd hrm hRM hM hfx
    go_wp2_with fail
    refine HB.out.mono ?_
    intro x w10 hx
    clear HB
    cases M with
    | error e =>
      obtain ⟨rfl, hF⟩ := (show x = .panicked (faultV e) ∧ Frm [g] w9 w10 from hx)
      have hr : R = .error e := HRM.out
      subst hr
      exact ⟨rfl, by simp, HS7.out.frm.trans hF⟩
    | ok t =>
      obtain ⟨H, Lo, n⟩ := t
      obtain ⟨rfl, hR4, hF⟩ := (show x = .returned (mV H Lo) ∧ Rdr w10 g a c zs n ∧ Frm [g] w9 w10 from hx)
      have hlt := mkF_lt _ _ _ _ _ _ (by decide) (by decide) HM.out.symm
      have HLt := Lib.hid (show H < 18446744073709551616 ∧ Lo < 18446744073709551616 from hlt)
      have HS9 := Lib.hid (HS7.out.call 2 rfl hF hR4.blk)
      have hnl := hR4.le
      clear hR4 hF hx hlt HS7
      have k9 := (HS9.out.blk 0 rfl).cell 9 rfl
      have k10 := (HS9.out.blk 0 rfl).cell 10 rfl
      have f9 := (HS9.out.blk 0 rfl).free 9
      have f10 := (HS9.out.blk 0 rfl).free 10
      unfold mV
      go_upto_region 12 with fail
      have HS10 := Lib.hid ((HS9.out.put 0 rfl 9 (.int .u64 (H : Int))).put 0 rfl 10 (.int .u64 (Lo : Int)))
      obtain ⟨w12, hw12⟩ : ∃ w12, w12 = (w10.setCell ⟨p, 9, none⟩ (.int .u64 (H : Int))).setCell ⟨p, 10, none⟩ (.int .u64 (Lo : Int)) := ⟨_, rfl⟩
      rw [← hw12] at HS10
      rw [← hw12]
      clear hw12 k9 k10 f9 f10 HS9
      have k9 := (HS10.out.blk 0 rfl).cell 9 rfl
      have k10 := (HS10.out.blk 0 rfl).cell 10 rfl
      have k12 := (HS10.out.blk 0 rfl).cell 12 rfl
      have HCt := Lib.hid (fun X : World => count_c H Lo X HLt.out.1 HLt.out.2)
      have HRM := Lib.hid (show R = if H = 0 ∧ Lo = 0 then .error 30 else .ok ⟨at_ zs 0 % 64, at_ zs 1, at_ zs 4, at_ zs 5, at_ zs 6, at_ zs 7, at_ zs 2, at_ zs 3, bigN (cut zs 8 2), H, Lo, false, 0, 0, zs.drop n⟩ from HRM.out)
      by_cases hz : H = 0 ∧ Lo = 0
      · have hr : R = .error 30 := by rw [HRM.out, if_pos hz]
        subst hr
        have hcz : decide (((cnt H 64 + cnt Lo 64 : Nat) : Int) = 0) = true := decide_eq_true (by rw [hz.1, hz.2]; decide +kernel)
        have HZ := Lib.hid hz
        obtain ⟨N, hN⟩ : ∃ N : Int, N = ((cnt H 64 + cnt Lo 64 : Nat) : Int) := ⟨_, rfl⟩
        rw [← hN] at HCt hcz
        have hcb : (N == 0) = true := beq_iff_eq.2 (of_decide_eq_true hcz)
        clear hz hN HM
        go_wp2_with fail
        refine (HCt.out _).mono ?_
        rintro x w13 ⟨rfl, hF⟩
        have HF := Lib.hid (HS10.out.frm.trans hF.more)
        clear hF HS10
        go_wp2_with fail
        refine (fail_c _ _ _).mono ?_
        rintro x w14 ⟨rfl, rfl⟩
        exact ⟨rfl, by simp, HF.out⟩
      · have hr : R = .ok ⟨y0 % 64, y1, y4, y5, y6, y7, y2, y3, B, H, Lo, false, 0, 0, zs.drop n⟩ := by
          have e0 : at_ zs 0 = y0 := HA0.out.1
          have e1 : at_ zs 1 = y1 := A1.out
          have e2 : at_ zs 2 = y2 := Ay2.out
          have e3 : at_ zs 3 = y3 := Ay3.out
          have e4 : at_ zs 4 = y4 := Ay4.out
          have e5 : at_ zs 5 = y5 := Ay5.out
          have e6 : at_ zs 6 = y6 := Ay6.out
          have e7 : at_ zs 7 = y7 := Ay7.out
          have eB : bigN (cut zs 8 2) = B := HBB.out.symm
          rw [HRM.out, if_neg hz, e0, e1, e2, e3, e4, e5, e6, e7, eB]
        have hcz : decide (((cnt H 64 + cnt Lo 64 : Nat) : Int) = 0) = false := decide_eq_false (fun h => hz ⟨(cnt_nil HLt.out.1).1 (by omega), (cnt_nil HLt.out.2).1 (by omega)⟩)
        have HZ := Lib.hid hz
        obtain ⟨N, hN⟩ : ∃ N : Int, N = ((cnt H 64 + cnt Lo 64 : Nat) : Int) := ⟨_, rfl⟩
        rw [← hN] at HCt hcz
        have hcb : (N == 0) = false := beq_eq_false_iff_ne.2 (of_decide_eq_false hcz)
        clear hz hN HM
        go_wp2_with fail
        refine (HCt.out _).mono ?_
        rintro x w13 ⟨rfl, hF⟩
        have HS11 := Lib.hid (HS10.out.keep hF)
        clear hF HS10
        go_upto_region 14 with fail
        have hRd := HR0.out.to HS11.out.frm (HS11.out.blk 2 rfl) (by omega)
        have HB := Lib.hid (rest_ok hRd)
        clear hRd
        go_wp2_with fail
        refine HB.out.mono ?_
        rintro x w20 ⟨v, rfl, hR4, hS⟩
        obtain ⟨va, vn, vc, rfl⟩ : ∃ va vn vc, v = .slice va vn vc := by
          obtain ⟨va, vc, hv, _⟩ := own_shape (hS.own 1 rfl)
          exact ⟨va, _, vc, hv⟩
        have HSa := Lib.hid (show Sep [g] w w20 [blkR g 106 #[.slice a zs.length c, .int .i64 ((zs.length : Int) : Int)], sumR (.slice va vn vc) (zs.drop (n)), blkR p 31 #[.int .u8 (y0 % 64), .int .u8 y1, .int .u8 y4, .int .u8 y5, .int .u8 y6, .int .u8 y7, .int .u8 y2, .int .u8 y3, .int .u16 B, .int .u64 (H : Int), .int .u64 (Lo : Int), .bool false, .int .i64 0, .int .i64 0, .slice none 0 0], blkR o 31 #[.int .u8 0, .int .u8 0, .int .u8 0, .int .u8 0, .int .u8 0, .int .u8 0, .int .u8 0, .int .u8 0, .int .u16 0, .int .u64 0, .int .u64 0, .bool false, .int .i64 0, .int .i64 0, .slice none 0 0]] from (HS11.out.at_ [2, 0, 1] (by decide) rfl).callMany hS (by simp [blkR]))
        clear hR4 hS HB HS11
        have k14 := (HSa.out.blk 2 rfl).cell 14 rfl
        have f14 := (HSa.out.blk 2 rfl).free 14
        go_upto_region 15 with fail
        have HSb := Lib.hid (HSa.out.put 2 rfl 14 (.slice va vn vc))
        obtain ⟨w21, hw21⟩ : ∃ w21, w21 = w20.setCell ⟨p, 14, none⟩ (.slice va vn vc) := ⟨_, rfl⟩
        rw [← hw21] at HSb
        rw [← hw21]
        clear hw21 k14 f14 HSa
        have hb := (HSb.out.blk 2 rfl)
        have ho := (HSb.out.blk 3 rfl)
        have q0 := hb.cell 0 rfl
        have q1 := hb.cell 1 rfl
        have q2 := hb.cell 2 rfl
        have q3 := hb.cell 3 rfl
        have q4 := hb.cell 4 rfl
        have q5 := hb.cell 5 rfl
        have q6 := hb.cell 6 rfl
        have q7 := hb.cell 7 rfl
        have q8 := hb.cell 8 rfl
        have q9 := hb.cell 9 rfl
        have q10 := hb.cell 10 rfl
        have q11 := hb.cell 11 rfl
        have q12 := hb.cell 12 rfl
        have q13 := hb.cell 13 rfl
        have q14 := hb.cell 14 rfl
        have z0 := ho.cell 0 rfl
        have z1 := ho.cell 1 rfl
        have z2 := ho.cell 2 rfl
        have z3 := ho.cell 3 rfl
        have z4 := ho.cell 4 rfl
        have z5 := ho.cell 5 rfl
        have z6 := ho.cell 6 rfl
        have z7 := ho.cell 7 rfl
        have z8 := ho.cell 8 rfl
        have z9 := ho.cell 9 rfl
        have z10 := ho.cell 10 rfl
        have z11 := ho.cell 11 rfl
        have z12 := ho.cell 12 rfl
        have z13 := ho.cell 13 rfl
        have z14 := ho.cell 14 rfl
        have f0 := ho.free 0
        have f1 := ho.free 1
        have f2 := ho.free 2
        have f3 := ho.free 3
        have f4 := ho.free 4
        have f5 := ho.free 5
        have f6 := ho.free 6
        have f7 := ho.free 7
        have f8 := ho.free 8
        have f9 := ho.free 9
        have f10 := ho.free 10
        have f11 := ho.free 11
        have f12 := ho.free 12
        have f13 := ho.free 13
        have f14 := ho.free 14
        go_wp2_with fail
        obtain ⟨w22, hw22⟩ : ∃ w22, w22 = (((((((((((((((w21.setCell ⟨o, 0, none⟩ (.int .u8 (y0 % 64))).setCell ⟨o, 1, none⟩ (.int .u8 y1)).setCell ⟨o, 2, none⟩ (.int .u8 y4)).setCell ⟨o, 3, none⟩ (.int .u8 y5)).setCell ⟨o, 4, none⟩ (.int .u8 y6)).setCell ⟨o, 5, none⟩ (.int .u8 y7)).setCell ⟨o, 6, none⟩ (.int .u8 y2)).setCell ⟨o, 7, none⟩ (.int .u8 y3)).setCell ⟨o, 8, none⟩ (.int .u16 B)).setCell ⟨o, 9, none⟩ (.int .u64 (H : Int))).setCell ⟨o, 10, none⟩ (.int .u64 (Lo : Int))).setCell ⟨o, 11, none⟩ (.bool false)).setCell ⟨o, 12, none⟩ (.int .i64 0)).setCell ⟨o, 13, none⟩ (.int .i64 0)).setCell ⟨o, 14, none⟩ (.slice va vn vc)) := ⟨_, rfl⟩
        have HSd := Lib.hid (show Sep [g] w w22 [blkR g 106 #[.slice a zs.length c, .int .i64 ((zs.length : Int) : Int)], sumR (.slice va vn vc) (zs.drop (n)), blkR p 31 #[.int .u8 (y0 % 64), .int .u8 y1, .int .u8 y4, .int .u8 y5, .int .u8 y6, .int .u8 y7, .int .u8 y2, .int .u8 y3, .int .u16 B, .int .u64 (H : Int), .int .u64 (Lo : Int), .bool false, .int .i64 0, .int .i64 0, .slice va vn vc], blkR o 31 #[.int .u8 (y0 % 64), .int .u8 y1, .int .u8 y4, .int .u8 y5, .int .u8 y6, .int .u8 y7, .int .u8 y2, .int .u8 y3, .int .u16 B, .int .u64 (H : Int), .int .u64 (Lo : Int), .bool false, .int .i64 0, .int .i64 0, .slice va vn vc]] from hw22 ▸ HSb.out.puts 3 rfl [.int .u8 (y0 % 64), .int .u8 y1, .int .u8 y4, .int .u8 y5, .int .u8 y6, .int .u8 y7, .int .u8 y2, .int .u8 y3, .int .u16 B, .int .u64 (H : Int), .int .u64 (Lo : Int), .bool false, .int .i64 0, .int .i64 0, .slice va vn vc] rfl)
        rw [← hw22]
        clear hw22 HSb hb ho q0 z0 f0 q1 z1 f1 q2 z2 f2 q3 z3 f3 q4 z4 f4 q5 z5 f5 q6 z6 f6 q7 z7 f7 q8 z8 f8 q9 z9 f9 q10 z10 f10 q11 z11 f11 q12 z12 f12 q13 z13 f13 q14 z14 f14
        have ho := HSd.out.blk 3 rfl
        have e0 := ho.cell 0 rfl
        have e1 := ho.cell 1 rfl
        have e2 := ho.cell 2 rfl
        have e3 := ho.cell 3 rfl
        have e4 := ho.cell 4 rfl
        have e5 := ho.cell 5 rfl
        have e6 := ho.cell 6 rfl
        have e7 := ho.cell 7 rfl
        have e8 := ho.cell 8 rfl
        have e9 := ho.cell 9 rfl
        have e10 := ho.cell 10 rfl
        have e11 := ho.cell 11 rfl
        have e12 := ho.cell 12 rfl
        have e13 := ho.cell 13 rfl
        have e14 := ho.cell 14 rfl
        subst hr
        refine bodyPost_ret (v := .agg #[.int .u8 (y0 % 64), .int .u8 y1, .int .u8 y4, .int .u8 y5, .int .u8 y6, .int .u8 y7, .int .u8 y2, .int .u8 y3, .int .u16 B, .int .u64 (H : Int), .int .u64 (Lo : Int), .bool false, .int .i64 0, .int .i64 0, .slice va vn vc]) ?_ rfl ⟨.slice va vn vc, rfl, HSd.out.at_ [0, 1] (by decide) rfl⟩
        simp [results, Tryd.results29, go_sem, e0, e1, e2, e3, e4, e5, e6, e7, e8, e9, e10, e11, e12, e13, e14]

end Go.Proofs.YtnloabpdjedanaaDoor
