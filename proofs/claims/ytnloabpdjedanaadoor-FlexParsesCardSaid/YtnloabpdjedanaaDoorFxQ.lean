/-
  PLAIN: a mask that is written is read back; what is read is written as no more bytes; a pack that is written is read back.
-/
import Derived.Test.YtnloabpdjedanaaDoorFxH
import Derived.Test.YtnloabpdjedanaaDoorBig
import Derived.Test.YtnloabpdjedanaaDoorMsr
set_option linter.unusedVariables false
set_option linter.unusedSimpArgs false
namespace Go.Proofs.YtnloabpdjedanaaDoor
open Go.RowKit

theorem mk_add {k : Nat} (hk : k < 2) : mkA (k + 1) = mkA k + mkN k := by
  rcases (show k = 0 ∨ k = 1 by omega) with rfl | rfl <;> rfl
theorem mkB_byt {h l : Nat} : ∀ f k, Byt (mkB h l f k)
  | 0, k => by simp [mkB, Byt]
  | f + 1, k => by
    by_cases hl : laN h l < (mkA k : Int) + (mkN k : Int)
    · rw [mkB_last hl]; exact bigL_byt _ _
    · rw [mkB_more hl]
      intro x hx
      rcases List.mem_append.1 hx with hx | hx
      · exact bigL_byt _ _ x hx
      · exact mkB_byt f (k + 1) x hx
section
variable {h l : Nat} (h0 : h < 18446744073709551616) (h1 : l < 18446744073709551616)
include h0 h1
theorem bt_last {i : Nat} (hi : i < 128) (hb : bt h l i = true) : (i : Int) ≤ laN h l := by
  rw [laN_eq h0 h1]
  have hm := bitsOf_mem.2 ⟨hi, hb⟩
  have hs := bits_sorted h l
  rcases List.eq_nil_or_concat (bitsOf h l) with e | ⟨t, x, e⟩
  · rw [e] at hm; cases hm
  · rw [List.concat_eq_append] at e
    rw [lastOf_of e]
    rw [e] at hm hs
    rcases List.mem_append.1 hm with hm | hm
    · have := (List.pairwise_append.1 hs).2.2 i hm x (by simp)
      omega
    · simp at hm; omega
theorem la_bit (hn : laN h l ≠ -1) : ∃ i : Nat, laN h l = (i : Int) ∧ i < 128 ∧ bt h l i = true := by
  rw [laN_eq h0 h1] at hn ⊢
  rcases lastOf_cases (bitsOf h l) with ⟨_, e⟩ | ⟨i, hi, e⟩
  · exact absurd e hn
  · exact ⟨i, e, (bitsOf_mem.1 hi).1, (bitsOf_mem.1 hi).2⟩
theorem la_none : laN h l = -1 ↔ h = 0 ∧ l = 0 := by
  unfold laN
  have a := czn_le h h0
  have b := czn_le l h1
  split
  · rename_i hl
    have := (czn_spec h1 hl).1
    constructor
    · intro; omega
    · intro h; exact absurd h.2 hl
  · rename_i hl
    split
    · rename_i hh
      have := (czn_spec h0 hh).1
      constructor
      · intro; omega
      · intro h; exact absurd h.1 hh
    · rename_i hh
      simp at hh hl
      simp [hh, hl]
/-- A part with the mark or without it lays the same bits. -/
theorem lay_mark {A N : Nat} (hA : A ≤ 64) (hN : N ≤ 63) (X : Nat) (hX : X = ptN h l A N ∨ X = ptN h l A N + 2 ^ N) {i : Nat} (hi : i < 128) :
    bt (lyH A N X) (lyL A N X) i = (decide (A ≤ i ∧ i < A + N) && bt h l i) := by
  rw [bt_lay (A : Int) (N : Int) X (by omega) (by omega) i hi]
  by_cases hc : A ≤ i ∧ i < A + N
  · rw [decide_eq_true hc, decide_eq_true (show 0 ≤ (i : Int) - A ∧ (i : Int) - A < N by omega), Bool.true_and, Bool.true_and]
    have hp := tb_part h0 h1 (A : Int) (N : Int) (by omega) (by omega) ((N : Int) - 1 - ((i : Int) - A)).toNat
    rw [decide_eq_true (by omega), Bool.true_and, show ((A : Int) + N - 1 - (((N : Int) - 1 - ((i : Int) - A)).toNat : Int)).toNat = i by omega] at hp
    rcases hX with rfl | rfl
    · exact hp
    · rw [← hp]
      have hlt := ptN_lt h l h0 h1 (A : Int) hN
      rw [Nat.add_comm, Nat.testBit_two_pow_add_gt (by omega)]
  · rw [decide_eq_false hc, decide_eq_false (show ¬ (0 ≤ (i : Int) - A ∧ (i : Int) - A < N) by omega), Bool.false_and, Bool.false_and]

theorem mkF_mkB (hla : laN h l < 109) : ∀ (f k : Nat) (pre rest : List Int) (H L : Nat), f + k = 3 → k < 3 → H < 18446744073709551616 → L < 18446744073709551616 →
    (∀ i, i < 128 → bt H L i = (bt h l i && decide (i < mkA k))) → (k = 0 ∨ ¬ laN h l < (mkA k : Int)) →
    mkF (pre ++ mkB h l f k ++ rest) f k pre.length H L = .ok (h, l, pre.length + (mkB h l f k).length) := by
  intro f
  induction f with
  | zero => intro k pre rest H L h2 h3; omega
  | succ f ih =>
    intro k pre rest H L hfk hk hH hL hbt hnl
    obtain ⟨m1, m2, m3, m4, m5, m6⟩ := mk_facts hk
    have hlt := ptN_lt h l h0 h1 (mkA k : Int) m5
    have h256 : (256 : Nat) ^ mkS k = 2 * 2 ^ mkN k := by
      rw [show (256 : Nat) = 2 ^ 8 by rfl, ← Nat.pow_mul, ← m2, Nat.pow_succ]; omega
    have hnum : ∀ X : Nat, X < 2 * 2 ^ mkN k → (bigN (bigL (X : Int) (mkS k))).toNat = X := fun X hX => by
      have h5 : X < 256 ^ mkS k := by omega
      have h6 : (X : Int) < (256 : Int) ^ mkS k := by
        have h7 := Int.ofNat_lt.2 h5
        rw [Int.natCast_pow] at h7
        exact h7
      rw [bigN_bigL, Int.emod_eq_of_lt (Int.natCast_nonneg X) h6]
      exact Int.toNat_natCast X
    by_cases hl : laN h l < (mkA k : Int) + (mkN k : Int)
    · rw [mkB_last hl]
      have e : ((ptN h l (mkA k) (mkN k) : Int) + 2 ^ mkN k) = ((ptN h l (mkA k) (mkN k) + 2 ^ mkN k : Nat) : Int) := by rw [Int.natCast_add, Int.natCast_pow]; rfl
      rw [e]
      obtain ⟨X, hX⟩ : ∃ X, X = ptN h l (mkA k) (mkN k) + 2 ^ mkN k := ⟨_, rfl⟩
      rw [← hX]
      have hc := cut_app (pre := pre) (zs := bigL (X : Int) (mkS k)) (rest := rest) rfl (bigL_len _ _)
      have hXb := hnum X (by omega)
      rw [mkF_last (by rw [List.length_append, List.length_append, bigL_len]; omega) (by rw [hc, hXb]; omega), hc, hXb, bigL_len]
      have hb := bt_eq (or_lt hH (lyH_lt (mkA k) (mkN k) X)) (or_lt hL (lyL_lt (mkA k) (mkN k) X)) h0 h1 fun i hi => by
        rw [bt_or, hbt i hi, lay_mark h0 h1 (by omega) m5 X (.inr hX) hi]
        by_cases hb : bt h l i = true
        · have := bt_last h0 h1 hi hb
          rw [hb]
          by_cases hc : i < mkA k
          · rw [decide_eq_true hc]; simp
          · rw [decide_eq_false hc, decide_eq_true (by omega)]; simp
        · rw [Bool.not_eq_true] at hb
          rw [hb]; simp
      rw [hb.1, hb.2]
    · have hk2 : k < 2 := by
        rcases (show k = 0 ∨ k = 1 ∨ k = 2 by omega) with rfl | rfl | rfl
        · omega
        · omega
        · simp [mkA, mkN] at hl; omega
      rw [mkB_more hl]
      obtain ⟨X, hX⟩ : ∃ X, X = ptN h l (mkA k) (mkN k) := ⟨_, rfl⟩
      rw [← hX]
      rw [← hX] at hlt
      have hXb := hnum X (by omega)
      have hc := cut_app (pre := pre) (zs := bigL (X : Int) (mkS k)) (rest := mkB h l f (k + 1) ++ rest) rfl (bigL_len _ _)
      rw [show pre ++ (bigL (X : Int) (mkS k) ++ mkB h l f (k + 1)) ++ rest = pre ++ bigL (X : Int) (mkS k) ++ (mkB h l f (k + 1) ++ rest) by simp only [List.append_assoc]]
      rw [mkF_more (by simp only [List.length_append, bigL_len]; omega) (by rw [hc, hXb]; omega), hc, hXb]
      have := ih (k + 1) (pre ++ bigL (X : Int) (mkS k)) rest (H ||| lyH (mkA k) (mkN k) X) (L ||| lyL (mkA k) (mkN k) X) (by omega) (by omega) (or_lt hH (lyH_lt _ _ _)) (or_lt hL (lyL_lt _ _ _)) (fun i hi => by
        rw [bt_or, hbt i hi, lay_mark h0 h1 (by omega) m5 X (.inl hX) hi, mk_add hk2]
        by_cases hc : i < mkA k
        · rw [decide_eq_true hc, decide_eq_false (by omega), decide_eq_true (by omega)]; simp
        · rw [decide_eq_false hc]
          by_cases hd : i < mkA k + mkN k
          · rw [decide_eq_true (by omega), decide_eq_true hd]; simp
          · rw [decide_eq_false (by omega), decide_eq_false hd]; simp) (.inr (by rw [mk_add hk2]; omega))
      rw [List.length_append, bigL_len] at this
      simp only [List.append_assoc, List.length_append, bigL_len] at this ⊢
      rw [this]
      congr 3
      omega
end

section
variable {zs : List Int}
/-- What is read of a mask has no bits behind its parts, and is written as no more bytes. -/
theorem mkF_back : ∀ (f k p H L h l n : Nat), f + k = 3 → k < 3 → H < 18446744073709551616 → L < 18446744073709551616 → (∀ i, i < 128 → bt H L i = true → i < mkA k) → p ≤ zs.length →
    mkF zs f k p H L = .ok (h, l, n) → h < 18446744073709551616 ∧ l < 18446744073709551616 ∧ (∀ i, i < 128 → bt h l i = true → i < 109) ∧ p + (mkB h l f k).length ≤ n ∧ n ≤ zs.length ∧ p + 2 ≤ n := by
  intro f
  induction f with
  | zero => intro k p H L h l n h2 h3; omega
  | succ f ih =>
    intro k p H L h l n hfk hk hH hL hbt hp hF
    obtain ⟨m1, m2, m3, m4, m5, m6⟩ := mk_facts hk
    have hS : 2 ≤ mkS k := by rcases (show k = 0 ∨ k = 1 ∨ k = 2 by omega) with rfl | rfl | rfl <;> decide
    have hAN : mkA k + mkN k ≤ 109 := by rcases (show k = 0 ∨ k = 1 ∨ k = 2 by omega) with rfl | rfl | rfl <;> decide
    by_cases hs : zs.length < p + mkS k
    · rw [mkF_short hs] at hF; cases hF
    · obtain ⟨X, hX⟩ : ∃ X, X = (bigN (cut zs p (mkS k))).toNat := ⟨_, rfl⟩
      have hH2 := or_lt hH (lyH_lt (mkA k) (mkN k) X)
      have hL2 := or_lt hL (lyL_lt (mkA k) (mkN k) X)
      have hb2 : ∀ i, i < 128 → bt (H ||| lyH (mkA k) (mkN k) X) (L ||| lyL (mkA k) (mkN k) X) i = true → i < mkA k + mkN k := fun i hi hb => by
        rw [bt_or, Bool.or_eq_true] at hb
        rcases hb with hb | hb
        · have := hbt i hi hb; omega
        · rw [bt_lay (mkA k : Int) (mkN k : Int) X (by omega) (by omega) i hi, Bool.and_eq_true, decide_eq_true_eq] at hb
          omega
      by_cases h2 : 2 ^ mkN k ≤ X
      · rw [mkF_last hs (by rw [← hX]; exact h2), ← hX] at hF
        injection hF with hF
        injection hF with e1 hF
        injection hF with e2 e3
        subst e1 e2 e3
        refine ⟨hH2, hL2, fun i hi hb => by have := hb2 i hi hb; omega, ?_, by omega, by omega⟩
        rw [mkB_last, bigL_len]
        · exact Nat.le_refl _
        · rcases Int.lt_or_le (laN (H ||| lyH (mkA k) (mkN k) X) (L ||| lyL (mkA k) (mkN k) X)) 0 with h0 | h0
          · omega
          · obtain ⟨i, hi, hi2, hb⟩ := la_bit hH2 hL2 (by omega)
            have := hb2 i hi2 hb
            omega
      · rw [mkF_more hs (by rw [← hX]; exact h2), ← hX] at hF
        rcases (show k < 2 ∨ k = 2 by omega) with hk2 | rfl
        · obtain ⟨a, b, c, d, e, e5⟩ := ih (k + 1) (p + mkS k) _ _ h l n (by omega) (by omega) hH2 hL2 (fun i hi hb => by rw [mk_add hk2]; exact hb2 i hi hb) (by omega) hF
          refine ⟨a, b, c, ?_, e, by omega⟩
          by_cases hl : laN h l < (mkA k : Int) + (mkN k : Int)
          · rw [mkB_last hl, bigL_len]; omega
          · rw [mkB_more hl, List.length_append, bigL_len]; omega
        · obtain rfl : f = 0 := by omega
          simp [mkF] at hF
end

theorem la_lt {h l : Nat} (h0 : h < 18446744073709551616) (h1 : l < 18446744073709551616) (hb : ∀ i, i < 128 → bt h l i = true → i < 109) : laN h l < 109 := by
  by_cases hn : laN h l = -1
  · omega
  · obtain ⟨i, hi, hi2, hb2⟩ := la_bit h0 h1 hn
    have := hb i hi2 hb2
    omega
theorem cnt_none {h l : Nat} (h0 : h < 18446744073709551616) (h1 : l < 18446744073709551616) : cnt h 64 + cnt l 64 = 0 ↔ h = 0 ∧ l = 0 := by
  have a := cnt_nil h0
  have b := cnt_nil h1
  constructor
  · intro hh; exact ⟨a.1 (by omega), b.1 (by omega)⟩
  · intro hh; have := a.2 hh.1; have := b.2 hh.2; omega
def low (x : Fx) : Fx := ⟨x.h0 % 64, x.h1, x.h2, x.h3, x.h4, x.h5, x.h6, x.h7, x.b, x.h, x.l, x.fx, x.L, x.D, x.B⟩
theorem bigL2 (b : Int) : bigL b 2 = [b / 256 % 256, b % 256] := by
  have h2 : List.range 2 = [0, 1] := rfl
  unfold bigL dig
  rw [h2]
  simp
theorem bigN2 {b : Int} (h0 : 0 ≤ b) (h1 : b ≤ 65535) : bigN [b / 256 % 256, b % 256] = b := by
  rw [← bigL2, bigN_bigL]
  exact Int.emod_eq_of_lt h0 (by simp; omega)
/-- A pack that is written is read back. -/
theorem wr_back {x : Fx} (ho : x.Ok) (hw : weX x = 0) : paX (woX x) = low x ∧ paE (woX x) = 0 := by
  have hw0 : wrX x = 0 := by
    by_cases h : wrX x = 0
    · exact h
    · unfold weX at hw; rw [if_pos h] at hw; exact absurd hw h
  have hg := good_of ho.rh ho.rl hw0
  have hlen : ¬ 1500 < (byX x).length := fun h => by have := (we_long hw0 h).1; omega
  rw [(we_good hw0 hlen).2]
  have r0 := ho.r0
  have key : rdX (byX x) = .ok (low x) := by
    obtain ⟨h0, h1, h2, h3, h4, h5, h6, h7, b, h, l, fx, L, D, B⟩ := x
    have hb := bigN2 ho.rb.1 ho.rb.2
    simp only at hb r0
    cases fx with
    | true =>
      obtain ⟨g1, g2, g3, g4, g5, g6⟩ := hg.fix rfl
      simp only at g1 g2 g3 g4 g5 g6
      have e : byX ⟨h0, h1, h2, h3, h4, h5, h6, h7, b, h, l, true, L, D, B⟩ = [h0 % 64 + 64, h1, h6, h7, h2, h3, h4, h5, b / 256 % 256, b % 256, L, D] ++ B := by
        unfold byX
        rw [bigL2]
        simp
      rw [e, rd_fix (by simp [at_]; omega) (by simp) (by simp [at_]; omega) (by simp [at_]; omega)]
      subst g5 g6
      simp [at_, low, cut, hb]
    | false =>
      obtain ⟨g1, g2, g3⟩ := hg.msk rfl
      simp only at g1 g2 g3
      have e : byX ⟨h0, h1, h2, h3, h4, h5, h6, h7, b, h, l, false, L, D, B⟩ = [h0 % 64, h1, h6, h7, h2, h3, h4, h5, b / 256 % 256, b % 256] ++ mkB h l 3 0 ++ B := by
        unfold byX
        rw [bigL2]
        simp
      have hF := mkF_mkB ho.rh ho.rl hg.last 3 0 [h0 % 64, h1, h6, h7, h2, h3, h4, h5, b / 256 % 256, b % 256] B 0 0 rfl (by decide) (by decide) (by decide) (fun i hi => by rw [bt_zero]; simp [mkA]) (.inl rfl)
      rw [e]
      obtain ⟨M, hM⟩ : ∃ M, M = mkB h l 3 0 := ⟨_, rfl⟩
      rw [← hM] at hF ⊢
      rw [rd_maskM (by simp [at_]; omega) (by simp [at_]; omega)]
      have hln : ([h0 % 64, h1, h6, h7, h2, h3, h4, h5, b / 256 % 256, b % 256] : List Int).length = 10 := rfl
      rw [hln] at hF
      rw [hF]
      unfold rdM
      simp only
      rw [if_neg g3]
      subst g1 g2
      have hdr : ([h0 % 64, h1, h6, h7, h2, h3, h4, h5, b / 256 % 256, b % 256] ++ M ++ B).drop (10 + M.length) = B := by
        rw [show 10 + M.length = ([h0 % 64, h1, h6, h7, h2, h3, h4, h5, b / 256 % 256, b % 256] ++ M).length by simp; omega, List.drop_left]
      rw [hdr]
      simp [at_, low, cut, hb]
  rw [paX_in hlen, paE_in hlen, key]
  exact ⟨rfl, rfl⟩

theorem at_byt {zs : List Int} (hb : Byt zs) (i : Nat) : 0 ≤ at_ zs i ∧ at_ zs i ≤ 255 := by
  unfold at_
  rw [List.getD_eq_getElem?_getD]
  cases h : zs[i]? with
  | none => simp
  | some y => exact hb y (List.mem_of_getElem? h)
theorem big_cut2 {zs : List Int} (hb : Byt zs) (p : Nat) (h : p + 2 ≤ zs.length) : 0 ≤ bigN (cut zs p 2) ∧ bigN (cut zs p 2) ≤ 65535 := by
  have h1 := bigN_lt (hb.cut p 2)
  rw [cut_len h] at h1
  simp at h1
  omega
/-- What is read is right, and is written as no more bytes. -/
theorem rd_back {zs : List Int} {x : Fx} (hb : Byt zs) (hl : zs.length ≤ 1500) (h : rdX zs = .ok x) : x.Ok ∧ weX x = 0 ∧ (byX x).length ≤ zs.length ∧ low x = x := by
  by_cases c1 : 1 ≤ zs.length ∧ 128 ≤ at_ zs 0
  · rw [rd_odd c1.1 c1.2] at h; cases h
  by_cases c2 : zs.length < 12
  · rw [rd_short c1 c2] at h; cases h
  have b8 := big_cut2 hb 8 (by omega)
  have a0 := at_byt hb 0
  by_cases c3 : 64 ≤ at_ zs 0
  · by_cases c4 : at_ zs 10 = 0
    · rw [rd_fix0 (by omega) (by omega) c3 c4] at h; cases h
    · rw [rd_fix (by omega) (by omega) c3 c4] at h
      injection h with h
      have a10 := at_byt hb 10
      have a11 := at_byt hb 11
      have ho : x.Ok := by
        subst h
        exact ⟨by simp only; omega, at_byt hb 1, at_byt hb 4, at_byt hb 5, at_byt hb 6, at_byt hb 7, at_byt hb 2, at_byt hb 3, b8, (by show (0 : Nat) < 18446744073709551616; decide), (by show (0 : Nat) < 18446744073709551616; decide), by simp only; omega, by simp only; omega, hb.drop 12⟩
      have hw : wrX x = 0 := by
        subst h
        unfold wrX
        rw [if_neg (by simp [gridB]; omega), if_neg (by rw [show laN 0 0 = -1 from (la_none (by decide) (by decide)).2 ⟨rfl, rfl⟩]; simp [show cnt 0 64 + cnt 0 64 = 0 from (cnt_none (by decide) (by decide)).2 ⟨rfl, rfl⟩]), if_neg (by simp; omega)]
      have hlen : (byX x).length = zs.length := by
        subst h
        unfold byX
        simp [bigL_len]
        omega
      exact ⟨ho, (we_good hw (by omega)).1, by omega, by subst h; simp only [low]; congr 1; omega⟩
  · rw [rd_maskM (by omega) c3] at h
    cases hF : mkF zs 3 0 10 0 0 with
    | error e => rw [hF] at h; cases h
    | ok r =>
      obtain ⟨hh, ll, n⟩ := r
      rw [hF] at h
      unfold rdM at h
      simp only at h
      by_cases c5 : hh = 0 ∧ ll = 0
      · rw [if_pos c5] at h; cases h
      · rw [if_neg c5] at h
        injection h with h
        obtain ⟨q1, q2, q3, q4, q5, q6⟩ := mkF_back 3 0 10 0 0 hh ll n rfl (by decide) (by decide) (by decide) (fun i hi hb => by rw [bt_zero] at hb; cases hb) (by omega) hF
        have hla := la_lt q1 q2 q3
        have ho : x.Ok := by
          subst h
          exact ⟨by simp only; omega, at_byt hb 1, at_byt hb 4, at_byt hb 5, at_byt hb 6, at_byt hb 7, at_byt hb 2, at_byt hb 3, b8, q1, q2, by simp only; omega, by simp only; omega, hb.drop n⟩
        have hw : wrX x = 0 := by
          subst h
          unfold wrX
          rw [if_neg (by simp), if_neg (by
            simp only [decide_eq_false (fun e => c5 ((cnt_none q1 q2).1 e))]
            simp
            omega), if_neg (by simp; omega)]
        have hlen : (byX x).length ≤ zs.length := by
          subst h
          unfold byX
          simp [bigL_len]
          omega
        exact ⟨ho, (we_good hw (by omega)).1, hlen, by subst h; simp only [low]; congr 1; omega⟩

end Go.Proofs.YtnloabpdjedanaaDoor
