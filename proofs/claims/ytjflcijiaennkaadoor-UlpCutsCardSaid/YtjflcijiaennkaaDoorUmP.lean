/-
  PLAIN: what is written is read back; what is read is written as the same bytes; a pack that is cut; a repair's pack is flat as it.
-/
import Derived.Test.YtjflcijiaennkaaDoorUlR
import Derived.Test.YtjflcijiaennkaaDoorUlQ
import Derived.Test.YtjflcijiaennkaaDoorUlO
set_option linter.unusedVariables false
set_option linter.unusedSimpArgs false
namespace Go.Proofs.YtjflcijiaennkaaDoor
open Go.RowKit

section
variable {h l : Nat} (h0 : h < 18446744073709551616) (h1 : l < 18446744073709551616)
include h0 h1
theorem ubt_last {i : Nat} (hi : i < 128) (hb : bt h l i = true) : (i : Int) ≤ laN h l := by
  rw [laN_eq h0 h1]
  have hm := bitsOf_mem.2 ⟨hi, hb⟩
  have hs := bits_sorted h l
  rcases List.eq_nil_or_concat (bitsOf h l) with e | ⟨t, x, e⟩
  · rw [e] at hm; cases hm
  · rw [List.concat_eq_append] at e
    rw [lastOf_of e]
    rw [e] at hm hs
    rcases List.mem_append.1 hm with hm | hm
    · have := (List.pairwise_append.1 hs).2.2 i hm x (by simp)
      omega
    · simp at hm; omega
theorem ula_bit (hn : laN h l ≠ -1) : ∃ i : Nat, laN h l = (i : Int) ∧ i < 128 ∧ bt h l i = true := by
  rw [laN_eq h0 h1] at hn ⊢
  rcases lastOf_cases (bitsOf h l) with ⟨_, e⟩ | ⟨i, hi, e⟩
  · exact absurd e hn
  · exact ⟨i, e, (bitsOf_mem.1 hi).1, (bitsOf_mem.1 hi).2⟩
/-- A part that is laid again is the mask, if the mask has no other bits. -/
theorem ulay_part {N : Nat} (hN : N ≤ 63) (hla : laN h l < (N : Int)) : lyH 0 (N : Int) (ptN h l 0 (N : Int)) = h ∧ lyL 0 (N : Int) (ptN h l 0 (N : Int)) = l := by
  refine bt_eq (lyH_lt _ _ _) (lyL_lt _ _ _) h0 h1 fun i hi => ?_
  rw [bt_lay 0 (N : Int) _ (by omega) (by omega) i hi]
  by_cases hc : i < N
  · rw [decide_eq_true (show 0 ≤ (i : Int) - 0 ∧ (i : Int) - 0 < N by omega), Bool.true_and]
    have hp := tb_part h0 h1 0 (N : Int) (by omega) (by omega) ((N : Int) - 1 - ((i : Int) - 0)).toNat
    rw [decide_eq_true (by omega), Bool.true_and, show ((0 : Int) + N - 1 - (((N : Int) - 1 - ((i : Int) - 0)).toNat : Int)).toNat = i by omega] at hp
    exact hp
  · rw [decide_eq_false (show ¬ (0 ≤ (i : Int) - 0 ∧ (i : Int) - 0 < N) by omega), Bool.false_and]
    cases hb : bt h l i with
    | false => rfl
    | true => have := ubt_last h0 h1 hi hb; omega
end
/-- What is laid has its last bit within. -/
theorem ulay_last {N : Nat} (hN : N ≤ 63) (hp : 0 < N) (X : Nat) : laN (lyH 0 (N : Int) X) (lyL 0 (N : Int) X) < (N : Int) := by
  by_cases hn : laN (lyH 0 (N : Int) X) (lyL 0 (N : Int) X) = -1
  · omega
  · obtain ⟨i, hi, hi2, hb⟩ := ula_bit (lyH_lt _ _ _) (lyL_lt _ _ _) hn
    rw [bt_lay 0 (N : Int) _ (by omega) (by omega) i hi2] at hb
    have := (Bool.and_eq_true _ _ ▸ hb).1
    have := of_decide_eq_true this
    omega
theorem uptN_lt (h l : Nat) (h0 : h < 18446744073709551616) (h1 : l < 18446744073709551616) (f : Int) {N : Nat} (hN : N ≤ 63) : ptN h l f (N : Int) < 2 ^ N := by
  unfold ptN
  have e : (64 - held (N : Int) 0 64).toNat = 64 - N := by unfold held; rw [if_neg (by omega), if_neg (by omega)]; omega
  rw [e]
  have hd := dwH_lt h l (-(held f (-128) 128)) h0 h1
  rw [Nat.div_lt_iff_lt_mul (Nat.two_pow_pos _), ← Nat.pow_add, show N + (64 - N) = 64 by omega]
  exact hd
theorem wid_le (lg : Bool) : wid lg ≤ 63 ∧ 0 < wid lg ∧ wid lg = 8 * siz lg ∧ (siz lg = 2 ∨ siz lg = 6) := by cases lg <;> decide
theorem ubigL2 (b : Int) : bigL b 2 = [b / 256 % 256, b % 256] := by
  have h2 : List.range 2 = [0, 1] := rfl
  unfold bigL dig
  rw [h2]
  simp
theorem ubigN2 {b : Int} (h0 : 0 ≤ b) (h1 : b ≤ 65535) : bigN [b / 256 % 256, b % 256] = b := by
  rw [← ubigL2, bigN_bigL]
  exact Int.emod_eq_of_lt h0 (by simp; omega)
/-- A level that may be written. -/
structure LvG (lg : Bool) (L : Lv) : Prop where
  h : L.h < 18446744073709551616
  l : L.l < 18446744073709551616
  B : Byt L.B
  len : L.B.length ≤ 1500
  far : laN L.h L.l < (wid lg : Int)
theorem lvB_byt {lg : Bool} {L : Lv} (hb : Byt L.B) : Byt (lvB lg L) := fun x hx => by
  unfold lvB at hx
  rcases List.mem_append.1 hx with hx | hx
  · rcases List.mem_append.1 hx with hx | hx
    · exact bigL_byt _ _ x hx
    · exact bigL_byt _ _ x hx
  · exact hb x hx
/-- A level that is written is read back. -/
theorem lv_back {lg : Bool} {L : Lv} {pre rest : List Int} {p : Nat} (hg : LvG lg L) (hp : pre.length = p) :
    lvN (pre ++ lvB lg L ++ rest) p = L.B.length ∧ lvE (pre ++ lvB lg L ++ rest) lg p = p + (lvB lg L).length ∧ lvAt (pre ++ lvB lg L ++ rest) lg p = L := by
  obtain ⟨h1, h2, h3, h4⟩ := wid_le lg
  have e1 : cut (pre ++ lvB lg L ++ rest) p 2 = bigL (L.B.length : Int) 2 := by
    rw [show pre ++ lvB lg L ++ rest = pre ++ bigL (L.B.length : Int) 2 ++ (bigL (ptN L.h L.l 0 (wid lg) : Int) (siz lg) ++ L.B ++ rest) by simp [lvB]]
    exact cut_app hp (bigL_len _ _)
  have e2 : cut (pre ++ lvB lg L ++ rest) (p + 2) (siz lg) = bigL (ptN L.h L.l 0 (wid lg) : Int) (siz lg) := by
    rw [show pre ++ lvB lg L ++ rest = (pre ++ bigL (L.B.length : Int) 2) ++ bigL (ptN L.h L.l 0 (wid lg) : Int) (siz lg) ++ (L.B ++ rest) by simp [lvB]]
    exact cut_app (by rw [List.length_append, bigL_len, hp]) (bigL_len _ _)
  have e3 : lvN (pre ++ lvB lg L ++ rest) p = L.B.length := by
    unfold lvN
    have := hg.len
    rw [e1, ubigL2, ubigN2 (by omega) (by omega)]
    simp
  have e4 : cut (pre ++ lvB lg L ++ rest) (p + 2 + siz lg) L.B.length = L.B := by
    rw [show pre ++ lvB lg L ++ rest = (pre ++ bigL (L.B.length : Int) 2 ++ bigL (ptN L.h L.l 0 (wid lg) : Int) (siz lg)) ++ L.B ++ rest by simp [lvB]]
    exact cut_app (by rw [List.length_append, List.length_append, bigL_len, bigL_len, hp]) rfl
  have e5 : lvX (pre ++ lvB lg L ++ rest) lg p = ptN L.h L.l 0 (wid lg) := by
    unfold lvX
    rw [e2, bigN_bigL]
    have := uptN_lt L.h L.l hg.h hg.l 0 h1
    rw [Int.emod_eq_of_lt (by omega) (by
      have h256 : (256 : Int) ^ siz lg = ((2 ^ wid lg : Nat) : Int) := by cases lg <;> rfl
      rw [h256]
      exact Int.ofNat_lt.2 this)]
    simp
  have e6 := ulay_part hg.h hg.l h1 hg.far
  refine ⟨e3, ?_, ?_⟩
  · unfold lvE
    rw [e3, lvB_len]
    omega
  · unfold lvAt
    rw [e5, e3, e4, e6.1, e6.2]
/-- A level that is cut short. -/
theorem lv_cutoff {lg : Bool} {L : Lv} {pre : List Int} {p m : Nat} (hg : LvG lg L) (hp : pre.length = p) (hm : m < (lvB lg L).length) :
    (pre ++ (lvB lg L).take m).length < p + 2 + siz lg ∨ (pre ++ (lvB lg L).take m).length < lvE (pre ++ (lvB lg L).take m) lg p := by
  have hlen : (pre ++ (lvB lg L).take m).length = p + m := by rw [List.length_append, List.length_take, hp]; omega
  rw [hlen]
  by_cases hs : m < 2 + siz lg
  · left; omega
  · right
    have e1 : cut (pre ++ (lvB lg L).take m) p 2 = bigL (L.B.length : Int) 2 := by
      have e : (lvB lg L).take m = bigL (L.B.length : Int) 2 ++ (bigL (ptN L.h L.l 0 (wid lg) : Int) (siz lg) ++ L.B).take (m - 2) := by
        rw [show lvB lg L = bigL (L.B.length : Int) 2 ++ (bigL (ptN L.h L.l 0 (wid lg) : Int) (siz lg) ++ L.B) by simp [lvB], List.take_append, bigL_len, List.take_of_length_le (by rw [bigL_len]; omega)]
      rw [e, ← List.append_assoc]
      exact cut_app hp (bigL_len _ _)
    unfold lvE lvN
    have := hg.len
    rw [e1, ubigL2, ubigN2 (by omega) (by omega)]
    rw [lvB_len] at hm
    simp
    omega
theorem uhdB_len (x : Ul) : (uhdB x).length = 10 := by simp [uhdB, bigL_len]
def ulow (x : Ul) : Ul := { x with h0 := x.h0 % 64 }
theorem uhd_same {x : Ul} (hok : x.Ok) (t : List Int) (Ms : List Lv) : uhdX (uhdB x ++ t) Ms = { ulow x with Ls := Ms } ∧ lgB (uhdB x ++ t) = x.lg ∧ uat (uhdB x ++ t) 0 < 128 := by
  obtain ⟨h0, h1, h2, h3, h4, h5, h6, h7, b, lg, Ls⟩ := x
  have hb := ubigN2 hok.rb.1 hok.rb.2
  have r0 := hok.r0
  simp only at hb r0
  have e : uhdB ⟨h0, h1, h2, h3, h4, h5, h6, h7, b, lg, Ls⟩ ++ t = [h0 % 64 + if lg then 64 else 0, h1, b / 256 % 256, b % 256, h2, h3, h4, h5, h6, h7] ++ t := by
    unfold uhdB
    rw [ubigL2]
    simp
  rw [e]
  have hl : lgB ([h0 % 64 + if lg then 64 else 0, h1, b / 256 % 256, b % 256, h2, h3, h4, h5, h6, h7] ++ t) = lg := by
    cases lg <;> simp [lgB, uat] <;> omega
  refine ⟨?_, hl, ?_⟩
  · unfold uhdX
    rw [hl]
    have hc : cut ([h0 % 64 + if lg then 64 else 0, h1, b / 256 % 256, b % 256, h2, h3, h4, h5, h6, h7] ++ t) 2 2 = [b / 256 % 256, b % 256] := by simp [cut]
    rw [hc, hb]
    have hz : uat ([h0 % 64 + if lg then 64 else 0, h1, b / 256 % 256, b % 256, h2, h3, h4, h5, h6, h7] ++ t) 0 % 64 = h0 % 64 := by
      cases lg <;> simp [uat] <;> omega
    rw [hz]
    simp [uat, ulow]
  · cases lg <;> simp [uat] <;> omega
theorem uwe_zero {x : Ul} (h : uweX x = 0) : uwrX x = 0 ∧ (ubyX x).length ≤ 1500 ∧ uwoX x = ubyX x := by
  have h1 := we_nz h
  refine ⟨h1, ?_, ?_⟩
  · unfold uweX at h
    rw [if_neg (by simp [h1])] at h
    by_cases hl : 1500 < (ubyX x).length
    · rw [if_pos hl] at h; cases h
    · omega
  · unfold uwoX
    rw [if_neg (by simp [h])]
theorem ulv_good {x : Ul} (hok : x.Ok) (hw : uwrX x = 0) : ∀ L ∈ x.Ls, LvG x.lg L := fun L hL =>
  ⟨(hok.rL L hL).1, (hok.rL L hL).2.1, (hok.rL L hL).2.2, (ugood_of hw).body L hL, (ugood_of hw).far L hL⟩
theorem ugood_ls {x : Ul} (hw : uwrX x = 0) : (∃ L, x.Ls = [L] ∧ isNil L = false) ∨ ∃ L M, x.Ls = [L, M] ∧ isNil L = false := by
  have hg := ugood_of hw
  have h0 := hg.n0
  have h2 := hg.n2
  have h3 := hg.one
  cases hx : x.Ls with
  | nil => rw [hx] at h0; simp at h0
  | cons L t =>
    rw [hx] at h3 h2
    have hn : isNil L = false := by simpa using h3
    cases t with
    | nil => exact .inl ⟨L, rfl, hn⟩
    | cons M u =>
      cases u with
      | nil => exact .inr ⟨L, M, rfl, hn⟩
      | cons _ _ => simp at h2
/-- One level, or two, read. -/
theorem lvF_one {lg : Bool} {L : Lv} {pre : List Int} (hg : LvG lg L) (hp : pre.length = 10) : lvF (pre ++ lvB lg L) lg 2 10 [] = .ok [L] := by
  have hb := lv_back (rest := []) hg hp
  rw [List.append_nil] at hb
  have hlen : (pre ++ lvB lg L).length = 10 + (lvB lg L).length := by rw [List.length_append, hp]
  have h8 := lvB_len lg L
  rw [lvF_more (by simp) (by rw [hb.2.1, hlen]; omega), hb.2.1, hb.2.2, List.nil_append]
  exact lvF_done ⟨by simp, by rw [hlen]; exact Nat.le_refl _⟩
theorem lvF_two {lg : Bool} {L M : Lv} {pre : List Int} (hg : LvG lg L) (hm : LvG lg M) (hp : pre.length = 10) : lvF (pre ++ lvB lg L ++ lvB lg M) lg 2 10 [] = .ok [L, M] := by
  have hb := lv_back (rest := lvB lg M) hg hp
  have hq : (pre ++ lvB lg L).length = 10 + (lvB lg L).length := by rw [List.length_append, hp]
  have hc := lv_back (rest := []) hm hq
  rw [List.append_nil] at hc
  have hlen : (pre ++ lvB lg L ++ lvB lg M).length = 10 + (lvB lg L).length + (lvB lg M).length := by rw [List.length_append, hq]
  have h8 := lvB_len lg L
  have h9 := lvB_len lg M
  rw [lvF_more (by simp) (by rw [hb.2.1, hlen]; omega), hb.2.1, hb.2.2, List.nil_append,
    lvF_more (by rw [hlen]; simp; omega) (by rw [hc.2.1, hlen]; omega), hc.2.1, hc.2.2]
  exact lvF_done ⟨by simp, by rw [hlen]; omega⟩
theorem urd_of {x : Ul} (hok : x.Ok) {t : List Int} {Ms : List Lv} (hF : lvF (uhdB x ++ t) x.lg 2 10 [] = .ok Ms) (hn : (Ms.head?.map isNil).getD true = false) : urdX (uhdB x ++ t) = .ok { ulow x with Ls := Ms } := by
  obtain ⟨h1, h2, h3⟩ := uhd_same hok t Ms
  rw [urd_lev (by omega) (by rw [List.length_append, uhdB_len]; omega), h2, hF]
  simp only [hn]
  rw [if_neg (by simp), h1]
theorem urd_er {x : Ul} (hok : x.Ok) {t : List Int} {e : Int} (hF : lvF (uhdB x ++ t) x.lg 2 10 [] = .error e) : urdX (uhdB x ++ t) = .error e := by
  obtain ⟨h1, h2, h3⟩ := uhd_same hok t []
  rw [urd_lev (by omega) (by rw [List.length_append, uhdB_len]; omega), h2, hF]
/-- A pack that is written is read back. -/
theorem uwr_back {x : Ul} (hok : x.Ok) (hw : uweX x = 0) : upaX (uwoX x) = ulow x ∧ upaE (uwoX x) = 0 := by
  obtain ⟨h1, h2, h3⟩ := uwe_zero hw
  rw [h3]
  have hg := ulv_good hok h1
  have key : urdX (ubyX x) = .ok (ulow x) := by
    unfold ubyX
    rcases ugood_ls h1 with ⟨L, e, hn⟩ | ⟨L, M, e, hn⟩
    · rw [e] at hg ⊢
      have hF := lvF_one (hg L (by simp)) (uhdB_len x)
      rw [show List.flatMap (lvB x.lg) [L] = lvB x.lg L by simp, urd_of hok hF (by simp [hn])]
      congr 1
      unfold ulow
      rw [← e]
    · rw [e] at hg ⊢
      have hF := lvF_two (hg L (by simp)) (hg M (by simp)) (uhdB_len x)
      rw [List.append_assoc] at hF
      rw [show List.flatMap (lvB x.lg) [L, M] = lvB x.lg L ++ lvB x.lg M by simp, urd_of hok hF (by simp [hn])]
      congr 1
      unfold ulow
      rw [← e]
  have hl : ¬ 1500 < (ubyX x).length := by omega
  unfold upaX upaE
  rw [if_neg hl, if_neg hl, key]
  exact ⟨rfl, rfl⟩
theorem usame_low (x : Ul) : usame x (ulow x) = true := by
  unfold usame ulow
  simp [(sameLs_iff x.Ls x.Ls).2 rfl]
/-- The first level alone. -/
def ufst (x : Ul) : Ul := { x with Ls := x.Ls.take 1 }
theorem ufst_ok {x : Ul} (hok : x.Ok) : (ufst x).Ok := ⟨hok.r0, hok.r1, hok.r2, hok.r3, hok.r4, hok.r5, hok.r6, hok.r7, hok.rb, fun L hL => hok.rL L (List.mem_of_mem_take hL)⟩
theorem uby_one {x : Ul} {L : Lv} (e : x.Ls = [L]) : ubyX x = uhdB x ++ lvB x.lg L := by unfold ubyX; rw [e]; simp
theorem uby_two {x : Ul} {L M : Lv} (e : x.Ls = [L, M]) : ubyX x = uhdB x ++ lvB x.lg L ++ lvB x.lg M := by unfold ubyX; rw [e]; simp
theorem ufst_by {x : Ul} {L : Lv} (e : x.Ls.take 1 = [L]) : ubyX (ufst x) = uhdB x ++ lvB x.lg L := by unfold ubyX ufst; simp only [e]; simp [uhdB]
theorem uwr_zero {x : Ul} (h0 : x.Ls.length ≠ 0) (h2 : x.Ls.length ≤ 2) (hn : (x.Ls.head?.map isNil).getD true = false) (hg : ∀ L ∈ x.Ls, laN L.h L.l < (wid x.lg : Int) ∧ L.B.length ≤ 1500) : uwrX x = 0 := by
  unfold uwrX
  rw [if_neg h0, if_neg (by omega), if_neg (by
    rw [hn, Bool.or_false]
    intro h
    obtain ⟨L, hL, hf⟩ := List.any_eq_true.1 h
    have := of_decide_eq_true (show decide ((wid x.lg : Int) ≤ laN L.h L.l) = true from hf)
    have := (hg L hL).1
    omega), if_neg (by
    intro h
    obtain ⟨L, hL, hf⟩ := List.any_eq_true.1 h
    have := of_decide_eq_true (show decide (1500 < L.B.length) = true from hf)
    have := (hg L hL).2
    omega)]
theorem uwe_of {x : Ul} (h : uwrX x = 0) (hl : (ubyX x).length ≤ 1500) : uweX x = 0 := by
  unfold uweX
  rw [if_neg (by simp [h]), if_neg (by omega)]
theorem ufst_we {x : Ul} (hok : x.Ok) (hw : uweX x = 0) : uweX (ufst x) = 0 := by
  obtain ⟨h1, h2, h3⟩ := uwe_zero hw
  have hg := ugood_of h1
  rcases ugood_ls h1 with ⟨L, e, hn⟩ | ⟨L, M, e, hn⟩
  · have ef : ufst x = x := by unfold ufst; rw [e]; show { x with Ls := [L] } = x; rw [← e]
    rw [ef]; exact hw
  · have e1 : x.Ls.take 1 = [L] := by rw [e]; rfl
    have hb : (ubyX (ufst x)).length ≤ 1500 := by
      rw [ufst_by e1]
      rw [uby_two e] at h2
      rw [List.length_append] at h2
      omega
    refine uwe_of (uwr_zero (by show (x.Ls.take 1).length ≠ 0; rw [e1]; simp) (by show (x.Ls.take 1).length ≤ 2; rw [e1]; simp) (by show ((x.Ls.take 1).head?.map isNil).getD true = false; rw [e1]; simp [hn]) (fun K hK => ?_)) hb
    have hK' : K ∈ x.Ls := List.mem_of_mem_take hK
    exact ⟨hg.far K hK', hg.body K hK'⟩
/-- The first n bytes of a pack. -/
theorem ucut_back {x : Ul} (hok : x.Ok) (hw : uweX x = 0) (n : Nat) (hn : n < (uwoX x).length) :
    (x.Ls.length = 2 ∧ n = (uwoX (ufst x)).length → upaE ((uwoX x).take n) = 0 ∧ upaX ((uwoX x).take n) = ulow (ufst x) ∧ (uwoX x).take n = uwoX (ufst x)) ∧
    (¬ (x.Ls.length = 2 ∧ n = (uwoX (ufst x)).length) → upaE ((uwoX x).take n) = 20 ∧ upaX ((uwoX x).take n) = Ul.none) := by
  obtain ⟨h1, h2, h3⟩ := uwe_zero hw
  have hwf := ufst_we hok hw
  obtain ⟨_, h2f, h3f⟩ := uwe_zero hwf
  have hg := ulv_good hok h1
  have hpar : ∀ R, urdX ((uwoX x).take n) = R → upaE ((uwoX x).take n) = upaV R ∧ upaX ((uwoX x).take n) = upaR R := fun R hR => by
    have hl : ¬ 1500 < ((uwoX x).take n).length := by rw [List.length_take, h3]; omega
    rw [upaE_in hl, upaX_in hl, hR]
    exact ⟨rfl, rfl⟩
  have hshort : ∀ R, R = (Except.error 20 : Except Int Ul) → upaV R = 20 ∧ upaR R = Ul.none := fun R hR => by rw [hR]; exact ⟨rfl, rfl⟩
  have h10 : n < 10 → urdX ((uwoX x).take n) = .error 20 := fun hlt => by
    have hb : uat ((uwoX x).take n) 0 < 128 := by
      rw [h3]
      unfold ubyX
      have := (uhd_same hok (x.Ls.flatMap (lvB x.lg)) []).2.2
      unfold uat at this ⊢
      cases n with
      | zero => simp
      | succ n =>
        rw [List.getD_eq_getElem?_getD, List.getElem?_take_of_lt (by omega), ← List.getD_eq_getElem?_getD]
        exact this
    exact urd_short (by omega) (by rw [List.length_take]; omega)
  have hlen10 := uhdB_len x
  rcases ugood_ls h1 with ⟨L, e, hnil⟩ | ⟨L, M, e, hnil⟩
  · refine ⟨fun hc => by rw [e] at hc; simp at hc, fun _ => ?_⟩
    by_cases hlt : n < 10
    · have := hpar (.error 20) (h10 hlt); rw [this.1, this.2]; exact hshort _ rfl
    have hL := hg L (by rw [e]; simp)
    have hby := uby_one e
    rw [h3, hby, List.length_append, hlen10] at hn
    have ht : (uwoX x).take n = uhdB x ++ (lvB x.lg L).take (n - 10) := by
      rw [h3, hby, List.take_append, hlen10, List.take_of_length_le (by omega)]
    have hF := lv_cutoff (m := n - 10) hL hlen10 (by omega)
    have := hpar (.error 20) (by rw [ht]; exact urd_er hok (lvF_short (by simp) hF))
    rw [this.1, this.2]
    exact hshort _ rfl
  · have hL := hg L (by rw [e]; simp)
    have hM := hg M (by rw [e]; simp)
    have e1 : x.Ls.take 1 = [L] := by rw [e]; rfl
    have hfb := ufst_by e1
    have hby := uby_two e
    have hfl : (uwoX (ufst x)).length = 10 + (lvB x.lg L).length := by rw [h3f, hfb, List.length_append, hlen10]
    have hlpre : (uhdB x ++ lvB x.lg L).length = 10 + (lvB x.lg L).length := by rw [List.length_append, hlen10]
    rw [h3, hby, List.length_append, hlpre] at hn
    rw [hfl]
    refine ⟨fun hc => ?_, fun hc => ?_⟩
    · have ht : (uwoX x).take n = uhdB x ++ lvB x.lg L := by
        rw [h3, hby, hc.2, ← hlpre, List.take_left]
      have := hpar (.ok { ulow x with Ls := [L] }) (by rw [ht]; exact urd_of hok (lvF_one hL hlen10) (by simp [hnil]))
      refine ⟨this.1, this.2.trans ?_, by rw [ht, h3f, hfb]⟩
      show ({ ulow x with Ls := [L] } : Ul) = ulow (ufst x)
      rw [← e1]
      rfl
    · by_cases hlt : n < 10
      · have := hpar (.error 20) (h10 hlt); rw [this.1, this.2]; exact hshort _ rfl
      by_cases hl2 : n < 10 + (lvB x.lg L).length
      · have ht : (uwoX x).take n = uhdB x ++ (lvB x.lg L).take (n - 10) := by
          rw [h3, hby, List.append_assoc, List.take_append, hlen10, List.take_of_length_le (by omega), List.take_append, show n - 10 - (lvB x.lg L).length = 0 by omega, List.take_zero, List.append_nil]
        have hF := lv_cutoff (m := n - 10) hL hlen10 (by omega)
        have := hpar (.error 20) (by rw [ht]; exact urd_er hok (lvF_short (by simp) hF))
        rw [this.1, this.2]
        exact hshort _ rfl
      · have hne : n ≠ 10 + (lvB x.lg L).length := fun hh => hc ⟨by rw [e]; rfl, hh⟩
        have ht : (uwoX x).take n = uhdB x ++ lvB x.lg L ++ (lvB x.lg M).take (n - (10 + (lvB x.lg L).length)) := by
          rw [h3, hby, List.take_append, hlpre, List.take_of_length_le (by omega)]
        have hb := lv_back (rest := (lvB x.lg M).take (n - (10 + (lvB x.lg L).length))) hL hlen10
        have hF := lv_cutoff (m := n - (10 + (lvB x.lg L).length)) hM hlpre (by omega)
        have hz : (uhdB x ++ lvB x.lg L ++ (lvB x.lg M).take (n - (10 + (lvB x.lg L).length))).length = n := by rw [List.length_append, hlpre, List.length_take]; omega
        have h8 := lvB_len x.lg L
        have := hpar (.error 20) (by
          rw [ht, List.append_assoc]
          refine urd_er hok ?_
          rw [← List.append_assoc, lvF_more (by simp) (by rw [hb.2.1, hz]; omega), hb.2.1]
          exact lvF_short (by rw [hz]; simp; omega) hF)
        rw [this.1, this.2]
        exact hshort _ rfl
/-- A first bit that is turned. -/
theorem uodd_back {zs : List Int} (hl : zs.length ≤ 1500) (h1 : 1 ≤ zs.length) (h2 : 128 ≤ uat zs 0) : upaE zs = 21 := by
  rw [upaE_in (by omega), urd_odd h1 h2]
  rfl
theorem ufirst_low {x : Ul} (hok : x.Ok) (hw : uweX x = 0) : 0 ≤ uat (uwoX x) 0 ∧ uat (uwoX x) 0 < 128 ∧ 10 ≤ (uwoX x).length := by
  obtain ⟨h1, h2, h3⟩ := uwe_zero hw
  rw [h3]
  have r := hok.r0
  refine ⟨?_, (uhd_same hok (x.Ls.flatMap (lvB x.lg)) []).2.2, by unfold ubyX; rw [List.length_append, uhdB_len]; omega⟩
  unfold ubyX uhdB uat
  simp
  split <;> omega

theorem uat_byt {zs : List Int} (hb : Byt zs) (i : Nat) : 0 ≤ uat zs i ∧ uat zs i ≤ 255 := by
  unfold uat
  rw [List.getD_eq_getElem?_getD]
  cases h : zs[i]? with
  | none => simp
  | some y => exact hb y (List.mem_of_getElem? h)
/-- A level that is read: it is right, and is written as the bytes that it was read from. -/
theorem lv_read {zs : List Int} {lg : Bool} {p : Nat} (hb : Byt zs) (hl : zs.length ≤ 1500) (h1 : ¬ (zs.length < p + 2 + siz lg ∨ zs.length < lvE zs lg p)) :
    LvG lg (lvAt zs lg p) ∧ zs.drop p = lvB lg (lvAt zs lg p) ++ zs.drop (lvE zs lg p) ∧ p < lvE zs lg p := by
  obtain ⟨w1, w2, w3, w4⟩ := wid_le lg
  have hle : lvE zs lg p ≤ zs.length := by omega
  have hE : lvE zs lg p = p + 2 + siz lg + lvN zs p := rfl
  have hBl : (lvAt zs lg p).B.length = lvN zs p := cut_len (by omega)
  have b2 := ubig_cut2 hb p (by omega)
  have hN : (lvN zs p : Int) = bigN (cut zs p 2) := by unfold lvN; omega
  have hX1 := bigN_lt (hb.cut (p + 2) (siz lg))
  have hX0 := (bigN_small (hb.cut (p + 2) (siz lg)) (k := 7) (by rw [cut_len (show p + 2 + siz lg ≤ zs.length by omega)]; omega) (Nat.le_refl _)).1
  rw [cut_len (show p + 2 + siz lg ≤ zs.length by omega)] at hX1
  have hX : (lvX zs lg p : Int) = bigN (cut zs (p + 2) (siz lg)) := by unfold lvX; omega
  have h256 : (256 : Int) ^ siz lg = ((2 ^ wid lg : Nat) : Int) := by cases lg <;> rfl
  have hXl : lvX zs lg p < 2 ^ wid lg := by
    rw [h256] at hX1
    omega
  refine ⟨⟨lyH_lt 0 (wid lg) (lvX zs lg p), lyL_lt 0 (wid lg) (lvX zs lg p), hb.cut _ _, by rw [hBl]; omega, ulay_last w1 w2 _⟩, ?_, by omega⟩
  have hpt : ptN (lvAt zs lg p).h (lvAt zs lg p).l 0 (wid lg) = lvX zs lg p := by
    have h := part_lay 0 (wid lg) (lvX zs lg p) (by decide) w1
    rw [Nat.and_two_pow_sub_one_eq_mod, Nat.mod_eq_of_lt hXl] at h
    exact h
  have e1 : bigL ((lvAt zs lg p).B.length : Int) 2 = cut zs p 2 := by
    have h := bigL_bigN (hb.cut p 2)
    rw [cut_len (show p + 2 ≤ zs.length by omega)] at h
    rw [hBl, hN, h]
  have e2 : bigL (ptN (lvAt zs lg p).h (lvAt zs lg p).l 0 (wid lg) : Int) (siz lg) = cut zs (p + 2) (siz lg) := by
    have h := bigL_bigN (hb.cut (p + 2) (siz lg))
    rw [cut_len (show p + 2 + siz lg ≤ zs.length by omega)] at h
    rw [hpt, hX, h]
  have e3 : lvB lg (lvAt zs lg p) = cut zs p (2 + siz lg + lvN zs p) := by
    unfold lvB
    rw [e1, e2, ucut_add, ucut_add, show p + (2 + siz lg) = p + 2 + siz lg by omega]
    rfl
  rw [e3, hE, show p + 2 + siz lg + lvN zs p = p + (2 + siz lg + lvN zs p) by omega, ← List.drop_drop]
  exact (List.take_append_drop _ _).symm
theorem lvF_read {zs : List Int} {lg : Bool} (hb : Byt zs) (hl : zs.length ≤ 1500) : ∀ (f p : Nat) (acc Ls : List Lv), p ≤ zs.length → lvF zs lg f p acc = .ok Ls →
    ∃ Ms, Ls = acc ++ Ms ∧ Ls ≠ [] ∧ Ms.length ≤ f ∧ zs.drop p = Ms.flatMap (lvB lg) ∧ ∀ L ∈ Ms, LvG lg L := by
  intro f
  induction f with
  | zero =>
    intro p acc Ls hp h
    by_cases hd : acc ≠ [] ∧ zs.length ≤ p
    · rw [lvF_done hd] at h
      injection h with h
      subst h
      exact ⟨[], by simp, hd.1, Nat.le_refl _, by rw [List.drop_eq_nil_of_le hd.2]; rfl, fun L hL => by cases hL⟩
    · by_cases hs : zs.length < p + 2 + siz lg ∨ zs.length < lvE zs lg p
      · rw [lvF_short hd hs] at h; cases h
      · rw [lvF_many hd hs] at h; cases h
  | succ f ih =>
    intro p acc Ls hp h
    by_cases hd : acc ≠ [] ∧ zs.length ≤ p
    · rw [lvF_done hd] at h
      injection h with h
      subst h
      exact ⟨[], by simp, hd.1, Nat.zero_le _, by rw [List.drop_eq_nil_of_le hd.2]; rfl, fun L hL => by cases hL⟩
    · by_cases hs : zs.length < p + 2 + siz lg ∨ zs.length < lvE zs lg p
      · rw [lvF_short hd hs] at h; cases h
      · rw [lvF_more hd hs] at h
        obtain ⟨r1, r2, r3⟩ := lv_read hb hl hs
        obtain ⟨Ms, e1, e2, e3, e4, e5⟩ := ih _ _ _ (by omega) h
        refine ⟨lvAt zs lg p :: Ms, by rw [e1]; simp, e2, by rw [List.length_cons]; omega, by rw [r2, e4]; simp, fun L hL => ?_⟩
        rcases List.mem_cons.1 hL with rfl | hL
        · exact r1
        · exact e5 L hL
theorem uhd_bytes {zs : List Int} (hb : Byt zs) (hl : 10 ≤ zs.length) (h0 : uat zs 0 < 128) (Ls : List Lv) : uhdB (uhdX zs Ls) = zs.take 10 := by
  have b2 := bigL_bigN (hb.cut 2 2)
  rw [cut_len (show 2 + 2 ≤ zs.length by omega)] at b2
  unfold uhdB uhdX
  simp only
  rw [b2]
  have u0 := uat_byt hb 0
  match zs, hl with
  | a0 :: a1 :: a2 :: a3 :: a4 :: a5 :: a6 :: a7 :: a8 :: a9 :: t, _ =>
    have hh : (uat (a0 :: a1 :: a2 :: a3 :: a4 :: a5 :: a6 :: a7 :: a8 :: a9 :: t) 0 % 64 % 64 + if lgB (a0 :: a1 :: a2 :: a3 :: a4 :: a5 :: a6 :: a7 :: a8 :: a9 :: t) = true then 64 else 0) = a0 := by
      have e : uat (a0 :: a1 :: a2 :: a3 :: a4 :: a5 :: a6 :: a7 :: a8 :: a9 :: t) 0 = a0 := rfl
      unfold lgB
      rw [e] at u0 h0 ⊢
      by_cases h : (64 : Int) ≤ a0
      · rw [if_pos (by simpa using h)]; omega
      · rw [if_neg (by simpa using h)]; omega
    rw [hh]
    simp [uat, cut]
/-- What is read is right, and is written as the same bytes. -/
theorem urd_back {zs : List Int} (hb : Byt zs) (h : upaE zs = 0) : (upaX zs).Ok ∧ uweX (upaX zs) = 0 ∧ uwoX (upaX zs) = zs := by
  by_cases hl : 1500 < zs.length
  · unfold upaE at h; rw [if_pos hl] at h; cases h
  rw [upaE_in hl] at h
  rw [upaX_in hl]
  cases hR : urdX zs with
  | error e => rw [hR] at h; exact absurd h (urd_err hR)
  | ok x =>
    show x.Ok ∧ uweX x = 0 ∧ uwoX x = zs
    by_cases c1 : 1 ≤ zs.length ∧ 128 ≤ uat zs 0
    · rw [urd_odd c1.1 c1.2] at hR; cases hR
    by_cases c2 : zs.length < 10
    · rw [urd_short c1 c2] at hR; cases hR
    rw [urd_lev c1 c2] at hR
    cases hF : lvF zs (lgB zs) 2 10 [] with
    | error e => rw [hF] at hR; cases hR
    | ok Ls =>
      rw [hF] at hR
      simp only at hR
      by_cases hn : (Ls.head?.map isNil).getD true = true
      · rw [if_pos hn] at hR; cases hR
      rw [if_neg hn] at hR
      injection hR with hR
      obtain ⟨Ms, e1, e2, e3, e4, e5⟩ := lvF_read hb (by omega) 2 10 [] Ls (by omega) hF
      rw [List.nil_append] at e1
      subst e1
      have u0 := uat_byt hb 0
      have hok : x.Ok := by
        subst hR
        exact ⟨by show 0 ≤ uat zs 0 % 64 ∧ uat zs 0 % 64 ≤ 255; omega, uat_byt hb 1, uat_byt hb 4, uat_byt hb 5, uat_byt hb 6, uat_byt hb 7, uat_byt hb 8, uat_byt hb 9, ubig_cut2 hb 2 (by omega), fun L hL => ⟨(e5 L hL).h, (e5 L hL).l, (e5 L hL).B⟩⟩
      have hby : ubyX x = zs := by
        subst hR
        unfold ubyX
        rw [uhd_bytes hb (by omega) (by omega)]
        show zs.take 10 ++ Ls.flatMap (lvB (lgB zs)) = zs
        rw [← e4, List.take_append_drop]
      have hw : uweX x = 0 := by
        refine uwe_of (uwr_zero ?_ ?_ ?_ ?_) (by rw [hby]; omega)
        · subst hR; show Ls.length ≠ 0; intro h0; exact e2 (List.eq_nil_of_length_eq_zero h0)
        · subst hR; exact e3
        · subst hR; show (Ls.head?.map isNil).getD true = false; simpa using hn
        · subst hR; exact fun L hL => ⟨(e5 L hL).far, (e5 L hL).len⟩
      exact ⟨hok, hw, by rw [(uwe_zero hw).2.2, hby]⟩
/-- A repair's pack is flat as it. -/
theorem uof_flat {r : Rp} {cut : Int} (hw : uofE r cut = 0) : uofX r cut = upkOf r cut ∧ ufE (uofX r cut) = 0 ∧ ufX (uofX r cut) = { r with h0 := r.h0 % 64 } := by
  have e : uofX r cut = upkOf r cut := if_pos hw
  rw [e]
  have hwe : uweX (upkOf r cut) = 0 := hw
  have hcs : ∃ z t, cutsOf r.B cut = z :: t := by
    unfold cutsOf
    split <;> exact ⟨_, _, rfl⟩
  obtain ⟨z, t, hz⟩ := hcs
  have hhd : headL (upkOf r cut).Ls = ⟨r.h, r.l, z⟩ := by unfold upkOf; simp only [hz]; rfl
  have hal : (upkOf r cut).Ls.all (hasM (headL (upkOf r cut).Ls).h (headL (upkOf r cut).Ls).l) = true := by
    rw [hhd, List.all_eq_true]
    intro L hL
    obtain ⟨b, _, rfl⟩ := List.mem_map.1 hL
    simp [hasM]
  have hcat : catB (upkOf r cut).Ls = r.B := by
    unfold upkOf catB cutsOf
    split
    · simp
    · simp
  have hE : ufE (upkOf r cut) = 0 := by
    unfold ufE
    rw [if_neg (by simp [hwe]), if_pos hal]
  refine ⟨rfl, hE, ?_⟩
  unfold ufX
  rw [if_pos hE, hhd, hcat]
  unfold upkOf
  simp only
  congr 1
  omega

theorem uown_zero2 {w : World} {e : TypeId} {a : Option Addr} {n c : Nat} {xs : List Value} (h : w.ownsRow 0 e 1 (.slice a n c) n xs) : a = none → c = 0 := by
  obtain ⟨a', c', hv, _, hn⟩ := own_shape h
  injection hv with h1 h2 h3
  subst h1 h3
  exact hn
/-- The example's one level in its block. -/
theorem usl_of {k : IntKind} {w : World} {e : TypeId} {v : Value} {n : Nat} {xs : List Int} (h : w.ownsRow 0 e 1 v n (xs.map (Value.int k))) :
    ∃ a c, v = .slice a xs.length c ∧ RdI k w a xs ∧ (a = none → c = 0) ∧ xs.length ≤ c ∧ c ≤ 9223372036854775807 := by
  obtain ⟨a, c, hv, hl, hr⟩ := RdI.of_own h
  subst hv
  have hn : n = xs.length := by have := h.1; simpa using this.symm
  subst hn
  refine ⟨a, c, rfl, hr, uown_zero2 h, hl, ?_⟩
  rcases h.2 with ⟨h1, _⟩ | ⟨g, cp, cur, h1, h2, h3, h4, h5, _⟩
  · injection h1 with h1 _ h3; subst h3; decide
  · injection h1 with h1 _ h3; subst h3; unfold maxLen at *; omega

end Go.Proofs.YtjflcijiaennkaaDoor
