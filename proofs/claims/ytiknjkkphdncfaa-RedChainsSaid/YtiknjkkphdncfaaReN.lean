/-
  WRITTEN BLOCKS ARE PARSED BACK; A PARSED CHAIN IS WRITTEN AS THE SAME BYTES: in plain Lean.
-/
import Derived.Test.YtiknjkkphdncfaaReK
set_option linter.unusedVariables false
set_option linter.unusedSimpArgs false
namespace Go.Proofs.Ytiknjkkphdncfaa
open Go.RowKit

theorem cut_mid {pre X post : List Int} {a m : Nat} (ha : pre.length = a) (hm : X.length = m) : cut (pre ++ (X ++ post)) a m = X := by
  subst ha hm
  unfold cut
  rw [List.drop_left, List.take_left]
theorem cut_add (zs : List Int) (a m k : Nat) : cut zs a (m + k) = cut zs a m ++ cut zs (a + m) k := by
  unfold cut
  rw [List.take_add, List.drop_drop]
theorem bigL3 (n : Int) : bigL n 3 = [n / 65536 % 256, n / 256 % 256, n % 256] := by
  have h3 : List.range 3 = [0, 1, 2] := rfl
  unfold bigL dig
  rw [h3]
  simp
theorem bigN_bigL3 {n : Int} (h0 : 0 ≤ n) (h1 : n < 16777216) : bigN (bigL n 3) = n := by
  rw [bigL3]
  simp [bigN]
  omega
theorem bigL_bigN3 {ys : List Int} (h : Byt ys) (hl : ys.length = 3) : bigL (bigN ys) 3 = ys := by
  match ys, hl with
  | [a, b, c], _ =>
    have ha := h a (by simp)
    have hb := h b (by simp)
    have hc := h c (by simp)
    rw [bigL3]
    simp [bigN]
    omega
theorem catK_more (f : Nat → BkV → List Int) (bs : List BkV) (k : Nat) : ∀ d, ∃ rest, catK f bs (k + d) = catK f bs k ++ rest := by
  intro d
  induction d with
  | zero => exact ⟨[], by simp⟩
  | succ d ih =>
    obtain ⟨r, hr⟩ := ih
    refine ⟨r ++ (match bs[k + d]? with | some b => f (k + d) b | none => []), ?_⟩
    rw [← List.append_assoc, ← hr]
    unfold catK
    rw [show k + (d + 1) = (k + d) + 1 by omega, List.range_succ, List.flatMap_append]
    congr 1
    simp only [List.flatMap_cons, List.flatMap_nil, List.append_nil]
    cases bs[k + d]? <;> rfl
theorem catK_split (f : Nat → BkV → List Int) {bs : List BkV} {k n : Nat} {b : BkV} (hk : k < n) (hb : bs[k]? = some b) : ∃ rest, catK f bs n = catK f bs k ++ (f k b ++ rest) := by
  obtain ⟨r, hr⟩ := catK_more f bs (k + 1) (n - (k + 1))
  rw [show k + 1 + (n - (k + 1)) = n by omega, catK_succ f hb, List.append_assoc] at hr
  exact ⟨r, hr⟩
def hdOf (b : BkV) : Hd := ⟨b.pt, b.off, (b.B.length : Int), false⟩
theorem hdK_len {n : Nat} {bs : List BkV} (hn : n = bs.length) {k : Nat} (hk : k < n) : (catK (hdB n) bs k).length = 4 * k := by
  have h := hds_len (bs := bs) hn k (by omega)
  rw [if_pos hk, if_pos hk] at h
  omega
theorem hdOne_more {zs : List Int} {a : Nat} {x N : Int} (hx : cut zs a 1 = [x]) (h128 : 128 ≤ x) (h3 : cut zs (a + 1) 3 = bigL N 3) (n0 : 0 ≤ N) (n1 : N < 16777216) (hl : a + 4 ≤ zs.length) :
    hdOne zs a = .ok (⟨x - 128, N / 1024, N % 1024, false⟩, a + 4) := by
  unfold hdOne
  rw [if_neg (by omega), hx, h3, bigN_bigL3 n0 n1]
  rw [show bigN [x] = x by simp [bigN], if_neg (by omega), if_neg (by omega)]
theorem hdOne_last {zs : List Int} {a : Nat} {x : Int} (hx : cut zs a 1 = [x]) (h128 : x < 128) (hl : a + 1 ≤ zs.length) :
    hdOne zs a = .ok (⟨x, 0, 0, true⟩, a + 1) := by
  unfold hdOne
  rw [if_neg (by omega), hx]
  rw [show bigN [x] = x by simp [bigN], if_pos h128]
/-- The headers of blocks that were written. -/
theorem hds_back {bs : List BkV} (hr : Right bs) (m : Nat) (hm : m + 1 = bs.length) {l : BkV} (hl : bs[m]? = some l) : ∀ (d k f : Nat), k + d = m → d < f →
    hdsF f (bytesB bs) (4 * k) ((bs.take k).map hdOf) = .ok ((bs.take m).map hdOf ++ [⟨l.pt, 0, 0, true⟩], 4 * m + 1) := by
  intro d
  induction d with
  | zero =>
    intro k f hk hf
    obtain ⟨f, rfl⟩ : ∃ g, f = g + 1 := ⟨f - 1, by omega⟩
    obtain rfl : k = m := by omega
    have ho := hr.odd k l hl
    simp [oddB] at ho
    obtain ⟨rest, he⟩ := catK_split (hdB bs.length) (show k < bs.length by omega) hl
    have hz : bytesB bs = catK (hdB bs.length) bs k ++ ([l.pt] ++ (rest ++ catK (fun _ b => b.B) bs bs.length)) := by
      unfold bytesB
      rw [he, show hdB bs.length k l = [l.pt] by unfold hdB; rw [if_pos hm]]
      simp
    have hcl := hdK_len (bs := bs) rfl (show k < bs.length by omega)
    have h1 : cut (bytesB bs) (4 * k) 1 = [l.pt] := by rw [hz]; exact cut_mid hcl rfl
    unfold hdsF
    rw [hdOne_last h1 (by omega) (by rw [hz]; simp only [List.length_append, hcl, List.length_cons]; omega)]
    have h8 := hr.few
    simp only
    rw [if_neg (by rw [List.length_map, List.length_take]; omega)]
    rfl
  | succ d ih =>
    intro k f hk hf
    obtain ⟨f, rfl⟩ : ∃ g, f = g + 1 := ⟨f - 1, by omega⟩
    obtain ⟨b, hb⟩ : ∃ b, bs[k]? = some b := ⟨_, List.getElem?_eq_getElem (by omega)⟩
    have ho := hr.odd k b hb
    have hlo := hr.long k b hb
    simp [oddB] at ho
    simp [longB] at hlo
    obtain ⟨⟨⟨⟨p0, p1⟩, o0⟩, o1⟩, o2⟩ := ho
    have hB := hlo (by omega)
    obtain ⟨rest, he⟩ := catK_split (hdB bs.length) (show k < bs.length by omega) hb
    have hz : bytesB bs = catK (hdB bs.length) bs k ++ ([b.pt + 128] ++ (bigL (b.off * 1024 + (b.B.length : Int)) 3 ++ (rest ++ catK (fun _ b => b.B) bs bs.length))) := by
      unfold bytesB
      rw [he, show hdB bs.length k b = (b.pt + 128) :: bigL (b.off * 1024 + (b.B.length : Int)) 3 by unfold hdB; rw [if_neg (by omega)]]
      simp
    have hcl := hdK_len (bs := bs) rfl (show k < bs.length by omega)
    have h1 : cut (bytesB bs) (4 * k) 1 = [b.pt + 128] := by rw [hz]; exact cut_mid hcl rfl
    have h3 : cut (bytesB bs) (4 * k + 1) 3 = bigL (b.off * 1024 + (b.B.length : Int)) 3 := by
      rw [hz, ← List.append_assoc]
      exact cut_mid (by rw [List.length_append, hcl]; rfl) (bigL_len _ _)
    have hlen : 4 * k + 4 ≤ (bytesB bs).length := by
      rw [hz]
      simp only [List.length_append, hcl, List.length_cons, List.length_nil, bigL_len]
      omega
    unfold hdsF
    rw [hdOne_more h1 (by omega) h3 (by omega) (by omega) hlen]
    have h8 := hr.few
    simp only
    rw [if_neg (by rw [List.length_map, List.length_take]; omega)]
    simp only [Bool.false_eq_true, if_false]
    have e : (⟨b.pt + 128 - 128, (b.off * 1024 + (b.B.length : Int)) / 1024, (b.off * 1024 + (b.B.length : Int)) % 1024, false⟩ : Hd) = hdOf b := by
      unfold hdOf
      congr 1 <;> omega
    rw [e, show List.map hdOf (bs.take k) ++ [hdOf b] = (bs.take (k + 1)).map hdOf by rw [List.take_add_one, hb, List.map_append]; rfl, show 4 * k + 4 = 4 * (k + 1) by omega]
    exact ih (k + 1) f (by omega) (by omega)
theorem catB_len {bs : List BkV} {k : Nat} {b : BkV} (hb : bs[k]? = some b) : (catK (fun _ b => b.B) bs (k + 1)).length = (catK (fun _ b => b.B) bs k).length + b.B.length := by rw [catK_succ _ hb, List.length_append]
/-- The data of blocks that were written. -/
theorem bks_back {bs : List BkV} (hr : Right bs) (m : Nat) (hm : m + 1 = bs.length) {l : BkV} (hl : bs[m]? = some l) : ∀ k, k ≤ m →
    bksL (bytesB bs) (4 * m + 1) ((bs.take k).map hdOf) = .ok ((bs.take k).map BkV.bk, 4 * m + 1 + (catK (fun _ b => b.B) bs k).length) := by
  have hh := hds_len (bs := bs) rfl bs.length (Nat.le_refl _)
  rw [if_neg (by omega), if_neg (by omega), if_neg (by omega)] at hh
  have hhl : (catK (hdB bs.length) bs bs.length).length = 4 * m + 1 := by omega
  intro k
  induction k with
  | zero => intro _; simp [bksL, catK]
  | succ k ih =>
    intro hk
    obtain ⟨b, hb⟩ : ∃ b, bs[k]? = some b := ⟨_, List.getElem?_eq_getElem (by omega)⟩
    rw [show (bs.take (k + 1)).map hdOf = (bs.take k).map hdOf ++ [hdOf b] by rw [List.take_add_one, hb, List.map_append]; rfl, bksL_snoc, ih (by omega)]
    obtain ⟨rest, he⟩ := catK_split (fun _ b => b.B) (show k < bs.length by omega) hb
    have hz : bytesB bs = (catK (hdB bs.length) bs bs.length ++ catK (fun _ b => b.B) bs k) ++ (b.B ++ rest) := by
      unfold bytesB
      rw [he]
      simp
    have hc : cut (bytesB bs) (4 * m + 1 + (catK (fun _ b => b.B) bs k).length) b.B.length = b.B := by
      rw [hz]
      exact cut_mid (by rw [List.length_append, hhl]) rfl
    have hln : 4 * m + 1 + (catK (fun _ b => b.B) bs k).length + b.B.length ≤ (bytesB bs).length := by
      rw [hz]
      simp only [List.length_append, hhl]
      omega
    unfold bkStep bkOne hdLen
    simp only [hdOf, Bool.false_eq_true, if_false, Int.toNat_natCast]
    rw [if_neg (by omega), hc, catB_len hb]
    simp only
    rw [List.take_add_one, hb, List.map_append]
    simp [BkV.bk]
    omega
/-- What was written is parsed back. -/
theorem chain_back {bs : List BkV} (h : wrongE bs = 0) : chainL (bytesB bs) = .ok (bs.map BkV.bk, (bytesB bs).length) := by
  have hr := right_of h
  have hp := hr.pos
  obtain ⟨m, hm⟩ : ∃ m, m + 1 = bs.length := ⟨bs.length - 1, by omega⟩
  obtain ⟨l, hl⟩ : ∃ l, bs[m]? = some l := ⟨_, List.getElem?_eq_getElem (by omega)⟩
  have h8 := hr.few
  have h1 := hds_back hr m hm hl m 0 9 (by omega) (by omega)
  have ho := hr.odd m l hl
  simp [oddB] at ho
  have h2 := bks_back hr m hm hl m (Nat.le_refl _)
  have hh := hds_len (bs := bs) rfl bs.length (Nat.le_refl _)
  rw [if_neg (by omega), if_neg (by omega), if_neg (by omega)] at hh
  have hhl : (catK (hdB bs.length) bs bs.length).length = 4 * m + 1 := by omega
  obtain ⟨rest, he⟩ := catK_split (fun _ b => b.B) (show m < bs.length by omega) hl
  have hrest : rest = [] := by
    have h3 := catB_len hl
    rw [hm, he, List.length_append, List.length_append] at h3
    exact List.eq_nil_of_length_eq_zero (by omega)
  subst hrest
  have hz : bytesB bs = (catK (hdB bs.length) bs bs.length ++ catK (fun _ b => b.B) bs m) ++ (l.B ++ []) := by
    unfold bytesB
    rw [he]
    simp
  have hzl : (bytesB bs).length = 4 * m + 1 + (catK (fun _ b => b.B) bs m).length + l.B.length := by
    rw [hz]
    simp only [List.length_append, hhl, List.length_nil]
    omega
  have hc : cut (bytesB bs) (4 * m + 1 + (catK (fun _ b => b.B) bs m).length) l.B.length = l.B := by
    rw [hz]
    exact cut_mid (by rw [List.length_append, hhl]) rfl
  unfold chainL
  rw [show 4 * 0 = 0 from rfl] at h1
  simp only [List.take_zero, List.map_nil] at h1
  rw [h1]
  simp only
  rw [bksL_snoc, h2]
  unfold bkStep bkOne hdLen
  simp only [if_true]
  rw [hzl, show 4 * m + 1 + (catK (fun _ b => b.B) bs m).length + l.B.length - (4 * m + 1 + (catK (fun _ b => b.B) bs m).length) = l.B.length by omega, if_neg (by omega), hc]
  simp only
  have e : bs.map BkV.bk = (bs.take m).map BkV.bk ++ [l.bk] := by
    conv => lhs; rw [← List.take_length (l := bs), ← hm, List.take_add_one, hl]
    simp
  rw [e]
  have : l.off = 0 := by
    have := ho.2 (by omega)
    exact this
  simp [BkV.bk, this]

end Go.Proofs.Ytiknjkkphdncfaa
