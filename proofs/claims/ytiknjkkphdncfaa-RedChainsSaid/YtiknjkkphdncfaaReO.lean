/-
  A PARSED CHAIN IS WRITTEN AS THE SAME BYTES: in plain Lean.
-/
import Derived.Test.YtiknjkkphdncfaaReN
set_option linter.unusedVariables false
set_option linter.unusedSimpArgs false
namespace Go.Proofs.Ytiknjkkphdncfaa
open Go.RowKit

def rawH (h : Hd) : List Int := if h.last = true then [h.pt] else (h.pt + 128) :: bigL (h.off * 1024 + h.size) 3
structure HdOk (h : Hd) : Prop where
  p0 : 0 ≤ h.pt
  p1 : h.pt ≤ 127
  o0 : 0 ≤ h.off
  o1 : h.off ≤ 16383
  s0 : 0 ≤ h.size
  s1 : h.size ≤ 1023
  l : h.last = true → h.off = 0
theorem cut_one {zs : List Int} (hz : Byt zs) {a : Nat} (ha : a + 1 ≤ zs.length) : ∃ x, cut zs a 1 = [x] ∧ 0 ≤ x ∧ x ≤ 255 := by
  have hl := cut_len ha
  have hb := hz.cut a 1
  match hc : cut zs a 1, hl with
  | [x], _ =>
    rw [hc] at hb
    have := hb x (by simp)
    exact ⟨x, rfl, this.1, this.2⟩
theorem hdOne_raw {zs : List Int} (hz : Byt zs) {a n : Nat} {h : Hd} (he : hdOne zs a = .ok (h, n)) : HdOk h ∧ a < n ∧ n ≤ zs.length ∧ cut zs a (n - a) = rawH h := by
  have hle := hdOne_le he
  unfold hdOne at he
  split at he
  · cases he
  · rename_i h1
    obtain ⟨x, hx, x0, x1⟩ := cut_one hz (show a + 1 ≤ zs.length by omega)
    have hbx : bigN (cut zs a 1) = x := by rw [hx]; simp [bigN]
    rw [hbx] at he
    split at he
    · rename_i h2
      injection he with he; injection he with e1 e2
      subst e1 e2
      exact ⟨⟨x0, (show x ≤ 127 by omega), Int.le_refl 0, (show (0 : Int) ≤ 16383 by decide), Int.le_refl 0, (show (0 : Int) ≤ 1023 by decide), fun _ => rfl⟩, hle.1, hle.2, by rw [show a + 1 - a = 1 by omega, hx]; rfl⟩
    · rename_i h2
      split at he
      · cases he
      · rename_i h4
        injection he with he; injection he with e1 e2
        subst e1 e2
        have hc3 : (cut zs (a + 1) 3).length = 3 := cut_len (by omega)
        have hb3 := bigN_lt (hz.cut (a + 1) 3)
        rw [hc3] at hb3
        have hb3' : bigN (cut zs (a + 1) 3) < 16777216 := by simpa using hb3.2
        refine ⟨⟨by simp only; omega, by simp only; omega, by simp only; omega, by simp only; omega, by simp only; omega, by simp only; omega, fun h => by cases h⟩, hle.1, hle.2, ?_⟩
        rw [show a + 4 - a = 1 + 3 by omega, cut_add, hx]
        unfold rawH
        simp only [Bool.false_eq_true, if_false]
        rw [show bigN (cut zs (a + 1) 3) / 1024 * 1024 + bigN (cut zs (a + 1) 3) % 1024 = bigN (cut zs (a + 1) 3) by omega, bigL_bigN3 (hz.cut (a + 1) 3) hc3, show x - 128 + 128 = x by omega]
        rfl
theorem hdsF_raw {zs : List Int} (hz : Byt zs) : ∀ (f a : Nat) (hs hs' : List Hd) (n : Nat), hs.length ≤ 8 → hdsF f zs a hs = .ok (hs', n) →
    ∃ ns l, hs' = hs ++ (ns ++ [l]) ∧ l.last = true ∧ (∀ h ∈ ns, h.last = false) ∧ (∀ h ∈ ns ++ [l], HdOk h) ∧ hs'.length ≤ 8 ∧ a ≤ n ∧ n ≤ zs.length ∧ cut zs a (n - a) = (ns ++ [l]).flatMap rawH := by
  intro f
  induction f with
  | zero => intro a hs hs' n _ h; cases h
  | succ f ih =>
    intro a hs hs' n h8 h
    unfold hdsF at h
    split at h
    · cases h
    · rename_i x m hx
      obtain ⟨hok, h1, h2, h3⟩ := hdOne_raw hz hx
      split at h
      · cases h
      · rename_i hne
        split at h
        · rename_i hl
          injection h with h; injection h with e1 e2
          subst e1 e2
          refine ⟨[], x, rfl, hl, by simp, by simpa using hok, by rw [List.length_append]; simp; omega, by omega, h2, by simpa using h3⟩
        · rename_i hl
          obtain ⟨ns, l, e1, e2, e3, e4, e5, e6, e7, e8⟩ := ih m (hs ++ [x]) hs' n (by simp; omega) h
          refine ⟨x :: ns, l, by rw [e1]; simp, e2, fun y hy => ?_, fun y hy => ?_, e5, by omega, e7, ?_⟩
          · rcases List.mem_cons.1 hy with rfl | hy
            · simpa using hl
            · exact e3 y hy
          · rcases List.mem_cons.1 hy with rfl | hy
            · exact hok
            · exact e4 y hy
          · rw [show n - a = (m - a) + (n - m) by omega, cut_add, h3, show a + (m - a) = m by omega, e8]
            rfl
/-- Blocks against headers. -/
def BkAs (b : Bk) (h : Hd) : Prop := b.pt = h.pt ∧ b.off = h.off ∧ (h.last = false → 0 ≤ h.size → (b.B.length : Int) = h.size)
theorem bksL_raw {zs : List Int} {a : Nat} (ha : a ≤ zs.length) (hs : List Hd) : ∀ {out : List Bk} {n : Nat}, bksL zs a hs = .ok (out, n) →
    out.length = hs.length ∧ (∀ (i : Nat) b h, out[i]? = some b → hs[i]? = some h → BkAs b h) ∧ a ≤ n ∧ n ≤ zs.length ∧ cut zs a (n - a) = out.flatMap Bk.B := by
  refine wsnoc_ind (p := fun hs => ∀ {out : List Bk} {n : Nat}, bksL zs a hs = .ok (out, n) →
    out.length = hs.length ∧ (∀ (i : Nat) b h, out[i]? = some b → hs[i]? = some h → BkAs b h) ∧ a ≤ n ∧ n ≤ zs.length ∧ cut zs a (n - a) = out.flatMap Bk.B) ?_ ?_ hs
  · intro out n h
    unfold bksL at h
    injection h with h; injection h with h1 h2
    subst h1 h2
    refine ⟨rfl, fun i b h hb => by simp at hb, Nat.le_refl _, ha, by simp [cut]⟩
  · intro l x ih out n h
    rw [bksL_snoc] at h
    unfold bkStep at h
    split at h
    · cases h
    · rename_i o m hr
      obtain ⟨h1, h2, h3, h4, h5⟩ := ih hr
      split at h
      · cases h
      · rename_i b k hb
        injection h with h; injection h with e1 e2
        subst e1 e2
        have hle := bkOne_le hb
        unfold bkOne at hb
        split at hb
        · cases hb
        · rename_i hfit
          injection hb with hb; injection hb with e3 e4
          subst e3 e4
          refine ⟨by simp [h1], fun i b h hb hh => ?_, by omega, hle.2, ?_⟩
          · rcases Nat.lt_trichotomy i o.length with hi | hi | hi
            · rw [List.getElem?_append_left hi] at hb
              rw [List.getElem?_append_left (by omega)] at hh
              exact h2 i b h hb hh
            · rw [hi, List.getElem?_append_right (Nat.le_refl _)] at hb
              rw [hi, h1, List.getElem?_append_right (Nat.le_refl _)] at hh
              simp at hb hh
              subst hb hh
              refine ⟨rfl, rfl, fun hl h0 => ?_⟩
              simp only
              rw [cut_len (by omega)]
              unfold hdLen
              rw [if_neg (by simp [hl])]
              omega
            · rw [List.getElem?_eq_none (by simp; omega)] at hb
              cases hb
          · rw [show m + hdLen zs m x - a = (m - a) + hdLen zs m x by omega, cut_add, h5, show a + (m - a) = m by omega]
            simp
theorem fm_congr {f g : Nat → List Int} : ∀ (l : List Nat), (∀ i ∈ l, f i = g i) → l.flatMap f = l.flatMap g
  | [], _ => rfl
  | i :: l, h => by rw [List.flatMap_cons, List.flatMap_cons, h i (by simp), fm_congr l (fun j hj => h j (by simp [hj]))]
theorem flatMap_range {α : Type} (g : α → List Int) (L : List α) : L.flatMap g = (List.range L.length).flatMap fun i => ((L[i]?).map g).getD [] := by
  refine wsnoc_ind (p := fun L => L.flatMap g = (List.range L.length).flatMap fun i => ((L[i]?).map g).getD []) rfl ?_ L
  intro l x ih
  rw [List.flatMap_append, List.length_append, List.length_singleton, List.range_succ, List.flatMap_append, ih]
  congr 1
  · refine fm_congr _ ?_
    intro i hi
    have := List.mem_range.1 hi
    rw [List.getElem?_append_left this]
  · simp
/-- A chain that was parsed. -/
theorem back_chain {zs : List Int} (hz : Byt zs) {out : List Bk} {n : Nat} (hc : chainL zs = .ok (out, n)) (hl : zs.length ≤ 1500) {bs : List BkV} (hb : bs.map BkV.bk = out) : wrongE bs = 0 ∧ bytesB bs = zs := by
  obtain ⟨hn, hpos, _, _⟩ := chainL_ok hc
  subst hn
  unfold chainL at hc
  split at hc
  · cases hc
  · rename_i hs a he
    obtain ⟨ns, l, e1, e2, e3, e4, e5, e6, e7, e8⟩ := hdsF_raw hz 9 0 [] hs a (by simp) he
    obtain ⟨g1, g2, g3, g4, g5⟩ := bksL_raw e7 hs hc
    rw [List.nil_append] at e1
    have hlen : bs.length = hs.length := by rw [← g1, ← hb, List.length_map]
    have hns : hs.length = ns.length + 1 := by rw [e1]; simp
    have hat : ∀ (i : Nat) b, bs[i]? = some b → ∃ h, hs[i]? = some h ∧ BkAs b.bk h ∧ HdOk h ∧ (h.last = true ↔ i + 1 = bs.length) := by
      intro i b hi
      have hil : i < hs.length := by rw [← hlen]; exact (List.getElem?_eq_some_iff.1 hi).1
      obtain ⟨h, hh⟩ : ∃ h, hs[i]? = some h := ⟨_, List.getElem?_eq_getElem hil⟩
      refine ⟨h, hh, g2 i b.bk h (by rw [← hb, List.getElem?_map, hi]; rfl) hh, e4 h (by rw [← e1]; exact List.mem_of_getElem? hh), ?_⟩
      rw [e1] at hh
      by_cases hi2 : i < ns.length
      · rw [List.getElem?_append_left hi2] at hh
        have := e3 h (List.mem_of_getElem? hh)
        simp [this]
        omega
      · have : i = ns.length := by omega
        subst this
        simp at hh
        subst hh
        simp [e2]
        omega
    have hhd : ∀ k, k ≤ bs.length → catK (hdB bs.length) bs k = (List.range k).flatMap fun i => ((hs[i]?).map rawH).getD [] := by
      intro k hk
      unfold catK
      refine fm_congr _ ?_
      intro i hi
      have hik := List.mem_range.1 hi
      obtain ⟨b, hbi⟩ : ∃ b, bs[i]? = some b := ⟨_, List.getElem?_eq_getElem (by omega)⟩
      obtain ⟨h, hh, ⟨a1, a2, a3⟩, ok, hlast⟩ := hat i b hbi
      rw [hbi, hh]
      simp only [Option.map_some, Option.getD_some]
      unfold hdB rawH
      simp only [BkV.bk] at a1 a2 a3
      by_cases hq : i + 1 = bs.length
      · rw [if_pos hq, if_pos (hlast.2 hq), a1]
      · have hf : h.last = false := by
          cases hv : h.last with
          | true => exact absurd (hlast.1 hv) hq
          | false => rfl
        rw [if_neg hq, if_neg (by simp [hf]), a1, a2, a3 hf ok.s0]
    have hbytes : bytesB bs = zs := by
      unfold bytesB
      rw [hhd bs.length (Nat.le_refl _), hlen, ← flatMap_range rawH hs]
      have hd : catK (fun _ b => b.B) bs hs.length = out.flatMap Bk.B := by
        rw [flatMap_range Bk.B out, g1]
        unfold catK
        refine fm_congr _ ?_
        intro i hi
        rw [← hb, List.getElem?_map]
        cases bs[i]? <;> rfl
      rw [hd, ← g5, e1, ← e8]
      rw [show a - 0 = a by omega]
      have := cut_add zs 0 a (zs.length - a)
      rw [Nat.zero_add] at this
      rw [← this, show a + (zs.length - a) = zs.length by omega]
      simp [cut]
    refine ⟨?_, hbytes⟩
    have h0 : 0 < bs.length := by omega
    have hodd : anyK (oddB bs.length) bs bs.length = false := by
      unfold anyK
      rw [List.any_eq_false]
      intro i hi
      have hik := List.mem_range.1 hi
      obtain ⟨b, hbi⟩ : ∃ b, bs[i]? = some b := ⟨_, List.getElem?_eq_getElem hik⟩
      obtain ⟨h, hh, ⟨a1, a2, a3⟩, ok, hlast⟩ := hat i b hbi
      simp only [BkV.bk] at a1 a2 a3
      have hp0 := ok.p0
      have hp1 := ok.p1
      have ho0 := ok.o0
      have ho1 := ok.o1
      rw [hbi]
      simp only [oddB, a1, a2]
      simp
      refine ⟨⟨⟨⟨hp0, hp1⟩, ho0⟩, ho1⟩, fun hq => ok.l (hlast.2 hq)⟩
    have hlong : anyK (longB bs.length) bs bs.length = false := by
      unfold anyK
      rw [List.any_eq_false]
      intro i hi
      have hik := List.mem_range.1 hi
      obtain ⟨b, hbi⟩ : ∃ b, bs[i]? = some b := ⟨_, List.getElem?_eq_getElem hik⟩
      obtain ⟨h, hh, ⟨a1, a2, a3⟩, ok, hlast⟩ := hat i b hbi
      simp only [BkV.bk] at a1 a2 a3
      rw [hbi]
      simp only [longB]
      simp
      intro hq
      have hf : h.last = false := by
        cases hv : h.last with
        | true => have := hlast.1 hv; omega
        | false => rfl
      have := a3 hf ok.s0
      have := ok.s1
      omega
    unfold wrongE
    rw [if_neg (by omega), if_neg (by rw [hlen]; omega), if_neg (by rw [hodd]; simp), if_neg]
    rw [hlong]
    simp only [Bool.false_eq_true, false_or]
    rw [long_iff h0]
    have : (bytesB bs).length = zs.length := by rw [hbytes]
    unfold bytesB at this
    rw [List.length_append] at this
    omega

end Go.Proofs.Ytiknjkkphdncfaa
