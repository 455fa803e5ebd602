/-
  THE WALK of sorting any row of up to a thousand numbers: blocks sorted, then merged.
-/
import Derived.Test.YtkpkfgnebgcoaaaSrtO
set_option linter.unusedVariables false
set_option linter.unusedSimpArgs false
namespace Go.Proofs.Ytkpkfgnebgcoaaa
open Go.RowKit

/-- Sorted within each block of s, from x up to y. -/
def BS (key : Int → Int) (M : List Int) (s x y : Nat) : Prop := ∀ i j, x ≤ i → i < j → j < y → i / s = j / s → key (M.getD i 0) ≤ key (M.getD j 0)
theorem div_in {s i k : Nat} (hs : 0 < s) (h1 : s * k ≤ i) (h2 : i < s * k + s) : i / s = k := by
  apply Nat.div_eq_of_lt_le
  · rw [Nat.mul_comm]; exact h1
  · rw [Nat.succ_mul, Nat.mul_comm]; exact h2
theorem div_low {s i k : Nat} (hs : 0 < s) (h : i < s * k) : i / s < k := by
  rw [Nat.div_lt_iff_lt_mul hs, Nat.mul_comm]; exact h
theorem div_high {s i k : Nat} (hs : 0 < s) (h : s * k ≤ i) : k ≤ i / s := by
  rw [Nat.le_div_iff_mul_le hs, Nat.mul_comm]; exact h
/-- One block is sorted. -/
theorem BS.block {key : Int → Int} {M : List Int} {s x y k : Nat} (h : BS key M s x y) (hs : 0 < s) (a b : Nat) (h1 : s * k ≤ a) (h2 : b ≤ s * k + s) (h3 : x ≤ a) (h4 : b ≤ y) : SoOn key M a b := fun i j p q r =>
  h i j (by omega) q (by omega) (by rw [div_in hs (by omega : s * k ≤ i) (by omega), div_in hs (by omega : s * k ≤ j) (by omega)])
/-- A further block has been sorted. -/
theorem BS.more {key : Int → Int} {M M' : List Int} {s k y : Nat} (hs : 0 < s) (h : BS key M s 0 (s * k)) (h1 : s * k ≤ y) (h2 : y ≤ s * k + s) (ht : ∀ i, i < s * k → M'.getD i 0 = M.getD i 0) (hso : SoOn key M' (s * k) y) : BS key M' s 0 y := fun i j p q r e => by
  by_cases hj : j < s * k
  · rw [ht i (by omega), ht j hj]; exact h i j p q hj e
  · by_cases hi : s * k ≤ i
    · exact hso i j hi q r
    · have e1 := div_low hs (show i < s * k by omega)
      have e2 := div_in hs (show s * k ≤ j by omega) (by omega)
      omega
theorem BS.rest {key : Int → Int} {M M' : List Int} {s x y z : Nat} (h : BS key M s x y) (hx : x ≤ z) (ht : ∀ i, z ≤ i → M'.getD i 0 = M.getD i 0) : BS key M' s z y := fun i j p q r e => by
  rw [ht i p, ht j (by omega)]; exact h i j (by omega) q r e
theorem BS.none (key : Int → Int) (M : List Int) (s y : Nat) : BS key M s y y := fun i j p q r => by omega
theorem BS.all {key : Int → Int} {M : List Int} {s N : Nat} (h : BS key M s 0 N) (hN : N ≤ s) (hs : 0 < s) : SoOn key M 0 N := fun i j p q r => h i j p q r (by rw [Nat.div_eq_of_lt (by omega), Nat.div_eq_of_lt (by omega)])

set_option maxRecDepth 100000 in
set_option maxHeartbeats 32000000 in
theorem stable_c (g c cap : Nat) (f : Int) (L : List Int) (tl : List Value) (w : World) (hg : Blk w g 22 (srtCells L tl)) (hc : Blk w c 22 #[.int .u16 f]) (hne : c ≠ g)
    (hb : L.length ≤ 1000) (hl : L.length ≤ cap ∧ L.length ≤ 1000000) (hm : cap ≤ 9223372036854775807) (hL : ∀ x ∈ L, 0 ≤ x ∧ x ≤ 65535) (f0 : 0 ≤ f) (f1 : f ≤ 65535) :
    Calls Try.prog 32 #[.slice (some ⟨g, 0, none⟩) L.length cap, .int .i64 L.length, cmpV c] w fun e w' => e = .returned (.tuple #[]) ∧ ∃ L', Turned L L' 0 L.length ∧ SoOn (fun x => ah16 x f) L' 0 L.length ∧ Blk w' g 22 (srtCells L' tl) ∧ Frm [g] w w' := by
  obtain ⟨N, hN⟩ : ∃ N, N = L.length := ⟨_, rfl⟩
  rw [← hN] at hb hl ⊢
  have HIn : Hid (∀ (M : List Int) (a b : Nat) (A B : Int) (W : World), A = a → B = b → M.length = N → a ≤ b → b ≤ N → Turned L M 0 N → Blk W g 22 (srtCells M tl) → Frm [g] w W →
      Calls Try.prog 33 #[.slice (some ⟨g, 0, none⟩) N cap, .int .i64 A, .int .i64 B, .func (.func 31) #[] #[.pointer (some ⟨c, 0, none⟩)]] W fun e w' => e = .returned (.tuple #[]) ∧ ∃ L', Turned M L' a b ∧ SoOn (fun x => ah16 x f) L' a b ∧ Blk w' g 22 (srtCells L' tl) ∧ Frm [g] W w') := Lib.hid fun M a b A B W hA hB hM h1 h2 ht hbl hfr => by
    subst hA hB
    have := insertion_c g c cap f M tl a b W hbl (hfr.blk hc (by simpa using hne)) hne h1 (by omega) (by omega) hm (fun x hx => hL x (ht.perm.mem_iff.1 hx)) f0 f1
    rw [hM] at this
    exact this
  have HMe : Hid (∀ (M : List Int) (a m b : Nat) (A X B : Int) (W : World), A = a → X = m → B = b → M.length = N → a < m → m < b → b ≤ N → Turned L M 0 N → Blk W g 22 (srtCells M tl) → Frm [g] w W → SoOn (fun x => ah16 x f) M a m → SoOn (fun x => ah16 x f) M m b →
      Calls Try.prog 34 #[.slice (some ⟨g, 0, none⟩) N cap, .int .i64 A, .int .i64 X, .int .i64 B, .func (.func 31) #[] #[.pointer (some ⟨c, 0, none⟩)]] W fun e w' => e = .returned (.tuple #[]) ∧ ∃ L', Turned M L' a b ∧ SoOn (fun x => ah16 x f) L' a b ∧ Blk w' g 22 (srtCells L' tl) ∧ Frm [g] W w') := Lib.hid fun M a m b A X B W hA hX hB hM h1 h2 h3 ht hbl hfr s1 s2 => by
    subst hA hX hB
    exact symmerge_c g c cap f tl N hne hm hl f0 f1 N M a m b W hM (by omega) h1 h2 h3 hbl (hfr.blk hc (by simpa using hne)) s1 s2 (fun x hx => hL x (ht.perm.mem_iff.1 hx))
  have HG := Lib.hid hg
  have HN := Lib.hid hN
  clear hg hc hne hL hN
  unfold cmpV
  go_enter Try.func32, Try.ntmps32
  go_wp2_with fail
  go_loopw [7, 8] (fun a b wr => ∃ (p A : Nat) (M : List Int), A = 20 * p ∧ A ≤ N ∧ a = .int .i64 A ∧ b = .int .i64 ((A : Int) + 20) ∧ M.length = N ∧ Turned L M 0 N ∧ BS (fun x => ah16 x f) M 20 0 A ∧ Blk wr g 22 (srtCells M tl) ∧ Frm [g] w wr) (fun a _ _ => 2000 - (intOf a).toNat)
  case atStart => exact ⟨0, 0, L, rfl, by omega, rfl, rfl, HN.out.symm, Turned.refl _ _ _, BS.none _ _ _ _, HG.out, Frm.refl _ _⟩
  case round =>
    obtain ⟨p, A, M, hA, hp, rfl, rfl, hM, ht, hbs, hbl, hfr⟩ := hrel
    have HA := Lib.hid hA
    have HM := Lib.hid hM
    have HT := Lib.hid ht
    have HBS := Lib.hid hbs
    have HB := Lib.hid hbl
    have HF := Lib.hid hfr
    clear hA hM ht hbs hbl hfr
    by_cases hlt : A + 20 ≤ N
    · go_wp2_with fail
      refine (HIn.out M A (A + 20) _ _ _ rfl (by omega) HM.out (by omega) hlt HT.out HB.out HF.out).mono ?_
      rintro e w1 ⟨rfl, R, h3, h4, h5, h6⟩
      have HX := Lib.hid (And.intro h3 (And.intro h4 (And.intro h5 h6)))
      clear h3 h4 h5 h6
      go_wp2_with fail
      go_roundw
      case rel => exact ⟨p + 1, A + 20, R, by rw [HA.out]; omega, hlt, by go_num, by exact congrArg (Value.int .i64) (by omega), by rw [HX.out.1.len, HM.out], HT.out.trans (HX.out.1.wide (by omega) hlt),
          BS.more (k := p) (by omega) (by rw [← HA.out]; exact HBS.out) (by rw [← HA.out]; omega) (by rw [← HA.out]; omega) (fun i hi => HX.out.1.out i (.inl (by rw [HA.out]; exact hi))) (by rw [← HA.out]; exact HX.out.2.1), HX.out.2.2.1, HF.out.trans HX.out.2.2.2⟩
      case measure => simp [intOf]; omega
    · go_wp2_with fail
      refine (HIn.out M A N _ _ _ rfl rfl HM.out hp (Nat.le_refl _) HT.out HB.out HF.out).mono ?_
      rintro e w1 ⟨rfl, R, h3, h4, h5, h6⟩
      have hbsR : BS (fun x => ah16 x f) R 20 0 N := BS.more (k := p) (by omega) (by rw [← HA.out]; exact HBS.out) (by rw [← HA.out]; exact hp) (by rw [← HA.out]; omega) (fun i hi => h3.out i (.inl (by rw [HA.out]; exact hi))) (by rw [← HA.out]; exact h4)
      have htR := HT.out.trans (h3.wide (Nat.zero_le _) (Nat.le_refl _))
      have hfR := HF.out.trans h6
      have hlR : R.length = N := by rw [h3.len, HM.out]
      have HX := Lib.hid (And.intro hlR (And.intro htR (And.intro hbsR (And.intro h5 hfR))))
      clear h3 h4 h5 h6 hbsR htR hfR hlR
      go_wp2_with fail
      go_loopw [6, 7, 8, 9] (fun sl _ _ _ wr => ∃ (s : Nat) (M : List Int), 20 ≤ s ∧ s ≤ 2000 ∧ sl = .int .i64 s ∧ M.length = N ∧ Turned L M 0 N ∧ BS (fun x => ah16 x f) M s 0 N ∧ Blk wr g 22 (srtCells M tl) ∧ Frm [g] w wr) (fun sl _ _ _ _ => N - (intOf sl).toNat)
      case atStart => exact ⟨20, R, by omega, by omega, rfl, HX.out.1, HX.out.2.1, HX.out.2.2.1, HX.out.2.2.2.1, HX.out.2.2.2.2⟩
      case round =>
        clear HX HA HM HT HBS HB HF
        obtain ⟨s, M, hs1, hs2, rfl, hM, ht, hbs, hbl, hfr⟩ := hrel
        have HM := Lib.hid hM
        have HT := Lib.hid ht
        have HBS := Lib.hid hbs
        have HB := Lib.hid hbl
        have HF := Lib.hid hfr
        clear hM ht hbs hbl hfr
        by_cases hsN : s < N
        · obtain ⟨wo, rfl⟩ : ∃ wo : World, wo = wr := ⟨_, rfl⟩
          go_wp2_with fail
          go_loopw [7, 8] (fun a b wr => ∃ (k X : Nat) (M : List Int), X = (2 * s) * k ∧ X ≤ N ∧ a = .int .i64 X ∧ b = .int .i64 ((X : Int) + 2 * (s : Int)) ∧ M.length = N ∧ Turned L M 0 N ∧ BS (fun x => ah16 x f) M (2 * s) 0 X ∧ BS (fun x => ah16 x f) M s X N ∧ Blk wr g 22 (srtCells M tl) ∧ Frm [g] w wr) (fun a _ _ => N - (intOf a).toNat)
          case atStart => exact ⟨0, 0, M, rfl, by omega, rfl, by exact congrArg (Value.int .i64) (by omega), HM.out, HT.out, BS.none _ _ _ _, HBS.out, HB.out, HF.out⟩
          case round =>
            clear HM HT HBS HB HF
            obtain ⟨k, X, M, hX, hXN, rfl, rfl, hM, ht, hbs, hbr, hbl, hfr⟩ := hrel
            have e1 : s * (2 * k) = X := by rw [hX, Nat.mul_comm 2 s, Nat.mul_assoc]
            have e2 : s * (2 * k + 1) = X + s := by rw [Nat.mul_add, Nat.mul_one, e1]
            have e3 : (2 * s) * (k + 1) = X + 2 * s := by rw [Nat.mul_succ, hX]
            have hs0 : 0 < s := by omega
            have s1 : SoOn (fun x => ah16 x f) M X (min (X + s) N) := hbr.block hs0 _ _ (Nat.le_of_eq e1) (by rw [e1]; omega) (Nat.le_refl _) (by omega)
            have s2 : SoOn (fun x => ah16 x f) M (X + s) (min (X + 2 * s) N) := hbr.block hs0 _ _ (Nat.le_of_eq e2) (by rw [e2]; omega) (by omega) (by omega)
            have HX := Lib.hid hX
            have HE3 := Lib.hid e3
            have HM := Lib.hid hM
            have HT := Lib.hid ht
            have HBS := Lib.hid hbs
            have HBR := Lib.hid hbr
            have HB := Lib.hid hbl
            have HF := Lib.hid hfr
            have HS1 := Lib.hid s1
            have HS2 := Lib.hid s2
            clear hX e1 e2 e3 hM ht hbs hbr hbl hfr s1 s2
            by_cases hlt2 : X + 2 * s ≤ N
            · go_wp2_with fail
              refine (HMe.out M X (X + s) (X + 2 * s) _ _ _ _ rfl (by omega) (by omega) HM.out (by omega) (by omega) hlt2 HT.out HB.out HF.out (by have h := HS1.out; rw [Nat.min_eq_left (by omega)] at h; exact h) (by have h := HS2.out; rw [Nat.min_eq_left (by omega)] at h; exact h)).mono ?_
              rintro e w1 ⟨rfl, R, h3, h4, h5, h6⟩
              have HY := Lib.hid (And.intro h3 (And.intro h4 (And.intro h5 h6)))
              clear h3 h4 h5 h6
              go_wp2_with fail
              go_roundw
              case rel => exact ⟨k + 1, X + 2 * s, R, HE3.out.symm, hlt2, by exact congrArg (Value.int .i64) (by omega), by exact congrArg (Value.int .i64) (by omega), by rw [HY.out.1.len, HM.out], HT.out.trans (HY.out.1.wide (by omega) hlt2),
                  BS.more (k := k) (by omega) (by rw [← HX.out]; exact HBS.out) (by rw [← HX.out]; omega) (by rw [← HX.out]; omega) (fun i hi => HY.out.1.out i (.inl (by rw [HX.out]; exact hi))) (by rw [← HX.out]; exact HY.out.2.1),
                  HBR.out.rest (by omega) (fun i hi => HY.out.1.out i (.inr hi)), HY.out.2.2.1, HF.out.trans HY.out.2.2.2⟩
              case measure => simp [intOf]; omega
            · by_cases hm2 : X + s < N
              · go_wp2_with fail
                refine (HMe.out M X (X + s) N _ _ _ _ rfl (by omega) rfl HM.out (by omega) hm2 (Nat.le_refl _) HT.out HB.out HF.out (by have h := HS1.out; rw [Nat.min_eq_left (by omega)] at h; exact h) (by have h := HS2.out; rw [Nat.min_eq_right (by omega)] at h; exact h)).mono ?_
                rintro e w1 ⟨rfl, R, h3, h4, h5, h6⟩
                have HY := Lib.hid (And.intro h3 (And.intro h4 (And.intro h5 h6)))
                clear h3 h4 h5 h6
                go_wp2_with fail
                go_roundw
                case rel => exact ⟨2 * s, R, by omega, by omega, by exact congrArg (Value.int .i64) (by omega), by rw [HY.out.1.len, HM.out], HT.out.trans (HY.out.1.wide (by omega) (Nat.le_refl _)),
                    BS.more (k := k) (by omega) (by rw [← HX.out]; exact HBS.out) (by rw [← HX.out]; omega) (by rw [← HX.out]; omega) (fun i hi => HY.out.1.out i (.inl (by rw [HX.out]; exact hi))) (by rw [← HX.out]; exact HY.out.2.1), HY.out.2.2.1, HF.out.trans HY.out.2.2.2⟩
                case measure => simp [intOf]; omega
              · go_wp2_with fail
                go_roundw
                case rel => exact ⟨2 * s, M, by omega, by omega, by exact congrArg (Value.int .i64) (by omega), HM.out, HT.out,
                    BS.more (k := k) (by omega) (by rw [← HX.out]; exact HBS.out) (by rw [← HX.out]; omega) (by rw [← HX.out]; omega) (fun i hi => rfl) (by rw [← HX.out]; have h := HS1.out; rw [Nat.min_eq_right (by omega)] at h; exact h), HB.out, HF.out⟩
                case measure => simp [intOf]; omega
        · go_wp2_with fail
          go_end0
          exact ⟨rfl, M, HT.out, HBS.out.all (by omega) (by omega), HB.out, HF.out⟩

end Go.Proofs.Ytkpkfgnebgcoaaa
