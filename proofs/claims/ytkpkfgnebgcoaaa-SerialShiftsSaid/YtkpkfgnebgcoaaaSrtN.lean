/-
  THE WALK of merging in place: symMerge.
-/
import Derived.Test.YtkpkfgnebgcoaaaSrtM
set_option linter.unusedVariables false
set_option linter.unusedSimpArgs false
namespace Go.Proofs.Ytkpkfgnebgcoaaa
open Go.RowKit

/-- The number at a taken up to k. -/
def Up (L M : List Int) (a k : Nat) : Prop := ∀ q, M.getD q 0 = if a ≤ q ∧ q < k then L.getD (q + 1) 0 else if q = k then L.getD a 0 else L.getD q 0
/-- The number at m taken down to k. -/
def Dn (L M : List Int) (m k : Nat) : Prop := ∀ q, M.getD q 0 = if k < q ∧ q ≤ m then L.getD (q - 1) 0 else if q = k then L.getD m 0 else L.getD q 0
theorem Up.start (L : List Int) (a : Nat) : Up L L a a := fun q => by
  rw [if_neg (by omega)]
  split
  · rename_i h; rw [h]
  · rfl
theorem Dn.start (L : List Int) (m : Nat) : Dn L L m m := fun q => by
  rw [if_neg (by omega)]
  split
  · rename_i h; rw [h]
  · rfl
theorem Up.step {L M : List Int} {a k : Nat} (h : Up L M a k) (hak : a ≤ k) (hk : k + 1 < M.length) : Up L (swp M k (k + 1)) a (k + 1) := fun q => by
  rw [swp_get M k (k + 1) q (by omega) hk, h k, h (k + 1), h q]
  rw [if_neg (show ¬ (a ≤ k ∧ k < k) by omega), if_pos rfl, if_neg (show ¬ (a ≤ k + 1 ∧ k + 1 < k) by omega), if_neg (show ¬ k + 1 = k by omega)]
  by_cases h1 : q = k + 1
  · rw [if_pos h1, if_neg (by omega), if_pos h1]
  · rw [if_neg h1]
    by_cases h2 : q = k
    · rw [if_pos h2, if_pos (by omega), h2]
    · rw [if_neg h2, if_neg h2, if_neg h1]
      by_cases h3 : a ≤ q ∧ q < k
      · rw [if_pos h3, if_pos (by omega)]
      · rw [if_neg h3, if_neg (by omega)]
theorem Dn.step {L M : List Int} {m k : Nat} (h : Dn L M m k) (hkm : k ≤ m) (hk0 : 0 < k) (hk : k < M.length) : Dn L (swp M k (k - 1)) m (k - 1) := fun q => by
  rw [swp_get M k (k - 1) q hk (by omega), h k, h (k - 1), h q]
  rw [if_neg (show ¬ (k < k ∧ k ≤ m) by omega), if_pos rfl, if_neg (show ¬ (k < k - 1 ∧ k - 1 ≤ m) by omega), if_neg (show ¬ k - 1 = k by omega)]
  by_cases h1 : q = k - 1
  · rw [if_pos h1, if_neg (by omega), if_pos h1]
  · rw [if_neg h1]
    by_cases h2 : q = k
    · rw [if_pos h2, if_pos (by omega), h2]
    · rw [if_neg h2, if_neg h2, if_neg h1]
      by_cases h3 : k < q ∧ q ≤ m
      · rw [if_pos h3, if_pos (by omega)]
      · rw [if_neg h3, if_neg (by omega)]
theorem Up.sorted {key : Int → Int} {L M : List Int} {a m b p k : Nat} (h : Up L M a k) (ham : m = a + 1) (hp : k + 1 = p) (hmp : m ≤ p) (hpb : p ≤ b) (h2 : SoOn key L m b)
    (lo : ∀ q, m ≤ q → q < p → key (L.getD q 0) < key (L.getD a 0)) (hi : ∀ q, p ≤ q → q < b → key (L.getD a 0) ≤ key (L.getD q 0)) : SoOn key M a b := fun i j h3 h4 h5 => by
  subst hp ham
  rw [h i, h j]
  by_cases hi1 : i < k
  · rw [if_pos (show a ≤ i ∧ i < k by omega)]
    by_cases hj1 : j < k
    · rw [if_pos (show a ≤ j ∧ j < k by omega)]; exact h2 _ _ (by omega) (by omega) (by omega)
    · rw [if_neg (show ¬ (a ≤ j ∧ j < k) by omega)]
      by_cases hj2 : j = k
      · rw [if_pos hj2]; have := lo (i + 1) (by omega) (by omega); omega
      · rw [if_neg hj2]; exact h2 _ _ (by omega) (by omega) h5
  · rw [if_neg (show ¬ (a ≤ i ∧ i < k) by omega), if_neg (show ¬ (a ≤ j ∧ j < k) by omega), if_neg (show ¬ j = k by omega)]
    by_cases hi2 : i = k
    · rw [if_pos hi2]; exact hi j (by omega) h5
    · rw [if_neg hi2]; exact h2 _ _ (by omega) h4 h5
theorem Dn.sorted {key : Int → Int} {L M : List Int} {a m b p : Nat} (h : Dn L M m p) (hmb : b = m + 1) (hap : a ≤ p) (hpm : p ≤ m) (h1 : SoOn key L a m)
    (lo : ∀ q, a ≤ q → q < p → key (L.getD q 0) ≤ key (L.getD m 0)) (hi : ∀ q, p ≤ q → q < m → key (L.getD m 0) < key (L.getD q 0)) : SoOn key M a b := fun i j h3 h4 h5 => by
  subst hmb
  rw [h i, h j]
  by_cases hj1 : p < j
  · rw [if_pos (show p < j ∧ j ≤ m by omega)]
    by_cases hi1 : p < i
    · rw [if_pos (show p < i ∧ i ≤ m by omega)]; exact h1 _ _ (by omega) (by omega) (by omega)
    · rw [if_neg (show ¬ (p < i ∧ i ≤ m) by omega)]
      by_cases hi2 : i = p
      · rw [if_pos hi2]; have := hi (j - 1) (by omega) (by omega); omega
      · rw [if_neg hi2]
        exact h1 _ _ h3 (by omega) (by omega)
  · rw [if_neg (show ¬ (p < j ∧ j ≤ m) by omega), if_neg (show ¬ (p < i ∧ i ≤ m) by omega), if_neg (show ¬ i = p by omega)]
    by_cases hj2 : j = p
    · rw [if_pos hj2]; exact lo i h3 (by omega)
    · rw [if_neg hj2]; exact h1 _ _ h3 h4 (by omega)

/-- What symMerge does. -/
def MergeAt (g c cap : Nat) (f : Int) (tl : List Value) (N fuel : Nat) : Prop :=
  ∀ (L : List Int) (a m b : Nat) (w : World), L.length = N → b - a ≤ fuel → a < m → m < b → b ≤ N → Blk w g 22 (srtCells L tl) → Blk w c 22 #[.int .u16 f] → SoOn (fun x => ah16 x f) L a m → SoOn (fun x => ah16 x f) L m b → (∀ x ∈ L, 0 ≤ x ∧ x ≤ 65535) →
    Calls Try.prog 34 #[.slice (some ⟨g, 0, none⟩) N cap, .int .i64 a, .int .i64 m, .int .i64 b, cmpV c] w fun e w' => e = .returned (.tuple #[]) ∧ ∃ L', Turned L L' a b ∧ SoOn (fun x => ah16 x f) L' a b ∧ Blk w' g 22 (srtCells L' tl) ∧ Frm [g] w w'

/-- The comparison in a world behind draws. -/
theorem cmp_at {g c : Nat} {f : Int} {L : List Int} {w wr : World} (hc : Blk w c 22 #[.int .u16 f]) (hfr : Frm [g] w wr) (hne : c ≠ g) (f0 : 0 ≤ f) (f1 : f ≤ 65535) (hL : ∀ x ∈ L, 0 ≤ x ∧ x ≤ 65535) (p q : Nat) (hp : p < L.length) (hq : q < L.length) (n : Nat) :
    Calls Try.prog 31 #[.int .u16 (L.getD p 0), .int .u16 (L.getD q 0), .pointer (some ⟨c, 0, none⟩)] (wr.drewN n) fun e w' => e = .returned (.int .i64 (ah16 (L.getD p 0) f - ah16 (L.getD q 0) f)) ∧ ∃ m, w' = (wr.drewN n).drewN m := by
  have hx : ∀ k, k < L.length → 0 ≤ L.getD k 0 ∧ L.getD k 0 ≤ 65535 := fun k hk => hL _ (by rw [List.getD_eq_getElem?_getD, List.getElem?_eq_getElem hk]; exact List.getElem_mem hk)
  exact cmp_c c f _ _ _ ((hfr.blk hc (by simpa using hne)).drewN n) f0 f1 (hx p hp).1 (hx p hp).2 (hx q hq).1 (hx q hq).2

set_option maxRecDepth 100000 in
set_option maxHeartbeats 16000000 in
/-- The left piece is one number. -/
theorem merge_left (g c cap : Nat) (f : Int) (tl : List Value) (hne : c ≠ g) (hm : cap ≤ 9223372036854775807) (f0 : 0 ≤ f) (f1 : f ≤ 65535)
    (L : List Int) (a m b : Nat) (w : World) (hN : L.length ≤ cap ∧ L.length ≤ 1000000) (ham : m = a + 1) (hmb : m < b) (hb : b ≤ L.length) (hg : Blk w g 22 (srtCells L tl)) (hc : Blk w c 22 #[.int .u16 f]) (h2 : SoOn (fun x => ah16 x f) L m b) (hL : ∀ x ∈ L, 0 ≤ x ∧ x ≤ 65535) :
    Calls Try.prog 34 #[.slice (some ⟨g, 0, none⟩) L.length cap, .int .i64 a, .int .i64 m, .int .i64 b, cmpV c] w fun e w' => e = .returned (.tuple #[]) ∧ ∃ L', Turned L L' a b ∧ SoOn (fun x => ah16 x f) L' a b ∧ Blk w' g 22 (srtCells L' tl) ∧ Frm [g] w w' := by
  have HG := Lib.hid hg
  have HC := Lib.hid hc
  have HL := Lib.hid hL
  have H2 := Lib.hid h2
  have HNe := Lib.hid hne
  have q1 : ((m : Int) - (a : Int) == 1) = true := beq_iff_eq.2 (by omega)
  have a1 : a + 1 ≤ m := by omega
  have a2 : m ≤ a + 1 := by omega
  clear hg hc hL h2 hne ham
  unfold cmpV
  go_enter Try.func34, Try.ntmps34
  go_wp2_with fail
  go_loopw [10, 11] (fun x y wr => ∃ (i j : Nat), m ≤ i ∧ i ≤ j ∧ j ≤ b ∧ x = .int .i64 i ∧ y = .int .i64 j ∧ (∀ q, m ≤ q → q < i → ah16 (L.getD q 0) f < ah16 (L.getD a 0) f) ∧ (∀ q, j ≤ q → q < b → ah16 (L.getD a 0) f ≤ ah16 (L.getD q 0) f) ∧ Blk wr g 22 (srtCells L tl) ∧ Frm [g] w wr) (fun x y _ => (intOf y).toNat - (intOf x).toNat)
  case atStart => exact ⟨m, b, Nat.le_refl _, by omega, Nat.le_refl _, rfl, rfl, (fun q h1 h2 => by omega), (fun q h1 h2 => by omega), HG.out, Frm.refl _ _⟩
  case round =>
    obtain ⟨i, j, hi, hij, hj, rfl, rfl, hlo, hhi, hbl0, hfr0⟩ := hrel
    have HB0 := Lib.hid hbl0
    have HF0 := Lib.hid hfr0
    clear hbl0 hfr0
    have HLo := Lib.hid hlo
    have HHi := Lib.hid hhi
    clear hlo hhi
    by_cases hlt : i < j
    · have u1 : IntKind.u64.wrap ((i : Int) + (j : Int)) = (i : Int) + (j : Int) := IntWalk.u64_in _ (by omega)
      obtain ⟨h, hh⟩ : ∃ h : Nat, ((i : Int) + (j : Int)) / 2 = (h : Int) := ⟨(i + j) / 2, by omega⟩
      have hb1 : i ≤ h := by omega
      have hb2 : h < j := by omega
      obtain ⟨X, hX⟩ : ∃ X, X = L.getD h 0 := ⟨_, rfl⟩
      obtain ⟨Y, hY⟩ : ∃ Y, Y = L.getD a 0 := ⟨_, rfl⟩
      have cx : wr.cell? ⟨g, h, none⟩ = some (.int .u16 X) := by rw [hX]; exact HB0.out.cell h (srt_at L tl h (by omega))
      have cy : wr.cell? ⟨g, a, none⟩ = some (.int .u16 Y) := by rw [hY]; exact HB0.out.cell a (srt_at L tl a (by omega))
      obtain ⟨D, hD⟩ : ∃ D, D = ah16 X f - ah16 Y f := ⟨_, rfl⟩
      have HCc : Hid (∀ n, Calls Try.prog 31 #[.int .u16 X, .int .u16 Y, .pointer (some ⟨c, 0, none⟩)] (wr.drewN n) fun e w' => e = .returned (.int .i64 D) ∧ ∃ m, w' = (wr.drewN n).drewN m) := Lib.hid fun n => by
        rw [hD, hX, hY]
        exact cmp_at HC.out HF0.out HNe.out f0 f1 HL.out h a (by omega) (by omega) n
      have b1 : (0 : Int) ≤ (h : Int) := by omega
      have b2 : (h : Int) < (L.length : Int) := by omega
      have b3 : (0 : Int) ≤ (a : Int) := by omega
      have b4 : (a : Int) < (L.length : Int) := by omega
      have HX := Lib.hid hX
      have HY := Lib.hid hY
      have HD := Lib.hid hD
      clear hX hY hD
      by_cases hd : D < 0
      · have hdd : decide (D < 0) = true := by simpa using hd
        go_wp2_with fail
        go_quiet ((exact Calls.quiet_of (HCc.out _)))
        clear HCc hdd
        go_wp2_with fail
        go_roundw
        case rel => exact ⟨h + 1, j, by omega, by omega, hj, by go_num, rfl, fun q h1 h2 => (by have := HD.out; rw [HX.out, HY.out] at this; exact Int.lt_of_le_of_lt (H2.out.le h1 (show q ≤ h by omega) (by omega)) (by omega)), HHi.out, HB0.out.drewN _, HF0.out.drewN _⟩
        case measure => simp [intOf]; omega
      · have hdd : decide (D < 0) = false := by simpa using hd
        go_wp2_with fail
        go_quiet ((exact Calls.quiet_of (HCc.out _)))
        clear HCc hdd
        go_wp2_with fail
        go_roundw
        case rel => exact ⟨i, h, hi, by omega, by omega, rfl, rfl, HLo.out, fun q h1 h2 => (by have := HD.out; rw [HX.out, HY.out] at this; exact Int.le_trans (by omega) (H2.out.le (by omega) h1 h2)), HB0.out.drewN _, HF0.out.drewN _⟩
        case measure => simp [intOf]; omega
    · obtain rfl : i = j := by omega
      go_wp2_with fail
      go_loopw [13] (fun x wr => ∃ (k : Nat) (M : List Int), a ≤ k ∧ k + 1 ≤ i ∧ x = .int .i64 k ∧ Up L M a k ∧ Turned L M a b ∧ Blk wr g 22 (srtCells M tl) ∧ Frm [g] w wr) (fun x _ => i - (intOf x).toNat)
      case atStart => exact ⟨a, L, Nat.le_refl _, by omega, rfl, Up.start _ _, Turned.refl _ _ _, HB0.out, HF0.out⟩
      case round =>
        obtain ⟨k, M, hk1, hk2, rfl, hup, ht, hbl, hfr⟩ := hrel
        have hlen := ht.len
        have hl1 : M.length ≤ L.length := by omega
        have hl2 : L.length ≤ M.length := by omega
        have HUp := Lib.hid hup
        have HT := Lib.hid ht
        have HB := Lib.hid hbl
        have HF := Lib.hid hfr
        clear hup ht hbl hfr hlen
        by_cases hlt2 : k + 1 < i
        · obtain ⟨x, hx⟩ : ∃ x, x = M.getD k 0 := ⟨_, rfl⟩
          obtain ⟨y, hy⟩ : ∃ y, y = M.getD (k + 1) 0 := ⟨_, rfl⟩
          have cx : wr.cell? ⟨g, k, none⟩ = some (.int .u16 x) := by rw [hx]; exact HB.out.cell k (srt_at M tl k (by omega))
          have cy : wr.cell? ⟨g, k + 1, none⟩ = some (.int .u16 y) := by rw [hy]; exact HB.out.cell (k + 1) (srt_at M tl (k + 1) (by omega))
          have fx := HB.out.free k
          have fy := HB.out.free (k + 1)
          have gl := HB.out.lt
          have i1 : IntKind.i64.wrap ((k : Int) + 1) = ((k + 1 : Nat) : Int) := by rw [show ((k + 1 : Nat) : Int) = (k : Int) + 1 from by omega]; exact IntWalk.i64_in _ (by omega)
          have i3 : (0 : Int) ≤ (k : Int) := by omega
          have i4 : (k : Int) < (L.length : Int) := by omega
          have i5 : (0 : Int) ≤ ((k + 1 : Nat) : Int) := by omega
          have i6 : ((k + 1 : Nat) : Int) < (L.length : Int) := by omega
          have HX := Lib.hid hx
          have HY := Lib.hid hy
          clear hx hy
          go_wp2_with fail
          go_region
          clear i1
          go_wp2_with fail
          go_roundw
          case rel =>
            refine ⟨k + 1, swp M k (k + 1), by omega, by omega, by go_num, HUp.out.step (by omega) (by omega), HT.out.swp (by omega) (by omega) (by omega) (by omega) (by omega), ?_, ?_⟩
            · have h1 := (HB.out.put k (.int .u16 y)).put (k + 1) (.int .u16 x)
              rw [srt_set M tl k y (by omega), srt_set _ tl (k + 1) x (by rw [List.length_set]; omega)] at h1
              have hsw : swp M k (k + 1) = (M.set k y).set (k + 1) x := by unfold swp; rw [HX.out, HY.out]
              rw [hsw]
              first | exact h1 | exact h1.drew
            · first | exact ((HF.out.put (.inl (by simp)) _ _ _).put (.inl (by simp)) _ _ _) | exact ((HF.out.put (.inl (by simp)) _ _ _).put (.inl (by simp)) _ _ _).drew
          case measure => simp [intOf]; omega
        · go_wp2_with fail
          refine bodyPost_ret (results_none rfl _ _ _) rfl ?_
          exact ⟨rfl, M, HT.out, HUp.out.sorted (p := i) (m := m) (by omega) (by omega) (by omega) (by omega) H2.out HLo.out HHi.out, HB.out, HF.out⟩

set_option maxRecDepth 100000 in
set_option maxHeartbeats 16000000 in
/-- The right piece is one number. -/
theorem merge_right (g c cap : Nat) (f : Int) (tl : List Value) (hne : c ≠ g) (hm : cap ≤ 9223372036854775807) (f0 : 0 ≤ f) (f1 : f ≤ 65535)
    (L : List Int) (a m b : Nat) (w : World) (hN : L.length ≤ cap ∧ L.length ≤ 1000000) (ham : a + 1 < m) (hmb : b = m + 1) (hb : b ≤ L.length) (hg : Blk w g 22 (srtCells L tl)) (hc : Blk w c 22 #[.int .u16 f]) (h1 : SoOn (fun x => ah16 x f) L a m) (hL : ∀ x ∈ L, 0 ≤ x ∧ x ≤ 65535) :
    Calls Try.prog 34 #[.slice (some ⟨g, 0, none⟩) L.length cap, .int .i64 a, .int .i64 m, .int .i64 b, cmpV c] w fun e w' => e = .returned (.tuple #[]) ∧ ∃ L', Turned L L' a b ∧ SoOn (fun x => ah16 x f) L' a b ∧ Blk w' g 22 (srtCells L' tl) ∧ Frm [g] w w' := by
  have HG := Lib.hid hg
  have HC := Lib.hid hc
  have HL := Lib.hid hL
  have H1 := Lib.hid h1
  have HNe := Lib.hid hne
  have q0 : ((m : Int) - (a : Int) == 1) = false := beq_eq_false_iff_ne.2 (by omega)
  have q1 : ((b : Int) - (m : Int) == 1) = true := beq_iff_eq.2 (by omega)
  have a1 : m + 1 ≤ b := by omega
  have a2 : b ≤ m + 1 := by omega
  clear hg hc hL h1 hne hmb
  unfold cmpV
  go_enter Try.func34, Try.ntmps34
  go_wp2_with fail
  go_loopw [14, 15] (fun x y wr => ∃ (i j : Nat), a ≤ i ∧ i ≤ j ∧ j ≤ m ∧ x = .int .i64 i ∧ y = .int .i64 j ∧ (∀ q, a ≤ q → q < i → ah16 (L.getD q 0) f ≤ ah16 (L.getD m 0) f) ∧ (∀ q, j ≤ q → q < m → ah16 (L.getD m 0) f < ah16 (L.getD q 0) f) ∧ Blk wr g 22 (srtCells L tl) ∧ Frm [g] w wr) (fun x y _ => (intOf y).toNat - (intOf x).toNat)
  case atStart => exact ⟨a, m, Nat.le_refl _, by omega, Nat.le_refl _, rfl, rfl, (fun q h1 h2 => by omega), (fun q h1 h2 => by omega), HG.out, Frm.refl _ _⟩
  case round =>
    obtain ⟨i, j, hi, hij, hj, rfl, rfl, hlo, hhi, hbl0, hfr0⟩ := hrel
    have HB0 := Lib.hid hbl0
    have HF0 := Lib.hid hfr0
    clear hbl0 hfr0
    have HLo := Lib.hid hlo
    have HHi := Lib.hid hhi
    clear hlo hhi
    by_cases hlt : i < j
    · have u1 : IntKind.u64.wrap ((i : Int) + (j : Int)) = (i : Int) + (j : Int) := IntWalk.u64_in _ (by omega)
      obtain ⟨h, hh⟩ : ∃ h : Nat, ((i : Int) + (j : Int)) / 2 = (h : Int) := ⟨(i + j) / 2, by omega⟩
      have hb1 : i ≤ h := by omega
      have hb2 : h < j := by omega
      obtain ⟨X, hX⟩ : ∃ X, X = L.getD h 0 := ⟨_, rfl⟩
      obtain ⟨Y, hY⟩ : ∃ Y, Y = L.getD m 0 := ⟨_, rfl⟩
      have cx : wr.cell? ⟨g, h, none⟩ = some (.int .u16 X) := by rw [hX]; exact HB0.out.cell h (srt_at L tl h (by omega))
      have cy : wr.cell? ⟨g, m, none⟩ = some (.int .u16 Y) := by rw [hY]; exact HB0.out.cell m (srt_at L tl m (by omega))
      obtain ⟨D, hD⟩ : ∃ D, D = ah16 Y f - ah16 X f := ⟨_, rfl⟩
      have HCc : Hid (∀ n, Calls Try.prog 31 #[.int .u16 Y, .int .u16 X, .pointer (some ⟨c, 0, none⟩)] (wr.drewN n) fun e w' => e = .returned (.int .i64 D) ∧ ∃ m, w' = (wr.drewN n).drewN m) := Lib.hid fun n => by
        rw [hD, hX, hY]
        exact cmp_at HC.out HF0.out HNe.out f0 f1 HL.out m h (by omega) (by omega) n
      have b1 : (0 : Int) ≤ (h : Int) := by omega
      have b2 : (h : Int) < (L.length : Int) := by omega
      have b3 : (0 : Int) ≤ (m : Int) := by omega
      have b4 : (m : Int) < (L.length : Int) := by omega
      have HX := Lib.hid hX
      have HY := Lib.hid hY
      have HD := Lib.hid hD
      clear hX hY hD
      by_cases hd : D < 0
      · have hdd : decide (D < 0) = true := by simpa using hd
        go_wp2_with fail
        go_quiet ((exact Calls.quiet_of (HCc.out _)))
        clear HCc hdd
        go_wp2_with fail
        go_roundw
        case rel => exact ⟨i, h, hi, by omega, by omega, rfl, rfl, HLo.out, fun q h1 h2 => (by have := HD.out; rw [HX.out, HY.out] at this; exact Int.lt_of_lt_of_le (by omega) (H1.out.le (show a ≤ h by omega) h1 h2)), HB0.out.drewN _, HF0.out.drewN _⟩
        case measure => simp [intOf]; omega
      · have hdd : decide (D < 0) = false := by simpa using hd
        go_wp2_with fail
        go_quiet ((exact Calls.quiet_of (HCc.out _)))
        clear HCc hdd
        go_wp2_with fail
        go_roundw
        case rel => exact ⟨h + 1, j, by omega, by omega, hj, by go_num, rfl, fun q h1 h2 => (by have := HD.out; rw [HX.out, HY.out] at this; exact Int.le_trans (H1.out.le h1 (show q ≤ h by omega) (by omega)) (by omega)), HHi.out, HB0.out.drewN _, HF0.out.drewN _⟩
        case measure => simp [intOf]; omega
    · obtain rfl : i = j := by omega
      go_wp2_with fail
      go_loopw [17] (fun x wr => ∃ (k : Nat) (M : List Int), k ≤ m ∧ i ≤ k ∧ x = .int .i64 k ∧ Dn L M m k ∧ Turned L M a b ∧ Blk wr g 22 (srtCells M tl) ∧ Frm [g] w wr) (fun x _ => (intOf x).toNat)
      case atStart => exact ⟨m, L, Nat.le_refl _, by omega, rfl, Dn.start _ _, Turned.refl _ _ _, HB0.out, HF0.out⟩
      case round =>
        obtain ⟨k, M, hk1, hk2, rfl, hup, ht, hbl, hfr⟩ := hrel
        have hlen := ht.len
        have hl1 : M.length ≤ L.length := by omega
        have hl2 : L.length ≤ M.length := by omega
        have HUp := Lib.hid hup
        have HT := Lib.hid ht
        have HB := Lib.hid hbl
        have HF := Lib.hid hfr
        clear hup ht hbl hfr hlen
        by_cases hlt2 : i < k
        · obtain ⟨x, hx⟩ : ∃ x, x = M.getD k 0 := ⟨_, rfl⟩
          obtain ⟨y, hy⟩ : ∃ y, y = M.getD (k - 1) 0 := ⟨_, rfl⟩
          have cx : wr.cell? ⟨g, k, none⟩ = some (.int .u16 x) := by rw [hx]; exact HB.out.cell k (srt_at M tl k (by omega))
          have cy : wr.cell? ⟨g, k - 1, none⟩ = some (.int .u16 y) := by rw [hy]; exact HB.out.cell (k - 1) (srt_at M tl (k - 1) (by omega))
          have fx := HB.out.free k
          have fy := HB.out.free (k - 1)
          have gl := HB.out.lt
          have i1 : IntKind.i64.wrap ((k : Int) - 1) = ((k - 1 : Nat) : Int) := by rw [show ((k - 1 : Nat) : Int) = (k : Int) - 1 from by omega]; exact IntWalk.i64_in _ (by omega)
          have i3 : (0 : Int) ≤ (k : Int) := by omega
          have i4 : (k : Int) < (L.length : Int) := by omega
          have i5 : (0 : Int) ≤ ((k - 1 : Nat) : Int) := by omega
          have i6 : ((k - 1 : Nat) : Int) < (L.length : Int) := by omega
          have HX := Lib.hid hx
          have HY := Lib.hid hy
          clear hx hy
          go_wp2_with fail
          go_region
          clear i1
          go_wp2_with fail
          go_roundw
          case rel =>
            refine ⟨k - 1, swp M k (k - 1), by omega, by omega, by go_num, HUp.out.step (by omega) (by omega) (by omega), HT.out.swp (by omega) (by omega) (by omega) (by omega) (by omega), ?_, ?_⟩
            · have h1 := (HB.out.put k (.int .u16 y)).put (k - 1) (.int .u16 x)
              rw [srt_set M tl k y (by omega), srt_set _ tl (k - 1) x (by rw [List.length_set]; omega)] at h1
              have hsw : swp M k (k - 1) = (M.set k y).set (k - 1) x := by unfold swp; rw [HX.out, HY.out]
              rw [hsw]
              first | exact h1 | exact h1.drew
            · first | exact ((HF.out.put (.inl (by simp)) _ _ _).put (.inl (by simp)) _ _ _) | exact ((HF.out.put (.inl (by simp)) _ _ _).put (.inl (by simp)) _ _ _).drew
          case measure => simp [intOf]; omega
        · go_wp2_with fail
          refine bodyPost_ret (results_none rfl _ _ _) rfl ?_
          exact ⟨rfl, M, HT.out, (Dn.sorted (p := k) (m := m) HUp.out (by omega) (by omega) (by omega) H1.out (fun q h1 h2 => HLo.out q h1 (by omega)) (fun q h1 h2 => HHi.out q (by omega) h2)), HB.out, HF.out⟩

end Go.Proofs.Ytkpkfgnebgcoaaa
