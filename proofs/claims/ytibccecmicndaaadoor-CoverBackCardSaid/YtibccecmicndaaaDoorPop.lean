/-
  HOW MANY BITS A NUMBER HAS: the sum of the bits, taken by halves, quarters, bytes; in plain Lean. No program is named here.
-/
import Derived.Test.YtibccecmicndaaaDoorK
set_option linter.unusedVariables false
set_option linter.unusedSimpArgs false
namespace Go.Proofs.YtibccecmicndaaaDoor

/-- How many of the lowest k bits are set. -/
def cnt (x k : Nat) : Nat := (List.range k).countP fun i => x.testBit i
theorem cnt_zero (x : Nat) : cnt x 0 = 0 := rfl
theorem cnt_succ (x k : Nat) : cnt x (k + 1) = cnt x k + (x.testBit k).toNat := by
  unfold cnt
  rw [List.range_succ, List.countP_append]
  cases h : x.testBit k <;> simp [h]
theorem tb_low {a y i : Nat} (ha : a < 256) (hi : i < 8) : (a + 256 * y).testBit i = a.testBit i := by
  have h := Nat.testBit_two_pow_mul_add (i := 8) y (b := a) ha i
  rw [if_pos hi] at h
  rw [← h]
  congr 1
  omega
theorem tb_high {a y i : Nat} (ha : a < 256) : (a + 256 * y).testBit (8 + i) = y.testBit i := by
  have h := Nat.testBit_two_pow_mul_add (i := 8) y (b := a) ha (8 + i)
  rw [if_neg (by omega)] at h
  rw [show 8 + i - 8 = i by omega] at h
  rw [← h]
  congr 1
  omega
theorem cnt_byte {a y : Nat} (ha : a < 256) : ∀ k, cnt (a + 256 * y) (8 + k) = cnt a 8 + cnt y k := by
  intro k
  induction k with
  | zero =>
    rw [cnt_zero]
    simp only [cnt_succ, cnt_zero, tb_low ha (show 0 < 8 by decide), tb_low ha (show 1 < 8 by decide), tb_low ha (show 2 < 8 by decide), tb_low ha (show 3 < 8 by decide), tb_low ha (show 4 < 8 by decide), tb_low ha (show 5 < 8 by decide), tb_low ha (show 6 < 8 by decide), tb_low ha (show 7 < 8 by decide)]
    rfl
  | succ k ih =>
    rw [← Nat.add_assoc, cnt_succ (a + 256 * y) (8 + k), ih, tb_high ha, cnt_succ y k]
    omega
/-- 'and' byte by byte. -/
theorem and_byte {a y c d : Nat} (ha : a < 256) (hc : c < 256) : (a + 256 * y) &&& (c + 256 * d) = (a &&& c) + 256 * (y &&& d) := by
  have hac : a &&& c < 256 := Nat.lt_of_le_of_lt Nat.and_le_left ha
  apply Nat.eq_of_testBit_eq
  intro i
  rw [Nat.testBit_and]
  by_cases hi : i < 8
  · rw [tb_low ha hi, tb_low hc hi, tb_low hac hi, Nat.testBit_and]
  · obtain ⟨j, rfl⟩ : ∃ j, i = 8 + j := ⟨i - 8, by omega⟩
    rw [tb_high ha, tb_high hc, tb_high hac, Nat.testBit_and]
def mk8 (c : Nat) : Nat → Nat
  | 0 => 0
  | k + 1 => c + 256 * mk8 c k
def g1 (a : Nat) : Nat := (a / 2 &&& 85) + (a &&& 85)
def g2 (a : Nat) : Nat := (a / 4 &&& 51) + (a &&& 51)
def g3 (a : Nat) : Nat := a / 16 + a % 16
def s1 (x m : Nat) : Nat := (x / 2 &&& m) + (x &&& m)
def s2 (x m : Nat) : Nat := (x / 4 &&& m) + (x &&& m)
def s3 (x m : Nat) : Nat := (x / 16 + x) &&& m
theorem f1 : ∀ a : Fin 256, ∀ b : Fin 2, (a.val / 2 + 128 * b.val) &&& 85 = a.val / 2 &&& 85 := by decide +kernel
theorem f2 : ∀ a : Fin 256, ∀ b : Fin 4, (a.val / 4 + 64 * b.val) &&& 51 = a.val / 4 &&& 51 := by decide +kernel
theorem s1_byte {a y m : Nat} (ha : a < 256) : s1 (a + 256 * y) (85 + 256 * m) = g1 a + 256 * s1 y m := by
  unfold s1 g1
  have h1 : (a + 256 * y) / 2 = (a / 2 + 128 * (y % 2)) + 256 * (y / 2) := by omega
  rw [h1, and_byte (by omega) (by decide), and_byte ha (by decide)]
  have h2 := f1 ⟨a, ha⟩ ⟨y % 2, by omega⟩
  simp only at h2
  rw [h2]
  omega
theorem s2_byte {a y m : Nat} (ha : a < 256) : s2 (a + 256 * y) (51 + 256 * m) = g2 a + 256 * s2 y m := by
  unfold s2 g2
  have h1 : (a + 256 * y) / 4 = (a / 4 + 64 * (y % 4)) + 256 * (y / 4) := by omega
  rw [h1, and_byte (by omega) (by decide), and_byte ha (by decide)]
  have h2 := f2 ⟨a, ha⟩ ⟨y % 4, by omega⟩
  simp only at h2
  rw [h2]
  omega
theorem f3 : ∀ a : Fin 256, a.val &&& 15 = a.val % 16 := by decide +kernel
/-- Both nibbles are 4 at the most. -/
def nib (a : Nat) : Prop := a / 16 ≤ 4 ∧ a % 16 ≤ 4
theorem s3_byte {a y m : Nat} (ha : nib a) (hy : y % 16 ≤ 4) : s3 (a + 256 * y) (15 + 256 * m) = g3 a + 256 * s3 y m := by
  unfold s3 g3
  obtain ⟨h1, h2⟩ := ha
  have h3 : (a + 256 * y) / 16 + (a + 256 * y) = (a / 16 + a + 16 * (y % 16)) + 256 * (y / 16 + y) := by omega
  have h4 : a / 16 + a + 16 * (y % 16) < 256 := by omega
  rw [h3, and_byte h4 (by decide)]
  have h5 := f3 ⟨_, h4⟩
  simp only at h5
  rw [h5]
  omega
theorem g_pop : ∀ a : Fin 256, g3 (g2 (g1 a.val)) = cnt a.val 8 ∧ g1 a.val < 256 ∧ g2 (g1 a.val) / 16 ≤ 4 ∧ g2 (g1 a.val) % 16 ≤ 4 ∧ cnt a.val 8 ≤ 8 := by decide +kernel
/-- The bytes of a number. -/
def ofB : List Nat → Nat
  | [] => 0
  | a :: l => a + 256 * ofB l
theorem s1_all : ∀ l : List Nat, (∀ a ∈ l, a < 256) → s1 (ofB l) (mk8 85 l.length) = ofB (l.map g1)
  | [], _ => by decide
  | a :: l, h => by
    show s1 (a + 256 * ofB l) (85 + 256 * mk8 85 l.length) = _
    rw [s1_byte (h a (by simp)), s1_all l (fun b hb => h b (by simp [hb]))]
    rfl
theorem s2_all : ∀ l : List Nat, (∀ a ∈ l, a < 256) → s2 (ofB l) (mk8 51 l.length) = ofB (l.map g2)
  | [], _ => by decide
  | a :: l, h => by
    show s2 (a + 256 * ofB l) (51 + 256 * mk8 51 l.length) = _
    rw [s2_byte (h a (by simp)), s2_all l (fun b hb => h b (by simp [hb]))]
    rfl
theorem ofB_mod : ∀ l : List Nat, (∀ a ∈ l, nib a) → ofB l % 16 ≤ 4
  | [], _ => by decide
  | a :: l, h => by
    have := (h a (by simp)).2
    show (a + 256 * ofB l) % 16 ≤ 4
    omega
theorem s3_all : ∀ l : List Nat, (∀ a ∈ l, nib a) → s3 (ofB l) (mk8 15 l.length) = ofB (l.map g3)
  | [], _ => by decide
  | a :: l, h => by
    show s3 (a + 256 * ofB l) (15 + 256 * mk8 15 l.length) = _
    rw [s3_byte (h a (by simp)) (ofB_mod l (fun b hb => h b (by simp [hb]))), s3_all l (fun b hb => h b (by simp [hb]))]
    rfl
theorem ofB_8 {x : Nat} (hx : x < 18446744073709551616) : ∃ l : List Nat, l.length = 8 ∧ (∀ a ∈ l, a < 256) ∧ x = ofB l :=
  ⟨[x % 256, x / 256 % 256, x / 65536 % 256, x / 16777216 % 256, x / 4294967296 % 256, x / 1099511627776 % 256, x / 281474976710656 % 256, x / 72057594037927936 % 256], rfl, fun a ha => by simp at ha; omega, by simp only [ofB]; omega⟩
def addL : List Nat → List Nat → List Nat
  | a :: l, b :: m => (a + b) :: addL l m
  | l, [] => l
  | [], m => m
theorem ofB_addL : ∀ l m : List Nat, ofB (addL l m) = ofB l + ofB m
  | a :: l, b :: m => by
    show (a + b) + 256 * ofB (addL l m) = (a + 256 * ofB l) + (b + 256 * ofB m)
    rw [ofB_addL l m]
    omega
  | [], [] => rfl
  | a :: l, [] => rfl
  | [], b :: m => by show ofB (b :: m) = 0 + ofB (b :: m); omega
theorem ofB_div {a : Nat} (l : List Nat) (h : a < 256) : ofB (a :: l) / 256 = ofB l := by
  show (a + 256 * ofB l) / 256 = ofB l
  omega
theorem ofB_lt : ∀ (L : List Nat), (∀ a ∈ L, a < 256) → ofB L < 256 ^ L.length
  | [], _ => by decide
  | a :: L, h => by
    have h1 := ofB_lt L (fun b hb => h b (by simp [hb]))
    have h2 := h a (by simp)
    rw [List.length_cons, Nat.pow_succ]
    show a + 256 * ofB L < _
    omega
theorem ofB_lt8 {L : List Nat} (h : ∀ a ∈ L, a < 256) (hl : L.length = 8) : ofB L < 18446744073709551616 := by
  have := ofB_lt L h
  rw [hl] at this
  exact this
theorem sum_8 {b0 b1 b2 b3 b4 b5 b6 b7 x y z u : Nat} (h : ∀ a ∈ [b0, b1, b2, b3, b4, b5, b6, b7], a ≤ 8) (hx : x = ofB [b0, b1, b2, b3, b4, b5, b6, b7])
    (hy : y = x + x / 256) (hz : z = y + y / 65536) (hu : u = z + z / 4294967296) :
    y < 18446744073709551616 ∧ z < 18446744073709551616 ∧ u < 18446744073709551616 ∧ u % 128 = (b0 + b1 + (b2 + b3)) + (b4 + b5 + (b6 + b7)) := by
  simp only [List.forall_mem_cons] at h
  obtain ⟨h0, h1, h2, h3, h4, h5, h6, h7, _⟩ := h
  have ey : y = ofB [b0 + b1, b1 + b2, b2 + b3, b3 + b4, b4 + b5, b5 + b6, b6 + b7, b7] := by
    rw [hy, hx, ofB_div _ (by omega), ← ofB_addL]
    rfl
  have ez : z = ofB [b0 + b1 + (b2 + b3), b1 + b2 + (b3 + b4), b2 + b3 + (b4 + b5), b3 + b4 + (b5 + b6), b4 + b5 + (b6 + b7), b5 + b6 + b7, b6 + b7, b7] := by
    rw [hz, ey, show (65536 : Nat) = 256 * 256 from rfl, ← Nat.div_div_eq_div_mul, ofB_div _ (by omega), ofB_div _ (by omega), ← ofB_addL]
    rfl
  have eu : u = ofB [b0 + b1 + (b2 + b3) + (b4 + b5 + (b6 + b7)), b1 + b2 + (b3 + b4) + (b5 + b6 + b7), b2 + b3 + (b4 + b5) + (b6 + b7), b3 + b4 + (b5 + b6) + b7, b4 + b5 + (b6 + b7), b5 + b6 + b7, b6 + b7, b7] := by
    rw [hu, ez, show (4294967296 : Nat) = 256 * 256 * 256 * 256 from rfl, ← Nat.div_div_eq_div_mul, ← Nat.div_div_eq_div_mul, ← Nat.div_div_eq_div_mul, ofB_div _ (by omega), ofB_div _ (by omega), ofB_div _ (by omega), ofB_div _ (by omega), ← ofB_addL]
    rfl
  refine ⟨?_, ?_, ?_, ?_⟩
  · rw [ey]; exact ofB_lt8 (by simp only [List.forall_mem_cons]; exact ⟨by omega, by omega, by omega, by omega, by omega, by omega, by omega, by omega, by simp⟩) rfl
  · rw [ez]; exact ofB_lt8 (by simp only [List.forall_mem_cons]; exact ⟨by omega, by omega, by omega, by omega, by omega, by omega, by omega, by omega, by simp⟩) rfl
  · rw [eu]; exact ofB_lt8 (by simp only [List.forall_mem_cons]; exact ⟨by omega, by omega, by omega, by omega, by omega, by omega, by omega, by omega, by simp⟩) rfl
  · rw [eu]
    show (b0 + b1 + (b2 + b3) + (b4 + b5 + (b6 + b7)) + 256 * _) % 128 = _
    generalize ofB _ = r
    clear hx hy hz hu ey ez eu
    omega
/-- The whole of it. -/
theorem pop_all {x a b c y z u : Nat} (hx : x < 18446744073709551616) (ha : a = s1 x 6148914691236517205) (hb : b = s2 a 3689348814741910323) (hc : c = s3 b 1085102592571150095)
    (hy : y = c + c / 256) (hz : z = y + y / 65536) (hu : u = z + z / 4294967296) :
    a < 18446744073709551616 ∧ b < 18446744073709551616 ∧ c < 18446744073709551616 ∧ y < 18446744073709551616 ∧ z < 18446744073709551616 ∧ u < 18446744073709551616 ∧ u % 128 = cnt x 64 := by
  obtain ⟨l, hl, hlb, rfl⟩ := ofB_8 hx
  clear hx
  have q := fun a (ha : a ∈ l) => g_pop ⟨a, hlb a ha⟩
  have e1 : a = ofB (l.map g1) := by rw [ha, ← s1_all l hlb, hl]; rfl
  have hb1 : ∀ a ∈ l.map g1, a < 256 := fun a ha => by obtain ⟨b, h1, rfl⟩ := List.mem_map.1 ha; exact (q b h1).2.1
  have hb2 : ∀ a ∈ (l.map g1).map g2, nib a := fun a ha => by
    obtain ⟨b, h1, rfl⟩ := List.mem_map.1 ha
    obtain ⟨d, h2, rfl⟩ := List.mem_map.1 h1
    exact ⟨(q d h2).2.2.1, (q d h2).2.2.2.1⟩
  have e2 : b = ofB ((l.map g1).map g2) := by rw [hb, e1, ← s2_all _ hb1, List.length_map, hl]; rfl
  have e3 : c = ofB (((l.map g1).map g2).map g3) := by rw [hc, e2, ← s3_all _ hb2, List.length_map, List.length_map, hl]; rfl
  have e4 : ((l.map g1).map g2).map g3 = l.map fun a => cnt a 8 := by
    rw [List.map_map, List.map_map]
    exact List.map_congr_left fun a ha => (q a ha).1
  have la : a < 18446744073709551616 := by rw [e1]; exact ofB_lt8 hb1 (by rw [List.length_map, hl])
  have lb : b < 18446744073709551616 := by
    rw [e2]
    exact ofB_lt8 (fun a ha => by have := hb2 a ha; unfold nib at this; omega) (by rw [List.length_map, List.length_map, hl])
  have lc : c < 18446744073709551616 := by
    rw [e3, e4]
    exact ofB_lt8 (fun a ha => by obtain ⟨b, h1, rfl⟩ := List.mem_map.1 ha; have := (q b h1).2.2.2.2; simp only at this; omega) (by rw [List.length_map, hl])
  refine ⟨la, lb, lc, ?_⟩
  rw [e4] at e3
  clear e1 e2 e4 hb1 hb2 la lb lc ha hb hc
  match l, hl with
  | [a0, a1, a2, a3, a4, a5, a6, a7], _ =>
    have hcn : cnt (ofB [a0, a1, a2, a3, a4, a5, a6, a7]) 64 = cnt a0 8 + (cnt a1 8 + (cnt a2 8 + (cnt a3 8 + (cnt a4 8 + (cnt a5 8 + (cnt a6 8 + (cnt a7 8 + 0))))))) := by
      simp only [ofB]
      rw [show 64 = 8 + (8 + (8 + (8 + (8 + (8 + (8 + (8 + 0))))))) from rfl, cnt_byte (hlb a0 (by simp)), cnt_byte (hlb a1 (by simp)), cnt_byte (hlb a2 (by simp)), cnt_byte (hlb a3 (by simp)), cnt_byte (hlb a4 (by simp)), cnt_byte (hlb a5 (by simp)), cnt_byte (hlb a6 (by simp)), cnt_byte (hlb a7 (by simp)), cnt_zero]
    have hs := sum_8 (x := c) (b0 := cnt a0 8) (b1 := cnt a1 8) (b2 := cnt a2 8) (b3 := cnt a3 8) (b4 := cnt a4 8) (b5 := cnt a5 8) (b6 := cnt a6 8) (b7 := cnt a7 8) (by
      simp only [List.forall_mem_cons]
      exact ⟨(q a0 (by simp)).2.2.2.2, (q a1 (by simp)).2.2.2.2, (q a2 (by simp)).2.2.2.2, (q a3 (by simp)).2.2.2.2, (q a4 (by simp)).2.2.2.2, (q a5 (by simp)).2.2.2.2, (q a6 (by simp)).2.2.2.2, (q a7 (by simp)).2.2.2.2, by simp⟩) e3 hy hz hu
    refine ⟨hs.1, hs.2.1, hs.2.2.1, ?_⟩
    rw [hs.2.2.2, hcn]
    omega

end Go.Proofs.YtibccecmicndaaaDoor
