/-
  MASK: the program's functions, the plain laws. Printed by collect.py out of XPop XU64 XMaA XMaB XMaC XMaD XMaE XMaF XMaG XMaH XMaP XMaQ XMaK XMaR.
-/
import Derived.Test.YtjflcijiaennkaaDoorBa
import Derived.IntWalk
import Derived.Test.YtjflcijiaennkaaDoorProg
import Derived.Laws.StructEq
import Derived.Deep.DeepCutAuto
import Derived.Test.YtjflcijiaennkaaDoorShl
import Derived.Lib.ItoaNum
import Derived.Test.YtjflcijiaennkaaDoorBb
set_option linter.unusedVariables false
set_option linter.unusedSimpArgs false
namespace Go.Proofs.YtjflcijiaennkaaDoor
open Go.RowKit

section
/-- How many of the lowest k bits are set. -/
def cnt (x k : Nat) : Nat := (List.range k).countP fun i => x.testBit i
theorem cnt_zero (x : Nat) : cnt x 0 = 0 := rfl
theorem cnt_succ (x k : Nat) : cnt x (k + 1) = cnt x k + (x.testBit k).toNat := by
  unfold cnt
  rw [List.range_succ, List.countP_append]
  cases h : x.testBit k <;> simp [h]
theorem tb_low {a y i : Nat} (ha : a < 256) (hi : i < 8) : (a + 256 * y).testBit i = a.testBit i := by
  have h := Nat.testBit_two_pow_mul_add (i := 8) y (b := a) ha i
  rw [if_pos hi] at h
  rw [← h]
  congr 1
  omega
theorem tb_high {a y i : Nat} (ha : a < 256) : (a + 256 * y).testBit (8 + i) = y.testBit i := by
  have h := Nat.testBit_two_pow_mul_add (i := 8) y (b := a) ha (8 + i)
  rw [if_neg (by omega)] at h
  rw [show 8 + i - 8 = i by omega] at h
  rw [← h]
  congr 1
  omega
theorem cnt_byte {a y : Nat} (ha : a < 256) : ∀ k, cnt (a + 256 * y) (8 + k) = cnt a 8 + cnt y k := by
  intro k
  induction k with
  | zero =>
    rw [cnt_zero]
    simp only [cnt_succ, cnt_zero, tb_low ha (show 0 < 8 by decide), tb_low ha (show 1 < 8 by decide), tb_low ha (show 2 < 8 by decide), tb_low ha (show 3 < 8 by decide), tb_low ha (show 4 < 8 by decide), tb_low ha (show 5 < 8 by decide), tb_low ha (show 6 < 8 by decide), tb_low ha (show 7 < 8 by decide)]
    rfl
  | succ k ih =>
    rw [← Nat.add_assoc, cnt_succ (a + 256 * y) (8 + k), ih, tb_high ha, cnt_succ y k]
    omega
/-- 'and' byte by byte. -/
theorem and_byte {a y c d : Nat} (ha : a < 256) (hc : c < 256) : (a + 256 * y) &&& (c + 256 * d) = (a &&& c) + 256 * (y &&& d) := by
  have hac : a &&& c < 256 := Nat.lt_of_le_of_lt Nat.and_le_left ha
  apply Nat.eq_of_testBit_eq
  intro i
  rw [Nat.testBit_and]
  by_cases hi : i < 8
  · rw [tb_low ha hi, tb_low hc hi, tb_low hac hi, Nat.testBit_and]
  · obtain ⟨j, rfl⟩ : ∃ j, i = 8 + j := ⟨i - 8, by omega⟩
    rw [tb_high ha, tb_high hc, tb_high hac, Nat.testBit_and]
def mk8 (c : Nat) : Nat → Nat
  | 0 => 0
  | k + 1 => c + 256 * mk8 c k
def g1 (a : Nat) : Nat := (a / 2 &&& 85) + (a &&& 85)
def g2 (a : Nat) : Nat := (a / 4 &&& 51) + (a &&& 51)
def g3 (a : Nat) : Nat := a / 16 + a % 16
def s1 (x m : Nat) : Nat := (x / 2 &&& m) + (x &&& m)
def s2 (x m : Nat) : Nat := (x / 4 &&& m) + (x &&& m)
def s3 (x m : Nat) : Nat := (x / 16 + x) &&& m
theorem f1 : ∀ a : Fin 256, ∀ b : Fin 2, (a.val / 2 + 128 * b.val) &&& 85 = a.val / 2 &&& 85 := by decide +kernel
theorem f2 : ∀ a : Fin 256, ∀ b : Fin 4, (a.val / 4 + 64 * b.val) &&& 51 = a.val / 4 &&& 51 := by decide +kernel
theorem s1_byte {a y m : Nat} (ha : a < 256) : s1 (a + 256 * y) (85 + 256 * m) = g1 a + 256 * s1 y m := by
  unfold s1 g1
  have h1 : (a + 256 * y) / 2 = (a / 2 + 128 * (y % 2)) + 256 * (y / 2) := by omega
  rw [h1, and_byte (by omega) (by decide), and_byte ha (by decide)]
  have h2 := f1 ⟨a, ha⟩ ⟨y % 2, by omega⟩
  simp only at h2
  rw [h2]
  omega
theorem s2_byte {a y m : Nat} (ha : a < 256) : s2 (a + 256 * y) (51 + 256 * m) = g2 a + 256 * s2 y m := by
  unfold s2 g2
  have h1 : (a + 256 * y) / 4 = (a / 4 + 64 * (y % 4)) + 256 * (y / 4) := by omega
  rw [h1, and_byte (by omega) (by decide), and_byte ha (by decide)]
  have h2 := f2 ⟨a, ha⟩ ⟨y % 4, by omega⟩
  simp only at h2
  rw [h2]
  omega
theorem f3 : ∀ a : Fin 256, a.val &&& 15 = a.val % 16 := by decide +kernel
/-- Both nibbles are 4 at the most. -/
def nib (a : Nat) : Prop := a / 16 ≤ 4 ∧ a % 16 ≤ 4
theorem s3_byte {a y m : Nat} (ha : nib a) (hy : y % 16 ≤ 4) : s3 (a + 256 * y) (15 + 256 * m) = g3 a + 256 * s3 y m := by
  unfold s3 g3
  obtain ⟨h1, h2⟩ := ha
  have h3 : (a + 256 * y) / 16 + (a + 256 * y) = (a / 16 + a + 16 * (y % 16)) + 256 * (y / 16 + y) := by omega
  have h4 : a / 16 + a + 16 * (y % 16) < 256 := by omega
  rw [h3, and_byte h4 (by decide)]
  have h5 := f3 ⟨_, h4⟩
  simp only at h5
  rw [h5]
  omega
theorem g_pop : ∀ a : Fin 256, g3 (g2 (g1 a.val)) = cnt a.val 8 ∧ g1 a.val < 256 ∧ g2 (g1 a.val) / 16 ≤ 4 ∧ g2 (g1 a.val) % 16 ≤ 4 ∧ cnt a.val 8 ≤ 8 := by decide +kernel
/-- The bytes of a number. -/
def ofB : List Nat → Nat
  | [] => 0
  | a :: l => a + 256 * ofB l
theorem s1_all : ∀ l : List Nat, (∀ a ∈ l, a < 256) → s1 (ofB l) (mk8 85 l.length) = ofB (l.map g1)
  | [], _ => by decide
  | a :: l, h => by
    show s1 (a + 256 * ofB l) (85 + 256 * mk8 85 l.length) = _
    rw [s1_byte (h a (by simp)), s1_all l (fun b hb => h b (by simp [hb]))]
    rfl
theorem s2_all : ∀ l : List Nat, (∀ a ∈ l, a < 256) → s2 (ofB l) (mk8 51 l.length) = ofB (l.map g2)
  | [], _ => by decide
  | a :: l, h => by
    show s2 (a + 256 * ofB l) (51 + 256 * mk8 51 l.length) = _
    rw [s2_byte (h a (by simp)), s2_all l (fun b hb => h b (by simp [hb]))]
    rfl
theorem ofB_mod : ∀ l : List Nat, (∀ a ∈ l, nib a) → ofB l % 16 ≤ 4
  | [], _ => by decide
  | a :: l, h => by
    have := (h a (by simp)).2
    show (a + 256 * ofB l) % 16 ≤ 4
    omega
theorem s3_all : ∀ l : List Nat, (∀ a ∈ l, nib a) → s3 (ofB l) (mk8 15 l.length) = ofB (l.map g3)
  | [], _ => by decide
  | a :: l, h => by
    show s3 (a + 256 * ofB l) (15 + 256 * mk8 15 l.length) = _
    rw [s3_byte (h a (by simp)) (ofB_mod l (fun b hb => h b (by simp [hb]))), s3_all l (fun b hb => h b (by simp [hb]))]
    rfl
theorem ofB_8 {x : Nat} (hx : x < 18446744073709551616) : ∃ l : List Nat, l.length = 8 ∧ (∀ a ∈ l, a < 256) ∧ x = ofB l :=
  ⟨[x % 256, x / 256 % 256, x / 65536 % 256, x / 16777216 % 256, x / 4294967296 % 256, x / 1099511627776 % 256, x / 281474976710656 % 256, x / 72057594037927936 % 256], rfl, fun a ha => by simp at ha; omega, by simp only [ofB]; omega⟩
def addL : List Nat → List Nat → List Nat
  | a :: l, b :: m => (a + b) :: addL l m
  | l, [] => l
  | [], m => m
theorem ofB_addL : ∀ l m : List Nat, ofB (addL l m) = ofB l + ofB m
  | a :: l, b :: m => by
    show (a + b) + 256 * ofB (addL l m) = (a + 256 * ofB l) + (b + 256 * ofB m)
    rw [ofB_addL l m]
    omega
  | [], [] => rfl
  | a :: l, [] => rfl
  | [], b :: m => by show ofB (b :: m) = 0 + ofB (b :: m); omega
theorem ofB_div {a : Nat} (l : List Nat) (h : a < 256) : ofB (a :: l) / 256 = ofB l := by
  show (a + 256 * ofB l) / 256 = ofB l
  omega
theorem ofB_lt : ∀ (L : List Nat), (∀ a ∈ L, a < 256) → ofB L < 256 ^ L.length
  | [], _ => by decide
  | a :: L, h => by
    have h1 := ofB_lt L (fun b hb => h b (by simp [hb]))
    have h2 := h a (by simp)
    rw [List.length_cons, Nat.pow_succ]
    show a + 256 * ofB L < _
    omega
theorem ofB_lt8 {L : List Nat} (h : ∀ a ∈ L, a < 256) (hl : L.length = 8) : ofB L < 18446744073709551616 := by
  have := ofB_lt L h
  rw [hl] at this
  exact this
theorem sum_8 {b0 b1 b2 b3 b4 b5 b6 b7 x y z u : Nat} (h : ∀ a ∈ [b0, b1, b2, b3, b4, b5, b6, b7], a ≤ 8) (hx : x = ofB [b0, b1, b2, b3, b4, b5, b6, b7])
    (hy : y = x + x / 256) (hz : z = y + y / 65536) (hu : u = z + z / 4294967296) :
    y < 18446744073709551616 ∧ z < 18446744073709551616 ∧ u < 18446744073709551616 ∧ u % 128 = (b0 + b1 + (b2 + b3)) + (b4 + b5 + (b6 + b7)) := by
  simp only [List.forall_mem_cons] at h
  obtain ⟨h0, h1, h2, h3, h4, h5, h6, h7, _⟩ := h
  have ey : y = ofB [b0 + b1, b1 + b2, b2 + b3, b3 + b4, b4 + b5, b5 + b6, b6 + b7, b7] := by
    rw [hy, hx, ofB_div _ (by omega), ← ofB_addL]
    rfl
  have ez : z = ofB [b0 + b1 + (b2 + b3), b1 + b2 + (b3 + b4), b2 + b3 + (b4 + b5), b3 + b4 + (b5 + b6), b4 + b5 + (b6 + b7), b5 + b6 + b7, b6 + b7, b7] := by
    rw [hz, ey, show (65536 : Nat) = 256 * 256 from rfl, ← Nat.div_div_eq_div_mul, ofB_div _ (by omega), ofB_div _ (by omega), ← ofB_addL]
    rfl
  have eu : u = ofB [b0 + b1 + (b2 + b3) + (b4 + b5 + (b6 + b7)), b1 + b2 + (b3 + b4) + (b5 + b6 + b7), b2 + b3 + (b4 + b5) + (b6 + b7), b3 + b4 + (b5 + b6) + b7, b4 + b5 + (b6 + b7), b5 + b6 + b7, b6 + b7, b7] := by
    rw [hu, ez, show (4294967296 : Nat) = 256 * 256 * 256 * 256 from rfl, ← Nat.div_div_eq_div_mul, ← Nat.div_div_eq_div_mul, ← Nat.div_div_eq_div_mul, ofB_div _ (by omega), ofB_div _ (by omega), ofB_div _ (by omega), ofB_div _ (by omega), ← ofB_addL]
    rfl
  refine ⟨?_, ?_, ?_, ?_⟩
  · rw [ey]; exact ofB_lt8 (by simp only [List.forall_mem_cons]; exact ⟨by omega, by omega, by omega, by omega, by omega, by omega, by omega, by omega, by simp⟩) rfl
  · rw [ez]; exact ofB_lt8 (by simp only [List.forall_mem_cons]; exact ⟨by omega, by omega, by omega, by omega, by omega, by omega, by omega, by omega, by simp⟩) rfl
  · rw [eu]; exact ofB_lt8 (by simp only [List.forall_mem_cons]; exact ⟨by omega, by omega, by omega, by omega, by omega, by omega, by omega, by omega, by simp⟩) rfl
  · rw [eu]
    show (b0 + b1 + (b2 + b3) + (b4 + b5 + (b6 + b7)) + 256 * _) % 128 = _
    generalize ofB _ = r
    clear hx hy hz hu ey ez eu
    omega
/-- The whole of it. -/
theorem pop_all {x a b c y z u : Nat} (hx : x < 18446744073709551616) (ha : a = s1 x 6148914691236517205) (hb : b = s2 a 3689348814741910323) (hc : c = s3 b 1085102592571150095)
    (hy : y = c + c / 256) (hz : z = y + y / 65536) (hu : u = z + z / 4294967296) :
    a < 18446744073709551616 ∧ b < 18446744073709551616 ∧ c < 18446744073709551616 ∧ y < 18446744073709551616 ∧ z < 18446744073709551616 ∧ u < 18446744073709551616 ∧ u % 128 = cnt x 64 := by
  obtain ⟨l, hl, hlb, rfl⟩ := ofB_8 hx
  clear hx
  have q := fun a (ha : a ∈ l) => g_pop ⟨a, hlb a ha⟩
  have e1 : a = ofB (l.map g1) := by rw [ha, ← s1_all l hlb, hl]; rfl
  have hb1 : ∀ a ∈ l.map g1, a < 256 := fun a ha => by obtain ⟨b, h1, rfl⟩ := List.mem_map.1 ha; exact (q b h1).2.1
  have hb2 : ∀ a ∈ (l.map g1).map g2, nib a := fun a ha => by
    obtain ⟨b, h1, rfl⟩ := List.mem_map.1 ha
    obtain ⟨d, h2, rfl⟩ := List.mem_map.1 h1
    exact ⟨(q d h2).2.2.1, (q d h2).2.2.2.1⟩
  have e2 : b = ofB ((l.map g1).map g2) := by rw [hb, e1, ← s2_all _ hb1, List.length_map, hl]; rfl
  have e3 : c = ofB (((l.map g1).map g2).map g3) := by rw [hc, e2, ← s3_all _ hb2, List.length_map, List.length_map, hl]; rfl
  have e4 : ((l.map g1).map g2).map g3 = l.map fun a => cnt a 8 := by
    rw [List.map_map, List.map_map]
    exact List.map_congr_left fun a ha => (q a ha).1
  have la : a < 18446744073709551616 := by rw [e1]; exact ofB_lt8 hb1 (by rw [List.length_map, hl])
  have lb : b < 18446744073709551616 := by
    rw [e2]
    exact ofB_lt8 (fun a ha => by have := hb2 a ha; unfold nib at this; omega) (by rw [List.length_map, List.length_map, hl])
  have lc : c < 18446744073709551616 := by
    rw [e3, e4]
    exact ofB_lt8 (fun a ha => by obtain ⟨b, h1, rfl⟩ := List.mem_map.1 ha; have := (q b h1).2.2.2.2; simp only at this; omega) (by rw [List.length_map, hl])
  refine ⟨la, lb, lc, ?_⟩
  rw [e4] at e3
  clear e1 e2 e4 hb1 hb2 la lb lc ha hb hc
  match l, hl with
  | [a0, a1, a2, a3, a4, a5, a6, a7], _ =>
    have hcn : cnt (ofB [a0, a1, a2, a3, a4, a5, a6, a7]) 64 = cnt a0 8 + (cnt a1 8 + (cnt a2 8 + (cnt a3 8 + (cnt a4 8 + (cnt a5 8 + (cnt a6 8 + (cnt a7 8 + 0))))))) := by
      simp only [ofB]
      rw [show 64 = 8 + (8 + (8 + (8 + (8 + (8 + (8 + (8 + 0))))))) from rfl, cnt_byte (hlb a0 (by simp)), cnt_byte (hlb a1 (by simp)), cnt_byte (hlb a2 (by simp)), cnt_byte (hlb a3 (by simp)), cnt_byte (hlb a4 (by simp)), cnt_byte (hlb a5 (by simp)), cnt_byte (hlb a6 (by simp)), cnt_byte (hlb a7 (by simp)), cnt_zero]
    have hs := sum_8 (x := c) (b0 := cnt a0 8) (b1 := cnt a1 8) (b2 := cnt a2 8) (b3 := cnt a3 8) (b4 := cnt a4 8) (b5 := cnt a5 8) (b6 := cnt a6 8) (b7 := cnt a7 8) (by
      simp only [List.forall_mem_cons]
      exact ⟨(q a0 (by simp)).2.2.2.2, (q a1 (by simp)).2.2.2.2, (q a2 (by simp)).2.2.2.2, (q a3 (by simp)).2.2.2.2, (q a4 (by simp)).2.2.2.2, (q a5 (by simp)).2.2.2.2, (q a6 (by simp)).2.2.2.2, (q a7 (by simp)).2.2.2.2, by simp⟩) e3 hy hz hu
    refine ⟨hs.1, hs.2.1, hs.2.2.1, ?_⟩
    rw [hs.2.2.2, hcn]
    omega
end
section
open Go.RowKit
theorem bv_nat {a : Nat} (ha : a < 18446744073709551616) : (BitVec.ofInt 64 (a : Int)).toNat = a := by
  rw [BitVec.toNat_ofInt]
  have : ((a : Int) % ((2 ^ 64 : Nat) : Int)) = (a : Int) := Int.emod_eq_of_lt (Int.natCast_nonneg _) (by omega)
  rw [this]
  exact Int.toNat_natCast a
theorem u_wrap {n : Nat} (h : n < 18446744073709551616) : IntKind.u64.wrap (n : Int) = (n : Int) := by
  rw [IntKind.wrap_u64]
  omega
theorem u_wrap_mod (n : Nat) : IntKind.u64.wrap (n : Int) = ((n % 18446744073709551616 : Nat) : Int) := by
  rw [IntKind.wrap_u64]
  omega
theorem u_and {a b : Nat} (ha : a < 18446744073709551616) (hb : b < 18446744073709551616) : bits .and .u64 (a : Int) (b : Int) = ((a &&& b : Nat) : Int) := by
  have h : bits .and .u64 (a : Int) (b : Int) = IntKind.u64.wrap ((BitVec.ofInt 64 (a : Int) &&& BitVec.ofInt 64 (b : Int)).toNat : Int) := rfl
  rw [h, BitVec.toNat_and, bv_nat ha, bv_nat hb]
  exact u_wrap (Nat.lt_of_le_of_lt Nat.and_le_left ha)
theorem u_or {a b : Nat} (ha : a < 18446744073709551616) (hb : b < 18446744073709551616) : bits .or .u64 (a : Int) (b : Int) = ((a ||| b : Nat) : Int) := by
  have h : bits .or .u64 (a : Int) (b : Int) = IntKind.u64.wrap ((BitVec.ofInt 64 (a : Int) ||| BitVec.ofInt 64 (b : Int)).toNat : Int) := rfl
  rw [h, BitVec.toNat_or, bv_nat ha, bv_nat hb]
  exact u_wrap (Nat.or_lt_two_pow (n := 64) ha hb)
theorem u_xor {a b : Nat} (ha : a < 18446744073709551616) (hb : b < 18446744073709551616) : bits .xor .u64 (a : Int) (b : Int) = ((a ^^^ b : Nat) : Int) := by
  have h : bits .xor .u64 (a : Int) (b : Int) = IntKind.u64.wrap ((BitVec.ofInt 64 (a : Int) ^^^ BitVec.ofInt 64 (b : Int)).toNat : Int) := rfl
  rw [h, BitVec.toNat_xor, bv_nat ha, bv_nat hb]
  exact u_wrap (Nat.xor_lt_two_pow (n := 64) ha hb)
theorem u_andNot {a b : Nat} (ha : a < 18446744073709551616) (hb : b < 18446744073709551616) : bits .andNot .u64 (a : Int) (b : Int) = ((a &&& (18446744073709551615 - b) : Nat) : Int) := by
  have h : bits .andNot .u64 (a : Int) (b : Int) = IntKind.u64.wrap ((BitVec.ofInt 64 (a : Int) &&& ~~~ BitVec.ofInt 64 (b : Int)).toNat : Int) := rfl
  rw [h, BitVec.toNat_and, BitVec.toNat_not, bv_nat ha, bv_nat hb]
  exact u_wrap (Nat.lt_of_le_of_lt Nat.and_le_left ha)
theorem c_div (h k : Nat) : (h : Int) / 2 ^ k = ((h / 2 ^ k : Nat) : Int) := by
  rw [Int.natCast_ediv, Int.natCast_pow]
  rfl
theorem c_shl (h k : Nat) : IntKind.u64.wrap ((h : Int) * 2 ^ k) = ((h * 2 ^ k % 18446744073709551616 : Nat) : Int) := by
  rw [← u_wrap_mod, Int.natCast_mul, Int.natCast_pow]
  rfl
theorem mod_and (X M : Nat) (hM : M < 18446744073709551616) : (X % 18446744073709551616) &&& M = X &&& M := by
  apply Nat.eq_of_testBit_eq
  intro i
  rw [Nat.testBit_and, Nat.testBit_and, show (18446744073709551616 : Nat) = 2 ^ 64 from rfl, Nat.testBit_mod_two_pow]
  by_cases hi : i < 64
  · simp [hi]
  · have : M.testBit i = false := Nat.testBit_lt_two_pow (Nat.lt_of_lt_of_le hM (show 2 ^ 64 ≤ 2 ^ i from Nat.pow_le_pow_right (by decide) (by omega)))
    simp [this]
theorem i_and127 {u : Nat} (hu : u < 18446744073709551616) : bits .and .i64 (IntKind.i64.wrap (u : Int)) 127 = ((u % 128 : Nat) : Int) := by
  have h : bits .and .i64 (IntKind.i64.wrap (u : Int)) 127 = IntKind.i64.wrap ((BitVec.ofInt 64 (IntKind.i64.wrap (u : Int)) &&& BitVec.ofInt 64 127).toNat : Int) := rfl
  have e : (BitVec.ofInt 64 (IntKind.i64.wrap (u : Int))).toNat = u := by
    rw [BitVec.toNat_ofInt, IntWalk.i64_left]
    unfold wrap64
    omega
  have e2 : (BitVec.ofInt 64 (127 : Int)).toNat = 2 ^ 7 - 1 := by decide
  rw [h, BitVec.toNat_and, e, e2, Nat.and_two_pow_sub_one_eq_mod]
  exact IntWalk.i64_in _ (by omega)
end
section
open Go.RowKit
set_option maxRecDepth 100000 in
set_option maxHeartbeats 4000000 in
theorem ones_c (x : Nat) (w : World) (hx : x < 18446744073709551616) :
    Calls Tryd.prog 72 #[.int .u64 (x : Int)] w fun e w' => e = .returned (.int .i64 (cnt x 64 : Int)) ∧ w = w' := by
  obtain ⟨a, ha⟩ : ∃ a, a = s1 x 6148914691236517205 := ⟨_, rfl⟩
  obtain ⟨b, hb⟩ : ∃ b, b = s2 a 3689348814741910323 := ⟨_, rfl⟩
  obtain ⟨c, hc⟩ : ∃ c, c = s3 b 1085102592571150095 := ⟨_, rfl⟩
  obtain ⟨y, hy⟩ : ∃ y, y = c + c / 256 := ⟨_, rfl⟩
  obtain ⟨z, hz⟩ : ∃ z, z = y + y / 65536 := ⟨_, rfl⟩
  obtain ⟨u, hu⟩ : ∃ u, u = z + z / 4294967296 := ⟨_, rfl⟩
  obtain ⟨la, lb, lc, ly, lz, lu, hf⟩ := pop_all hx ha hb hc hy hz hu
  obtain ⟨p1, h1⟩ : ∃ p, p = x / 2 &&& 6148914691236517205 := ⟨_, rfl⟩
  obtain ⟨p2, h2⟩ : ∃ p, p = x &&& 6148914691236517205 := ⟨_, rfl⟩
  obtain ⟨p3, h3⟩ : ∃ p, p = a / 4 &&& 3689348814741910323 := ⟨_, rfl⟩
  obtain ⟨p4, h4⟩ : ∃ p, p = a &&& 3689348814741910323 := ⟨_, rfl⟩
  obtain ⟨q, hq⟩ : ∃ q, q = (b / 16 + b) % 18446744073709551616 := ⟨_, rfl⟩
  have e1 : bits .and .u64 ((x : Int) / 2) 6148914691236517205 = (p1 : Int) := by rw [h1]; exact u_and (a := x / 2) (b := 6148914691236517205) (by omega) (by decide)
  have e2 : bits .and .u64 (x : Int) 6148914691236517205 = (p2 : Int) := by rw [h2]; exact u_and (b := 6148914691236517205) hx (by decide)
  have e3 : IntKind.u64.wrap ((p1 : Int) + (p2 : Int)) = (a : Int) := by
    have : ((p1 : Int) + (p2 : Int)) = (a : Int) := by rw [ha, h1, h2]; rfl
    rw [this]; exact u_wrap la
  have e4 : bits .and .u64 ((a : Int) / 4) 3689348814741910323 = (p3 : Int) := by rw [h3]; exact u_and (a := a / 4) (b := 3689348814741910323) (by omega) (by decide)
  have e5 : bits .and .u64 (a : Int) 3689348814741910323 = (p4 : Int) := by rw [h4]; exact u_and (b := 3689348814741910323) la (by decide)
  have e6 : IntKind.u64.wrap ((p3 : Int) + (p4 : Int)) = (b : Int) := by
    have : ((p3 : Int) + (p4 : Int)) = (b : Int) := by rw [hb, h3, h4]; rfl
    rw [this]; exact u_wrap lb
  have e7 : IntKind.u64.wrap ((b : Int) / 16 + (b : Int)) = (q : Int) := by rw [hq]; exact u_wrap_mod (b / 16 + b)
  have e8 : bits .and .u64 (q : Int) 1085102592571150095 = (c : Int) := by
    rw [hq, hc]
    have := u_and (a := (b / 16 + b) % 18446744073709551616) (b := 1085102592571150095) (by omega) (by decide)
    rw [mod_and _ _ (by decide)] at this
    exact this
  have e9 : IntKind.u64.wrap ((c : Int) + (c : Int) / 256) = (y : Int) := by
    have : ((c : Int) + (c : Int) / 256) = (y : Int) := by rw [hy]; rfl
    rw [this]; exact u_wrap ly
  have e10 : IntKind.u64.wrap ((y : Int) + (y : Int) / 65536) = (z : Int) := by
    have : ((y : Int) + (y : Int) / 65536) = (z : Int) := by rw [hz]; rfl
    rw [this]; exact u_wrap lz
  have e11 : IntKind.u64.wrap ((z : Int) + (z : Int) / 4294967296) = (u : Int) := by
    have : ((z : Int) + (z : Int) / 4294967296) = (u : Int) := by rw [hu]; rfl
    rw [this]; exact u_wrap lu
  have e12 : bits .and .i64 (IntKind.i64.wrap (u : Int)) 127 = (cnt x 64 : Int) := by rw [i_and127 lu, hf]
  have e13 : bits .and .i64 (wrap64 (u : Int)) 127 = (cnt x 64 : Int) := by rw [← IntWalk.i64_left]; exact e12
  obtain ⟨n, hn⟩ : ∃ n, n = cnt x 64 := ⟨_, rfl⟩
  rw [← hn] at e12 e13 ⊢
  clear ha hb hc hy hz hu la lb lc ly lz lu hf h1 h2 h3 h4 hq hn hx
  go_enter Tryd.func72, Tryd.ntmps72
  go_wp2_with fail
  go_ret
  exact ⟨rfl, rfl⟩
end
section
open Go.RowKit
/-- A mask: its two halves. -/
def mV (h l : Nat) : Value := .agg #[.int .u64 (h : Int), .int .u64 (l : Int)]
set_option maxRecDepth 100000 in
set_option maxHeartbeats 4000000 in
theorem mor_c (h l h' l' : Nat) (w : World) (h0 : h < 18446744073709551616) (h1 : l < 18446744073709551616) (h2 : h' < 18446744073709551616) (h3 : l' < 18446744073709551616) :
    Calls Tryd.prog 65 #[mV h l, mV h' l'] w fun e w' => e = .returned (mV (h ||| h') (l ||| l')) ∧ Frm [] w w' := by
  have e1 := u_or h0 h2
  have e2 := u_or h1 h3
  obtain ⟨p, hp⟩ : ∃ p, p = h ||| h' := ⟨_, rfl⟩
  obtain ⟨q, hq⟩ : ∃ q, q = l ||| l' := ⟨_, rfl⟩
  rw [← hp] at e1 ⊢
  rw [← hq] at e2 ⊢
  have HF := Lib.hid (Frm.refl [] w)
  clear hp hq h0 h1 h2 h3
  unfold mV
  go_enter Tryd.func65, Tryd.ntmps65
  go_wp2_with fail
  refine bodyPost_ret (v := .agg #[.int .u64 (p : Int), .int .u64 (q : Int)]) ?_ rfl ⟨rfl, ?_⟩
  · simp [results, Tryd.results65, go_sem]
  · exact ((HF.out.alloc _).alloc _).alloc _
theorem two_lt {k : Nat} (h : k < 64) : 2 ^ k < 18446744073709551616 := by
  rw [show (18446744073709551616 : Nat) = 2 ^ 64 from rfl]
  exact Nat.pow_lt_pow_right (by decide) h
/-- The halves of one bit. -/
def bH (i : Int) : Nat := if 0 ≤ i ∧ i < 64 then 2 ^ (63 - i).toNat else 0
def bL (i : Int) : Nat := if 64 ≤ i ∧ i < 128 then 2 ^ (127 - i).toNat else 0
set_option maxRecDepth 100000 in
set_option maxHeartbeats 4000000 in
theorem bit_c (i : Int) (w : World) (i0 : -9223372036854775808 ≤ i) (i1 : i ≤ 9223372036854775807) :
    Calls Tryd.prog 66 #[.int .i64 i] w fun e w' => e = .returned (mV (bH i) (bL i)) ∧ Frm [] w w' := by
  have HF := Lib.hid (Frm.refl [] w)
  by_cases hlo : i < 0
  · have eh : bH i = 0 := by unfold bH; rw [if_neg (by omega)]
    have el : bL i = 0 := by unfold bL; rw [if_neg (by omega)]
    rw [eh, el]
    have q1 : decide (i < 0) = true := decide_eq_true hlo
    clear eh el hlo
    unfold mV
    go_enter Tryd.func66, Tryd.ntmps66
    go_wp2_with fail
    refine bodyPost_ret (v := .agg #[.int .u64 ((0 : Nat) : Int), .int .u64 ((0 : Nat) : Int)]) ?_ rfl ⟨rfl, ?_⟩
    · simp [results, Tryd.results66, go_sem]
    · exact HF.out.alloc _
  have q1 : decide (i < 0) = false := decide_eq_false hlo
  by_cases hhi : 128 ≤ i
  · have eh : bH i = 0 := by unfold bH; rw [if_neg (by omega)]
    have el : bL i = 0 := by unfold bL; rw [if_neg (by omega)]
    rw [eh, el]
    have q2 : decide (128 ≤ i) = true := decide_eq_true hhi
    clear eh el hlo hhi
    unfold mV
    go_enter Tryd.func66, Tryd.ntmps66
    go_wp2_with fail
    refine bodyPost_ret (v := .agg #[.int .u64 ((0 : Nat) : Int), .int .u64 ((0 : Nat) : Int)]) ?_ rfl ⟨rfl, ?_⟩
    · simp [results, Tryd.results66, go_sem]
    · exact HF.out.alloc _
  have q2 : decide (128 ≤ i) = false := decide_eq_false hhi
  by_cases hm : i < 64
  · have eh : bH i = 2 ^ (63 - i).toNat := by unfold bH; rw [if_pos (by omega)]
    have el : bL i = 0 := by unfold bL; rw [if_neg (by omega)]
    obtain ⟨p, hp⟩ : ∃ p : Nat, p = 2 ^ (63 - i).toNat := ⟨_, rfl⟩
    rw [eh, el, ← hp]
    have ew : IntKind.u64.wrap (2 ^ (63 - i).toNat) = (p : Int) := by
      rw [hp, ← u_wrap (two_lt (show (63 - i).toNat < 64 by omega)), Int.natCast_pow]
      rfl
    have q3 : decide (i < 64) = true := decide_eq_true hm
    have j1 : 0 ≤ 63 - i := by omega
    have j2 : 63 - i ≤ 63 := by omega
    clear eh el hlo hhi hm hp
    unfold mV
    go_enter Tryd.func66, Tryd.ntmps66
    go_wp2_with fail
    refine bodyPost_ret (v := .agg #[.int .u64 (p : Int), .int .u64 ((0 : Nat) : Int)]) ?_ rfl ⟨rfl, ?_⟩
    · simp [results, Tryd.results66, go_sem]
    · exact HF.out.alloc _
  · have eh : bH i = 0 := by unfold bH; rw [if_neg (by omega)]
    have el : bL i = 2 ^ (127 - i).toNat := by unfold bL; rw [if_pos (by omega)]
    obtain ⟨p, hp⟩ : ∃ p : Nat, p = 2 ^ (127 - i).toNat := ⟨_, rfl⟩
    rw [eh, el, ← hp]
    have ew : IntKind.u64.wrap (2 ^ (127 - i).toNat) = (p : Int) := by
      rw [hp, ← u_wrap (two_lt (show (127 - i).toNat < 64 by omega)), Int.natCast_pow]
      rfl
    have q3 : decide (i < 64) = false := decide_eq_false hm
    have j1 : 0 ≤ 127 - i := by omega
    have j2 : 127 - i ≤ 63 := by omega
    clear eh el hlo hhi hm hp
    unfold mV
    go_enter Tryd.func66, Tryd.ntmps66
    go_wp2_with fail
    refine bodyPost_ret (v := .agg #[.int .u64 ((0 : Nat) : Int), .int .u64 (p : Int)]) ?_ rfl ⟨rfl, ?_⟩
    · simp [results, Tryd.results66, go_sem]
    · exact HF.out.alloc _
end
section
open Go.RowKit
theorem cnt_le (x : Nat) : ∀ k, cnt x k ≤ k := by
  intro k
  unfold cnt
  have := List.countP_le_length (p := fun i => x.testBit i) (l := List.range k)
  simpa using this
theorem mneq (a b c d : Int) (w : World) : (binOp .neq 42 (.agg #[.int .u64 a, .int .u64 b]) (.agg #[.int .u64 c, .int .u64 d])).run Tryd.prog w = .ok (.bool (!((a == c) && (b == d)))) w := by
  have u3 := Tryd.underlying40
  have hS : Tryd.prog.underlying 42 = some (.struct (Tryd.prog.fieldsOf 42)) := by kernel_rfl
  have hp : Tryd.prog.stoodInHeld 42 = false := by kernel_rfl
  rw [run_neq_struct, show (10000 : Nat) = 9999 + 1 from rfl, run_equalIn_agg w 9999 42 _ _ hS hp]
  simp only [Program.fieldsOf, Tryd.underlying42]
  go_simp
  by_cases h1 : a = c <;> by_cases h2 : b = d <;> simp [h1, h2]
theorem meql (a b c d : Int) (w : World) : (binOp .eql 42 (.agg #[.int .u64 a, .int .u64 b]) (.agg #[.int .u64 c, .int .u64 d])).run Tryd.prog w = .ok (.bool (((a == c) && (b == d)))) w := by
  have u3 := Tryd.underlying40
  have hS : Tryd.prog.underlying 42 = some (.struct (Tryd.prog.fieldsOf 42)) := by kernel_rfl
  have hp : Tryd.prog.stoodInHeld 42 = false := by kernel_rfl
  rw [run_eql_struct, show (10000 : Nat) = 9999 + 1 from rfl, run_equalIn_agg w 9999 42 _ _ hS hp]
  simp only [Program.fieldsOf, Tryd.underlying42]
  go_simp
  by_cases h1 : a = c <;> by_cases h2 : b = d <;> simp [h1, h2]
theorem bH_lt (i : Int) : bH i < 18446744073709551616 := by
  unfold bH
  split
  · exact two_lt (by omega)
  · decide
theorem bL_lt (i : Int) : bL i < 18446744073709551616 := by
  unfold bL
  split
  · exact two_lt (by omega)
  · decide
set_option maxRecDepth 100000 in
set_option maxHeartbeats 4000000 in
theorem with_c (h l : Nat) (i : Int) (w : World) (h0 : h < 18446744073709551616) (h1 : l < 18446744073709551616) (i0 : -9223372036854775808 ≤ i) (i1 : i ≤ 9223372036854775807) :
    Calls Tryd.prog 42 #[mV h l, .int .i64 i] w fun e w' => e = .returned (mV (h ||| bH i) (l ||| bL i)) ∧ Frm [] w w' := by
  have HS := Lib.hid (show Sep [] w _ [blkR (w.heap.size + 1) 42 #[.int .u64 0, .int .u64 0], blkR w.heap.size 42 #[.int .u64 (h : Int), .int .u64 (l : Int)]] from by have h := ((Sep.init w).alloc #[.int .u64 (h : Int), .int .u64 (l : Int)] 42).alloc #[.int .u64 0, .int .u64 0] 42; rw [World.size_alloc] at h; exact h)
  have HI := Lib.hid (fun X => bit_c i X i0 i1)
  have HO := Lib.hid (fun X => mor_c h l (bH i) (bL i) X h0 h1 (bH_lt i) (bL_lt i))
  obtain ⟨p, hp⟩ : ∃ p, p = bH i := ⟨_, rfl⟩
  obtain ⟨q, hq⟩ : ∃ q, q = bL i := ⟨_, rfl⟩
  simp only [← hp, ← hq] at HI HO
  rw [← hp, ← hq]
  obtain ⟨r, hr⟩ : ∃ r, r = h ||| p := ⟨_, rfl⟩
  obtain ⟨s, hs⟩ : ∃ s, s = l ||| q := ⟨_, rfl⟩
  rw [← hr, ← hs] at HO ⊢
  clear hp hq hr hs h0 h1
  unfold mV at *
  go_enter Tryd.func42, Tryd.ntmps42
  go_wp2_with fail
  have n1 := HS.out.inh
  have k0 := fun x : Cls (fun v => Sep [] w v [blkR (w.heap.size + 1) 42 #[.int .u64 0, .int .u64 0], blkR w.heap.size 42 #[.int .u64 (h : Int), .int .u64 (l : Int)]]) => (x.ok.blk 1 rfl).cell 0 rfl
  have k1 := fun x : Cls (fun v => Sep [] w v [blkR (w.heap.size + 1) 42 #[.int .u64 0, .int .u64 0], blkR w.heap.size 42 #[.int .u64 (h : Int), .int .u64 (l : Int)]]) => (x.ok.blk 1 rfl).cell 1 rfl
  refine region_sep_tail 4 HS.out (by kernel_rfl) (by kernel_rfl) ?_
  simp only [List.take_succ_cons, List.take_zero, List.drop_succ_cons, List.drop_zero]
  repeat (go_big_quiet_step ((rename_i x; first
    | (go_at_call 66; exact call_keeps x.ok (HI.out _))
    | (go_at_call 65; exact call_keeps x.ok (HO.out _)))))
  refine wpQuiet_nil ?_
  intro w2 hS2
  have HS2 := Lib.hid hS2
  have j0 := (hS2.blk 0 rfl).cell 0 rfl
  have j1 := (hS2.blk 0 rfl).cell 1 rfl
  have f0 := (hS2.blk 0 rfl).free 0
  have f1 := (hS2.blk 0 rfl).free 1
  clear hS2 n1 k0 k1
  go_wp2_with fail
  refine bodyPost_ret (v := .agg #[.int .u64 (r : Int), .int .u64 (s : Int)]) ?_ rfl ⟨rfl, ?_⟩
  · simp [results, Tryd.results42, go_sem, j0, j1]
  · exact ((HS2.out.put 0 rfl 0 _).put 0 rfl 1 _).frm
set_option maxRecDepth 100000 in
set_option maxHeartbeats 4000000 in
theorem count_c (h l : Nat) (w : World) (h0 : h < 18446744073709551616) (h1 : l < 18446744073709551616) :
    Calls Tryd.prog 50 #[mV h l] w fun e w' => e = .returned (.int .i64 ((cnt h 64 + cnt l 64 : Nat) : Int)) ∧ Frm [] w w' := by
  have HS := Lib.hid (show Sep [] w _ [blkR w.heap.size 42 #[.int .u64 (h : Int), .int .u64 (l : Int)]] from (Sep.init w).alloc #[.int .u64 (h : Int), .int .u64 (l : Int)] 42)
  have HI := Lib.hid (fun X => ones_c h X h0)
  have HO := Lib.hid (fun X => ones_c l X h1)
  have c1 := cnt_le h 64
  have c2 := cnt_le l 64
  obtain ⟨p, hp⟩ : ∃ p, p = cnt h 64 := ⟨_, rfl⟩
  obtain ⟨q, hq⟩ : ∃ q, q = cnt l 64 := ⟨_, rfl⟩
  rw [← hp] at HI c1 ⊢
  rw [← hq] at HO c2 ⊢
  have e1 : IntKind.i64.wrap ((p : Int) + (q : Int)) = (p : Int) + (q : Int) := IntWalk.i64_in _ (by omega)
  clear hp hq h0 h1
  unfold mV
  go_enter Tryd.func50, Tryd.ntmps50
  go_wp2_with fail
  have n1 := HS.out.inh
  have k0 := fun x : Cls (fun v => Sep [] w v [blkR w.heap.size 42 #[.int .u64 (h : Int), .int .u64 (l : Int)]]) => (x.ok.blk 0 rfl).cell 0 rfl
  have k1 := fun x : Cls (fun v => Sep [] w v [blkR w.heap.size 42 #[.int .u64 (h : Int), .int .u64 (l : Int)]]) => (x.ok.blk 0 rfl).cell 1 rfl
  refine region_sep HS.out (by kernel_rfl) (by kernel_rfl) ?_
  repeat (go_big_quiet_step ((rename_i x; first
    | (go_at_call 72; (with_reducible exact call_same x.ok (HI.out _)))
    | (go_at_call 72; (with_reducible exact call_same x.ok (HO.out _))))))
  refine wpQuiet_nil ?_
  intro w2 hS2
  have HS2 := Lib.hid hS2
  clear hS2 n1 k0 k1
  go_wp2_with fail
  go_ret
  exact ⟨ret_int (by omega), HS2.out.frm⟩
end
section
open Go.RowKit
set_option maxRecDepth 100000 in
set_option maxHeartbeats 4000000 in
theorem downA (h l : Nat) (n : Int) (w : World) (h0 : h < 18446744073709551616) (h1 : l < 18446744073709551616) (hn : 128 ≤ n ∨ n ≤ -128) : Calls Tryd.prog 75 #[mV h l, .int .i64 n] w fun e w' => e = .returned (mV (0) (0)) ∧ Frm [] w w' := by
  have HF := Lib.hid (Frm.refl [] w)
  by_cases hb : 128 ≤ n
  · have q1 : decide (128 ≤ n) = true := decide_eq_true hb
    clear hn hb
    unfold mV
    go_enter Tryd.func75, Tryd.ntmps75
    go_wp2_with fail
    refine bodyPost_ret (v := .agg #[.int .u64 (((0 : Nat) : Int)), .int .u64 (((0 : Nat) : Int))]) ?_ rfl ⟨rfl, ?_⟩
    · simp [results, Tryd.results75, go_sem]
    · exact (HF.out.alloc _).alloc _
  · have q1 : decide (128 ≤ n) = false := decide_eq_false hb
    have q2 : decide (n ≤ -128) = true := decide_eq_true (by omega)
    clear hn hb
    unfold mV
    go_enter Tryd.func75, Tryd.ntmps75
    go_wp2_with fail
    refine bodyPost_ret (v := .agg #[.int .u64 (((0 : Nat) : Int)), .int .u64 (((0 : Nat) : Int))]) ?_ rfl ⟨rfl, ?_⟩
    · simp [results, Tryd.results75, go_sem]
    · exact (HF.out.alloc _).alloc _
set_option maxRecDepth 100000 in
set_option maxHeartbeats 4000000 in
theorem downB (h l : Nat) (n : Int) (w : World) (h0 : h < 18446744073709551616) (h1 : l < 18446744073709551616) (n0 : 64 ≤ n) (n1 : n < 128) : Calls Tryd.prog 75 #[mV h l, .int .i64 n] w fun e w' => e = .returned (mV (0) (h / 2 ^ (n - 64).toNat)) ∧ Frm [] w w' := by
  have HF := Lib.hid (Frm.refl [] w)
  have q1 : decide (128 ≤ n) = false := decide_eq_false (by omega)
  have q2 : decide (n ≤ -128) = false := decide_eq_false (by omega)
  have q3 : decide (64 ≤ n) = true := decide_eq_true n0
  have j1 : 0 ≤ n - 64 := by omega
  have j2 : n - 64 ≤ 63 := by omega
  obtain ⟨q, hq⟩ : ∃ q : Nat, q = h / 2 ^ (n - 64).toNat := ⟨_, rfl⟩
  rw [← hq]
  have e1 : (h : Int) / 2 ^ (n - 64).toNat = (q : Int) := by rw [hq]; exact c_div _ _
  clear hq
  unfold mV
  go_enter Tryd.func75, Tryd.ntmps75
  go_wp2_with fail
  refine bodyPost_ret (v := .agg #[.int .u64 (((0 : Nat) : Int)), .int .u64 ((q : Int))]) ?_ rfl ⟨rfl, ?_⟩
  · simp [results, Tryd.results75, go_sem]
  · exact (HF.out.alloc _).alloc _
set_option maxRecDepth 100000 in
set_option maxHeartbeats 4000000 in
theorem downC (h l : Nat) (n : Int) (w : World) (h0 : h < 18446744073709551616) (h1 : l < 18446744073709551616) (n0 : 0 ≤ n) (n1 : n < 64) : Calls Tryd.prog 75 #[mV h l, .int .i64 n] w fun e w' => e = .returned (mV (h / 2 ^ n.toNat) (l / 2 ^ n.toNat ||| (h * 2 ^ (64 - n).toNat % 18446744073709551616))) ∧ Frm [] w w' := by
  have HS := Lib.hid (show Sep [] w _ [blkR (w.heap.size + 1) 42 #[.int .u64 0, .int .u64 0], blkR w.heap.size 42 #[.int .u64 (h : Int), .int .u64 (l : Int)]] from by have h := ((Sep.init w).alloc #[.int .u64 (h : Int), .int .u64 (l : Int)] 42).alloc #[.int .u64 0, .int .u64 0] 42; rw [World.size_alloc] at h; exact h)
  have q1 : decide (128 ≤ n) = false := decide_eq_false (by omega)
  have q2 : decide (n ≤ -128) = false := decide_eq_false (by omega)
  have q3 : decide (64 ≤ n) = false := decide_eq_false (by omega)
  have q4 : decide (0 ≤ n) = true := decide_eq_true n0
  have j1 : 0 ≤ 64 - n := by omega
  have j2 : 64 - n ≤ 64 := by omega
  have e0 : IntKind.i64.wrap (64 - n) = 64 - n := IntWalk.i64_in _ (by omega)
  obtain ⟨p, hp⟩ : ∃ p : Nat, p = h / 2 ^ n.toNat := ⟨_, rfl⟩
  obtain ⟨q, hq⟩ : ∃ q : Nat, q = l / 2 ^ n.toNat ||| (h * 2 ^ (64 - n).toNat % 18446744073709551616) := ⟨_, rfl⟩
  rw [← hp, ← hq]
  obtain ⟨a, ha⟩ : ∃ a : Nat, a = l / 2 ^ n.toNat := ⟨_, rfl⟩
  obtain ⟨b, hb⟩ : ∃ b : Nat, b = h * 2 ^ (64 - n).toNat % 18446744073709551616 := ⟨_, rfl⟩
  have e1 : (h : Int) / 2 ^ n.toNat = (p : Int) := by rw [hp]; exact c_div _ _
  have e2 : (l : Int) / 2 ^ n.toNat = (a : Int) := by rw [ha]; exact c_div _ _
  have e3 : IntKind.u64.wrap ((h : Int) * 2 ^ (64 - n).toNat) = (b : Int) := by rw [hb]; exact c_shl _ _
  have e4 : bits .or .u64 (a : Int) (b : Int) = (q : Int) := by rw [hq, ← ha, ← hb]; exact u_or (by rw [ha]; exact Nat.lt_of_le_of_lt (Nat.div_le_self _ _) h1) (by omega)
  clear hp hq ha hb
  unfold mV
  go_enter Tryd.func75, Tryd.ntmps75
  go_wp2_with fail
  have n1 := HS.out.inh
  have k0 := fun x : Cls (fun v => Sep [] w v [blkR (w.heap.size + 1) 42 #[.int .u64 0, .int .u64 0], blkR w.heap.size 42 #[.int .u64 (h : Int), .int .u64 (l : Int)]]) => (x.ok.blk 1 rfl).cell 0 rfl
  have k1 := fun x : Cls (fun v => Sep [] w v [blkR (w.heap.size + 1) 42 #[.int .u64 0, .int .u64 0], blkR w.heap.size 42 #[.int .u64 (h : Int), .int .u64 (l : Int)]]) => (x.ok.blk 1 rfl).cell 1 rfl
  refine region_sep_tail 15 HS.out (by kernel_rfl) (by kernel_rfl) ?_
  simp only [List.take_succ_cons, List.take_zero, List.drop_succ_cons, List.drop_zero]
  repeat (go_big_quiet_step (fail))
  refine wpQuiet_nil ?_
  intro w2 hS2
  have HS2 := Lib.hid hS2
  have j0 := (hS2.blk 0 rfl).cell 0 rfl
  have j1 := (hS2.blk 0 rfl).cell 1 rfl
  have f0 := (hS2.blk 0 rfl).free 0
  have f1 := (hS2.blk 0 rfl).free 1
  clear hS2 n1 k0 k1
  go_wp2_with fail
  refine bodyPost_ret (v := .agg #[.int .u64 (p : Int), .int .u64 (q : Int)]) ?_ rfl ⟨rfl, ?_⟩
  · simp [results, Tryd.results75, go_sem, j0, j1]
  · exact ((HS2.out.put 0 rfl 0 _).put 0 rfl 1 _).frm
set_option maxRecDepth 100000 in
set_option maxHeartbeats 4000000 in
theorem downD (h l : Nat) (n : Int) (w : World) (h0 : h < 18446744073709551616) (h1 : l < 18446744073709551616) (n0 : -128 < n) (n1 : n ≤ -64) : Calls Tryd.prog 75 #[mV h l, .int .i64 n] w fun e w' => e = .returned (mV (l * 2 ^ (-n - 64).toNat % 18446744073709551616) (0)) ∧ Frm [] w w' := by
  have HF := Lib.hid (Frm.refl [] w)
  have q1 : decide (128 ≤ n) = false := decide_eq_false (by omega)
  have q2 : decide (n ≤ -128) = false := decide_eq_false (by omega)
  have q3 : decide (64 ≤ n) = false := decide_eq_false (by omega)
  have q4 : decide (0 ≤ n) = false := decide_eq_false (by omega)
  have e0 : IntKind.i64.wrap (-n) = -n := IntWalk.i64_in _ (by omega)
  have q5 : decide (n ≤ -64) = true := decide_eq_true n1
  have j1 : 0 ≤ -n - 64 := by omega
  have j2 : -n - 64 ≤ 63 := by omega
  have e00 : IntKind.i64.wrap (-n - 64) = -n - 64 := IntWalk.i64_in _ (by omega)
  obtain ⟨p, hp⟩ : ∃ p : Nat, p = l * 2 ^ (-n - 64).toNat % 18446744073709551616 := ⟨_, rfl⟩
  rw [← hp]
  have e1 : IntKind.u64.wrap ((l : Int) * 2 ^ (-n - 64).toNat) = (p : Int) := by rw [hp]; exact c_shl _ _
  clear hp
  unfold mV
  go_enter Tryd.func75, Tryd.ntmps75
  go_wp2_with fail
  refine bodyPost_ret (v := .agg #[.int .u64 ((p : Int)), .int .u64 (((0 : Nat) : Int))]) ?_ rfl ⟨rfl, ?_⟩
  · simp [results, Tryd.results75, go_sem]
  · exact (HF.out.alloc _).alloc _
set_option maxRecDepth 100000 in
set_option maxHeartbeats 4000000 in
theorem downE (h l : Nat) (n : Int) (w : World) (h0 : h < 18446744073709551616) (h1 : l < 18446744073709551616) (n0 : -64 < n) (n1 : n < 0) : Calls Tryd.prog 75 #[mV h l, .int .i64 n] w fun e w' => e = .returned (mV ((h * 2 ^ (-n).toNat % 18446744073709551616) ||| l / 2 ^ (64 + n).toNat) (l * 2 ^ (-n).toNat % 18446744073709551616)) ∧ Frm [] w w' := by
  have HS := Lib.hid (show Sep [] w _ [blkR (w.heap.size + 1) 42 #[.int .u64 0, .int .u64 0], blkR w.heap.size 42 #[.int .u64 (h : Int), .int .u64 (l : Int)]] from by have h := ((Sep.init w).alloc #[.int .u64 (h : Int), .int .u64 (l : Int)] 42).alloc #[.int .u64 0, .int .u64 0] 42; rw [World.size_alloc] at h; exact h)
  have q1 : decide (128 ≤ n) = false := decide_eq_false (by omega)
  have q2 : decide (n ≤ -128) = false := decide_eq_false (by omega)
  have q3 : decide (64 ≤ n) = false := decide_eq_false (by omega)
  have q4 : decide (0 ≤ n) = false := decide_eq_false (by omega)
  have e0 : IntKind.i64.wrap (-n) = -n := IntWalk.i64_in _ (by omega)
  have q5 : decide (n ≤ -64) = false := decide_eq_false (by omega)
  have j1 : 0 ≤ -n := by omega
  have j2 : -n ≤ 63 := by omega
  have j3 : 0 ≤ 64 + n := by omega
  have j4 : 64 + n ≤ 63 := by omega
  have e00 : IntKind.i64.wrap (64 + n) = 64 + n := IntWalk.i64_in _ (by omega)
  obtain ⟨p, hp⟩ : ∃ p : Nat, p = (h * 2 ^ (-n).toNat % 18446744073709551616) ||| l / 2 ^ (64 + n).toNat := ⟨_, rfl⟩
  obtain ⟨q, hq⟩ : ∃ q : Nat, q = l * 2 ^ (-n).toNat % 18446744073709551616 := ⟨_, rfl⟩
  rw [← hp, ← hq]
  obtain ⟨a, ha⟩ : ∃ a : Nat, a = h * 2 ^ (-n).toNat % 18446744073709551616 := ⟨_, rfl⟩
  obtain ⟨b, hb⟩ : ∃ b : Nat, b = l / 2 ^ (64 + n).toNat := ⟨_, rfl⟩
  have e1 : IntKind.u64.wrap ((h : Int) * 2 ^ (-n).toNat) = (a : Int) := by rw [ha]; exact c_shl _ _
  have e2 : (l : Int) / 2 ^ (64 + n).toNat = (b : Int) := by rw [hb]; exact c_div _ _
  have e3 : IntKind.u64.wrap ((l : Int) * 2 ^ (-n).toNat) = (q : Int) := by rw [hq]; exact c_shl _ _
  have e4 : bits .or .u64 (a : Int) (b : Int) = (p : Int) := by rw [hp, ← ha, ← hb]; exact u_or (by omega) (by rw [hb]; exact Nat.lt_of_le_of_lt (Nat.div_le_self _ _) h1)
  clear hp hq ha hb
  unfold mV
  go_enter Tryd.func75, Tryd.ntmps75
  go_wp2_with fail
  have n1 := HS.out.inh
  have k0 := fun x : Cls (fun v => Sep [] w v [blkR (w.heap.size + 1) 42 #[.int .u64 0, .int .u64 0], blkR w.heap.size 42 #[.int .u64 (h : Int), .int .u64 (l : Int)]]) => (x.ok.blk 1 rfl).cell 0 rfl
  have k1 := fun x : Cls (fun v => Sep [] w v [blkR (w.heap.size + 1) 42 #[.int .u64 0, .int .u64 0], blkR w.heap.size 42 #[.int .u64 (h : Int), .int .u64 (l : Int)]]) => (x.ok.blk 1 rfl).cell 1 rfl
  refine region_sep_tail 17 HS.out (by kernel_rfl) (by kernel_rfl) ?_
  simp only [List.take_succ_cons, List.take_zero, List.drop_succ_cons, List.drop_zero]
  repeat (go_big_quiet_step (fail))
  refine wpQuiet_nil ?_
  intro w2 hS2
  have HS2 := Lib.hid hS2
  have j0 := (hS2.blk 0 rfl).cell 0 rfl
  have j1 := (hS2.blk 0 rfl).cell 1 rfl
  have f0 := (hS2.blk 0 rfl).free 0
  have f1 := (hS2.blk 0 rfl).free 1
  clear hS2 n1 k0 k1
  go_wp2_with fail
  refine bodyPost_ret (v := .agg #[.int .u64 (p : Int), .int .u64 (q : Int)]) ?_ rfl ⟨rfl, ?_⟩
  · simp [results, Tryd.results75, go_sem, j0, j1]
  · exact ((HS2.out.put 0 rfl 0 _).put 0 rfl 1 _).frm
end
section
open Go.RowKit
def dwH (h l : Nat) (n : Int) : Nat :=
  if 128 ≤ n ∨ n ≤ -128 then 0 else if 64 ≤ n then 0 else if 0 ≤ n then h / 2 ^ n.toNat else if n ≤ -64 then l * 2 ^ (-n - 64).toNat % 18446744073709551616 else (h * 2 ^ (-n).toNat % 18446744073709551616) ||| l / 2 ^ (64 + n).toNat
def dwL (h l : Nat) (n : Int) : Nat :=
  if 128 ≤ n ∨ n ≤ -128 then 0 else if 64 ≤ n then h / 2 ^ (n - 64).toNat else if 0 ≤ n then l / 2 ^ n.toNat ||| (h * 2 ^ (64 - n).toNat % 18446744073709551616) else if n ≤ -64 then 0 else l * 2 ^ (-n).toNat % 18446744073709551616
theorem down_c (h l : Nat) (n : Int) (w : World) (h0 : h < 18446744073709551616) (h1 : l < 18446744073709551616) :
    Calls Tryd.prog 75 #[mV h l, .int .i64 n] w fun e w' => e = .returned (mV (dwH h l n) (dwL h l n)) ∧ Frm [] w w' := by
  unfold dwH dwL
  by_cases ha : 128 ≤ n ∨ n ≤ -128
  · rw [if_pos ha, if_pos ha]
    exact downA h l n w h0 h1 ha
  rw [if_neg ha, if_neg ha]
  by_cases hb : 64 ≤ n
  · rw [if_pos hb, if_pos hb]
    exact downB h l n w h0 h1 hb (by omega)
  rw [if_neg hb, if_neg hb]
  by_cases hc : 0 ≤ n
  · rw [if_pos hc, if_pos hc]
    exact downC h l n w h0 h1 hc (by omega)
  rw [if_neg hc, if_neg hc]
  by_cases hd : n ≤ -64
  · rw [if_pos hd, if_pos hd]
    exact downD h l n w h0 h1 (by omega) hd
  · rw [if_neg hd, if_neg hd]
    exact downE h l n w h0 h1 (by omega) (by omega)
/-- The bits of a mask, the last one number 0. -/
def pb (h l j : Nat) : Bool := if j < 64 then l.testBit j else if j < 128 then h.testBit (j - 64) else false
theorem tb_none {x j : Nat} (hx : x < 18446744073709551616) (hj : 64 ≤ j) : x.testBit j = false :=
  Nat.testBit_lt_two_pow (Nat.lt_of_lt_of_le hx (show 2 ^ 64 ≤ 2 ^ j from Nat.pow_le_pow_right (by decide) hj))
theorem tb_div (x k j : Nat) : (x / 2 ^ k).testBit j = x.testBit (j + k) := Nat.testBit_div_two_pow x j
theorem tb_mod (x j : Nat) : (x % 18446744073709551616).testBit j = (decide (j < 64) && x.testBit j) := by
  rw [show (18446744073709551616 : Nat) = 2 ^ 64 from rfl, Nat.testBit_mod_two_pow]
theorem tb_mul (x k j : Nat) : (x * 2 ^ k).testBit j = (decide (k ≤ j) && x.testBit (j - k)) := by
  rw [Nat.mul_comm, Nat.testBit_two_pow_mul]
theorem pb_eq {h l h' l' : Nat} (a : h < 18446744073709551616) (b : l < 18446744073709551616) (c : h' < 18446744073709551616) (d : l' < 18446744073709551616) (e : ∀ j, j < 128 → pb h l j = pb h' l' j) : h = h' ∧ l = l' := by
  constructor
  · apply Nat.eq_of_testBit_eq
    intro i
    by_cases hi : i < 64
    · have := e (i + 64) (by omega)
      unfold pb at this
      rw [if_neg (by omega), if_pos (by omega), if_neg (by omega), if_pos (by omega)] at this
      rw [show i + 64 - 64 = i by omega] at this
      exact this
    · rw [tb_none a (by omega), tb_none c (by omega)]
  · apply Nat.eq_of_testBit_eq
    intro i
    by_cases hi : i < 64
    · have := e i (by omega)
      unfold pb at this
      rw [if_pos hi, if_pos hi] at this
      exact this
    · rw [tb_none b (by omega), tb_none d (by omega)]
theorem dwH_lt (h l : Nat) (n : Int) (h0 : h < 18446744073709551616) (h1 : l < 18446744073709551616) : dwH h l n < 18446744073709551616 := by
  unfold dwH
  split
  · decide
  split
  · decide
  split
  · exact Nat.lt_of_le_of_lt (Nat.div_le_self _ _) h0
  split
  · omega
  · exact Nat.or_lt_two_pow (n := 64) (show _ < 2 ^ 64 by omega) (Nat.lt_of_le_of_lt (Nat.div_le_self _ _) h1)
theorem dwL_lt (h l : Nat) (n : Int) (h0 : h < 18446744073709551616) (h1 : l < 18446744073709551616) : dwL h l n < 18446744073709551616 := by
  unfold dwL
  split
  · decide
  split
  · exact Nat.lt_of_le_of_lt (Nat.div_le_self _ _) h0
  split
  · exact Nat.or_lt_two_pow (n := 64) (Nat.lt_of_le_of_lt (Nat.div_le_self _ _) h1) (show _ < 2 ^ 64 by omega)
  split
  · decide
  · omega
/-- Down moves the bits. -/
theorem pb_down {h l : Nat} (h0 : h < 18446744073709551616) (h1 : l < 18446744073709551616) (n : Int) (j : Nat) (hj : j < 128) :
    pb (dwH h l n) (dwL h l n) j = if 0 ≤ (j : Int) + n ∧ (j : Int) + n < 128 then pb h l ((j : Int) + n).toNat else false := by
  unfold dwH dwL
  by_cases ha : 128 ≤ n ∨ n ≤ -128
  · rw [if_pos ha, if_pos ha, if_neg (by omega)]
    unfold pb
    split <;> simp
  rw [if_neg ha, if_neg ha]
  by_cases hb : 64 ≤ n
  · rw [if_pos hb, if_pos hb]
    obtain ⟨k, hk⟩ : ∃ k : Nat, n = 64 + (k : Int) := ⟨(n - 64).toNat, by omega⟩
    subst hk
    rw [show (64 + (k : Int) - 64).toNat = k by omega]
    unfold pb
    by_cases h64 : j < 64
    · rw [if_pos h64, tb_div]
      by_cases hr : j + k < 64
      · rw [if_pos (by omega), if_neg (by omega), if_pos (by omega), show ((j : Int) + (64 + (k : Int))).toNat - 64 = j + k by omega]
      · rw [if_neg (by omega), tb_none h0 (by omega)]
    · rw [if_neg h64, if_pos (by omega), if_neg (by omega)]
      simp
  rw [if_neg hb, if_neg hb]
  by_cases hc : 0 ≤ n
  · rw [if_pos hc, if_pos hc]
    obtain ⟨k, hk⟩ : ∃ k : Nat, n = (k : Int) := ⟨n.toNat, by omega⟩
    subst hk
    rw [show ((k : Int)).toNat = k by omega, show (64 - (k : Int)).toNat = 64 - k by omega]
    unfold pb
    by_cases h64 : j < 64
    · rw [if_pos h64, Nat.testBit_or, tb_div, tb_mod, tb_mul, if_pos (by omega), show ((j : Int) + (k : Int)).toNat = j + k by omega]
      by_cases hr : j + k < 64
      · rw [if_pos hr]
        have : decide (64 - k ≤ j) = false := by rw [decide_eq_false_iff_not]; omega
        rw [this]
        simp
      · rw [if_neg hr, if_pos (by omega), tb_none h1 (by omega)]
        have e1 : decide (64 - k ≤ j) = true := by rw [decide_eq_true_iff]; omega
        have e2 : decide (j < 64) = true := decide_eq_true h64
        rw [e1, e2, show j - (64 - k) = j + k - 64 by omega]
        simp
    · rw [if_neg h64, if_pos (by omega), tb_div]
      by_cases hr : j + k < 128
      · rw [if_pos (by omega), show ((j : Int) + (k : Int)).toNat = j + k by omega, if_neg (by omega), if_pos hr, show j - 64 + k = j + k - 64 by omega]
      · rw [if_neg (by omega), tb_none h0 (by omega)]
  rw [if_neg hc, if_neg hc]
  by_cases hd : n ≤ -64
  · rw [if_pos hd, if_pos hd]
    obtain ⟨k, hk⟩ : ∃ k : Nat, n = -64 - (k : Int) := ⟨(-n - 64).toNat, by omega⟩
    subst hk
    rw [show (-(-64 - (k : Int)) - 64).toNat = k by omega]
    unfold pb
    by_cases h64 : j < 64
    · rw [if_pos h64, if_neg (by omega)]
      simp
    · rw [if_neg h64, if_pos hj, tb_mod, tb_mul]
      have e2 : decide (j - 64 < 64) = true := decide_eq_true (by omega)
      rw [e2]
      by_cases hr : 64 + k ≤ j
      · have e1 : decide (k ≤ j - 64) = true := decide_eq_true (by omega)
        rw [e1, if_pos (by omega), if_pos (by omega), show ((j : Int) + (-64 - (k : Int))).toNat = j - 64 - k by omega]
        simp
      · have e1 : decide (k ≤ j - 64) = false := decide_eq_false (by omega)
        rw [e1, if_neg (by omega)]
        simp
  · rw [if_neg hd, if_neg hd]
    obtain ⟨k, hk⟩ : ∃ k : Nat, n = -(k : Int) := ⟨(-n).toNat, by omega⟩
    subst hk
    rw [show (-(-(k : Int))).toNat = k by omega, show (64 + -(k : Int)).toNat = 64 - k by omega]
    unfold pb
    by_cases h64 : j < 64
    · rw [if_pos h64, tb_mod, tb_mul]
      have e2 : decide (j < 64) = true := decide_eq_true h64
      rw [e2]
      by_cases hr : k ≤ j
      · have e1 : decide (k ≤ j) = true := decide_eq_true hr
        rw [e1, if_pos (by omega), show ((j : Int) + -(k : Int)).toNat = j - k by omega, if_pos (by omega)]
        simp
      · have e1 : decide (k ≤ j) = false := decide_eq_false hr
        rw [e1, if_neg (by omega)]
        simp
    · rw [if_neg h64, if_pos hj, Nat.testBit_or, tb_mod, tb_mul, tb_div]
      have e2 : decide (j - 64 < 64) = true := decide_eq_true (by omega)
      rw [e2, if_pos (by omega), show ((j : Int) + -(k : Int)).toNat = j - k by omega]
      by_cases hr : k ≤ j - 64
      · have e1 : decide (k ≤ j - 64) = true := decide_eq_true hr
        rw [e1, if_neg (by omega), if_pos (by omega), tb_none h1 (by omega), show j - 64 - k = j - k - 64 by omega]
        simp
      · have e1 : decide (k ≤ j - 64) = false := decide_eq_false hr
        rw [e1, if_pos (by omega), show j - 64 + (64 - k) = j - k by omega]
        simp
end
section
open Go.RowKit
/-- A number held between two. -/
def held (n a b : Int) : Int := if n < a then a else if b < n then b else n
def fuH (n : Int) : Nat := 18446744073709551615 ^^^ dwH 18446744073709551615 18446744073709551615 (held n 0 128)
def fuL (n : Int) : Nat := 18446744073709551615 ^^^ dwL 18446744073709551615 18446744073709551615 (held n 0 128)
theorem fuH_lt (n : Int) : fuH n < 18446744073709551616 := Nat.xor_lt_two_pow (n := 64) (by decide) (dwH_lt _ _ _ (by decide) (by decide))
theorem fuL_lt (n : Int) : fuL n < 18446744073709551616 := Nat.xor_lt_two_pow (n := 64) (by decide) (dwL_lt _ _ _ (by decide) (by decide))
end
section
open Go.RowKit
def ptN (h l : Nat) (f n : Int) : Nat := dwH h l (-(held f (-128) 128)) / 2 ^ (64 - held n 0 64).toNat
set_option maxRecDepth 100000 in
set_option maxHeartbeats 4000000 in
theorem part_c (h l : Nat) (f n : Int) (w : World) (h0 : h < 18446744073709551616) (h1 : l < 18446744073709551616) : Calls Tryd.prog 59 #[mV h l, .int .i64 f, .int .i64 n] w fun e w' => e = .returned (.int .u64 (ptN h l f n : Int)) ∧ Frm [] w w' := by
  have HF := Lib.hid (Frm.refl [] w)
  unfold ptN
  obtain ⟨c, hc⟩ : ∃ c, c = held n (0) 64 := ⟨_, rfl⟩
  obtain ⟨a, ha⟩ : ∃ a : Int, a = if n < 0 then (0 : Int) else n := ⟨_, rfl⟩
  have hca : c = if 64 < a then (64 : Int) else a := by rw [hc, ha]; unfold held; split <;> split <;> (try split) <;> omega
  have mb1 : 0 ≤ c := by rw [hc]; unfold held; split <;> (try split) <;> omega
  have mb2 : c ≤ 64 := by rw [hc]; unfold held; split <;> (try split) <;> omega
  have m1 : (if (0 : Int) > n then (0 : Int) else n) = a := ha.symm
  have m2 : (if n < 0 then (0 : Int) else n) = a := ha.symm
  have m3 : (if n > 0 then n else (0 : Int)) = a := by rw [ha]; split <;> split <;> omega
  have m4 : (if (0 : Int) < n then n else (0 : Int)) = a := m3
  have m5 : (if (64 : Int) < a then (64 : Int) else a) = c := hca.symm
  have m6 : (if a > 64 then (64 : Int) else a) = c := hca.symm
  have m7 : (if a < 64 then a else (64 : Int)) = c := by rw [hca]; split <;> split <;> omega
  have m8 : (if (64 : Int) > a then a else (64 : Int)) = c := m7
  obtain ⟨d, hd⟩ : ∃ d, d = held f (-128) 128 := ⟨_, rfl⟩
  obtain ⟨b, hb⟩ : ∃ b : Int, b = if f < -128 then (-128 : Int) else f := ⟨_, rfl⟩
  have hdb : d = if 128 < b then (128 : Int) else b := by rw [hd, hb]; unfold held; split <;> split <;> (try split) <;> omega
  have kb1 : -128 ≤ d := by rw [hd]; unfold held; split <;> (try split) <;> omega
  have kb2 : d ≤ 128 := by rw [hd]; unfold held; split <;> (try split) <;> omega
  have k1 : (if (-128 : Int) > f then (-128 : Int) else f) = b := hb.symm
  have k2 : (if f < -128 then (-128 : Int) else f) = b := hb.symm
  have k3 : (if f > -128 then f else (-128 : Int)) = b := by rw [hb]; split <;> split <;> omega
  have k4 : (if (-128 : Int) < f then f else (-128 : Int)) = b := k3
  have k5 : (if (128 : Int) < b then (128 : Int) else b) = d := hdb.symm
  have k6 : (if b > 128 then (128 : Int) else b) = d := hdb.symm
  have k7 : (if b < 128 then b else (128 : Int)) = d := by rw [hdb]; split <;> split <;> omega
  have k8 : (if (128 : Int) > b then b else (128 : Int)) = d := k7
  rw [← hc, ← hd]
  have HD := Lib.hid (fun X => down_c h l (-d) X h0 h1)
  obtain ⟨p, hp⟩ : ∃ p, p = dwH h l (-d) := ⟨_, rfl⟩
  obtain ⟨q, hq⟩ : ∃ q, q = dwL h l (-d) := ⟨_, rfl⟩
  simp only [← hp, ← hq] at HD
  rw [← hp]
  obtain ⟨r, hr⟩ : ∃ r : Nat, r = p / 2 ^ (64 - c).toNat := ⟨_, rfl⟩
  rw [← hr]
  have e1 : (p : Int) / 2 ^ (64 - c).toNat = (r : Int) := by rw [hr]; exact c_div _ _
  have e2 : IntKind.i64.wrap (-d) = -d := IntWalk.i64_in _ (by omega)
  have e3 : IntKind.i64.wrap (64 - c) = 64 - c := IntWalk.i64_in _ (by omega)
  have j1 : 0 ≤ 64 - c := by omega
  have j2 : 64 - c ≤ 64 := by omega
  have hfd : ∀ w : World, (Instr.field 42 (.agg #[.int .u64 (p : Int), .int .u64 (q : Int)]) 0).run Tryd.prog w = .ok (.int .u64 (p : Int)) w := fun _ => by kernel_rfl
  clear hp hq hr hc ha hb hd hca hdb
  unfold mV at *
  go_enter Tryd.func59, Tryd.ntmps59
  go_wp2_with fail
  refine (HD.out _).mono ?_
  rintro e w2 ⟨rfl, hF⟩
  have HF2 := Lib.hid ((HF.out.alloc _).trans hF)
  clear hF
  go_wp2_with fail
  go_ret
  exact ⟨rfl, HF2.out⟩
def lyH (f n : Int) (x : Nat) : Nat := dwH (x * 2 ^ (64 - held n 0 64).toNat % 18446744073709551616) 0 (held f (-128) 128)
def lyL (f n : Int) (x : Nat) : Nat := dwL (x * 2 ^ (64 - held n 0 64).toNat % 18446744073709551616) 0 (held f (-128) 128)
set_option maxRecDepth 100000 in
set_option maxHeartbeats 4000000 in
theorem lay_c (f n : Int) (x : Nat) (w : World) : Calls Tryd.prog 71 #[.int .i64 f, .int .i64 n, .int .u64 (x : Int)] w fun e w' => e = .returned (mV (lyH f n x) (lyL f n x)) ∧ Frm [] w w' := by
  have HS := Lib.hid ((Sep.init w).alloc #[.int .u64 0, .int .u64 0] 42)
  unfold lyH lyL
  obtain ⟨c, hc⟩ : ∃ c, c = held n (0) 64 := ⟨_, rfl⟩
  obtain ⟨a, ha⟩ : ∃ a : Int, a = if n < 0 then (0 : Int) else n := ⟨_, rfl⟩
  have hca : c = if 64 < a then (64 : Int) else a := by rw [hc, ha]; unfold held; split <;> split <;> (try split) <;> omega
  have mb1 : 0 ≤ c := by rw [hc]; unfold held; split <;> (try split) <;> omega
  have mb2 : c ≤ 64 := by rw [hc]; unfold held; split <;> (try split) <;> omega
  have m1 : (if (0 : Int) > n then (0 : Int) else n) = a := ha.symm
  have m2 : (if n < 0 then (0 : Int) else n) = a := ha.symm
  have m3 : (if n > 0 then n else (0 : Int)) = a := by rw [ha]; split <;> split <;> omega
  have m4 : (if (0 : Int) < n then n else (0 : Int)) = a := m3
  have m5 : (if (64 : Int) < a then (64 : Int) else a) = c := hca.symm
  have m6 : (if a > 64 then (64 : Int) else a) = c := hca.symm
  have m7 : (if a < 64 then a else (64 : Int)) = c := by rw [hca]; split <;> split <;> omega
  have m8 : (if (64 : Int) > a then a else (64 : Int)) = c := m7
  obtain ⟨d, hd⟩ : ∃ d, d = held f (-128) 128 := ⟨_, rfl⟩
  obtain ⟨b, hb⟩ : ∃ b : Int, b = if f < -128 then (-128 : Int) else f := ⟨_, rfl⟩
  have hdb : d = if 128 < b then (128 : Int) else b := by rw [hd, hb]; unfold held; split <;> split <;> (try split) <;> omega
  have kb1 : -128 ≤ d := by rw [hd]; unfold held; split <;> (try split) <;> omega
  have kb2 : d ≤ 128 := by rw [hd]; unfold held; split <;> (try split) <;> omega
  have k1 : (if (-128 : Int) > f then (-128 : Int) else f) = b := hb.symm
  have k2 : (if f < -128 then (-128 : Int) else f) = b := hb.symm
  have k3 : (if f > -128 then f else (-128 : Int)) = b := by rw [hb]; split <;> split <;> omega
  have k4 : (if (-128 : Int) < f then f else (-128 : Int)) = b := k3
  have k5 : (if (128 : Int) < b then (128 : Int) else b) = d := hdb.symm
  have k6 : (if b > 128 then (128 : Int) else b) = d := hdb.symm
  have k7 : (if b < 128 then b else (128 : Int)) = d := by rw [hdb]; split <;> split <;> omega
  have k8 : (if (128 : Int) > b then b else (128 : Int)) = d := k7
  rw [← hc, ← hd]
  obtain ⟨y, hy⟩ : ∃ y : Nat, y = x * 2 ^ (64 - c).toNat % 18446744073709551616 := ⟨_, rfl⟩
  rw [← hy]
  have HD := Lib.hid (fun X => down_c y 0 d X (by omega) (by decide))
  obtain ⟨p, hp⟩ : ∃ p, p = dwH y 0 d := ⟨_, rfl⟩
  obtain ⟨q, hq⟩ : ∃ q, q = dwL y 0 d := ⟨_, rfl⟩
  simp only [← hp, ← hq] at HD
  rw [← hp, ← hq]
  have e1 : IntKind.u64.wrap ((x : Int) * 2 ^ (64 - c).toNat) = (y : Int) := by rw [hy]; exact c_shl _ _
  have e3 : IntKind.i64.wrap (64 - c) = 64 - c := IntWalk.i64_in _ (by omega)
  have j1 : 0 ≤ 64 - c := by omega
  have j2 : 64 - c ≤ 64 := by omega
  have hz : ((0 : Nat) : Int) = 0 := rfl
  unfold mV at *
  rw [hz] at HD
  clear hp hq hy hc ha hb hd hca hdb hz
  go_enter Tryd.func71, Tryd.ntmps71
  go_wp2_with fail
  refine (HD.out _).mono ?_
  rintro e w2 ⟨rfl, hF⟩
  have hS2 := HS.out.keep hF
  have HS2 := Lib.hid hS2
  have j0 := (hS2.blk 0 rfl).cell 0 rfl
  have j1 := (hS2.blk 0 rfl).cell 1 rfl
  have f0 := (hS2.blk 0 rfl).free 0
  have f1 := (hS2.blk 0 rfl).free 1
  clear hS2 hF
  go_wp2_with fail
  refine bodyPost_ret (v := .agg #[.int .u64 (p : Int), .int .u64 (q : Int)]) ?_ rfl ⟨rfl, ?_⟩
  · simp [results, Tryd.results71, go_sem, j0, j1]
  · exact ((HS2.out.put 0 rfl 0 _).put 0 rfl 1 _).frm
end
section
open Go.RowKit
def blen (x : Nat) : Nat := Lib.bitLen x
def czn (x : Nat) : Nat := Lib.ctz 64 x
theorem tz_c (x : Nat) (w : World) (h : x < 18446744073709551616) (hT : TabAt 0 Lib.deBruijn64tab w) : Calls Tryd.prog 64 #[.int .u64 (x : Int)] w fun e w' => e = .returned (.int .i64 (czn x : Int)) ∧ w = w' := by
  refine (Tryd.bits_TrailingZeros64 x h w (fun _ => hT)).mono ?_
  rintro e w' ⟨rfl, rfl⟩
  exact ⟨rfl, rfl⟩
theorem blen_le (x : Nat) (h : x < 18446744073709551616) : blen x ≤ 64 := Lib.bitLen_le x 64 (by omega) (by omega)
theorem czn_le (x : Nat) (h : x < 18446744073709551616) : czn x ≤ 64 := by
  unfold czn
  by_cases h0 : x = 0
  · subst h0; decide
  · exact Nat.le_of_lt (Lib.lowest_bit 64 x h0 h).2
/-- The first bit, the last one; -1: none. -/
def fiN (h l : Nat) : Int := if h ≠ 0 then 64 - (blen h : Int) else if l ≠ 0 then 128 - (blen l : Int) else -1
def laN (h l : Nat) : Int := if l ≠ 0 then 127 - (czn l : Int) else if h ≠ 0 then 63 - (czn h : Int) else -1
set_option maxRecDepth 100000 in
set_option maxHeartbeats 4000000 in
theorem last_c (h l : Nat) (w : World) (h0 : h < 18446744073709551616) (h1 : l < 18446744073709551616) (hT : TabAt 0 Lib.deBruijn64tab w) (hg : 0 < w.heap.size) : Calls Tryd.prog 40 #[mV h l] w fun e w' => e = .returned (.int .i64 (laN h l)) ∧ Frm [] w w' := by
  have HF := Lib.hid (Frm.refl [] w)
  have hT' : ∀ o, TabAt 0 Lib.deBruijn64tab (w.alloc o) := fun o j hj => by rw [((Frm.refl [] w).alloc o).cell hg (by simp)]; exact hT j hj
  have HH := Lib.hid (fun o => tz_c h (w.alloc o) h0 (hT' o))
  have HL := Lib.hid (fun o => tz_c l (w.alloc o) h1 (hT' o))
  clear hT hT' hg
  have bh := czn_le h h0
  have bl := czn_le l h1
  unfold laN
  obtain ⟨p, hp⟩ : ∃ p, p = czn h := ⟨_, rfl⟩
  obtain ⟨q, hq⟩ : ∃ q, q = czn l := ⟨_, rfl⟩
  rw [← hp] at HH bh ⊢
  rw [← hq] at HL bl ⊢
  clear hp hq
  have e1 : IntKind.i64.wrap (127 - (q : Int)) = 127 - (q : Int) := IntWalk.i64_in _ (by omega)
  have e2 : IntKind.i64.wrap (63 - (p : Int)) = 63 - (p : Int) := IntWalk.i64_in _ (by omega)
  unfold mV at *
  go_enter Tryd.func40, Tryd.ntmps40
  by_cases hb : l = 0
  · subst hb
    by_cases ha : h = 0
    · subst ha
      rw [if_neg (by simp), if_neg (by simp)]
      go_wp2_with fail
      go_ret
      exact ⟨rfl, HF.out.alloc _⟩
    · have ha' : ¬ ((h : Int) = 0) := by omega
      rw [if_neg (by simp), if_pos ha]
      go_wp2_with fail
      refine (HH.out _).mono ?_
      rintro e w2 ⟨rfl, rfl⟩
      go_wp2_with fail
      go_ret
      exact ⟨rfl, HF.out.alloc _⟩
  · have hb' : ¬ ((l : Int) = 0) := by omega
    rw [if_pos hb]
    go_wp2_with fail
    refine (HL.out _).mono ?_
    rintro e w2 ⟨rfl, rfl⟩
    go_wp2_with fail
    go_ret
    exact ⟨rfl, HF.out.alloc _⟩
end
section
open Go.RowKit
theorem pb_and (h l h' l' j : Nat) : pb (h &&& h') (l &&& l') j = (pb h l j && pb h' l' j) := by
  unfold pb
  split
  · exact Nat.testBit_and ..
  · split
    · exact Nat.testBit_and ..
    · rfl
theorem pb_or (h l h' l' j : Nat) : pb (h ||| h') (l ||| l') j = (pb h l j || pb h' l' j) := by
  unfold pb
  split
  · exact Nat.testBit_or ..
  · split
    · exact Nat.testBit_or ..
    · rfl
theorem pb_xor (h l h' l' j : Nat) : pb (h ^^^ h') (l ^^^ l') j = (pb h l j ^^ pb h' l' j) := by
  unfold pb
  split
  · exact Nat.testBit_xor ..
  · split
    · exact Nat.testBit_xor ..
    · rfl
theorem pb_bit (i : Int) (j : Nat) (hj : j < 128) : pb (bH i) (bL i) j = decide (i = 127 - (j : Int)) := by
  unfold pb bH bL
  by_cases h : j < 64
  · rw [if_pos h]
    split
    · rw [Nat.testBit_two_pow]
      exact decide_eq_decide.2 (by omega)
    · rw [Nat.zero_testBit]
      exact (decide_eq_false (by omega)).symm
  · rw [if_neg h, if_pos hj]
    split
    · rw [Nat.testBit_two_pow]
      exact decide_eq_decide.2 (by omega)
    · rw [Nat.zero_testBit]
      exact (decide_eq_false (by omega)).symm
theorem tb_not {x : Nat} (hx : x < 18446744073709551616) (j : Nat) : (18446744073709551615 - x).testBit j = (decide (j < 64) && !x.testBit j) := by
  rw [show 18446744073709551615 - x = 2 ^ 64 - (x + 1) from by omega]
  exact Nat.testBit_two_pow_sub_succ hx j
theorem pb_not {h l : Nat} (h0 : h < 18446744073709551616) (h1 : l < 18446744073709551616) (j : Nat) (hj : j < 128) : pb (18446744073709551615 - h) (18446744073709551615 - l) j = !pb h l j := by
  unfold pb
  by_cases h : j < 64
  · rw [if_pos h, if_pos h, tb_not h1]; simp [h]
  · rw [if_neg h, if_pos hj, if_neg h, if_pos hj, tb_not h0]
    have : j - 64 < 64 := by omega
    simp [this]
theorem pb_full (n : Int) (j : Nat) (hj : j < 128) : pb (fuH n) (fuL n) j = decide (127 - (j : Int) < n) := by
  unfold fuH fuL
  rw [pb_xor, pb_down (by decide) (by decide) _ _ hj]
  have ha : ∀ k, k < 128 → pb 18446744073709551615 18446744073709551615 k = true := by
    intro k hk
    unfold pb
    by_cases h : k < 64
    · rw [if_pos h]
      have := Nat.testBit_two_pow_sub_one 64 k
      rw [show 2 ^ 64 - 1 = 18446744073709551615 from rfl] at this
      rw [this]; simp [h]
    · rw [if_neg h, if_pos hk]
      have := Nat.testBit_two_pow_sub_one 64 (k - 64)
      rw [show 2 ^ 64 - 1 = 18446744073709551615 from rfl] at this
      rw [this]; simp; omega
  rw [ha j hj]
  unfold held
  split
  · split
    · rw [ha _ (by omega)]; symm; rw [decide_eq_false (by omega)]; rfl
    · rename_i h; omega
  · split
    · split
      · rename_i h; omega
      · symm; rw [decide_eq_true (by omega)]; rfl
    · split
      · rw [ha _ (by omega)]; symm; rw [decide_eq_false (by omega)]; rfl
      · symm; rw [decide_eq_true (by omega)]; rfl
/-- The document's bit i. -/
def bt (h l i : Nat) : Bool := pb h l (127 - i)
def bitsOf (h l : Nat) : List Nat := (List.range 128).filter (bt h l)
def bools (h l : Nat) : List Bool := (List.range 128).map (bt h l)
theorem bt_eq {h l h' l' : Nat} (a : h < 18446744073709551616) (b : l < 18446744073709551616) (c : h' < 18446744073709551616) (d : l' < 18446744073709551616) (e : ∀ i, i < 128 → bt h l i = bt h' l' i) : h = h' ∧ l = l' :=
  pb_eq a b c d fun j hj => by
    have := e (127 - j) (by omega)
    unfold bt at this
    rwa [show 127 - (127 - j) = j by omega] at this
theorem bt_and (h l h' l' i : Nat) : bt (h &&& h') (l &&& l') i = (bt h l i && bt h' l' i) := pb_and ..
theorem bt_or (h l h' l' i : Nat) : bt (h ||| h') (l ||| l') i = (bt h l i || bt h' l' i) := pb_or ..
theorem bt_xor (h l h' l' i : Nat) : bt (h ^^^ h') (l ^^^ l') i = (bt h l i ^^ bt h' l' i) := pb_xor ..
theorem bt_bit (k : Int) (i : Nat) (hi : i < 128) : bt (bH k) (bL k) i = decide (k = (i : Int)) := by
  unfold bt
  rw [pb_bit _ _ (by omega)]
  exact decide_eq_decide.2 (by omega)
theorem bt_less {h l : Nat} (k : Int) (i : Nat) (hi : i < 128) : bt (h &&& (18446744073709551615 - bH k)) (l &&& (18446744073709551615 - bL k)) i = (bt h l i && decide (k ≠ (i : Int))) := by
  rw [bt_and]
  congr 1
  unfold bt
  rw [pb_not (bH_lt k) (bL_lt k) _ (by omega), pb_bit _ _ (by omega), ← decide_not]
  exact decide_eq_decide.2 (by omega)
theorem bt_full (n : Int) (i : Nat) (hi : i < 128) : bt (fuH n) (fuL n) i = decide ((i : Int) < n) := by
  unfold bt
  rw [pb_full _ _ (by omega)]
  exact decide_eq_decide.2 (by omega)
theorem bt_down {h l : Nat} (h0 : h < 18446744073709551616) (h1 : l < 18446744073709551616) (n : Int) (i : Nat) (hi : i < 128) :
    bt (dwH h l n) (dwL h l n) i = if 0 ≤ (i : Int) - n ∧ (i : Int) - n < 128 then bt h l ((i : Int) - n).toNat else false := by
  unfold bt
  rw [pb_down h0 h1 _ _ (by omega)]
  by_cases h : 0 ≤ (i : Int) - n ∧ (i : Int) - n < 128
  · rw [if_pos h, if_pos (by omega)]
    congr 1
    omega
  · rw [if_neg h, if_neg (by omega)]
theorem has_bt (h l : Nat) (i : Int) : decide (h &&& bH i ≠ 0 ∨ l &&& bL i ≠ 0) = (decide (0 ≤ i ∧ i < 128) && bt h l i.toNat) := by
  by_cases hi : 0 ≤ i ∧ i < 128
  · rw [decide_eq_true hi, Bool.true_and]
    have key : ∀ x k : Nat, (x &&& 2 ^ k ≠ 0) ↔ x.testBit k = true := by
      intro x k
      constructor
      · intro hne
        cases hb : x.testBit k with
        | true => rfl
        | false =>
          refine absurd (Nat.eq_of_testBit_eq fun i => ?_) hne
          rw [Nat.testBit_and, Nat.testBit_two_pow, Nat.zero_testBit]
          by_cases h : k = i
          · subst h; rw [hb]; rfl
          · rw [decide_eq_false h, Bool.and_false]
      · intro hb hz
        have : (x &&& 2 ^ k).testBit k = true := by rw [Nat.testBit_and, Nat.testBit_two_pow, hb]; simp
        rw [hz, Nat.zero_testBit] at this
        cases this
    unfold bH bL bt pb
    by_cases h6 : i < 64
    · rw [if_pos ⟨hi.1, h6⟩, if_neg (by omega), if_neg (by omega), if_pos (by omega)]
      rw [show 127 - i.toNat - 64 = (63 - i).toNat by omega]
      have := key h (63 - i).toNat
      cases hb : h.testBit (63 - i).toNat with
      | true => rw [decide_eq_true_iff]; exact .inl (this.2 hb)
      | false =>
        rw [decide_eq_false_iff_not]
        rintro (k | k)
        · rw [this.1 k] at hb; cases hb
        · simp at k
    · rw [if_neg (by omega), if_pos (by omega), if_pos (by omega)]
      rw [show 127 - i.toNat = (127 - i).toNat by omega]
      have := key l (127 - i).toNat
      cases hb : l.testBit (127 - i).toNat with
      | true => rw [decide_eq_true_iff]; exact .inr (this.2 hb)
      | false =>
        rw [decide_eq_false_iff_not]
        rintro (k | k)
        · simp at k
        · rw [this.1 k] at hb; cases hb
  · rw [decide_eq_false hi, Bool.false_and, decide_eq_false_iff_not]
    unfold bH bL
    rw [if_neg (by omega), if_neg (by omega)]
    simp
theorem filt_split {n i : Nat} (p : Nat → Bool) (hi : i < n) :
    (List.range n).filter p = (List.range i).filter p ++ ((if p i then [i] else []) ++ ((List.range (n - i - 1)).map (i + 1 + ·)).filter p) := by
  have e : List.range n = List.range i ++ ([i] ++ (List.range (n - i - 1)).map (i + 1 + ·)) := by
    rw [← List.append_assoc, ← List.range_succ, ← List.range_add]
    congr 1
    omega
  rw [e, List.filter_append, List.filter_append]
  congr 2
  cases h : p i <;> simp [List.filter_cons, h]
def firstOf : List Nat → Int
  | [] => -1
  | x :: _ => (x : Int)
def lastOf (L : List Nat) : Int := match L.getLast? with
  | none => -1
  | some x => (x : Int)
theorem filt_first {n i : Nat} {p : Nat → Bool} (hi : i < n) (hp : p i = true) (hn : ∀ j, j < i → p j = false) : ∃ t, (List.range n).filter p = i :: t := by
  rw [filt_split p hi, if_pos hp, List.filter_eq_nil_iff.2 (fun j hj => by rw [hn j (List.mem_range.1 hj)]; simp)]
  exact ⟨_, rfl⟩
theorem filt_last {n i : Nat} {p : Nat → Bool} (hi : i < n) (hp : p i = true) (hn : ∀ j, i < j → j < n → p j = false) : ∃ t, (List.range n).filter p = t ++ [i] := by
  have e : ((List.range (n - i - 1)).map (i + 1 + ·)).filter p = [] := List.filter_eq_nil_iff.2 (fun j hj => by
    obtain ⟨k, hk, rfl⟩ := List.mem_map.1 hj
    rw [hn _ (by omega) (by have := List.mem_range.1 hk; omega)]; simp)
  rw [filt_split p hi, if_pos hp, e, List.append_nil]
  exact ⟨_, rfl⟩
theorem pb_zero (j : Nat) : pb 0 0 j = false := by unfold pb; simp
theorem bitsOf_zero : bitsOf 0 0 = [] := List.filter_eq_nil_iff.2 fun j _ => by rw [show bt 0 0 j = false from pb_zero _]; simp
theorem blen_spec {x : Nat} (hx : x < 18446744073709551616) (h0 : x ≠ 0) : 1 ≤ blen x ∧ x.testBit (blen x - 1) = true ∧ ∀ j, blen x ≤ j → x.testBit j = false := by
  obtain ⟨a, b, c⟩ := Lib.bitLenAux_bounds 64 x hx h0
  refine ⟨a, ?_, fun j hj => ?_⟩
  · refine Nat.testBit_of_two_pow_le_and_two_pow_add_one_gt b ?_
    rw [show blen x - 1 + 1 = blen x from by unfold blen; exact Nat.sub_add_cancel a]
    exact c
  · exact Nat.testBit_lt_two_pow (Nat.lt_of_lt_of_le c (Nat.pow_le_pow_right (by decide) hj))
theorem czn_spec {x : Nat} (hx : x < 18446744073709551616) (h0 : x ≠ 0) : czn x < 64 ∧ x.testBit (czn x) = true ∧ ∀ j, j < czn x → x.testBit j = false := by
  obtain ⟨m, hm, hl⟩ := Lib.ctzFrom_spec 64 x (by omega) hx
  have hc : czn x = Lib.ctzFrom 64 x := by unfold czn Lib.ctz; rw [if_neg h0]
  rw [hc]
  obtain ⟨k, hk⟩ : ∃ k, k = Lib.ctzFrom 64 x := ⟨_, rfl⟩
  rw [← hk] at hm hl ⊢
  refine ⟨hl, ?_, fun j hj => ?_⟩
  · rw [hm, Nat.testBit_two_pow_mul]
    simp [Nat.testBit_zero]
  · rw [hm, Nat.testBit_two_pow_mul]
    have : ¬ j ≥ k := by omega
    simp [this]
theorem firstOf_of {L t : List Nat} {i : Nat} (h : L = i :: t) : firstOf L = (i : Int) := by rw [h]; rfl
theorem lastOf_of {L t : List Nat} {i : Nat} (h : L = t ++ [i]) : lastOf L = (i : Int) := by rw [h]; unfold lastOf; rw [List.getLast?_concat]
theorem fiN_eq {h l : Nat} (h0 : h < 18446744073709551616) (h1 : l < 18446744073709551616) : fiN h l = firstOf (bitsOf h l) := by
  unfold fiN
  by_cases ha : h = 0
  · subst ha
    rw [if_neg (by simp)]
    by_cases hb : l = 0
    · subst hb
      rw [if_neg (by simp), bitsOf_zero]
      rfl
    · rw [if_pos hb]
      obtain ⟨a, b, c⟩ := blen_spec h1 hb
      have d := blen_le l h1
      obtain ⟨t, ht⟩ := filt_first (n := 128) (i := 128 - blen l) (p := bt 0 l) (by omega)
        (by unfold bt pb; rw [if_pos (by omega), show 127 - (128 - blen l) = blen l - 1 by omega]; exact b)
        (fun j hj => by unfold bt pb; split; · exact c _ (by omega)
                        · split; · simp
                          · rfl)
      rw [firstOf_of (L := bitsOf _ _) ht]
      omega
  · rw [if_pos ha]
    obtain ⟨a, b, c⟩ := blen_spec h0 ha
    have d := blen_le h h0
    obtain ⟨t, ht⟩ := filt_first (n := 128) (i := 64 - blen h) (p := bt h l) (by omega)
      (by unfold bt pb; rw [if_neg (by omega), if_pos (by omega), show 127 - (64 - blen h) - 64 = blen h - 1 by omega]; exact b)
      (fun j hj => by unfold bt pb; rw [if_neg (by omega), if_pos (by omega)]; exact c _ (by omega))
    rw [firstOf_of (L := bitsOf _ _) ht]
    omega
theorem laN_eq {h l : Nat} (h0 : h < 18446744073709551616) (h1 : l < 18446744073709551616) : laN h l = lastOf (bitsOf h l) := by
  unfold laN
  by_cases ha : l = 0
  · subst ha
    rw [if_neg (by simp)]
    by_cases hb : h = 0
    · subst hb
      rw [if_neg (by simp), bitsOf_zero]
      rfl
    · rw [if_pos hb]
      obtain ⟨a, b, c⟩ := czn_spec h0 hb
      obtain ⟨t, ht⟩ := filt_last (n := 128) (i := 63 - czn h) (p := bt h 0) (by omega)
        (by unfold bt pb; rw [if_neg (by omega), if_pos (by omega), show 127 - (63 - czn h) - 64 = czn h by omega]; exact b)
        (fun j hj hj2 => by unfold bt pb; split; · simp
                            · split; · exact c _ (by omega)
                              · rfl)
      rw [lastOf_of (L := bitsOf _ _) ht]
      omega
  · rw [if_pos ha]
    obtain ⟨a, b, c⟩ := czn_spec h1 ha
    obtain ⟨t, ht⟩ := filt_last (n := 128) (i := 127 - czn l) (p := bt h l) (by omega)
      (by unfold bt pb; rw [if_pos (by omega), show 127 - (127 - czn l) = czn l by omega]; exact b)
      (fun j hj hj2 => by unfold bt pb; rw [if_pos (by omega)]; exact c _ (by omega))
    rw [lastOf_of (L := bitsOf _ _) ht]
    omega
theorem count_len (h l : Nat) : (bitsOf h l).length = cnt h 64 + cnt l 64 := by
  unfold bitsOf
  rw [← List.countP_eq_length_filter]
  have e : (List.range 128).map (127 - ·) = (List.range 128).reverse := by decide +kernel
  have e1 : (List.range 128).countP (bt h l) = (List.range 128).countP (pb h l) := by
    rw [← List.countP_reverse (l := List.range 128), ← e, List.countP_map]
    refine List.countP_congr fun j hj => ?_
    have := List.mem_range.1 hj
    simp only [Function.comp_apply]
    unfold bt
    rw [show 127 - (127 - j) = j by omega]
  rw [e1, show (128 : Nat) = 64 + 64 from rfl, List.range_add, List.countP_append, List.countP_map, Nat.add_comm]
  unfold cnt
  congr 1
theorem bitsOf_nodup (h l : Nat) : (bitsOf h l).Nodup := List.Nodup.sublist List.filter_sublist List.nodup_range
theorem bitsOf_lt {h l i : Nat} (hi : i ∈ bitsOf h l) : i < 128 := List.mem_range.1 (List.mem_filter.1 hi).1
theorem bitsOf_mem {h l i : Nat} : i ∈ bitsOf h l ↔ i < 128 ∧ bt h l i = true := by unfold bitsOf; rw [List.mem_filter, List.mem_range]
theorem bitsOf_tail {h l i : Nat} {t : List Nat} (e : bitsOf h l = i :: t) : bitsOf (h &&& (18446744073709551615 - bH (i : Int))) (l &&& (18446744073709551615 - bL (i : Int))) = t := by
  have e1 : bitsOf (h &&& (18446744073709551615 - bH (i : Int))) (l &&& (18446744073709551615 - bL (i : Int))) = (bitsOf h l).filter (fun j => decide (i ≠ j)) := by
    unfold bitsOf
    rw [List.filter_filter]
    refine List.filter_congr fun j hj => ?_
    rw [bt_less _ _ (List.mem_range.1 hj), Bool.and_comm]
    congr 1
    exact decide_eq_decide.2 (by omega)
  have hn := bitsOf_nodup h l
  rw [e] at hn
  rw [e1, e, List.filter_cons_of_neg (by simp)]
  refine List.filter_eq_self.2 fun j hj => ?_
  have := (List.nodup_cons.1 hn).1
  rw [decide_eq_true_iff]
  rintro rfl
  exact this hj
theorem less_lt (x y : Nat) (hx : x < 18446744073709551616) : x &&& y < 18446744073709551616 := Nat.lt_of_le_of_lt Nat.and_le_left hx
theorem or_lt {x y : Nat} (hx : x < 18446744073709551616) (hy : y < 18446744073709551616) : x ||| y < 18446744073709551616 := Nat.or_lt_two_pow (n := 64) hx hy
theorem xor_lt {x y : Nat} (hx : x < 18446744073709551616) (hy : y < 18446744073709551616) : x ^^^ y < 18446744073709551616 := Nat.xor_lt_two_pow (n := 64) hx hy
end
section
theorem firstOf_cases (L : List Nat) : (L = [] ∧ firstOf L = -1) ∨ ∃ i, i ∈ L ∧ firstOf L = (i : Int) := by
  cases L with
  | nil => exact .inl ⟨rfl, rfl⟩
  | cons x t => exact .inr ⟨x, by simp, rfl⟩
theorem lastOf_cases (L : List Nat) : (L = [] ∧ lastOf L = -1) ∨ ∃ i, i ∈ L ∧ lastOf L = (i : Int) := by
  cases h : L.getLast? with
  | none => exact .inl ⟨List.getLast?_eq_none_iff.1 h, by unfold lastOf; rw [h]⟩
  | some x => exact .inr ⟨x, List.mem_of_getLast? h, by unfold lastOf; rw [h]⟩
theorem filter_sum {α : Type} (p q r : α → Bool) (L : List α) (h : ∀ x ∈ L, p x = (q x ^^ r x) ∧ (q x && r x) = false) : (L.filter p).length = (L.filter q).length + (L.filter r).length := by
  induction L with
  | nil => rfl
  | cons x L ih =>
    have h1 := ih (fun y hy => h y (by simp [hy]))
    obtain ⟨h2, h3⟩ := h x (by simp)
    simp only [List.filter_cons, h2]
    cases hq : q x <;> cases hr : r x <;> simp [hq, hr] at h3 ⊢ <;> omega
section
variable {a b : Nat} (h0 : a < 18446744073709551616) (h1 : b < 18446744073709551616) (n : Int)
theorem bt_cut (i : Nat) (hi : i < 128) : bt (a &&& fuH n) (b &&& fuL n) i = (bt a b i && decide ((i : Int) < n)) := by rw [bt_and, bt_full n i hi]
theorem bt_rest (i : Nat) (hi : i < 128) : bt (a ^^^ (a &&& fuH n)) (b ^^^ (b &&& fuL n)) i = (bt a b i && !decide ((i : Int) < n)) := by
  rw [bt_xor, bt_cut n i hi]
  cases bt a b i <;> cases decide ((i : Int) < n) <;> rfl
include h0 h1
theorem two_or : (a ^^^ (a &&& fuH n)) ||| (a &&& fuH n) = a ∧ (b ^^^ (b &&& fuL n)) ||| (b &&& fuL n) = b :=
  bt_eq (or_lt (xor_lt h0 (less_lt _ _ h0)) (less_lt _ _ h0)) (or_lt (xor_lt h1 (less_lt _ _ h1)) (less_lt _ _ h1)) h0 h1 fun i hi => by
    rw [bt_or, bt_rest n i hi, bt_cut n i hi]
    cases bt a b i <;> cases decide ((i : Int) < n) <;> rfl
theorem two_and : (a ^^^ (a &&& fuH n)) &&& (a &&& fuH n) = 0 ∧ (b ^^^ (b &&& fuL n)) &&& (b &&& fuL n) = 0 :=
  bt_eq (less_lt _ _ (xor_lt h0 (less_lt _ _ h0))) (less_lt _ _ (xor_lt h1 (less_lt _ _ h1))) (by decide) (by decide) fun i hi => by
    rw [bt_and, bt_rest n i hi, bt_cut n i hi, show bt 0 0 i = false from pb_zero _]
    cases bt a b i <;> cases decide ((i : Int) < n) <;> rfl
theorem two_first : fiN (a ^^^ (a &&& fuH n)) (b ^^^ (b &&& fuL n)) < 0 ∨ n ≤ fiN (a ^^^ (a &&& fuH n)) (b ^^^ (b &&& fuL n)) := by
  rw [fiN_eq (xor_lt h0 (less_lt _ _ h0)) (xor_lt h1 (less_lt _ _ h1))]
  rcases firstOf_cases (bitsOf (a ^^^ (a &&& fuH n)) (b ^^^ (b &&& fuL n))) with ⟨_, h⟩ | ⟨i, hi, h⟩
  · rw [h]; left; decide
  · right
    obtain ⟨hi2, hb⟩ := bitsOf_mem.1 hi
    rw [bt_rest n i hi2] at hb
    simp only [Bool.and_eq_true, Bool.not_eq_true', decide_eq_false_iff_not] at hb
    rw [h]; omega
theorem two_last (hn : 0 ≤ n) : laN (a &&& fuH n) (b &&& fuL n) < n := by
  rw [laN_eq (less_lt _ _ h0) (less_lt _ _ h1)]
  rcases lastOf_cases (bitsOf (a &&& fuH n) (b &&& fuL n)) with ⟨_, h⟩ | ⟨i, hi, h⟩
  · rw [h]; omega
  · obtain ⟨hi2, hb⟩ := bitsOf_mem.1 hi
    rw [bt_cut n i hi2] at hb
    simp only [Bool.and_eq_true, decide_eq_true_eq] at hb
    rw [h]; omega
theorem two_down (hn : 0 ≤ n) (hn2 : n < 128) : dwH (dwH a b n) (dwL a b n) (-n) = a &&& fuH (128 - n) ∧ dwL (dwH a b n) (dwL a b n) (-n) = b &&& fuL (128 - n) :=
  bt_eq (dwH_lt _ _ _ (dwH_lt _ _ _ h0 h1) (dwL_lt _ _ _ h0 h1)) (dwL_lt _ _ _ (dwH_lt _ _ _ h0 h1) (dwL_lt _ _ _ h0 h1)) (less_lt _ _ h0) (less_lt _ _ h1) fun i hi => by
    rw [bt_down (dwH_lt _ _ _ h0 h1) (dwL_lt _ _ _ h0 h1) _ i hi, bt_cut _ i hi]
    by_cases hc : 0 ≤ (i : Int) - -n ∧ (i : Int) - -n < 128
    · rw [if_pos hc, bt_down h0 h1 _ _ (by omega), if_pos (by omega), decide_eq_true (by omega), Bool.and_true]
      congr 1; omega
    · rw [if_neg hc, decide_eq_false (by omega), Bool.and_false]
omit h0 h1 in
theorem two_count : cnt a 64 + cnt b 64 = (cnt (a &&& fuH n) 64 + cnt (b &&& fuL n) 64) + (cnt (a ^^^ (a &&& fuH n)) 64 + cnt (b ^^^ (b &&& fuL n)) 64) := by
  rw [← count_len, ← count_len, ← count_len]
  unfold bitsOf
  refine filter_sum _ _ _ _ fun i hi => ?_
  have hi := List.mem_range.1 hi
  rw [bt_cut n i hi, bt_rest n i hi]
  cases bt a b i <;> cases decide ((i : Int) < n) <;> simp
end
end
section
open Go.RowKit
/-- A slice of ints. -/
def RdZ (w : World) (a : Option Addr) (zs : List Int) : Prop := RdV w a (zs.map (Value.int .i64))
theorem RdZ.at_ {w : World} {a : Option Addr} {zs : List Int} (h : RdZ w a zs) {j : Nat} (hj : j < zs.length) : ∃ b off x, x = zs[j] ∧ a = some ⟨b, off, none⟩ ∧ b < w.heap.size ∧ w.cell? ⟨b, off + j, none⟩ = some (.int .i64 x) := by
  obtain ⟨b, off, ha, hb, hc⟩ := h j (.int .i64 zs[j]) (by rw [List.getElem?_map, List.getElem?_eq_getElem hj]; rfl)
  exact ⟨b, off, _, rfl, ha, hb, hc⟩
theorem RdZ.below {w w' : World} {a : Option Addr} {zs : List Int} (h : RdZ w a zs) (hb : Below w.heap.size w w') : RdZ w' a zs := RdV.below h hb
/-- The mask of bits: its halves. -/
def ofH (zs : List Int) : Nat := zs.foldl (fun m i => m ||| bH i) 0
def ofL (zs : List Int) : Nat := zs.foldl (fun m i => m ||| bL i) 0
theorem fold_lt {f : Int → Nat} (hf : ∀ i, f i < 18446744073709551616) (zs : List Int) : ∀ s, s < 18446744073709551616 → zs.foldl (fun m i => m ||| f i) s < 18446744073709551616 := by
  induction zs with
  | nil => exact fun s h => h
  | cons z zs ih => exact fun s h => ih _ (or_lt h (hf z))
theorem ofH_lt (zs : List Int) : ofH zs < 18446744073709551616 := fold_lt bH_lt zs 0 (by decide)
theorem ofL_lt (zs : List Int) : ofL zs < 18446744073709551616 := fold_lt bL_lt zs 0 (by decide)
theorem ofH_snoc (zs : List Int) (x : Int) : ofH (zs ++ [x]) = ofH zs ||| bH x := by simp [ofH]
theorem ofL_snoc (zs : List Int) (x : Int) : ofL (zs ++ [x]) = ofL zs ||| bL x := by simp [ofL]
set_option maxRecDepth 100000 in
set_option maxHeartbeats 4000000 in
theorem of_c (a : Option Addr) (c : Nat) (zs : List Int) (w : World) (h : RdZ w a zs) (hl : zs.length ≤ 1000000) (hz : ∀ z ∈ zs, -9223372036854775808 ≤ z ∧ z ≤ 9223372036854775807) :
    Calls Tryd.prog 24 #[.slice a zs.length c] w fun e w' => e = .returned (mV (ofH zs) (ofL zs)) ∧ Frm [] w w' := by
  have HR := Lib.hid h
  have HZ := Lib.hid hz
  have HS0 := Lib.hid (((Sep.init w).alloc #[.int .u64 0, .int .u64 0] 42).alloc #[.int .u64 0, .int .u64 0] 42)
  clear h hz
  go_enter Tryd.func24, Tryd.ntmps24
  go_upto_region 2 with fail
  obtain ⟨w1, hw1⟩ : ∃ w1, w1 = (w.alloc (.cells #[.int .u64 0, .int .u64 0] 42)).alloc (.cells #[.int .u64 0, .int .u64 0] 42) := ⟨_, rfl⟩
  obtain ⟨p, hp⟩ : ∃ p, p = w.heap.size := ⟨_, rfl⟩
  simp only [World.size_alloc] at HS0
  rw [← hw1, ← hp] at HS0
  rw [← hw1, ← hp]
  clear hw1 hp
  go_wp2_with fail
  go_loopw [8] (fun i wr => ∃ j : Nat, j ≤ zs.length ∧ i = .int .i64 j ∧ Sep [] w wr [blkR (p + 1) 42 #[.int .u64 (ofH (zs.take j) : Int), .int .u64 (ofL (zs.take j) : Int)], blkR p 42 #[.int .u64 0, .int .u64 0]]) (fun i _ => zs.length - (intOf i).toNat)
  case atStart => exact ⟨0, Nat.zero_le _, rfl, HS0.out⟩
  case round =>
    obtain ⟨j, hj, rfl, hS⟩ := hrel
    have HS := Lib.hid hS
    by_cases hlt : j < zs.length
    · obtain ⟨b, off, x, hx, rfl, hb, hc⟩ := (HR.out.below hS.frm.below).at_ hlt
      have i0 : (0 : Int) ≤ (j : Int) := by omega
      have i1 : (j : Int) < (zs.length : Int) := by omega
      have hzx := HZ.out x (hx ▸ List.getElem_mem hlt)
      have HSn := Lib.hid (show ofH (zs.take (j + 1)) = ofH (zs.take j) ||| bH x ∧ ofL (zs.take (j + 1)) = ofL (zs.take j) ||| bL x from by
        rw [List.take_succ_eq_append_getElem hlt, ← hx]; exact ⟨ofH_snoc _ _, ofL_snoc _ _⟩)
      have hH := ofH_lt (zs.take j)
      have hL := ofL_lt (zs.take j)
      obtain ⟨H, hHH⟩ : ∃ H, H = ofH (zs.take j) := ⟨_, rfl⟩
      obtain ⟨L, hLL⟩ : ∃ L, L = ofL (zs.take j) := ⟨_, rfl⟩
      rw [← hHH, ← hLL] at HS HSn
      rw [← hHH] at hH
      rw [← hLL] at hL
      have HW := Lib.hid (fun X => with_c H L x X hH hL hzx.1 hzx.2)
      unfold mV at HW
      have c0 := (HS.out.blk 0 rfl).cell 0 rfl
      have c1 := (HS.out.blk 0 rfl).cell 1 rfl
      clear hS hx hb hHH hLL hH hL hzx HR HZ HS0
      go_wp2_with fail
      refine (HW.out _).mono ?_
      rintro e w2 ⟨rfl, hf⟩
      have HS2 := Lib.hid (HS.out.keep hf)
      clear hf c0 c1
      have c0 := (HS2.out.blk 0 rfl).cell 0 rfl
      have c1 := (HS2.out.blk 0 rfl).cell 1 rfl
      have f0 := (HS2.out.blk 0 rfl).free 0
      have f1 := (HS2.out.blk 0 rfl).free 1
      go_wp2_with fail
      have h5 := (HS2.out.put 0 rfl 0 (.int .u64 ((H ||| bH x : Nat) : Int))).put 0 rfl 1 (.int .u64 ((L ||| bL x : Nat) : Int))
      go_roundw
      case rel => exact ⟨j + 1, by omega, by go_num, by rw [HSn.out.1, HSn.out.2]; exact h5⟩
      case measure => simp [intOf]; omega
    · obtain rfl : j = zs.length := by omega
      rw [List.take_length] at HS
      have c0 := (HS.out.blk 0 rfl).cell 0 rfl
      have c1 := (HS.out.blk 0 rfl).cell 1 rfl
      have d0 := (HS.out.blk 1 rfl).cell 0 rfl
      have d1 := (HS.out.blk 1 rfl).cell 1 rfl
      have f0 := (HS.out.blk 1 rfl).free 0
      have f1 := (HS.out.blk 1 rfl).free 1
      clear hS
      go_wp2_with fail
      have h5 := (HS.out.put 1 rfl 0 (.int .u64 (ofH zs : Int))).put 1 rfl 1 (.int .u64 (ofL zs : Int))
      have e0 := (h5.blk 1 rfl).cell 0 rfl
      have e1 := (h5.blk 1 rfl).cell 1 rfl
      obtain ⟨wx, hwx⟩ : ∃ wx, wx = (wr.setCell ⟨p, 0, none⟩ (.int .u64 (ofH zs : Int))).setCell ⟨p, 1, none⟩ (.int .u64 (ofL zs : Int)) := ⟨_, rfl⟩
      rw [← hwx] at h5 e0 e1 ⊢
      refine bodyPost_ret (v := mV (ofH zs) (ofL zs)) ?_ rfl ⟨rfl, h5.frm⟩
      simp [results, Tryd.results24, go_sem, e0, e1, mV]
end
section
theorem bt_zero (i : Nat) : bt 0 0 i = false := pb_zero _
theorem bt_fold (zs : List Int) (i : Nat) (hi : i < 128) : ∀ (s t : Nat), bt (zs.foldl (fun m i => m ||| bH i) s) (zs.foldl (fun m i => m ||| bL i) t) i = (bt s t i || decide ((i : Int) ∈ zs)) := by
  induction zs with
  | nil => intro s t; simp
  | cons z zs ih =>
    intro s t
    rw [List.foldl_cons, List.foldl_cons, ih, bt_or, bt_bit z i hi, Bool.or_assoc]
    congr 1
    rw [Bool.eq_iff_iff]
    simp only [Bool.or_eq_true, decide_eq_true_eq, List.mem_cons]
    exact ⟨fun h => h.imp Eq.symm id, fun h => h.imp Eq.symm id⟩
theorem bt_of (zs : List Int) (i : Nat) (hi : i < 128) : bt (ofH zs) (ofL zs) i = decide ((i : Int) ∈ zs) := by
  unfold ofH ofL
  rw [bt_fold zs i hi, bt_zero, Bool.false_or]
theorem of_bits {h l : Nat} (h0 : h < 18446744073709551616) (h1 : l < 18446744073709551616) (zs : List Int) (hz : ∀ i : Nat, i < 128 → ((i : Int) ∈ zs ↔ bt h l i = true)) : ofH zs = h ∧ ofL zs = l :=
  bt_eq (ofH_lt _) (ofL_lt _) h0 h1 fun i hi => by
    rw [bt_of zs i hi, Bool.eq_iff_iff, decide_eq_true_eq]
    exact hz i hi
section
variable {h l : Nat} (h0 : h < 18446744073709551616) (h1 : l < 18446744073709551616)
include h0 h1
theorem dw_dw (a b : Int) (hab : (0 ≤ a ∧ 0 ≤ b) ∨ (a ≤ 0 ∧ b ≤ 0)) : dwH (dwH h l a) (dwL h l a) b = dwH h l (a + b) ∧ dwL (dwH h l a) (dwL h l a) b = dwL h l (a + b) :=
  bt_eq (dwH_lt _ _ _ (dwH_lt _ _ _ h0 h1) (dwL_lt _ _ _ h0 h1)) (dwL_lt _ _ _ (dwH_lt _ _ _ h0 h1) (dwL_lt _ _ _ h0 h1)) (dwH_lt _ _ _ h0 h1) (dwL_lt _ _ _ h0 h1) fun i hi => by
    rw [bt_down (dwH_lt _ _ _ h0 h1) (dwL_lt _ _ _ h0 h1) _ i hi, bt_down h0 h1 _ i hi]
    by_cases hc : 0 ≤ (i : Int) - b ∧ (i : Int) - b < 128
    · rw [if_pos hc, bt_down h0 h1 _ _ (by omega)]
      by_cases hd : 0 ≤ (i : Int) - (a + b) ∧ (i : Int) - (a + b) < 128
      · rw [if_pos hd, if_pos (by omega)]; congr 1; omega
      · rw [if_neg hd, if_neg (by omega)]
    · rw [if_neg hc, if_neg (by omega)]
theorem with_less (a : Int) : (h ||| bH a) &&& (18446744073709551615 - bH a) = h &&& (18446744073709551615 - bH a) ∧ (l ||| bL a) &&& (18446744073709551615 - bL a) = l &&& (18446744073709551615 - bL a) :=
  bt_eq (less_lt _ _ (or_lt h0 (bH_lt a))) (less_lt _ _ (or_lt h1 (bL_lt a))) (less_lt _ _ h0) (less_lt _ _ h1) fun i hi => by
    rw [bt_less a i hi, bt_less a i hi, bt_or, bt_bit a i hi]
    by_cases e : a = (i : Int) <;> simp [e]
theorem cut_down (a : Int) (ha : 0 ≤ a) : (h &&& fuH a) ||| dwH (dwH h l (-a)) (dwL h l (-a)) a = h ∧ (l &&& fuL a) ||| dwL (dwH h l (-a)) (dwL h l (-a)) a = l :=
  bt_eq (or_lt (less_lt _ _ h0) (dwH_lt _ _ _ (dwH_lt _ _ _ h0 h1) (dwL_lt _ _ _ h0 h1))) (or_lt (less_lt _ _ h1) (dwL_lt _ _ _ (dwH_lt _ _ _ h0 h1) (dwL_lt _ _ _ h0 h1))) h0 h1 fun i hi => by
    rw [bt_or, bt_cut a i hi, bt_down (dwH_lt _ _ _ h0 h1) (dwL_lt _ _ _ h0 h1) _ i hi]
    by_cases hc : (i : Int) < a
    · rw [decide_eq_true hc, if_neg (by omega)]; simp
    · rw [decide_eq_false hc]
      by_cases hd : (i : Int) - a < 128
      · rw [if_pos ⟨by omega, hd⟩, bt_down h0 h1 _ _ (by omega), if_pos (by omega)]
        simp only [Bool.and_false, Bool.false_or]
        congr 1; omega
      · omega
/-- A part's bits. -/
theorem tb_part (f n : Int) (hf : -128 ≤ f ∧ f ≤ 128) (hn : 0 ≤ n ∧ n ≤ 64) (j : Nat) : (ptN h l f n).testBit j = (decide ((j : Int) < n ∧ 0 ≤ f + n - 1 - j ∧ f + n - 1 - j < 128) && bt h l (f + n - 1 - j).toNat) := by
  unfold ptN
  rw [show held f (-128) 128 = f from by unfold held; rw [if_neg (by omega), if_neg (by omega)], show held n 0 64 = n from by unfold held; rw [if_neg (by omega), if_neg (by omega)], tb_div]
  by_cases hj : (j : Int) < n
  · have hb := bt_down h0 h1 (-f) (n - 1 - j).toNat (by omega)
    unfold bt at hb ⊢
    have e1 : pb (dwH h l (-f)) (dwL h l (-f)) (127 - (n - 1 - (j : Int)).toNat) = (dwH h l (-f)).testBit (j + (64 - n).toNat) := by
      unfold pb
      rw [if_neg (by omega), if_pos (by omega)]
      congr 1
      omega
    rw [← e1, hb]
    by_cases hc : 0 ≤ f + n - 1 - (j : Int) ∧ f + n - 1 - (j : Int) < 128
    · rw [if_pos (by omega), decide_eq_true ⟨hj, hc⟩, Bool.true_and]
      congr 2
      omega
    · rw [if_neg (by omega), decide_eq_false (fun h => hc h.2), Bool.false_and]
  · rw [decide_eq_false (fun h => hj h.1), Bool.false_and]
    exact tb_none (dwH_lt _ _ _ h0 h1) (by omega)
end
/-- A laid number's bits. -/
theorem bt_lay (f n : Int) (x : Nat) (hf : -128 ≤ f ∧ f ≤ 128) (hn : 0 ≤ n ∧ n ≤ 64) (i : Nat) (hi : i < 128) : bt (lyH f n x) (lyL f n x) i = (decide (0 ≤ (i : Int) - f ∧ (i : Int) - f < n) && x.testBit (n - 1 - ((i : Int) - f)).toNat) := by
  unfold lyH lyL
  rw [show held f (-128) 128 = f from by unfold held; rw [if_neg (by omega), if_neg (by omega)], show held n 0 64 = n from by unfold held; rw [if_neg (by omega), if_neg (by omega)],
    bt_down (Nat.mod_lt _ (by decide)) (by decide) _ i hi]
  by_cases hc : 0 ≤ (i : Int) - f ∧ (i : Int) - f < 128
  · rw [if_pos hc]
    unfold bt pb
    by_cases hd : (i : Int) - f < 64
    · rw [if_neg (by omega), if_pos (by omega), tb_mod, tb_mul]
      by_cases he : (i : Int) - f < n
      · rw [decide_eq_true (show 127 - ((i : Int) - f).toNat - 64 < 64 by omega), decide_eq_true (show (64 - n).toNat ≤ 127 - ((i : Int) - f).toNat - 64 by omega), decide_eq_true (show 0 ≤ (i : Int) - f ∧ (i : Int) - f < n by omega)]
        simp only [Bool.true_and]
        congr 1
        omega
      · rw [decide_eq_false (show ¬ ((64 - n).toNat ≤ 127 - ((i : Int) - f).toNat - 64) by omega), decide_eq_false (show ¬ (0 ≤ (i : Int) - f ∧ (i : Int) - f < n) by omega)]
        simp
    · rw [if_pos (by omega), decide_eq_false (show ¬ (0 ≤ (i : Int) - f ∧ (i : Int) - f < n) by omega), Nat.zero_testBit, Bool.false_and]
  · rw [if_neg hc, decide_eq_false (show ¬ (0 ≤ (i : Int) - f ∧ (i : Int) - f < n) by omega), Bool.false_and]
theorem lyH_lt (f n : Int) (x : Nat) : lyH f n x < 18446744073709551616 := dwH_lt _ _ _ (Nat.mod_lt _ (by decide)) (by decide)
theorem lyL_lt (f n : Int) (x : Nat) : lyL f n x < 18446744073709551616 := dwL_lt _ _ _ (Nat.mod_lt _ (by decide)) (by decide)
theorem lay_part {h l : Nat} (h0 : h < 18446744073709551616) (h1 : l < 18446744073709551616) (f n : Int) (hf : 0 ≤ f ∧ f ≤ 128) (hn : 0 ≤ n ∧ n ≤ 64) (i : Nat) (hi : i < 128) :
    bt (lyH f n (ptN h l f n)) (lyL f n (ptN h l f n)) i = (decide (f ≤ (i : Int) ∧ (i : Int) < f + n) && bt h l i) := by
  rw [bt_lay f n _ (by omega) hn i hi, tb_part h0 h1 f n (by omega) hn]
  by_cases hc : f ≤ (i : Int) ∧ (i : Int) < f + n
  · rw [decide_eq_true hc, decide_eq_true (show 0 ≤ (i : Int) - f ∧ (i : Int) - f < n by omega), decide_eq_true (by omega)]
    simp only [Bool.true_and]
    congr 1
    omega
  · rw [decide_eq_false hc, decide_eq_false (show ¬ (0 ≤ (i : Int) - f ∧ (i : Int) - f < n) by omega)]
    simp
theorem parts_all {h l : Nat} (h0 : h < 18446744073709551616) (h1 : l < 18446744073709551616) (a : Int) (ha : 0 ≤ a ∧ a ≤ 63) :
    (lyH 0 a (ptN h l 0 a) ||| lyH a 64 (ptN h l a 64)) ||| lyH (a + 64) 64 (ptN h l (a + 64) 64) = h ∧ (lyL 0 a (ptN h l 0 a) ||| lyL a 64 (ptN h l a 64)) ||| lyL (a + 64) 64 (ptN h l (a + 64) 64) = l :=
  bt_eq (or_lt (or_lt (lyH_lt _ _ _) (lyH_lt _ _ _)) (lyH_lt _ _ _)) (or_lt (or_lt (lyL_lt _ _ _) (lyL_lt _ _ _)) (lyL_lt _ _ _)) h0 h1 fun i hi => by
    rw [bt_or, bt_or, lay_part h0 h1 0 a (by omega) (by omega) i hi, lay_part h0 h1 a 64 (by omega) (by omega) i hi, lay_part h0 h1 (a + 64) 64 (by omega) (by omega) i hi]
    by_cases e1 : (i : Int) < a
    · rw [decide_eq_true (show 0 ≤ (i : Int) ∧ (i : Int) < 0 + a by omega), decide_eq_false (show ¬ (a ≤ (i : Int) ∧ (i : Int) < a + 64) by omega), decide_eq_false (show ¬ (a + 64 ≤ (i : Int) ∧ (i : Int) < a + 64 + 64) by omega)]
      simp
    · by_cases e2 : (i : Int) < a + 64
      · rw [decide_eq_false (show ¬ (0 ≤ (i : Int) ∧ (i : Int) < 0 + a) by omega), decide_eq_true (show a ≤ (i : Int) ∧ (i : Int) < a + 64 by omega), decide_eq_false (show ¬ (a + 64 ≤ (i : Int) ∧ (i : Int) < a + 64 + 64) by omega)]
        simp
      · rw [decide_eq_false (show ¬ (0 ≤ (i : Int) ∧ (i : Int) < 0 + a) by omega), decide_eq_false (show ¬ (a ≤ (i : Int) ∧ (i : Int) < a + 64) by omega), decide_eq_true (show a + 64 ≤ (i : Int) ∧ (i : Int) < a + 64 + 64 by omega)]
        simp
end

end Go.Proofs.YtjflcijiaennkaaDoor
