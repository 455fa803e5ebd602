/-
  THE WALK of confluxref10.Parse. Printed by gen_fxr.py.
-/
import Derived.Test.YtnloabpdjedanaaDoorFxN
import Derived.Test.YtnloabpdjedanaaDoorFxQ
import Derived.Test.YtnloabpdjedanaaDoorBb
import Derived.Test.YtnloabpdjedanaaDoorPj
set_option linter.unusedVariables false
set_option linter.unusedSimpArgs false
namespace Go.Proofs.YtnloabpdjedanaaDoor
open Go.RowKit

theorem rd_cell {w : World} {b off : Nat} {zs : List Int} (h : RdI .u8 w (some ⟨b, off, none⟩) zs) {k : Nat} {y : Int} (hk : zs[k]? = some y) : w.cell? ⟨b, off + k, none⟩ = some (.int .u8 y) := by
  obtain ⟨b', off', ha, _, hc⟩ := h k y hk
  injection ha with ha
  injection ha with h1 h2
  subst h1 h2
  exact hc
/-- A slice's rest, under one name. -/
theorem sl_from (a : Option Addr) (n c k : Nat) (K : Int) (hK : K = (k : Int)) (hk : k ≤ n) (hn : n ≤ c) (hc : c ≤ 9223372036854775807) : ∃ q : Option Addr, (∀ W, (Instr.slice 22 (.slice a n c) (some (.int .i64 K)) none none).run Tryd.prog W = .ok (.slice q (n - k) (c - k)) W) ∧
    (∀ W zs, zs.length = n → RdI .u8 W a zs → RdI .u8 W q (zs.drop k)) := by
  subst hK
  refine ⟨if c = k then a else a.map (·.add (k * 1)), fun W => ?_, fun W zs hz hb => ?_⟩
  · have hsz : (sizeOf (Tryd.prog.elem 22)).run Tryd.prog W = .ok 1 W := by kernel_rfl
    rw [run_slice_l W 22 a n c (by kernel_rfl) .i64 (k : Int) (by omega) (by omega), hsz]
    simp [sliced]
  · have hlen : (zs.drop k).length = n - k := by rw [List.length_drop, hz]
    by_cases h : c = k
    · rw [List.eq_nil_of_length_eq_zero (show (zs.drop k).length = 0 by omega)]
      exact RdI.nil _ _ _
    · rw [if_neg h]
      intro i x hx
      rw [List.getElem?_drop] at hx
      obtain ⟨b, off, rfl, hl, hcell⟩ := hb (k + i) x hx
      exact ⟨b, off + k, by rw [Option.map_some, Nat.mul_one, add_addr], hl, by rw [Nat.add_assoc]; exact hcell⟩
theorem bools_zero : bools 0 0 = List.replicate 128 false := by decide +kernel
theorem lay_mid (A N X : Nat) (hA : A ≤ 200) (hN : N ≤ 64) : lyK (A : Int) (N : Int) X N = bools (lyH (A : Int) (N : Int) X) (lyL (A : Int) (N : Int) X) := by
  have h := lay_ref (A : Int) (N : Int) X
  have e1 : held (A : Int) (-200) 200 = (A : Int) := by unfold held; split <;> (try split) <;> omega
  have e2 : held (N : Int) 0 64 = (N : Int) := by unfold held; split <;> (try split) <;> omega
  rw [e1, e2] at h
  exact h.symm
theorem bigN_cons (y : Int) : ∀ (n : Nat) (t : List Int), t.length = n → bigN (y :: t) = y * 256 ^ n + bigN t
  | 0, t, h => by
    have : t = [] := List.eq_nil_of_length_eq_zero h
    subst this
    simp [bigN]
  | n + 1, t, h => by
    rcases List.eq_nil_or_concat t with e | ⟨u, z, e⟩
    · subst e; simp at h
    · rw [List.concat_eq_append] at e
      subst e
      have hu : u.length = n := by simpa using h
      rw [show y :: (u ++ [z]) = (y :: u) ++ [z] from rfl, bigN_snoc, bigN_snoc, bigN_cons y n u hu, Int.pow_succ, Int.add_mul, Int.mul_assoc, Int.add_assoc]
theorem first_byte {zs : List Int} (hb : Byt zs) {P Z N : Nat} {y : Int} (hy : zs[P]? = some y) (h2 : 1 ≤ Z) (hl : P + Z ≤ zs.length) (hN : 8 * Z = N + 1) : (2 ^ N ≤ (bigN (cut zs P Z)).toNat) ↔ 128 ≤ y := by
  obtain ⟨z, rfl⟩ : ∃ z, Z = z + 1 := ⟨Z - 1, by omega⟩
  have hlt : P < zs.length := by omega
  have hyy : zs[P] = y := by rw [List.getElem?_eq_getElem hlt] at hy; exact Option.some.inj hy
  have e : cut zs P (z + 1) = y :: cut zs (P + 1) z := by
    unfold cut
    rw [List.drop_eq_getElem_cons hlt, List.take_succ_cons, hyy]
  have hy0 := hb y (List.mem_of_getElem? hy)
  have hc : (cut zs (P + 1) z).length = z := cut_len (by omega)
  have hv := bigN_lt (hb.cut (P + 1) z)
  rw [hc] at hv
  rw [e, bigN_cons y z _ hc]
  have hNe : N = 8 * z + 7 := by omega
  have h256 : ((256 : Int) ^ z) = ((2 ^ (8 * z) : Nat) : Int) := by rw [Nat.pow_mul]; simp
  rw [h256] at hv
  rw [h256, hNe, Nat.pow_add, show (2 : Nat) ^ 7 = 128 by decide]
  obtain ⟨q, hq⟩ : ∃ q : Nat, q = 2 ^ (8 * z) := ⟨_, rfl⟩
  have hq0 : 0 < q := by rw [hq]; exact Nat.two_pow_pos _
  rw [← hq] at hv ⊢
  obtain ⟨m, hm⟩ : ∃ m : Nat, y = (m : Int) := ⟨y.toNat, by omega⟩
  obtain ⟨v, hvv⟩ : ∃ v : Nat, bigN (cut zs (P + 1) z) = (v : Int) := ⟨(bigN (cut zs (P + 1) z)).toNat, by omega⟩
  rw [hvv] at hv ⊢
  subst hm
  have e3 : ((m : Int) * (q : Int) + (v : Int)).toNat = m * q + v := by rw [← Int.natCast_mul, ← Int.natCast_add, Int.toNat_natCast]
  rw [e3]
  have hvq : v < q := by omega
  constructor
  · intro h
    by_cases h3 : 128 ≤ m
    · omega
    · exfalso
      have h4 : m * q ≤ 127 * q := Nat.mul_le_mul_right q (by omega)
      omega
  · intro h
    have h4 : 128 * q ≤ m * q := Nat.mul_le_mul_right q (by omega)
    omega
theorem rd_mske {zs : List Int} {e : Int} (h1 : ¬ (1 ≤ zs.length ∧ 128 ≤ at_ zs 0)) (h2 : ¬ zs.length < 12) (h3 : ¬ 64 ≤ at_ zs 0) (h : mkF zs 3 0 10 0 0 = .error e) : rdX zs = .error e := by
  unfold rdX
  rw [if_neg h1, if_neg h2, if_neg h3, h]
theorem rd_mskz {zs : List Int} {n : Nat} (h1 : ¬ (1 ≤ zs.length ∧ 128 ≤ at_ zs 0)) (h2 : ¬ zs.length < 12) (h3 : ¬ 64 ≤ at_ zs 0) (h : mkF zs 3 0 10 0 0 = .ok (0, 0, n)) : rdX zs = .error 30 := by
  unfold rdX
  rw [if_neg h1, if_neg h2, if_neg h3, h]
  rfl
theorem rd_msk {zs : List Int} {hh ll n : Nat} (h1 : ¬ (1 ≤ zs.length ∧ 128 ≤ at_ zs 0)) (h2 : ¬ zs.length < 12) (h3 : ¬ 64 ≤ at_ zs 0) (h : mkF zs 3 0 10 0 0 = .ok (hh, ll, n)) (hz : ¬ (hh = 0 ∧ ll = 0)) :
    rdX zs = .ok ⟨at_ zs 0 % 64, at_ zs 1, at_ zs 4, at_ zs 5, at_ zs 6, at_ zs 7, at_ zs 2, at_ zs 3, bigN (cut zs 8 2), hh, ll, false, 0, 0, zs.drop n⟩ := by
  unfold rdX
  rw [if_neg h1, if_neg h2, if_neg h3, h]
  simp only
  rw [if_neg hz]
set_option maxRecDepth 100000 in
set_option maxHeartbeats 16000000 in
theorem rParse_e {W : World} {a : Option Addr} {c : Nat} {zs : List Int} (hr : RdI .u8 W a zs) (hb : Byt zs) (hc : zs.length ≤ c) (hcm : c ≤ 9223372036854775807) (hn : a = none → c = 0) (hbad : 1500 < zs.length ∨ zs.length < 12 ∨ 128 ≤ at_ zs 0) :
    Calls Tryd.prog 11 #[.slice a zs.length c] W (ParseP W (paX zs) (paE zs)) := by
  have HS0 := Lib.hid ((Sep.init W).alloc #[.int .u8 0, .int .u8 0, .int .u8 0, .int .u8 0, .int .u8 0, .int .u8 0, .int .u8 0, .int .u8 0, .int .u16 0, .int .u64 0, .int .u64 0, .bool false, .int .i64 0, .int .i64 0, .slice none 0 0] 36)
  obtain ⟨X0, hX⟩ : ∃ X0, X0 = paX zs := ⟨_, rfl⟩
  obtain ⟨e, hE⟩ : ∃ e, e = paE zs := ⟨_, rfl⟩
  have HXE := Lib.hid (And.intro hX hE)
  have HRd := Lib.hid (hr.alloc (.cells #[.int .u8 0, .int .u8 0, .int .u8 0, .int .u8 0, .int .u8 0, .int .u8 0, .int .u8 0, .int .u8 0, .int .u16 0, .int .u64 0, .int .u64 0, .bool false, .int .i64 0, .int .i64 0, .slice none 0 0] 36))
  have HR0 := Lib.hid hr
  have HBt := Lib.hid hb
  rw [← hX, ← hE]
  clear hX hE hr hb
  go_enter Tryd.func11, Tryd.ntmps11
  go_upto_region 1 with fail
  obtain ⟨w1, hw1⟩ : ∃ w1, w1 = W.alloc (.cells #[.int .u8 0, .int .u8 0, .int .u8 0, .int .u8 0, .int .u8 0, .int .u8 0, .int .u8 0, .int .u8 0, .int .u16 0, .int .u64 0, .int .u64 0, .bool false, .int .i64 0, .int .i64 0, .slice none 0 0] 36) := ⟨_, rfl⟩
  obtain ⟨o, ho⟩ : ∃ o, o = W.heap.size := ⟨_, rfl⟩
  rw [← hw1, ← ho] at HS0
  rw [← hw1] at HRd
  rw [← hw1, ← ho]
  clear hw1 ho
  by_cases hl : 1500 < zs.length
  · have d : decide (1500 < (zs.length : Int)) = true := decide_eq_true (by omega)
    have hXe : paX zs = Fx.none ∧ paE zs = 2 := And.intro (if_pos hl) (if_pos hl)
    have hX : X0 = Fx.none := HXE.out.1.trans hXe.1
    have hE : e = 2 := HXE.out.2.trans hXe.2
    clear hXe
    subst hX hE
    have hz := HS0.out.blk 0 rfl
    have z0 := hz.cell 0 rfl
    have z1 := hz.cell 1 rfl
    have z2 := hz.cell 2 rfl
    have z3 := hz.cell 3 rfl
    have z4 := hz.cell 4 rfl
    have z5 := hz.cell 5 rfl
    have z6 := hz.cell 6 rfl
    have z7 := hz.cell 7 rfl
    have z8 := hz.cell 8 rfl
    have z9 := hz.cell 9 rfl
    have z10 := hz.cell 10 rfl
    have z11 := hz.cell 11 rfl
    have z12 := hz.cell 12 rfl
    have z13 := hz.cell 13 rfl
    have z14 := hz.cell 14 rfl
    have f0 := hz.free 0
    have f1 := hz.free 1
    have f2 := hz.free 2
    have f3 := hz.free 3
    have f4 := hz.free 4
    have f5 := hz.free 5
    have f6 := hz.free 6
    have f7 := hz.free 7
    have f8 := hz.free 8
    have f9 := hz.free 9
    have f10 := hz.free 10
    have f11 := hz.free 11
    have f12 := hz.free 12
    have f13 := hz.free 13
    have f14 := hz.free 14
    go_wp2_with fail
    obtain ⟨w4, hw4⟩ : ∃ w4, w4 = (((((((((((((((w1.setCell ⟨o, 0, none⟩ (.int .u8 0)).setCell ⟨o, 1, none⟩ (.int .u8 0)).setCell ⟨o, 2, none⟩ (.int .u8 0)).setCell ⟨o, 3, none⟩ (.int .u8 0)).setCell ⟨o, 4, none⟩ (.int .u8 0)).setCell ⟨o, 5, none⟩ (.int .u8 0)).setCell ⟨o, 6, none⟩ (.int .u8 0)).setCell ⟨o, 7, none⟩ (.int .u8 0)).setCell ⟨o, 8, none⟩ (.int .u16 0)).setCell ⟨o, 9, none⟩ (.int .u64 0)).setCell ⟨o, 10, none⟩ (.int .u64 0)).setCell ⟨o, 11, none⟩ (.bool false)).setCell ⟨o, 12, none⟩ (.int .i64 0)).setCell ⟨o, 13, none⟩ (.int .i64 0)).setCell ⟨o, 14, none⟩ (.slice none 0 0)) := ⟨_, rfl⟩
    have HS2 := Lib.hid (show Sep [] W w4 [blkR o 36 #[.int .u8 0, .int .u8 0, .int .u8 0, .int .u8 0, .int .u8 0, .int .u8 0, .int .u8 0, .int .u8 0, .int .u16 0, .int .u64 0, .int .u64 0, .bool false, .int .i64 0, .int .i64 0, .slice none 0 0]] from hw4 ▸ HS0.out.puts 0 rfl [.int .u8 0, .int .u8 0, .int .u8 0, .int .u8 0, .int .u8 0, .int .u8 0, .int .u8 0, .int .u8 0, .int .u16 0, .int .u64 0, .int .u64 0, .bool false, .int .i64 0, .int .i64 0, .slice none 0 0] rfl)
    rw [← hw4]
    clear hw4 HS0 hz z0 z1 z2 z3 z4 z5 z6 z7 z8 z9 z10 z11 z12 z13 z14 f0 f1 f2 f3 f4 f5 f6 f7 f8 f9 f10 f11 f12 f13 f14
    have hz := HS2.out.blk 0 rfl
    have z0 := hz.cell 0 rfl
    have z1 := hz.cell 1 rfl
    have z2 := hz.cell 2 rfl
    have z3 := hz.cell 3 rfl
    have z4 := hz.cell 4 rfl
    have z5 := hz.cell 5 rfl
    have z6 := hz.cell 6 rfl
    have z7 := hz.cell 7 rfl
    have z8 := hz.cell 8 rfl
    have z9 := hz.cell 9 rfl
    have z10 := hz.cell 10 rfl
    have z11 := hz.cell 11 rfl
    have z12 := hz.cell 12 rfl
    have z13 := hz.cell 13 rfl
    have z14 := hz.cell 14 rfl
    refine bodyPost_ret (v := .tuple #[.agg #[.int .u8 0, .int .u8 0, .int .u8 0, .int .u8 0, .int .u8 0, .int .u8 0, .int .u8 0, .int .u8 0, .int .u16 0, .int .u64 0, .int .u64 0, .bool false, .int .i64 0, .int .i64 0, .slice none 0 0], .int .i64 2]) ?_ rfl ⟨none, 0, 0, rfl, ((HS2.out.nil _ _).at_ [0] (by decide) rfl)⟩
    simp [results, Tryd.results11, go_sem, z0, z1, z2, z3, z4, z5, z6, z7, z8, z9, z10, z11, z12, z13, z14]
  have d : decide (1500 < (zs.length : Int)) = false := decide_eq_false (by omega)
  have HIn := Lib.hid (And.intro (paX_in hl) (paE_in hl))
  rcases Nat.eq_zero_or_pos zs.length with h0 | h0
  · have d2 : (zs.length : Int) = 0 := by omega
    have HP := Lib.hid (rd_short (zs := zs) (by omega) (by omega))
    have hXe : paX zs = Fx.none ∧ paE zs = 20 := by rw [HIn.out.1, HIn.out.2, HP.out]; exact ⟨rfl, rfl⟩
    have hX : X0 = Fx.none := HXE.out.1.trans hXe.1
    have hE : e = 20 := HXE.out.2.trans hXe.2
    clear hXe
    subst hX hE
    have hz := HS0.out.blk 0 rfl
    have z0 := hz.cell 0 rfl
    have z1 := hz.cell 1 rfl
    have z2 := hz.cell 2 rfl
    have z3 := hz.cell 3 rfl
    have z4 := hz.cell 4 rfl
    have z5 := hz.cell 5 rfl
    have z6 := hz.cell 6 rfl
    have z7 := hz.cell 7 rfl
    have z8 := hz.cell 8 rfl
    have z9 := hz.cell 9 rfl
    have z10 := hz.cell 10 rfl
    have z11 := hz.cell 11 rfl
    have z12 := hz.cell 12 rfl
    have z13 := hz.cell 13 rfl
    have z14 := hz.cell 14 rfl
    have f0 := hz.free 0
    have f1 := hz.free 1
    have f2 := hz.free 2
    have f3 := hz.free 3
    have f4 := hz.free 4
    have f5 := hz.free 5
    have f6 := hz.free 6
    have f7 := hz.free 7
    have f8 := hz.free 8
    have f9 := hz.free 9
    have f10 := hz.free 10
    have f11 := hz.free 11
    have f12 := hz.free 12
    have f13 := hz.free 13
    have f14 := hz.free 14
    go_wp2_with fail
    obtain ⟨w4, hw4⟩ : ∃ w4, w4 = (((((((((((((((w1.setCell ⟨o, 0, none⟩ (.int .u8 0)).setCell ⟨o, 1, none⟩ (.int .u8 0)).setCell ⟨o, 2, none⟩ (.int .u8 0)).setCell ⟨o, 3, none⟩ (.int .u8 0)).setCell ⟨o, 4, none⟩ (.int .u8 0)).setCell ⟨o, 5, none⟩ (.int .u8 0)).setCell ⟨o, 6, none⟩ (.int .u8 0)).setCell ⟨o, 7, none⟩ (.int .u8 0)).setCell ⟨o, 8, none⟩ (.int .u16 0)).setCell ⟨o, 9, none⟩ (.int .u64 0)).setCell ⟨o, 10, none⟩ (.int .u64 0)).setCell ⟨o, 11, none⟩ (.bool false)).setCell ⟨o, 12, none⟩ (.int .i64 0)).setCell ⟨o, 13, none⟩ (.int .i64 0)).setCell ⟨o, 14, none⟩ (.slice none 0 0)) := ⟨_, rfl⟩
    have HS2 := Lib.hid (show Sep [] W w4 [blkR o 36 #[.int .u8 0, .int .u8 0, .int .u8 0, .int .u8 0, .int .u8 0, .int .u8 0, .int .u8 0, .int .u8 0, .int .u16 0, .int .u64 0, .int .u64 0, .bool false, .int .i64 0, .int .i64 0, .slice none 0 0]] from hw4 ▸ HS0.out.puts 0 rfl [.int .u8 0, .int .u8 0, .int .u8 0, .int .u8 0, .int .u8 0, .int .u8 0, .int .u8 0, .int .u8 0, .int .u16 0, .int .u64 0, .int .u64 0, .bool false, .int .i64 0, .int .i64 0, .slice none 0 0] rfl)
    rw [← hw4]
    clear hw4 HS0 hz z0 z1 z2 z3 z4 z5 z6 z7 z8 z9 z10 z11 z12 z13 z14 f0 f1 f2 f3 f4 f5 f6 f7 f8 f9 f10 f11 f12 f13 f14
    have hz := HS2.out.blk 0 rfl
    have z0 := hz.cell 0 rfl
    have z1 := hz.cell 1 rfl
    have z2 := hz.cell 2 rfl
    have z3 := hz.cell 3 rfl
    have z4 := hz.cell 4 rfl
    have z5 := hz.cell 5 rfl
    have z6 := hz.cell 6 rfl
    have z7 := hz.cell 7 rfl
    have z8 := hz.cell 8 rfl
    have z9 := hz.cell 9 rfl
    have z10 := hz.cell 10 rfl
    have z11 := hz.cell 11 rfl
    have z12 := hz.cell 12 rfl
    have z13 := hz.cell 13 rfl
    have z14 := hz.cell 14 rfl
    refine bodyPost_ret (v := .tuple #[.agg #[.int .u8 0, .int .u8 0, .int .u8 0, .int .u8 0, .int .u8 0, .int .u8 0, .int .u8 0, .int .u8 0, .int .u16 0, .int .u64 0, .int .u64 0, .bool false, .int .i64 0, .int .i64 0, .slice none 0 0], .int .i64 20]) ?_ rfl ⟨none, 0, 0, rfl, ((HS2.out.nil _ _).at_ [0] (by decide) rfl)⟩
    simp [results, Tryd.results11, go_sem, z0, z1, z2, z3, z4, z5, z6, z7, z8, z9, z10, z11, z12, z13, z14]
  obtain ⟨b, off, ha⟩ : ∃ b off, a = some ⟨b, off, none⟩ := by
    obtain ⟨b, off, ha, _⟩ := HRd.out 0 _ (List.getElem?_eq_getElem h0)
    exact ⟨b, off, ha⟩
  subst ha
  have HC := Lib.hid (fun (k : Nat) (y : Int) (h : zs[k]? = some y) => rd_cell HRd.out h)
  obtain ⟨y0, c0, l0, u0, z2, g0⟩ := cut_byte HBt.out (p := 0) (by omega)
  have q0 : w1.cell? ⟨b, off, none⟩ = some (.int .u8 y0) := HC.out 0 y0 g0
  have A0 := Lib.hid (at_of g0)
  clear z2 c0 g0
  by_cases hodd : 128 ≤ y0
  · have HP := Lib.hid (rd_odd (zs := zs) (by omega) (by rw [A0.out]; exact hodd))
    have hXe : paX zs = Fx.none ∧ paE zs = 21 := by rw [HIn.out.1, HIn.out.2, HP.out]; exact ⟨rfl, rfl⟩
    have hX : X0 = Fx.none := HXE.out.1.trans hXe.1
    have hE : e = 21 := HXE.out.2.trans hXe.2
    clear hXe
    subst hX hE
    have hz := HS0.out.blk 0 rfl
    have z0 := hz.cell 0 rfl
    have z1 := hz.cell 1 rfl
    have z2 := hz.cell 2 rfl
    have z3 := hz.cell 3 rfl
    have z4 := hz.cell 4 rfl
    have z5 := hz.cell 5 rfl
    have z6 := hz.cell 6 rfl
    have z7 := hz.cell 7 rfl
    have z8 := hz.cell 8 rfl
    have z9 := hz.cell 9 rfl
    have z10 := hz.cell 10 rfl
    have z11 := hz.cell 11 rfl
    have z12 := hz.cell 12 rfl
    have z13 := hz.cell 13 rfl
    have z14 := hz.cell 14 rfl
    have f0 := hz.free 0
    have f1 := hz.free 1
    have f2 := hz.free 2
    have f3 := hz.free 3
    have f4 := hz.free 4
    have f5 := hz.free 5
    have f6 := hz.free 6
    have f7 := hz.free 7
    have f8 := hz.free 8
    have f9 := hz.free 9
    have f10 := hz.free 10
    have f11 := hz.free 11
    have f12 := hz.free 12
    have f13 := hz.free 13
    have f14 := hz.free 14
    go_wp2_with fail
    obtain ⟨w4, hw4⟩ : ∃ w4, w4 = (((((((((((((((w1.setCell ⟨o, 0, none⟩ (.int .u8 0)).setCell ⟨o, 1, none⟩ (.int .u8 0)).setCell ⟨o, 2, none⟩ (.int .u8 0)).setCell ⟨o, 3, none⟩ (.int .u8 0)).setCell ⟨o, 4, none⟩ (.int .u8 0)).setCell ⟨o, 5, none⟩ (.int .u8 0)).setCell ⟨o, 6, none⟩ (.int .u8 0)).setCell ⟨o, 7, none⟩ (.int .u8 0)).setCell ⟨o, 8, none⟩ (.int .u16 0)).setCell ⟨o, 9, none⟩ (.int .u64 0)).setCell ⟨o, 10, none⟩ (.int .u64 0)).setCell ⟨o, 11, none⟩ (.bool false)).setCell ⟨o, 12, none⟩ (.int .i64 0)).setCell ⟨o, 13, none⟩ (.int .i64 0)).setCell ⟨o, 14, none⟩ (.slice none 0 0)) := ⟨_, rfl⟩
    have HS2 := Lib.hid (show Sep [] W w4 [blkR o 36 #[.int .u8 0, .int .u8 0, .int .u8 0, .int .u8 0, .int .u8 0, .int .u8 0, .int .u8 0, .int .u8 0, .int .u16 0, .int .u64 0, .int .u64 0, .bool false, .int .i64 0, .int .i64 0, .slice none 0 0]] from hw4 ▸ HS0.out.puts 0 rfl [.int .u8 0, .int .u8 0, .int .u8 0, .int .u8 0, .int .u8 0, .int .u8 0, .int .u8 0, .int .u8 0, .int .u16 0, .int .u64 0, .int .u64 0, .bool false, .int .i64 0, .int .i64 0, .slice none 0 0] rfl)
    rw [← hw4]
    clear hw4 HS0 hz z0 z1 z2 z3 z4 z5 z6 z7 z8 z9 z10 z11 z12 z13 z14 f0 f1 f2 f3 f4 f5 f6 f7 f8 f9 f10 f11 f12 f13 f14
    have hz := HS2.out.blk 0 rfl
    have z0 := hz.cell 0 rfl
    have z1 := hz.cell 1 rfl
    have z2 := hz.cell 2 rfl
    have z3 := hz.cell 3 rfl
    have z4 := hz.cell 4 rfl
    have z5 := hz.cell 5 rfl
    have z6 := hz.cell 6 rfl
    have z7 := hz.cell 7 rfl
    have z8 := hz.cell 8 rfl
    have z9 := hz.cell 9 rfl
    have z10 := hz.cell 10 rfl
    have z11 := hz.cell 11 rfl
    have z12 := hz.cell 12 rfl
    have z13 := hz.cell 13 rfl
    have z14 := hz.cell 14 rfl
    refine bodyPost_ret (v := .tuple #[.agg #[.int .u8 0, .int .u8 0, .int .u8 0, .int .u8 0, .int .u8 0, .int .u8 0, .int .u8 0, .int .u8 0, .int .u16 0, .int .u64 0, .int .u64 0, .bool false, .int .i64 0, .int .i64 0, .slice none 0 0], .int .i64 21]) ?_ rfl ⟨none, 0, 0, rfl, ((HS2.out.nil _ _).at_ [0] (by decide) rfl)⟩
    simp [results, Tryd.results11, go_sem, z0, z1, z2, z3, z4, z5, z6, z7, z8, z9, z10, z11, z12, z13, z14]
  by_cases hs : zs.length < 12
  · have HP := Lib.hid (rd_short (zs := zs) (by have := A0.out; omega) (by omega))
    have hXe : paX zs = Fx.none ∧ paE zs = 20 := by rw [HIn.out.1, HIn.out.2, HP.out]; exact ⟨rfl, rfl⟩
    have hX : X0 = Fx.none := HXE.out.1.trans hXe.1
    have hE : e = 20 := HXE.out.2.trans hXe.2
    clear hXe
    subst hX hE
    have hz := HS0.out.blk 0 rfl
    have z0 := hz.cell 0 rfl
    have z1 := hz.cell 1 rfl
    have z2 := hz.cell 2 rfl
    have z3 := hz.cell 3 rfl
    have z4 := hz.cell 4 rfl
    have z5 := hz.cell 5 rfl
    have z6 := hz.cell 6 rfl
    have z7 := hz.cell 7 rfl
    have z8 := hz.cell 8 rfl
    have z9 := hz.cell 9 rfl
    have z10 := hz.cell 10 rfl
    have z11 := hz.cell 11 rfl
    have z12 := hz.cell 12 rfl
    have z13 := hz.cell 13 rfl
    have z14 := hz.cell 14 rfl
    have f0 := hz.free 0
    have f1 := hz.free 1
    have f2 := hz.free 2
    have f3 := hz.free 3
    have f4 := hz.free 4
    have f5 := hz.free 5
    have f6 := hz.free 6
    have f7 := hz.free 7
    have f8 := hz.free 8
    have f9 := hz.free 9
    have f10 := hz.free 10
    have f11 := hz.free 11
    have f12 := hz.free 12
    have f13 := hz.free 13
    have f14 := hz.free 14
    go_wp2_with fail
    obtain ⟨w4, hw4⟩ : ∃ w4, w4 = (((((((((((((((w1.setCell ⟨o, 0, none⟩ (.int .u8 0)).setCell ⟨o, 1, none⟩ (.int .u8 0)).setCell ⟨o, 2, none⟩ (.int .u8 0)).setCell ⟨o, 3, none⟩ (.int .u8 0)).setCell ⟨o, 4, none⟩ (.int .u8 0)).setCell ⟨o, 5, none⟩ (.int .u8 0)).setCell ⟨o, 6, none⟩ (.int .u8 0)).setCell ⟨o, 7, none⟩ (.int .u8 0)).setCell ⟨o, 8, none⟩ (.int .u16 0)).setCell ⟨o, 9, none⟩ (.int .u64 0)).setCell ⟨o, 10, none⟩ (.int .u64 0)).setCell ⟨o, 11, none⟩ (.bool false)).setCell ⟨o, 12, none⟩ (.int .i64 0)).setCell ⟨o, 13, none⟩ (.int .i64 0)).setCell ⟨o, 14, none⟩ (.slice none 0 0)) := ⟨_, rfl⟩
    have HS2 := Lib.hid (show Sep [] W w4 [blkR o 36 #[.int .u8 0, .int .u8 0, .int .u8 0, .int .u8 0, .int .u8 0, .int .u8 0, .int .u8 0, .int .u8 0, .int .u16 0, .int .u64 0, .int .u64 0, .bool false, .int .i64 0, .int .i64 0, .slice none 0 0]] from hw4 ▸ HS0.out.puts 0 rfl [.int .u8 0, .int .u8 0, .int .u8 0, .int .u8 0, .int .u8 0, .int .u8 0, .int .u8 0, .int .u8 0, .int .u16 0, .int .u64 0, .int .u64 0, .bool false, .int .i64 0, .int .i64 0, .slice none 0 0] rfl)
    rw [← hw4]
    clear hw4 HS0 hz z0 z1 z2 z3 z4 z5 z6 z7 z8 z9 z10 z11 z12 z13 z14 f0 f1 f2 f3 f4 f5 f6 f7 f8 f9 f10 f11 f12 f13 f14
    have hz := HS2.out.blk 0 rfl
    have z0 := hz.cell 0 rfl
    have z1 := hz.cell 1 rfl
    have z2 := hz.cell 2 rfl
    have z3 := hz.cell 3 rfl
    have z4 := hz.cell 4 rfl
    have z5 := hz.cell 5 rfl
    have z6 := hz.cell 6 rfl
    have z7 := hz.cell 7 rfl
    have z8 := hz.cell 8 rfl
    have z9 := hz.cell 9 rfl
    have z10 := hz.cell 10 rfl
    have z11 := hz.cell 11 rfl
    have z12 := hz.cell 12 rfl
    have z13 := hz.cell 13 rfl
    have z14 := hz.cell 14 rfl
    refine bodyPost_ret (v := .tuple #[.agg #[.int .u8 0, .int .u8 0, .int .u8 0, .int .u8 0, .int .u8 0, .int .u8 0, .int .u8 0, .int .u8 0, .int .u16 0, .int .u64 0, .int .u64 0, .bool false, .int .i64 0, .int .i64 0, .slice none 0 0], .int .i64 20]) ?_ rfl ⟨none, 0, 0, rfl, ((HS2.out.nil _ _).at_ [0] (by decide) rfl)⟩
    simp [results, Tryd.results11, go_sem, z0, z1, z2, z3, z4, z5, z6, z7, z8, z9, z10, z11, z12, z13, z14]
  exact absurd hbad (by rw [A0.out]; omega)
set_option maxRecDepth 100000 in
set_option maxHeartbeats 16000000 in
theorem rParse_f {W : World} {a : Option Addr} {c : Nat} {zs : List Int} (hr : RdI .u8 W a zs) (hb : Byt zs) (hc : zs.length ≤ c) (hcm : c ≤ 9223372036854775807) (hn : a = none → c = 0) (hl : ¬ 1500 < zs.length) (hs : ¬ zs.length < 12) (hodd : at_ zs 0 < 128) (hf : 64 ≤ at_ zs 0) :
    Calls Tryd.prog 11 #[.slice a zs.length c] W (ParseP W (paX zs) (paE zs)) := by
  have HS0 := Lib.hid ((Sep.init W).alloc #[.int .u8 0, .int .u8 0, .int .u8 0, .int .u8 0, .int .u8 0, .int .u8 0, .int .u8 0, .int .u8 0, .int .u16 0, .int .u64 0, .int .u64 0, .bool false, .int .i64 0, .int .i64 0, .slice none 0 0] 36)
  obtain ⟨X0, hX⟩ : ∃ X0, X0 = paX zs := ⟨_, rfl⟩
  obtain ⟨e, hE⟩ : ∃ e, e = paE zs := ⟨_, rfl⟩
  have HXE := Lib.hid (And.intro hX hE)
  have HRd := Lib.hid (hr.alloc (.cells #[.int .u8 0, .int .u8 0, .int .u8 0, .int .u8 0, .int .u8 0, .int .u8 0, .int .u8 0, .int .u8 0, .int .u16 0, .int .u64 0, .int .u64 0, .bool false, .int .i64 0, .int .i64 0, .slice none 0 0] 36))
  have HR0 := Lib.hid hr
  have HBt := Lib.hid hb
  rw [← hX, ← hE]
  clear hX hE hr hb
  go_enter Tryd.func11, Tryd.ntmps11
  go_upto_region 1 with fail
  obtain ⟨w1, hw1⟩ : ∃ w1, w1 = W.alloc (.cells #[.int .u8 0, .int .u8 0, .int .u8 0, .int .u8 0, .int .u8 0, .int .u8 0, .int .u8 0, .int .u8 0, .int .u16 0, .int .u64 0, .int .u64 0, .bool false, .int .i64 0, .int .i64 0, .slice none 0 0] 36) := ⟨_, rfl⟩
  obtain ⟨o, ho⟩ : ∃ o, o = W.heap.size := ⟨_, rfl⟩
  rw [← hw1, ← ho] at HS0
  rw [← hw1] at HRd
  rw [← hw1, ← ho]
  clear hw1 ho
  have d : decide (1500 < (zs.length : Int)) = false := decide_eq_false (by omega)
  have HIn := Lib.hid (And.intro (paX_in hl) (paE_in hl))
  have h0 : 0 < zs.length := by omega
  obtain ⟨b, off, ha⟩ : ∃ b off, a = some ⟨b, off, none⟩ := by
    obtain ⟨b, off, ha, _⟩ := HRd.out 0 _ (List.getElem?_eq_getElem h0)
    exact ⟨b, off, ha⟩
  subst ha
  have HC := Lib.hid (fun (k : Nat) (y : Int) (h : zs[k]? = some y) => rd_cell HRd.out h)
  obtain ⟨y0, c0, l0, u0, z2, g0⟩ := cut_byte HBt.out (p := 0) (by omega)
  have q0 : w1.cell? ⟨b, off, none⟩ = some (.int .u8 y0) := HC.out 0 y0 g0
  have A0 := Lib.hid (at_of g0)
  clear z2 c0 g0
  rw [A0.out] at hodd hf
  have hodd : ¬ 128 ≤ y0 := by omega
  have HHf := Lib.hid hf
  clear hf
  go_upto_region 7 with fail
  clear q0
  obtain ⟨y1, c1, l1, u1, z2, g1⟩ := cut_byte HBt.out (p := 1) (by omega)
  have A1 := Lib.hid (at_of g1)
  have G1 := Lib.hid g1
  clear z2 c1 g1
  obtain ⟨y4, c4, l4, u4, z2, g4⟩ := cut_byte HBt.out (p := 4) (by omega)
  have A4 := Lib.hid (at_of g4)
  have G4 := Lib.hid g4
  clear z2 c4 g4
  obtain ⟨y5, c5, l5, u5, z2, g5⟩ := cut_byte HBt.out (p := 5) (by omega)
  have A5 := Lib.hid (at_of g5)
  have G5 := Lib.hid g5
  clear z2 c5 g5
  obtain ⟨y6, c6, l6, u6, z2, g6⟩ := cut_byte HBt.out (p := 6) (by omega)
  have A6 := Lib.hid (at_of g6)
  have G6 := Lib.hid g6
  clear z2 c6 g6
  obtain ⟨y7, c7, l7, u7, z2, g7⟩ := cut_byte HBt.out (p := 7) (by omega)
  have A7 := Lib.hid (at_of g7)
  have G7 := Lib.hid g7
  clear z2 c7 g7
  obtain ⟨y2, c2, l2, u2, z2, g2⟩ := cut_byte HBt.out (p := 2) (by omega)
  have A2 := Lib.hid (at_of g2)
  have G2 := Lib.hid g2
  clear z2 c2 g2
  obtain ⟨y3, c3, l3, u3, z2, g3⟩ := cut_byte HBt.out (p := 3) (by omega)
  have A3 := Lib.hid (at_of g3)
  have G3 := Lib.hid g3
  clear z2 c3 g3
  have G0 := Lib.hid (show zs[0]? = some y0 by
    rw [List.getElem?_eq_getElem h0]
    have := A0.out
    unfold at_ at this
    rw [List.getD_eq_getElem?_getD, List.getElem?_eq_getElem h0] at this
    exact congrArg some this)
  obtain ⟨B, hB⟩ : ∃ B, B = bigN (cut zs 8 2) := ⟨_, rfl⟩
  have hBr : 0 ≤ B ∧ B ≤ 65535 := by
    rw [hB]; exact big_cut2 HBt.out 8 (by omega)
  have HNu := Lib.hid (fun (X : World) (hf : Frm [] W X) => hB ▸ rnumber_c (some ⟨b, off + 8, none⟩) (c - 8) 2 (cut zs 8 2) (cut_len (by omega)) X (((HR0.out.frm hf (by simp)).offs 8).firsts 2) (HBt.out.cut _ _) (by omega))
  have HC0 := Lib.hid (fun (X : World) (hf : Frm [] W X) (k : Nat) (y : Int) (h : zs[k]? = some y) => rd_cell (HR0.out.frm hf (by simp)) h)
  have HBB := Lib.hid hB
  obtain ⟨F, hF0⟩ : ∃ F, F = decide (64 ≤ y0) := ⟨_, rfl⟩
  have HF := Lib.hid hF0
  have hw16 : IntKind.u16.wrap B = B := by
    simp [IntKind.wrap, IntKind.bits, IntKind.signed]; omega
  clear hB HC HRd
  refine region_sep_free 35 (ty := 36) (z := #[.int .u8 0, .int .u8 0, .int .u8 0, .int .u8 0, .int .u8 0, .int .u8 0, .int .u8 0, .int .u8 0, .int .u16 0, .int .u64 0, .int .u64 0, .bool false, .int .i64 0, .int .i64 0, .slice none 0 0]) HS0.out (by kernel_rfl) (by kernel_rfl) (by kernel_rfl) rfl (fun _ _ => by kernel_rfl) ?_
  simp only [List.take_succ_cons, List.take_zero, List.drop_succ_cons, List.drop_zero]
  apply Exists.intro
  refine ⟨fun M n1 => ?_, ?_⟩
  · have q0 := fun x : Cls (fun v => Sep [] W v (M ++ [blkR o 36 #[.int .u8 0, .int .u8 0, .int .u8 0, .int .u8 0, .int .u8 0, .int .u8 0, .int .u8 0, .int .u8 0, .int .u16 0, .int .u64 0, .int .u64 0, .bool false, .int .i64 0, .int .i64 0, .slice none 0 0]])) => (show x.world.cell? ⟨b, off, none⟩ = some (.int .u8 y0) from HC0.out x.world x.ok.frm 0 y0 G0.out)
    have q1 := fun x : Cls (fun v => Sep [] W v (M ++ [blkR o 36 #[.int .u8 0, .int .u8 0, .int .u8 0, .int .u8 0, .int .u8 0, .int .u8 0, .int .u8 0, .int .u8 0, .int .u16 0, .int .u64 0, .int .u64 0, .bool false, .int .i64 0, .int .i64 0, .slice none 0 0]])) => HC0.out x.world x.ok.frm 1 y1 G1.out
    have q4 := fun x : Cls (fun v => Sep [] W v (M ++ [blkR o 36 #[.int .u8 0, .int .u8 0, .int .u8 0, .int .u8 0, .int .u8 0, .int .u8 0, .int .u8 0, .int .u8 0, .int .u16 0, .int .u64 0, .int .u64 0, .bool false, .int .i64 0, .int .i64 0, .slice none 0 0]])) => HC0.out x.world x.ok.frm 4 y4 G4.out
    have q5 := fun x : Cls (fun v => Sep [] W v (M ++ [blkR o 36 #[.int .u8 0, .int .u8 0, .int .u8 0, .int .u8 0, .int .u8 0, .int .u8 0, .int .u8 0, .int .u8 0, .int .u16 0, .int .u64 0, .int .u64 0, .bool false, .int .i64 0, .int .i64 0, .slice none 0 0]])) => HC0.out x.world x.ok.frm 5 y5 G5.out
    have q6 := fun x : Cls (fun v => Sep [] W v (M ++ [blkR o 36 #[.int .u8 0, .int .u8 0, .int .u8 0, .int .u8 0, .int .u8 0, .int .u8 0, .int .u8 0, .int .u8 0, .int .u16 0, .int .u64 0, .int .u64 0, .bool false, .int .i64 0, .int .i64 0, .slice none 0 0]])) => HC0.out x.world x.ok.frm 6 y6 G6.out
    have q7 := fun x : Cls (fun v => Sep [] W v (M ++ [blkR o 36 #[.int .u8 0, .int .u8 0, .int .u8 0, .int .u8 0, .int .u8 0, .int .u8 0, .int .u8 0, .int .u8 0, .int .u16 0, .int .u64 0, .int .u64 0, .bool false, .int .i64 0, .int .i64 0, .slice none 0 0]])) => HC0.out x.world x.ok.frm 7 y7 G7.out
    have q2 := fun x : Cls (fun v => Sep [] W v (M ++ [blkR o 36 #[.int .u8 0, .int .u8 0, .int .u8 0, .int .u8 0, .int .u8 0, .int .u8 0, .int .u8 0, .int .u8 0, .int .u16 0, .int .u64 0, .int .u64 0, .bool false, .int .i64 0, .int .i64 0, .slice none 0 0]])) => HC0.out x.world x.ok.frm 2 y2 G2.out
    have q3 := fun x : Cls (fun v => Sep [] W v (M ++ [blkR o 36 #[.int .u8 0, .int .u8 0, .int .u8 0, .int .u8 0, .int .u8 0, .int .u8 0, .int .u8 0, .int .u8 0, .int .u16 0, .int .u64 0, .int .u64 0, .bool false, .int .i64 0, .int .i64 0, .slice none 0 0]])) => HC0.out x.world x.ok.frm 3 y3 G3.out
    repeat (go_big_quiet_step (fail))
    go_big_quiet_step ((rename_i x; exact call_same x.ok (HNu.out _ x.ok.frm)))
    repeat (go_big_quiet_step (fail))
    refine wpQuiet_nil ?_
    rfl
  · intro p w2 hS2
    have HS2 := Lib.hid (show Sep [] W w2 [blkR p 36 #[.int .u8 0, .int .u8 0, .int .u8 0, .int .u8 0, .int .u8 0, .int .u8 0, .int .u8 0, .int .u8 0, .int .u16 0, .int .u64 0, .int .u64 0, .bool false, .int .i64 0, .int .i64 0, .slice none 0 0], blkR o 36 #[.int .u8 0, .int .u8 0, .int .u8 0, .int .u8 0, .int .u8 0, .int .u8 0, .int .u8 0, .int .u8 0, .int .u16 0, .int .u64 0, .int .u64 0, .bool false, .int .i64 0, .int .i64 0, .slice none 0 0]] from hS2)
    have hz := hS2.blk 0 rfl
    have z0 := hz.cell 0 rfl
    have z1 := hz.cell 1 rfl
    have z2 := hz.cell 2 rfl
    have z3 := hz.cell 3 rfl
    have z4 := hz.cell 4 rfl
    have z5 := hz.cell 5 rfl
    have z6 := hz.cell 6 rfl
    have z7 := hz.cell 7 rfl
    have z8 := hz.cell 8 rfl
    have z9 := hz.cell 9 rfl
    have z10 := hz.cell 10 rfl
    have z11 := hz.cell 11 rfl
    have z12 := hz.cell 12 rfl
    have z13 := hz.cell 13 rfl
    have z14 := hz.cell 14 rfl
    have f0 := hz.free 0
    have f1 := hz.free 1
    have f2 := hz.free 2
    have f3 := hz.free 3
    have f4 := hz.free 4
    have f5 := hz.free 5
    have f6 := hz.free 6
    have f7 := hz.free 7
    have f8 := hz.free 8
    have f9 := hz.free 9
    have f10 := hz.free 10
    have f11 := hz.free 11
    have f12 := hz.free 12
    have f13 := hz.free 13
    have f14 := hz.free 14
    clear hS2 hz HS0
    go_upto_region 8 with fail
    obtain ⟨w3, hw3⟩ : ∃ w3, w3 = (((((((((((((((w2.setCell ⟨p, 0, none⟩ (.int .u8 (y0 % 64))).setCell ⟨p, 1, none⟩ (.int .u8 y1)).setCell ⟨p, 2, none⟩ (.int .u8 y4)).setCell ⟨p, 3, none⟩ (.int .u8 y5)).setCell ⟨p, 4, none⟩ (.int .u8 y6)).setCell ⟨p, 5, none⟩ (.int .u8 y7)).setCell ⟨p, 6, none⟩ (.int .u8 y2)).setCell ⟨p, 7, none⟩ (.int .u8 y3)).setCell ⟨p, 8, none⟩ (.int .u16 B)).setCell ⟨p, 9, none⟩ (.int .u64 0)).setCell ⟨p, 10, none⟩ (.int .u64 0)).setCell ⟨p, 11, none⟩ (.bool (decide (64 ≤ y0)))).setCell ⟨p, 12, none⟩ (.int .i64 0)).setCell ⟨p, 13, none⟩ (.int .i64 0)).setCell ⟨p, 14, none⟩ (.slice none 0 0)) := ⟨_, rfl⟩
    have HS3 := Lib.hid (show Sep [] W w3 [blkR p 36 #[.int .u8 (y0 % 64), .int .u8 y1, .int .u8 y4, .int .u8 y5, .int .u8 y6, .int .u8 y7, .int .u8 y2, .int .u8 y3, .int .u16 B, .int .u64 0, .int .u64 0, .bool (decide (64 ≤ y0)), .int .i64 0, .int .i64 0, .slice none 0 0], blkR o 36 #[.int .u8 0, .int .u8 0, .int .u8 0, .int .u8 0, .int .u8 0, .int .u8 0, .int .u8 0, .int .u8 0, .int .u16 0, .int .u64 0, .int .u64 0, .bool false, .int .i64 0, .int .i64 0, .slice none 0 0]] from hw3 ▸ HS2.out.puts 0 rfl [.int .u8 (y0 % 64), .int .u8 y1, .int .u8 y4, .int .u8 y5, .int .u8 y6, .int .u8 y7, .int .u8 y2, .int .u8 y3, .int .u16 B, .int .u64 0, .int .u64 0, .bool (decide (64 ≤ y0)), .int .i64 0, .int .i64 0, .slice none 0 0] rfl)
    rw [← hw3]
    clear hw3 HS2 z0 z1 z2 z3 z4 z5 z6 z7 z8 z9 z10 z11 z12 z13 z14 f0 f1 f2 f3 f4 f5 f6 f7 f8 f9 f10 f11 f12 f13 f14 hw16 HNu
    have k11 := (HS3.out.blk 0 rfl).cell 11 rfl
    have hf := HHf.out
    have df : decide (64 ≤ y0) = true := decide_eq_true hf
    rw [df] at HS3
    simp only [df] at k11 ⊢
    go_upto_region 9 with fail
    clear k11
    obtain ⟨y10, c10, l10, u10, z2, g10⟩ := cut_byte HBt.out (p := 10) (by omega)
    obtain ⟨y11, c11, l11, u11, z3, g11⟩ := cut_byte HBt.out (p := 11) (by omega)
    have A10 := Lib.hid (at_of g10)
    have A11 := Lib.hid (at_of g11)
    have G10 := Lib.hid g10
    have G11 := Lib.hid g11
    have hp0 := Lib.hid (show W.heap.size ≤ p from (HS3.out.mine _ (List.mem_cons_self ..) p (by simp [blkR])).resolve_left (by simp))
    clear z2 z3 c10 c11 g10 g11
    obtain ⟨q, hq1, hq2⟩ := sl_from (some ⟨b, off, none⟩) zs.length c 12 12 rfl (by omega) hc hcm
    have HQ2 := Lib.hid (fun (X : World) (hf : Frm [] W X) => hq2 X zs rfl (HR0.out.frm hf (by simp)))
    have hcp := fun (X : World) (h : RdI .u8 X q (zs.drop 12)) => bcopy_c q (c - 12) (zs.drop 12) X h (by rw [List.length_drop]; omega)
    simp only [List.length_drop] at hcp
    have HCp := Lib.hid hcp
    clear hcp hq2
    refine region_pm [p] [0, 1, 2, 3, 4, 5, 6, 7, 8, 9, 11] [10] [Pr.sep w3.drew (fun v => [sumR v (zs.drop 12)])] [0, 1, 1] [12, 13, 14, 15, 16] (by kernel_rfl) (by kernel_rfl) (by kernel_rfl) rfl ?_
    simp only [remOf, mvs, List.zip_cons_cons, List.zip_nil_right, List.filterMap_cons, List.filterMap_nil, List.getElem?_cons_zero, List.getElem?_cons_succ, Option.map_some]
    have HS4 := Lib.hid HS3.out.drew
    obtain ⟨w4, hw4⟩ : ∃ w4, w4 = w3.drew := ⟨_, rfl⟩
    rw [← hw4] at HS4
    rw [← hw4]
    clear hw4 HS3
    have HX := Lib.hid (fun (X : World) (hf : Frm [p] w4 X) => HS4.out.frm.after hf (fun g hg => .inr (by have := hp0.out; simp at hg; omega)))
    have n1 : Nonempty (Cls (fun v => Frm [p] w4 v)) := ⟨⟨_, Frm.refl _ _⟩⟩
    have q10 := fun x : Cls (fun v => Frm [p] w4 v) => HC0.out x.world (HX.out _ x.ok) 10 y10 G10.out
    have q11 := fun x : Cls (fun v => Frm [p] w4 v) => HC0.out x.world (HX.out _ x.ok) 11 y11 G11.out
    show wpQuiet _ _ _ _ [_, _, _, _, _, _, _, _, _, _, _] _
    repeat (go_big_quiet_step (rfl))
    refine wpQuiet_nil ?_
    refine And.intro ?_ ?_
    · show slotsB _ _ = true
      kernel_rfl
    clear q10 q11 n1
    unfold wpMk
    refine ⟨fun X hX hk => ?_, fun v79 => ?_⟩
    · clear hk
      have HRq := Lib.hid (HQ2.out X (HS4.out.frm.trans hX))
      refine only_step (fun K' hK => ?_)
      clear hq1
      go_wp2_with fail
      refine (HCp.out X HRq.out).mono ?_
      rintro e w5 ⟨gc, cc, rfl, hS⟩
      go_wp2_with fail
      refine hK.out _ _ ⟨hS.frm, rfl, ?_⟩
      exact ((Sep.init w4).keep hX).more hS
    unfold wpMk
    simp only [Act.put, List.setIfInBounds_toArray, List.set_cons_succ, List.set_cons_zero]
    intro X hX hk
    have HS5 := Lib.hid (show Sep [] W X [sumR v79 (zs.drop 12), blkR p 36 #[.int .u8 (y0 % 64), .int .u8 y1, .int .u8 y4, .int .u8 y5, .int .u8 y6, .int .u8 y7, .int .u8 y2, .int .u8 y3, .int .u16 B, .int .u64 0, .int .u64 0, .bool true, .int .i64 0, .int .i64 0, .slice none 0 0], blkR o 36 #[.int .u8 0, .int .u8 0, .int .u8 0, .int .u8 0, .int .u8 0, .int .u8 0, .int .u8 0, .int .u8 0, .int .u16 0, .int .u64 0, .int .u64 0, .bool false, .int .i64 0, .int .i64 0, .slice none 0 0]] from HS4.out.more (hk 0 _ _ rfl))
    obtain ⟨g14, n14, c14, hv⟩ : ∃ g n c, v79 = .slice g n c := by
      obtain ⟨a, c, hv, _⟩ := own_shape (HS5.out.own 0 rfl)
      exact ⟨a, _, c, hv⟩
    subst hv
    clear hk hX HS4 hq1
    unfold wpSegs
    simp only [List.take_succ_cons, List.take_zero, List.drop_succ_cons, List.drop_zero]
    refine wpQuiet_nil ?_
    refine only_step (fun K' hK => ?_)
    have zz := (HS5.out.blk 1 rfl).cell 12 rfl
    have ff := (HS5.out.blk 1 rfl).free 12
    go_wp2_with fail
    obtain ⟨x6, hw⟩ : ∃ x, x = X.setCell ⟨p, 12, none⟩ (.int .i64 y10) := ⟨_, rfl⟩
    have HS6 := Lib.hid (show Sep [] W x6 [sumR (.slice g14 n14 c14) (zs.drop 12), blkR p 36 #[.int .u8 (y0 % 64), .int .u8 y1, .int .u8 y4, .int .u8 y5, .int .u8 y6, .int .u8 y7, .int .u8 y2, .int .u8 y3, .int .u16 B, .int .u64 0, .int .u64 0, .bool true, .int .i64 y10, .int .i64 0, .slice none 0 0], blkR o 36 #[.int .u8 0, .int .u8 0, .int .u8 0, .int .u8 0, .int .u8 0, .int .u8 0, .int .u8 0, .int .u8 0, .int .u16 0, .int .u64 0, .int .u64 0, .bool false, .int .i64 0, .int .i64 0, .slice none 0 0]] from hw ▸ HS5.out.put 1 rfl 12 (.int .i64 y10))
    have hfr : Frm [p] X x6 := hw ▸ (Frm.refl _ _).put (.inl (by simp)) 12 none _
    rw [← hw]
    refine hK.out _ _ ⟨hfr, ?_⟩
    clear hw hK HS5 zz ff hfr
    unfold wpSegs
    simp only [List.take_succ_cons, List.take_zero, List.drop_succ_cons, List.drop_zero]
    have n1 : Nonempty (Cls (fun v => Frm [p] x6 v)) := ⟨⟨_, Frm.refl _ _⟩⟩
    show wpQuiet _ _ _ _ [_] _
    go_big_quiet_step (rfl)
    refine wpQuiet_nil ?_
    refine only_step (fun K' hK => ?_)
    clear n1
    have zz := (HS6.out.blk 1 rfl).cell 13 rfl
    have ff := (HS6.out.blk 1 rfl).free 13
    go_wp2_with fail
    obtain ⟨x7, hw⟩ : ∃ x, x = x6.setCell ⟨p, 13, none⟩ (.int .i64 y11) := ⟨_, rfl⟩
    have HS7 := Lib.hid (show Sep [] W x7 [sumR (.slice g14 n14 c14) (zs.drop 12), blkR p 36 #[.int .u8 (y0 % 64), .int .u8 y1, .int .u8 y4, .int .u8 y5, .int .u8 y6, .int .u8 y7, .int .u8 y2, .int .u8 y3, .int .u16 B, .int .u64 0, .int .u64 0, .bool true, .int .i64 y10, .int .i64 y11, .slice none 0 0], blkR o 36 #[.int .u8 0, .int .u8 0, .int .u8 0, .int .u8 0, .int .u8 0, .int .u8 0, .int .u8 0, .int .u8 0, .int .u16 0, .int .u64 0, .int .u64 0, .bool false, .int .i64 0, .int .i64 0, .slice none 0 0]] from hw ▸ HS6.out.put 1 rfl 13 (.int .i64 y11))
    have hfr : Frm [p] x6 x7 := hw ▸ (Frm.refl _ _).put (.inl (by simp)) 13 none _
    rw [← hw]
    refine hK.out _ _ ⟨hfr, ?_⟩
    clear hw hK HS6 zz ff hfr
    unfold wpSegs
    simp only [List.take_succ_cons, List.take_zero, List.drop_succ_cons, List.drop_zero]
    have n1 : Nonempty (Cls (fun v => Frm [p] x7 v)) := ⟨⟨_, Frm.refl _ _⟩⟩
    show wpQuiet _ _ _ _ [_] _
    go_big_quiet_step (rfl)
    refine wpQuiet_nil ?_
    refine only_step (fun K' hK => ?_)
    clear n1
    have zz := (HS7.out.blk 1 rfl).cell 14 rfl
    have ff := (HS7.out.blk 1 rfl).free 14
    go_wp2_with fail
    obtain ⟨x8, hw⟩ : ∃ x, x = x7.setCell ⟨p, 14, none⟩ (.slice g14 n14 c14) := ⟨_, rfl⟩
    have HS8 := Lib.hid (show Sep [] W x8 [sumR (.slice g14 n14 c14) (zs.drop 12), blkR p 36 #[.int .u8 (y0 % 64), .int .u8 y1, .int .u8 y4, .int .u8 y5, .int .u8 y6, .int .u8 y7, .int .u8 y2, .int .u8 y3, .int .u16 B, .int .u64 0, .int .u64 0, .bool true, .int .i64 y10, .int .i64 y11, .slice g14 n14 c14], blkR o 36 #[.int .u8 0, .int .u8 0, .int .u8 0, .int .u8 0, .int .u8 0, .int .u8 0, .int .u8 0, .int .u8 0, .int .u16 0, .int .u64 0, .int .u64 0, .bool false, .int .i64 0, .int .i64 0, .slice none 0 0]] from hw ▸ HS7.out.put 1 rfl 14 (.slice g14 n14 c14))
    have hfr : Frm [p] x7 x8 := hw ▸ (Frm.refl _ _).put (.inl (by simp)) 14 none _
    rw [← hw]
    refine hK.out _ _ ⟨hfr, ?_⟩
    clear hw hK HS7 zz ff hfr
    unfold wpSegs
    refine wpQuiet_nil ?_
    refine NoPanic.normal ?_
    have zL := (HS8.out.blk 1 rfl).cell 12 rfl
    by_cases h10 : y10 = 0
    · have d3 : (y10 == 0) = true := by simp [h10]
      have HP := Lib.hid (rd_fix0 (zs := zs) (by have := A0.out; omega) (by omega) (by rw [A0.out]; exact hf) (by rw [A10.out]; exact h10))
      have hXe : paX zs = Fx.none ∧ paE zs = 30 := by rw [HIn.out.1, HIn.out.2, HP.out]; exact ⟨rfl, rfl⟩
      have hX : X0 = Fx.none := HXE.out.1.trans hXe.1
      have hE : e = 30 := HXE.out.2.trans hXe.2
      clear hXe
      subst hX hE
      have hz := HS8.out.blk 2 rfl
      have z0 := hz.cell 0 rfl
      have z1 := hz.cell 1 rfl
      have z2 := hz.cell 2 rfl
      have z3 := hz.cell 3 rfl
      have z4 := hz.cell 4 rfl
      have z5 := hz.cell 5 rfl
      have z6 := hz.cell 6 rfl
      have z7 := hz.cell 7 rfl
      have z8 := hz.cell 8 rfl
      have z9 := hz.cell 9 rfl
      have z10 := hz.cell 10 rfl
      have z11 := hz.cell 11 rfl
      have z12 := hz.cell 12 rfl
      have z13 := hz.cell 13 rfl
      have z14 := hz.cell 14 rfl
      have f0 := hz.free 0
      have f1 := hz.free 1
      have f2 := hz.free 2
      have f3 := hz.free 3
      have f4 := hz.free 4
      have f5 := hz.free 5
      have f6 := hz.free 6
      have f7 := hz.free 7
      have f8 := hz.free 8
      have f9 := hz.free 9
      have f10 := hz.free 10
      have f11 := hz.free 11
      have f12 := hz.free 12
      have f13 := hz.free 13
      have f14 := hz.free 14
      go_wp2_with fail
      obtain ⟨w4, hw4⟩ : ∃ w4, w4 = (((((((((((((((x8.setCell ⟨o, 0, none⟩ (.int .u8 0)).setCell ⟨o, 1, none⟩ (.int .u8 0)).setCell ⟨o, 2, none⟩ (.int .u8 0)).setCell ⟨o, 3, none⟩ (.int .u8 0)).setCell ⟨o, 4, none⟩ (.int .u8 0)).setCell ⟨o, 5, none⟩ (.int .u8 0)).setCell ⟨o, 6, none⟩ (.int .u8 0)).setCell ⟨o, 7, none⟩ (.int .u8 0)).setCell ⟨o, 8, none⟩ (.int .u16 0)).setCell ⟨o, 9, none⟩ (.int .u64 0)).setCell ⟨o, 10, none⟩ (.int .u64 0)).setCell ⟨o, 11, none⟩ (.bool false)).setCell ⟨o, 12, none⟩ (.int .i64 0)).setCell ⟨o, 13, none⟩ (.int .i64 0)).setCell ⟨o, 14, none⟩ (.slice none 0 0)) := ⟨_, rfl⟩
      have HS2 := Lib.hid (show Sep [] W w4 [sumR (.slice g14 n14 c14) (zs.drop 12), blkR p 36 #[.int .u8 (y0 % 64), .int .u8 y1, .int .u8 y4, .int .u8 y5, .int .u8 y6, .int .u8 y7, .int .u8 y2, .int .u8 y3, .int .u16 B, .int .u64 0, .int .u64 0, .bool true, .int .i64 y10, .int .i64 y11, .slice g14 n14 c14], blkR o 36 #[.int .u8 0, .int .u8 0, .int .u8 0, .int .u8 0, .int .u8 0, .int .u8 0, .int .u8 0, .int .u8 0, .int .u16 0, .int .u64 0, .int .u64 0, .bool false, .int .i64 0, .int .i64 0, .slice none 0 0]] from hw4 ▸ HS8.out.puts 2 rfl [.int .u8 0, .int .u8 0, .int .u8 0, .int .u8 0, .int .u8 0, .int .u8 0, .int .u8 0, .int .u8 0, .int .u16 0, .int .u64 0, .int .u64 0, .bool false, .int .i64 0, .int .i64 0, .slice none 0 0] rfl)
      rw [← hw4]
      clear hw4 HS8 hz z0 z1 z2 z3 z4 z5 z6 z7 z8 z9 z10 z11 z12 z13 z14 f0 f1 f2 f3 f4 f5 f6 f7 f8 f9 f10 f11 f12 f13 f14
      have hz := HS2.out.blk 2 rfl
      have z0 := hz.cell 0 rfl
      have z1 := hz.cell 1 rfl
      have z2 := hz.cell 2 rfl
      have z3 := hz.cell 3 rfl
      have z4 := hz.cell 4 rfl
      have z5 := hz.cell 5 rfl
      have z6 := hz.cell 6 rfl
      have z7 := hz.cell 7 rfl
      have z8 := hz.cell 8 rfl
      have z9 := hz.cell 9 rfl
      have z10 := hz.cell 10 rfl
      have z11 := hz.cell 11 rfl
      have z12 := hz.cell 12 rfl
      have z13 := hz.cell 13 rfl
      have z14 := hz.cell 14 rfl
      refine bodyPost_ret (v := .tuple #[.agg #[.int .u8 0, .int .u8 0, .int .u8 0, .int .u8 0, .int .u8 0, .int .u8 0, .int .u8 0, .int .u8 0, .int .u16 0, .int .u64 0, .int .u64 0, .bool false, .int .i64 0, .int .i64 0, .slice none 0 0], .int .i64 30]) ?_ rfl ⟨none, 0, 0, rfl, ((HS2.out.nil _ _).at_ [0] (by decide) rfl)⟩
      simp [results, Tryd.results11, go_sem, z0, z1, z2, z3, z4, z5, z6, z7, z8, z9, z10, z11, z12, z13, z14]
    · have d3 : (y10 == 0) = false := by simp [h10]
      have d4 : decide (y10 = 0) = false := by simp [h10]
      have HP := Lib.hid (rd_fix (zs := zs) (by have := A0.out; omega) (by omega) (by rw [A0.out]; exact hf) (by rw [A10.out]; exact h10))
      clear h10
      have k0 := (HS8.out.blk 1 rfl).cell 0 rfl
      have k1 := (HS8.out.blk 1 rfl).cell 1 rfl
      have k2 := (HS8.out.blk 1 rfl).cell 2 rfl
      have k3 := (HS8.out.blk 1 rfl).cell 3 rfl
      have k4 := (HS8.out.blk 1 rfl).cell 4 rfl
      have k5 := (HS8.out.blk 1 rfl).cell 5 rfl
      have k6 := (HS8.out.blk 1 rfl).cell 6 rfl
      have k7 := (HS8.out.blk 1 rfl).cell 7 rfl
      have k8 := (HS8.out.blk 1 rfl).cell 8 rfl
      have k9 := (HS8.out.blk 1 rfl).cell 9 rfl
      have k10 := (HS8.out.blk 1 rfl).cell 10 rfl
      have k11 := (HS8.out.blk 1 rfl).cell 11 rfl
      have k12 := (HS8.out.blk 1 rfl).cell 12 rfl
      have k13 := (HS8.out.blk 1 rfl).cell 13 rfl
      have k14 := (HS8.out.blk 1 rfl).cell 14 rfl
      have z0 := (HS8.out.blk 2 rfl).cell 0 rfl
      have z1 := (HS8.out.blk 2 rfl).cell 1 rfl
      have z2 := (HS8.out.blk 2 rfl).cell 2 rfl
      have z3 := (HS8.out.blk 2 rfl).cell 3 rfl
      have z4 := (HS8.out.blk 2 rfl).cell 4 rfl
      have z5 := (HS8.out.blk 2 rfl).cell 5 rfl
      have z6 := (HS8.out.blk 2 rfl).cell 6 rfl
      have z7 := (HS8.out.blk 2 rfl).cell 7 rfl
      have z8 := (HS8.out.blk 2 rfl).cell 8 rfl
      have z9 := (HS8.out.blk 2 rfl).cell 9 rfl
      have z10 := (HS8.out.blk 2 rfl).cell 10 rfl
      have z11 := (HS8.out.blk 2 rfl).cell 11 rfl
      have z12 := (HS8.out.blk 2 rfl).cell 12 rfl
      have z13 := (HS8.out.blk 2 rfl).cell 13 rfl
      have z14 := (HS8.out.blk 2 rfl).cell 14 rfl
      have f0 := (HS8.out.blk 2 rfl).free 0
      have f1 := (HS8.out.blk 2 rfl).free 1
      have f2 := (HS8.out.blk 2 rfl).free 2
      have f3 := (HS8.out.blk 2 rfl).free 3
      have f4 := (HS8.out.blk 2 rfl).free 4
      have f5 := (HS8.out.blk 2 rfl).free 5
      have f6 := (HS8.out.blk 2 rfl).free 6
      have f7 := (HS8.out.blk 2 rfl).free 7
      have f8 := (HS8.out.blk 2 rfl).free 8
      have f9 := (HS8.out.blk 2 rfl).free 9
      have f10 := (HS8.out.blk 2 rfl).free 10
      have f11 := (HS8.out.blk 2 rfl).free 11
      have f12 := (HS8.out.blk 2 rfl).free 12
      have f13 := (HS8.out.blk 2 rfl).free 13
      have f14 := (HS8.out.blk 2 rfl).free 14
      go_wp2_with fail
      obtain ⟨w9, hw9⟩ : ∃ x, x = (((((((((((((((x8.setCell ⟨o, 0, none⟩ (.int .u8 (y0 % 64))).setCell ⟨o, 1, none⟩ (.int .u8 y1)).setCell ⟨o, 2, none⟩ (.int .u8 y4)).setCell ⟨o, 3, none⟩ (.int .u8 y5)).setCell ⟨o, 4, none⟩ (.int .u8 y6)).setCell ⟨o, 5, none⟩ (.int .u8 y7)).setCell ⟨o, 6, none⟩ (.int .u8 y2)).setCell ⟨o, 7, none⟩ (.int .u8 y3)).setCell ⟨o, 8, none⟩ (.int .u16 B)).setCell ⟨o, 9, none⟩ (.int .u64 0)).setCell ⟨o, 10, none⟩ (.int .u64 0)).setCell ⟨o, 11, none⟩ (.bool true)).setCell ⟨o, 12, none⟩ (.int .i64 y10)).setCell ⟨o, 13, none⟩ (.int .i64 y11)).setCell ⟨o, 14, none⟩ (.slice g14 n14 c14)) := ⟨_, rfl⟩
      have HS9 := Lib.hid (show Sep [] W w9 [sumR (.slice g14 n14 c14) (zs.drop 12), blkR p 36 #[.int .u8 (y0 % 64), .int .u8 y1, .int .u8 y4, .int .u8 y5, .int .u8 y6, .int .u8 y7, .int .u8 y2, .int .u8 y3, .int .u16 B, .int .u64 0, .int .u64 0, .bool true, .int .i64 y10, .int .i64 y11, .slice g14 n14 c14], blkR o 36 #[.int .u8 (y0 % 64), .int .u8 y1, .int .u8 y4, .int .u8 y5, .int .u8 y6, .int .u8 y7, .int .u8 y2, .int .u8 y3, .int .u16 B, .int .u64 0, .int .u64 0, .bool true, .int .i64 y10, .int .i64 y11, .slice g14 n14 c14]] from hw9 ▸ HS8.out.puts 2 rfl [.int .u8 (y0 % 64), .int .u8 y1, .int .u8 y4, .int .u8 y5, .int .u8 y6, .int .u8 y7, .int .u8 y2, .int .u8 y3, .int .u16 B, .int .u64 0, .int .u64 0, .bool true, .int .i64 y10, .int .i64 y11, .slice g14 n14 c14] rfl)
      rw [← hw9]
      clear hw9 k0 k1 k2 k3 k4 k5 k6 k7 k8 k9 k10 k11 k12 k13 k14 z0 z1 z2 z3 z4 z5 z6 z7 z8 z9 z10 z11 z12 z13 z14 f0 f1 f2 f3 f4 f5 f6 f7 f8 f9 f10 f11 f12 f13 f14 HS8
      have z0 := (HS9.out.blk 2 rfl).cell 0 rfl
      have z1 := (HS9.out.blk 2 rfl).cell 1 rfl
      have z2 := (HS9.out.blk 2 rfl).cell 2 rfl
      have z3 := (HS9.out.blk 2 rfl).cell 3 rfl
      have z4 := (HS9.out.blk 2 rfl).cell 4 rfl
      have z5 := (HS9.out.blk 2 rfl).cell 5 rfl
      have z6 := (HS9.out.blk 2 rfl).cell 6 rfl
      have z7 := (HS9.out.blk 2 rfl).cell 7 rfl
      have z8 := (HS9.out.blk 2 rfl).cell 8 rfl
      have z9 := (HS9.out.blk 2 rfl).cell 9 rfl
      have z10 := (HS9.out.blk 2 rfl).cell 10 rfl
      have z11 := (HS9.out.blk 2 rfl).cell 11 rfl
      have z12 := (HS9.out.blk 2 rfl).cell 12 rfl
      have z13 := (HS9.out.blk 2 rfl).cell 13 rfl
      have z14 := (HS9.out.blk 2 rfl).cell 14 rfl
      have hX : X0 = paX zs := HXE.out.1
      have hE : e = 0 := HXE.out.2.trans (by rw [HIn.out.2, HP.out]; rfl)
      rw [HIn.out.1, HP.out] at hX
      subst hX hE
      have hb8 : bigN (cut zs 8 2) = B := HBB.out.symm
      refine bodyPost_ret (v := .tuple #[.agg #[.int .u8 (y0 % 64), .int .u8 y1, .int .u8 y4, .int .u8 y5, .int .u8 y6, .int .u8 y7, .int .u8 y2, .int .u8 y3, .int .u16 B, .int .u64 0, .int .u64 0, .bool true, .int .i64 y10, .int .i64 y11, .slice g14 n14 c14], .int .i64 0]) ?_ rfl ⟨g14, n14, c14, ?_, HS9.out.at_ [0] (by decide) rfl⟩
      · simp [results, Tryd.results11, go_sem, z0, z1, z2, z3, z4, z5, z6, z7, z8, z9, z10, z11, z12, z13, z14]
      · simp only [Fx.val, Fx.cells, A0.out, A1.out, A2.out, A3.out, A4.out, A5.out, A6.out, A7.out, A10.out, A11.out, hb8]
        rfl

end Go.Proofs.YtnloabpdjedanaaDoor
