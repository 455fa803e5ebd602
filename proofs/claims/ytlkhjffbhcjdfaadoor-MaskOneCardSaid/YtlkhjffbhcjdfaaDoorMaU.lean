/-
  THE WALK of MaskBack. Printed by gen_mau.py.
-/
import Derived.Test.YtlkhjffbhcjdfaaDoorMaO
import Derived.Test.YtlkhjffbhcjdfaaDoorMaT
import Derived.Deep.RegionHeld3
set_option linter.unusedVariables false
set_option linter.unusedSimpArgs false
namespace Go.Proofs.YtlkhjffbhcjdfaaDoor
open Go.RowKit Go.Maps Go.Shelf
attribute [local go_sem] Oper.semAt_some

theorem rdZ_own {w : World} {v : Value} {n : Nat} {R : List Nat} (h : w.ownsRow 0 3 1 v n (R.map encI)) : ∃ a c, v = .slice a R.length c ∧ n = R.length ∧ (a = none → c = 0) ∧ RdZ w a (fwL R) := by
  have hn : n = R.length := by have := h.1; simpa using this.symm
  subst hn
  rcases h.2 with ⟨rfl, h0⟩ | ⟨g, cap, cur, rfl, hb, hh, hc, _⟩
  · have : R = [] := List.length_eq_zero_iff.1 h0
    subst this
    exact ⟨none, 0, rfl, rfl, fun _ => rfl, RdV.nil _ _⟩
  · refine ⟨_, cap, rfl, rfl, (fun h => by cases h), fun i v hv => ⟨g, 0, rfl, (Array.getElem?_eq_some_iff.1 hh).1, ?_⟩⟩
    have h1 : (R.map encI)[i]? = some v := by rw [← hv]; unfold fwL; rw [List.map_map]; rfl
    have := h.cells (g := g) rfl i v h1
    have hadd : (⟨g, 0, none⟩ : Addr).add i = ⟨g, 0 + i, none⟩ := by unfold Addr.add; split <;> simp_all
    rw [hadd] at this
    exact this
theorem list_z (h l : Nat) (w : World) (h0 : h < 18446744073709551616) (h1 : l < 18446744073709551616) :
    Calls Tryd.prog 21 #[ag h l] w fun e w' => ∃ a c, e = .returned (.slice a (bitsOf h l).length c) ∧ (a = none → c = 0) ∧ RdZ w' a (fwL (bitsOf h l)) ∧ Frm [] w w' := by
  refine (list_c h l w h0 h1).mono ?_
  rintro e w' ⟨a, c, rfl, hS⟩
  obtain ⟨a2, c2, he, _, hc, hz⟩ := rdZ_own (hS.own 0 rfl)
  injection he with e1 e2 e3
  subst e1; subst e3
  exact ⟨a, c, rfl, hc, hz, hS.frm⟩
def tB (r o q g M h l : Nat) (pre : List Nat) : List Res := [blkR r 26 #[.int .u64 (h : Int), .int .u64 (l : Int)], blkR (o + 1) 3 #[.int .i64 (lastOf pre)], blkR o 3 #[.int .i64 (pre.length : Int)], blkR q 26 #[.int .u64 (h : Int), .int .u64 (l : Int)], blkR (g + 1) 4 #[.bool false], blkR g 3 #[.int .i64 (1 + (M : Int))]]

set_option maxRecDepth 100000 in
set_option maxHeartbeats 16000000 in
theorem maskBack_w (w : World) (hT : Tabs w) (h l : Nat) (h0 : h < 18446744073709551616) (h1 : l < 18446744073709551616) (fr n mo : Int) (x : Nat) (hx : x < 18446744073709551616) :
    Calls Tryd.prog 6 #[.int .u64 (h : Int), .int .u64 (l : Int), .int .i64 fr, .int .i64 n, .int .i64 mo, .int .u64 (x : Int)] w fun e w' => e = .returned (.bool true) ∧ Below w.heap.size w w' := by
  have hnot : ∀ (x : Bool) (w : World), (Op.unary .not (.bool x)).run Tryd.prog w = .ok (.bool (!x)) w := fun _ _ => rfl
  have hmn : ∀ (x y : Int) X, (binOp .neq 26 (.agg #[.int .u64 x, .int .u64 y]) (.agg #[.int .u64 x, .int .u64 y])).run Tryd.prog X = .ok (.bool false) X := fun x y X => by rw [mneq]; simp
  have HT := Lib.hid hT
  have HB := Lib.hid (And.intro h0 (And.intro h1 hx))
  obtain ⟨M, hM, M1⟩ := below_of _ 127 (and_i64 mo 127 (by omega) (by omega))
  obtain ⟨N, hN, N1⟩ := below_of _ 63 (and_i64 n 63 (by omega) (by omega))
  obtain ⟨f, hf_, f1⟩ := below_of _ 63 (and_i64 fr 63 (by omega) (by omega))
  have HS0 := Lib.hid (((Sep.init w).alloc #[.int .i64 mo] 3).alloc #[.bool false] 4)
  simp only [World.size_alloc] at HS0
  clear hT h0 h1 hx
  refine (callsIn_wide (n := 8)).1 ?_
  refine callsIn_of_wp_marks Tryd.func6 rfl trivial ?_ rfl
  simp only [Tryd.ntmps6, List.size_toArray, List.length_cons, List.length_nil, Nat.reduceAdd, Nat.reduceSub, Array.replicate_succ, Array.replicate_zero, List.push_toArray, List.append_toArray, List.nil_append, List.cons_append]
  gi_upto_region 1 with fail
  obtain ⟨w0, hw0⟩ : ∃ w0, w0 = (w.alloc (.cells #[.int .i64 mo] 3)).alloc (.cells #[.bool false] 4) := ⟨_, rfl⟩
  obtain ⟨g, hg⟩ : ∃ g, g = w.heap.size := ⟨_, rfl⟩
  rw [← hw0, ← hg] at HS0
  rw [← hw0, ← hg]
  have HG := Lib.hid (Nat.le_of_eq hg.symm)
  clear hw0 hg
  gi_wp2_with fail
  refine ⟨trivial, (callsIn_wide.2 (alive_c _ (HT.out.frm HS0.out.frm))).mono ?_⟩
  rintro e w1 ⟨rfl, hf⟩
  have HS1 := Lib.hid ((HS0.out.keep hf).alloc #[.int .u64 (h : Int), .int .u64 (l : Int)] 26)
  clear hf HS0
  gi_upto_region 4 with fail
  obtain ⟨w2, hw2⟩ : ∃ w2, w2 = w1.alloc (.cells #[.int .u64 (h : Int), .int .u64 (l : Int)] 26) := ⟨_, rfl⟩
  obtain ⟨q, hq⟩ : ∃ q, q = w1.heap.size := ⟨_, rfl⟩
  rw [← hw2, ← hq] at HS1
  rw [← hw2, ← hq]
  clear hw2 hq
  have hli := fun X => list_z h l X HB.out.1 HB.out.2.1
  have hba := fwL_all HB.out.1 HB.out.2.1
  have hrl := bools_len h l
  have hrm := fun x (hx : x ∈ bitsOf h l) => bitsOf_lt hx
  have hsq := fun p W => bits_seq 7 (by omega) p h l HB.out.1 HB.out.2.1 W
  have hpn := fun (pre : List Nat) (x : Nat) (e : (pre ++ [x]) <+: bitsOf h l) => pre_next e
  have hcn := count_len h l
  obtain ⟨R, hR⟩ : ∃ R, R = bitsOf h l := ⟨_, rfl⟩
  rw [← hR] at hli hba hrl hrm hsq hpn hcn
  have hof := fun (a : Option Addr) (c : Nat) (X : World) (hz : RdZ X a (fwL R)) => of_c a c (fwL R) X hz (by unfold fwL; simp; omega) (fun z hz => by unfold fwL at hz; obtain ⟨y, hy, rfl⟩ := List.mem_map.1 hz; have := hrm y hy; omega)
  simp only [hba.1, hba.2, show (fwL R).length = R.length from by simp [fwL]] at hof
  unfold ag at hli
  unfold mV at hof
  have HLi := Lib.hid hli
  have HOf := Lib.hid hof
  have HSq := Lib.hid hsq
  have HPn := Lib.hid hpn
  have HCn := Lib.hid hcn
  clear hR hli hba hrm hof hsq hpn hcn
  have c0 := (HS1.out.blk 0 rfl).cell 0 rfl
  have c1 := (HS1.out.blk 0 rfl).cell 1 rfl
  have HSf := Lib.hid (fun X (hf : Frm [] w2 X) => (show X.cell? ⟨q, 0, none⟩ = some (.int .u64 (h : Int)) ∧ X.cell? ⟨q, 1, none⟩ = some (.int .u64 (l : Int)) from
      ⟨(hf.blk (HS1.out.blk 0 rfl) (by simp)).cell 0 rfl, (hf.blk (HS1.out.blk 0 rfl) (by simp)).cell 1 rfl⟩))
  have HC := Lib.hid ((Frm.refl [] w2).drew)
  clear c0 c1
  refine wpIn_wide.2 ?_
  go_region_held3 (fun X => X.cell? ⟨q, 0, none⟩ = some (.int .u64 (h : Int)) ∧ X.cell? ⟨q, 1, none⟩ = some (.int .u64 (l : Int))) (first | (with_reducible exact HSf.out _ HC.out) | fail) (first
    | (go_at_call 21; (with_reducible refine (HLi.out _).mono ?_); rintro e wl ⟨al, cl, rfl, _, hrz, hfl⟩; have HRz := Lib.hid hrz; replace HC := Lib.hid (HC.out.trans hfl); clear hrz hfl)
    | (go_at_call 29; (with_reducible refine (HOf.out _ _ _ HRz.out).mono ?_); rintro e wo ⟨rfl, hfo⟩; replace HC := Lib.hid (HC.out.trans hfo); clear hfo)
    | fail)
  clear HRz HSf HLi HOf
  have HS2 := Lib.hid (HS1.out.keep HC.out)
  clear HS1 HC
  gi_upto_region 6 with fail
  have cm : wo.cell? ⟨g, 0, none⟩ = some (.int .i64 mo) := (HS2.out.blk 2 rfl).cell 0 rfl
  have fm := (HS2.out.blk 2 rfl).free 0
  have hk1 : IntKind.i64.wrap (1 + (M : Int)) = 1 + (M : Int) := IntWalk.i64_in _ (by omega)
  have HS3 := Lib.hid (HS2.out.put 2 rfl 0 (.int .i64 (1 + (M : Int))))
  gi_upto_region 7 with fail
  obtain ⟨w3, hw3⟩ : ∃ w3, w3 = wo.setCell ⟨g, 0, none⟩ (.int .i64 (1 + (M : Int))) := ⟨_, rfl⟩
  rw [← hw3] at HS3
  rw [← hw3]
  clear hw3 cm fm HS2
  gi_upto_region 9 with fail
  have HS4 := Lib.hid ((HS3.out.alloc #[.int .i64 0] 3).alloc #[.int .i64 (-1)] 3)
  simp only [World.size_alloc] at HS4
  obtain ⟨w4, hw4⟩ : ∃ w4, w4 = (w3.alloc (.cells #[.int .i64 0] 3)).alloc (.cells #[.int .i64 (-1)] 3) := ⟨_, rfl⟩
  obtain ⟨o, ho⟩ : ∃ o, o = w3.heap.size := ⟨_, rfl⟩
  rw [← hw4, ← ho] at HS4
  rw [← hw4, ← ho]
  clear hw4 ho HS3
  have c0 := (HS4.out.blk 2 rfl).cell 0 rfl
  have c1 := (HS4.out.blk 2 rfl).cell 1 rfl
  have HBi := Lib.hid (fun X => bits_c h l X)
  unfold mV at HBi
  gi_wp2_with fail
  refine ⟨trivial, (callsIn_wide.2 (HBi.out _)).mono ?_⟩
  rintro e w5 ⟨rfl, hw5⟩
  have HS5 := Lib.hid (show Sep [] w w5 _ from hw5 ▸ HS4.out.alloc #[.int .u64 (h : Int), .int .u64 (l : Int)] 26)
  obtain ⟨r, hr⟩ : ∃ r, r = w4.heap.size := ⟨_, rfl⟩
  rw [← hr] at HS5 ⊢
  clear c0 c1 HBi hr hw5 HS4
  gi_wp2_with fail
  have hsz := HS5.out.frm.size
  have HSz := Lib.hid hsz
  have HSq2 := Lib.hid (HSq.out r w5)
  have HHas := Lib.hid (fun (y : Nat) (hy : y < 128) X => has_k h l y X HB.out.1 HB.out.2.1 hy)
  unfold ag at HHas
  clear HSq
  refine range_f (n := 8) (by omega) (gf := 46) (lb := _) rfl (enters_of Tryd.func46 (by kernel_rfl) rfl) HSq2.out (Below.refl _ _) (fun _ => rfl) (fun _ _ _ _ _ _ h => h) [] (by simp)
    (fun pre F W => pre.length < 1 + M ∧ Sep [] w W (frgR F W :: tB r o q g M h l pre))
    (fun cd pre F W => (cd = .exit 0 ∧ pre.length = 1 + M) ∧ Sep [] w W (frgR F W :: tB r o q g M h l pre)) (bears_and (bears_sep [] _) _) (fun cd => bears_and (bears_sep [] _) _) ?hQ ?h0 ?round ?done ?stop
  case hQ =>
    rintro pre F W ⟨_, hS⟩
    exact ⟨(hS.blk 1 rfl).cell 0 rfl, (hS.blk 1 rfl).cell 1 rfl⟩
  case h0 => exact ⟨by simp; omega, HS5.out.add (r := frgR [] w5) (Frm.refl _ _) (by intro k hk; cases hk) (by simp [frgR])⟩
  case round =>
    rintro lb pre F y W Wb K ⟨hpl, hS⟩ _ hx hK
    have HKx := Lib.hid hK
    obtain ⟨hlt, hbt, hy, hla⟩ := HPn.out _ _ hx
    have hlen : (pre ++ [y]).length = pre.length + 1 := by simp
    have cl := (hS.blk 2 rfl).cell 0 rfl
    have c0 := (hS.blk 4 rfl).cell 0 rfl
    have c1 := (hS.blk 4 rfl).cell 1 rfl
    obtain ⟨LA, hLA⟩ : ∃ LA, LA = lastOf pre := ⟨_, rfl⟩
    obtain ⟨NN, hNN⟩ : ∃ NN, NN = pre.length := ⟨_, rfl⟩
    have HNx := Lib.hid (show ∀ W', Sep [] w W' ((frgR F Wb :: tB r o q g M h l pre).set 2 (blkR (o + 1) 3 #[.int .i64 (y : Int)]) |>.set 3 (blkR o 3 #[.int .i64 ((pre.length : Int) + 1)])) → Sep [] w W' (frgR F Wb :: tB r o q g M h l (pre ++ [y])) from fun W' h => by
      have e : (((pre ++ [y]).length : Nat) : Int) = (pre.length : Int) + 1 := by rw [hlen]; simp
      unfold tB
      rw [e, hla]
      exact h)
    rw [← hLA] at cl hlt
    have ci : Wb.cell? ⟨o, 0, none⟩ = some (.int .i64 (NN : Int)) := by have := (hS.blk 3 rfl).cell 0 rfl; rw [← hNN] at this; exact this
    have HS := Lib.hid hS
    have HLen := Lib.hid hlen
    have HHy := HHas.out y hy
    rw [hbt] at HHy
    have HHb := Lib.hid HHy
    have HNe := Lib.hid hNN
    rw [← hNN] at hpl
    have b1 : decide ((y : Int) ≤ LA) = false := decide_eq_false (by omega)
    clear hK hS hx hlt hbt hla hlen HHy hNN hLA hsz HS5 HSq2 HPn HHas
    gi_wp2
    refine HKx.out _ ?_
    clear HKx
    gi_wp2_with fail
    refine ⟨trivial, (CallsIn.inRound lb (callsIn_wide.2 (HHb.out _))).mono ?_⟩
    rintro e w6 ⟨rfl, hf⟩
    have HS1 := Lib.hid (HS.out.keep hf)
    have HSz1 := Lib.hid hf.size
    clear hf HS HHb cl c0 c1 ci
    have fl := (HS1.out.blk 2 rfl).free 0
    have cl : ∃ v, w6.cell? ⟨o + 1, 0, none⟩ = some (.int .i64 v) := ⟨_, (HS1.out.blk 2 rfl).cell 0 rfl⟩
    obtain ⟨vl, cl⟩ := cl
    gi_upto_region 14 with fail
    have HS2 := Lib.hid (HS1.out.put 2 rfl 0 (.int .i64 (y : Int)))
    obtain ⟨w7, hw7⟩ : ∃ w7, w7 = w6.setCell ⟨o + 1, 0, none⟩ (.int .i64 (y : Int)) := ⟨_, rfl⟩
    have HSz2 := Lib.hid (show Wb.heap.size ≤ w7.heap.size by rw [hw7]; have := HSz1.out; simpa using this)
    rw [← hw7] at HS2
    rw [← hw7]
    clear hw7 HS1 HSz1 fl cl
    have ci : w7.cell? ⟨o, 0, none⟩ = some (.int .i64 (NN : Int)) := by have := (HS2.out.blk 3 rfl).cell 0 rfl; rw [← HNe.out] at this; exact this
    have fi := (HS2.out.blk 3 rfl).free 0
    have hk2 : IntKind.i64.wrap ((NN : Int) + 1) = (NN : Int) + 1 := IntWalk.i64_in _ (by omega)
    gi_upto_region 15 with fail
    have h3 := HS2.out.put 3 rfl 0 (.int .i64 ((NN : Int) + 1))
    rw [HNe.out] at h3
    have HS3 := Lib.hid (HNx.out _ h3)
    obtain ⟨w8, hw8⟩ : ∃ w8, w8 = w7.setCell ⟨o, 0, none⟩ (.int .i64 ((NN : Int) + 1)) := ⟨_, rfl⟩
    have HSz3 := Lib.hid (show Wb.heap.size ≤ w8.heap.size by rw [hw8]; have := HSz2.out; simpa using this)
    rw [← HNe.out, ← hw8] at HS3
    rw [← hw8]
    clear hw8 h3 HS2 HSz2 ci fi HNx
    have cm := (HS3.out.blk 6 rfl).cell 0 rfl
    have ci : w8.cell? ⟨o, 0, none⟩ = some (.int .i64 ((NN : Int) + 1)) := by
      have := (HS3.out.blk 3 rfl).cell 0 rfl
      rw [HLen.out, ← HNe.out] at this
      exact this
    by_cases hm : NN = M
    · have b9 : ((NN : Int) + 1 == 1 + (M : Int)) = true := by rw [beq_iff_eq]; omega
      gi_wp2_with fail
      exact ⟨kpF_of HSz3.out HS3.out, ⟨rfl, by rw [HLen.out, ← HNe.out]; omega⟩, HS3.out.pin⟩
    · have b9 : ((NN : Int) + 1 == 1 + (M : Int)) = false := by rw [beq_eq_false_iff_ne]; omega
      gi_wp2_with fail
      exact ⟨kpF_of HSz3.out HS3.out, by rw [HLen.out, ← HNe.out]; omega, HS3.out.pin⟩
  case done =>
    rintro D xs F W hD hDF _ rfl ⟨hpl, hS⟩ hK
    obtain ⟨NN, hNN⟩ : ∃ NN, NN = xs.length := ⟨_, rfl⟩
    have HNe := Lib.hid hNN
    have HK2 := Lib.hid hK
    have HS := Lib.hid hS
    rw [← hNN] at hpl
    have mm1 : min (1 + (M : Int)) (xs.length : Int) = (NN : Int) := by omega
    have mm2 : (if (1 + (M : Int)) ≤ (xs.length : Int) then (1 + (M : Int)) else (xs.length : Int)) = (NN : Int) := by split <;> omega
    have mm3 : (if (xs.length : Int) < (1 + (M : Int)) then (xs.length : Int) else (1 + (M : Int))) = (NN : Int) := by split <;> omega
    have mm4 : (if (1 + (M : Int)) > (xs.length : Int) then (xs.length : Int) else (1 + (M : Int))) = (NN : Int) := by split <;> omega
    clear hS hK hpl hNN HSq2 HS5 HPn HHas
    obtain ⟨h0, h1, hx⟩ := HB.out
    have L1 := part_lay f N x f1 N1
    have L2 := lay_count f N x f1 N1
    have L3 := lay_count 0 N x (by omega) N1
    have yh := lyH_lt (f : Int) (N : Int) x
    have yl := lyL_lt (f : Int) (N : Int) x
    have zh := lyH_lt ((0 : Nat) : Int) (N : Int) x
    have zl := lyL_lt ((0 : Nat) : Int) (N : Int) x
    have e1 := fun X => count_c h l X h0 h1
    have e2 := fun X => lay_c (f : Int) (N : Int) x X
    have e3 := fun X => part_c (lyH (f : Int) (N : Int) x) (lyL (f : Int) (N : Int) x) (f : Int) (N : Int) X yh yl
    have e4 := fun X => count_c (lyH (f : Int) (N : Int) x) (lyL (f : Int) (N : Int) x) X yh yl
    have e5 := fun X => lay_c ((0 : Nat) : Int) (N : Int) x X
    have e6 := fun X => count_c (lyH ((0 : Nat) : Int) (N : Int) x) (lyL ((0 : Nat) : Int) (N : Int) x) X zh zl
    rw [← HCn.out] at e1
    simp only [L1] at e3
    simp only [L2] at e4
    simp only [L3] at e6
    obtain ⟨C, hC⟩ : ∃ C, C = ((List.range N).filter fun i => x.testBit (N - 1 - i)).length := ⟨_, rfl⟩
    simp only [← hC] at e4 e6
    obtain ⟨yH, hyH⟩ : ∃ y, y = lyH (f : Int) (N : Int) x := ⟨_, rfl⟩
    obtain ⟨yL, hyL⟩ : ∃ y, y = lyL (f : Int) (N : Int) x := ⟨_, rfl⟩
    obtain ⟨zH, hzH⟩ : ∃ y, y = lyH ((0 : Nat) : Int) (N : Int) x := ⟨_, rfl⟩
    obtain ⟨zL, hzL⟩ : ∃ y, y = lyL ((0 : Nat) : Int) (N : Int) x := ⟨_, rfl⟩
    simp only [← hyH, ← hyL] at e2 e3 e4
    simp only [← hzH, ← hzL] at e5 e6
    have p1 : 2 ^ N < 18446744073709551616 := two_lt (by omega)
    have p0 : 0 < 2 ^ N := Nat.two_pow_pos N
    have s1 : IntKind.u64.wrap ((1 : Int) * 2 ^ N) = ((2 ^ N : Nat) : Int) := by have := c_shl 1 N; rw [Nat.one_mul, Nat.mod_eq_of_lt p1] at this; exact this
    have s1' : IntKind.u64.wrap ((2 : Int) ^ N) = ((2 ^ N : Nat) : Int) := by rw [Int.one_mul] at s1; exact s1
    obtain ⟨P, hP⟩ : ∃ P, P = 2 ^ N := ⟨_, rfl⟩
    rw [← hP] at s1 s1' p0 p1
    simp only [← hP] at e3
    have s2 : IntKind.u64.wrap ((P : Int) - 1) = ((P - 1 : Nat) : Int) := by rw [show (P : Int) - 1 = ((P - 1 : Nat) : Int) by omega]; exact u_wrap (by omega)
    have s3 := u_and (a := x) (b := P - 1) hx (by omega)
    obtain ⟨Q, hQ⟩ : ∃ Q, Q = P - 1 := ⟨_, rfl⟩
    rw [← hQ] at s2 s3
    simp only [← hQ] at e3
    obtain ⟨V, hV⟩ : ∃ V, V = x &&& Q := ⟨_, rfl⟩
    rw [← hV] at s3
    simp only [← hV] at e3
    have z0 : (((0 : Nat) : Int)) = 0 := rfl
    rw [z0] at e5
    unfold mV at e1 e2 e3 e4 e5 e6
    have G1 := Lib.hid e1
    have G2 := Lib.hid e2
    have G3 := Lib.hid e3
    have G4 := Lib.hid e4
    have G5 := Lib.hid e5
    have G6 := Lib.hid e6
    have i0 : ¬ ((N : Int) < 0) := by omega
    have i0' : (0 : Int) ≤ (N : Int) := by omega
    clear e1 e2 e3 e4 e5 e6 L1 L2 L3 yh yl zh zl hyH hyL hzH hzL h0 h1 hx hC hP hQ hV z0 p0 p1
    gi_upto_region 18 with fail
    refine wpIn_wide.2 ?_
    have q0 := Cls.cell (S := []) (w0 := w) (L := frgR F W :: tB r o q g M h l xs) 4 rfl 0 (v := .int .u64 (h : Int)) rfl
    have q1 := Cls.cell (S := []) (w0 := w) (L := frgR F W :: tB r o q g M h l xs) 4 rfl 1 (v := .int .u64 (l : Int)) rfl
    have q2 : ∀ X : Cls (fun v => Sep [] w v (frgR F W :: tB r o q g M h l xs)), X.world.cell? ⟨o, 0, none⟩ = some (.int .i64 (NN : Int)) := fun X => by have := (X.ok.blk 3 rfl).cell 0 rfl; rw [← HNe.out] at this; exact this
    have q3 := Cls.cell (S := []) (w0 := w) (L := frgR F W :: tB r o q g M h l xs) 6 rfl 0 (v := .int .i64 (1 + (M : Int))) rfl
    have n1 := HS.out.inh
    refine wp_region_noPanic ?_
    refine region_sep_tail 33 HS.out (by kernel_rfl) (by kernel_rfl) ?_
    simp only [List.take_succ_cons, List.take_zero, List.drop_succ_cons, List.drop_zero]
    repeat (go_big_quiet_step ((rename_i x; first | (go_at_call 17; first | with_reducible exact call_keeps x.ok (G1.out _) | with_reducible exact call_keeps x.ok (G4.out _) | with_reducible exact call_keeps x.ok (G6.out _)) | (go_at_call 32; first | with_reducible exact call_keeps x.ok (G2.out _) | with_reducible exact call_keeps x.ok (G5.out _)) | (go_at_call 30; with_reducible exact call_keeps x.ok (G3.out _)))))
    refine wpQuiet_nil ?_
    intro W4 hS4
    have HS9 := Lib.hid hS4
    have cr : ∃ v, W4.cell? ⟨g + 1, 0, none⟩ = some (.bool v) := ⟨_, (hS4.blk 5 rfl).cell 0 rfl⟩
    obtain ⟨vr, cr⟩ := cr
    have fr := (hS4.blk 5 rfl).free 0
    clear hS4
    go_wp2_with fail
    refine NoPanic.normal ?_
    gi_wp2
    have hK4 : W4.heap[D]? = some (.deferred (some [])) := (frgR.same (HS9.out.get 0 rfl) D hDF).trans HK2.out
    have hS10 := HS9.out.put 5 rfl 0 (.bool true)
    have hK5 : (W4.setCell ⟨g + 1, 0, none⟩ (.bool true)).heap[D]? = some (.deferred (some [])) := (Below.heap_setCell W4 _ _ D (fun e => no_cells hK4 (HS9.out.blk 5 rfl) e)).trans hK4
    exact cell_end1 rfl hK5 (hS10.blk 5 rfl) rfl hS10.frm (Nat.le_trans HSz.out hD)
  case stop =>
    rintro D cd pre F W hD hDF _ hpre ⟨⟨rfl, hlen⟩, hS⟩ hK
    obtain ⟨NN, hNN⟩ : ∃ NN, NN = pre.length := ⟨_, rfl⟩
    have hpr := hpre.length_le
    have HNe := Lib.hid hNN
    have HK2 := Lib.hid hK
    have HS := Lib.hid hS
    rw [← hNN] at hpr hlen
    have mm1 : min (1 + (M : Int)) (R.length : Int) = (NN : Int) := by omega
    have mm2 : (if (1 + (M : Int)) ≤ (R.length : Int) then (1 + (M : Int)) else (R.length : Int)) = (NN : Int) := by split <;> omega
    have mm3 : (if (R.length : Int) < (1 + (M : Int)) then (R.length : Int) else (1 + (M : Int))) = (NN : Int) := by split <;> omega
    have mm4 : (if (1 + (M : Int)) > (R.length : Int) then (R.length : Int) else (1 + (M : Int))) = (NN : Int) := by split <;> omega
    clear hS hK hpr hlen hpre hNN HSq2 HS5 HPn HHas
    obtain ⟨h0, h1, hx⟩ := HB.out
    have L1 := part_lay f N x f1 N1
    have L2 := lay_count f N x f1 N1
    have L3 := lay_count 0 N x (by omega) N1
    have yh := lyH_lt (f : Int) (N : Int) x
    have yl := lyL_lt (f : Int) (N : Int) x
    have zh := lyH_lt ((0 : Nat) : Int) (N : Int) x
    have zl := lyL_lt ((0 : Nat) : Int) (N : Int) x
    have e1 := fun X => count_c h l X h0 h1
    have e2 := fun X => lay_c (f : Int) (N : Int) x X
    have e3 := fun X => part_c (lyH (f : Int) (N : Int) x) (lyL (f : Int) (N : Int) x) (f : Int) (N : Int) X yh yl
    have e4 := fun X => count_c (lyH (f : Int) (N : Int) x) (lyL (f : Int) (N : Int) x) X yh yl
    have e5 := fun X => lay_c ((0 : Nat) : Int) (N : Int) x X
    have e6 := fun X => count_c (lyH ((0 : Nat) : Int) (N : Int) x) (lyL ((0 : Nat) : Int) (N : Int) x) X zh zl
    rw [← HCn.out] at e1
    simp only [L1] at e3
    simp only [L2] at e4
    simp only [L3] at e6
    obtain ⟨C, hC⟩ : ∃ C, C = ((List.range N).filter fun i => x.testBit (N - 1 - i)).length := ⟨_, rfl⟩
    simp only [← hC] at e4 e6
    obtain ⟨yH, hyH⟩ : ∃ y, y = lyH (f : Int) (N : Int) x := ⟨_, rfl⟩
    obtain ⟨yL, hyL⟩ : ∃ y, y = lyL (f : Int) (N : Int) x := ⟨_, rfl⟩
    obtain ⟨zH, hzH⟩ : ∃ y, y = lyH ((0 : Nat) : Int) (N : Int) x := ⟨_, rfl⟩
    obtain ⟨zL, hzL⟩ : ∃ y, y = lyL ((0 : Nat) : Int) (N : Int) x := ⟨_, rfl⟩
    simp only [← hyH, ← hyL] at e2 e3 e4
    simp only [← hzH, ← hzL] at e5 e6
    have p1 : 2 ^ N < 18446744073709551616 := two_lt (by omega)
    have p0 : 0 < 2 ^ N := Nat.two_pow_pos N
    have s1 : IntKind.u64.wrap ((1 : Int) * 2 ^ N) = ((2 ^ N : Nat) : Int) := by have := c_shl 1 N; rw [Nat.one_mul, Nat.mod_eq_of_lt p1] at this; exact this
    have s1' : IntKind.u64.wrap ((2 : Int) ^ N) = ((2 ^ N : Nat) : Int) := by rw [Int.one_mul] at s1; exact s1
    obtain ⟨P, hP⟩ : ∃ P, P = 2 ^ N := ⟨_, rfl⟩
    rw [← hP] at s1 s1' p0 p1
    simp only [← hP] at e3
    have s2 : IntKind.u64.wrap ((P : Int) - 1) = ((P - 1 : Nat) : Int) := by rw [show (P : Int) - 1 = ((P - 1 : Nat) : Int) by omega]; exact u_wrap (by omega)
    have s3 := u_and (a := x) (b := P - 1) hx (by omega)
    obtain ⟨Q, hQ⟩ : ∃ Q, Q = P - 1 := ⟨_, rfl⟩
    rw [← hQ] at s2 s3
    simp only [← hQ] at e3
    obtain ⟨V, hV⟩ : ∃ V, V = x &&& Q := ⟨_, rfl⟩
    rw [← hV] at s3
    simp only [← hV] at e3
    have z0 : (((0 : Nat) : Int)) = 0 := rfl
    rw [z0] at e5
    unfold mV at e1 e2 e3 e4 e5 e6
    have G1 := Lib.hid e1
    have G2 := Lib.hid e2
    have G3 := Lib.hid e3
    have G4 := Lib.hid e4
    have G5 := Lib.hid e5
    have G6 := Lib.hid e6
    have i0 : ¬ ((N : Int) < 0) := by omega
    have i0' : (0 : Int) ≤ (N : Int) := by omega
    clear e1 e2 e3 e4 e5 e6 L1 L2 L3 yh yl zh zl hyH hyL hzH hzL h0 h1 hx hC hP hQ hV z0 p0 p1
    gi_upto_region 18 with fail
    refine wpIn_wide.2 ?_
    have q0 := Cls.cell (S := []) (w0 := w) (L := frgR F W :: tB r o q g M h l pre) 4 rfl 0 (v := .int .u64 (h : Int)) rfl
    have q1 := Cls.cell (S := []) (w0 := w) (L := frgR F W :: tB r o q g M h l pre) 4 rfl 1 (v := .int .u64 (l : Int)) rfl
    have q2 : ∀ X : Cls (fun v => Sep [] w v (frgR F W :: tB r o q g M h l pre)), X.world.cell? ⟨o, 0, none⟩ = some (.int .i64 (NN : Int)) := fun X => by have := (X.ok.blk 3 rfl).cell 0 rfl; rw [← HNe.out] at this; exact this
    have q3 := Cls.cell (S := []) (w0 := w) (L := frgR F W :: tB r o q g M h l pre) 6 rfl 0 (v := .int .i64 (1 + (M : Int))) rfl
    have n1 := HS.out.inh
    refine wp_region_noPanic ?_
    refine region_sep_tail 33 HS.out (by kernel_rfl) (by kernel_rfl) ?_
    simp only [List.take_succ_cons, List.take_zero, List.drop_succ_cons, List.drop_zero]
    repeat (go_big_quiet_step ((rename_i x; first | (go_at_call 17; first | with_reducible exact call_keeps x.ok (G1.out _) | with_reducible exact call_keeps x.ok (G4.out _) | with_reducible exact call_keeps x.ok (G6.out _)) | (go_at_call 32; first | with_reducible exact call_keeps x.ok (G2.out _) | with_reducible exact call_keeps x.ok (G5.out _)) | (go_at_call 30; with_reducible exact call_keeps x.ok (G3.out _)))))
    refine wpQuiet_nil ?_
    intro W4 hS4
    have HS9 := Lib.hid hS4
    have cr : ∃ v, W4.cell? ⟨g + 1, 0, none⟩ = some (.bool v) := ⟨_, (hS4.blk 5 rfl).cell 0 rfl⟩
    obtain ⟨vr, cr⟩ := cr
    have fr := (hS4.blk 5 rfl).free 0
    clear hS4
    go_wp2_with fail
    refine NoPanic.normal ?_
    gi_wp2
    have hK4 : W4.heap[D]? = some (.deferred (some [])) := (frgR.same (HS9.out.get 0 rfl) D hDF).trans HK2.out
    have hS10 := HS9.out.put 5 rfl 0 (.bool true)
    have hK5 : (W4.setCell ⟨g + 1, 0, none⟩ (.bool true)).heap[D]? = some (.deferred (some [])) := (Below.heap_setCell W4 _ _ D (fun e => no_cells hK4 (HS9.out.blk 5 rfl) e)).trans hK4
    exact cell_end1 rfl hK5 (hS10.blk 5 rfl) rfl hS10.frm (Nat.le_trans HSz.out hD)

theorem maskBack_f (w : World) (hT : Tabs w) (h : Int) (wh : (Lit.int .u64 h).wf = true) (l : Int) (wl : (Lit.int .u64 l).wf = true) (f : Int) (wf : (Lit.int .i64 f).wf = true) (n : Int) (wn : (Lit.int .i64 n).wf = true) (mo : Int) (wm : (Lit.int .i64 mo).wf = true) (x : Int) (wx : (Lit.int .u64 x).wf = true) :
    Calls Tryd.prog 6 #[.int .u64 h, .int .u64 l, .int .i64 f, .int .i64 n, .int .i64 mo, .int .u64 x] w fun e w' => e = .returned (.bool true) ∧ Below w.heap.size w w' := by
  obtain ⟨h, rfl, h0⟩ := u64_nat wh
  obtain ⟨l, rfl, h1⟩ := u64_nat wl
  obtain ⟨x, rfl, h2⟩ := u64_nat wx
  exact maskBack_w w hT h l h0 h1 f n mo x h2

end Go.Proofs.YtlkhjffbhcjdfaaDoor
