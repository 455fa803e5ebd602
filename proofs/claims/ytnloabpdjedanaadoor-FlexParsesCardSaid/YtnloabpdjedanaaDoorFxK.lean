/-
  THE WALK of confluxref10.Write. Printed by gen_fxk.py.
-/
import Derived.Test.YtnloabpdjedanaaDoorFxX
import Derived.Test.YtnloabpdjedanaaDoorJon
import Derived.Test.YtnloabpdjedanaaDoorPj
import Derived.Deep.RegionHeld3
import Derived.Deep.CutBlock
set_option linter.unusedVariables false
set_option linter.unusedSimpArgs false
namespace Go.Proofs.YtnloabpdjedanaaDoor
open Go.RowKit

theorem last_at {R : List Nat} (h : 0 < R.length) : ∃ y, R[R.length - 1]? = some y ∧ lastOf R = (y : Int) := by
  rcases List.eq_nil_or_concat R with e | ⟨t, x, e⟩
  · subst e; simp at h
  · rw [List.concat_eq_append] at e
    subst e
    exact ⟨x, by simp, lastOf_of rfl⟩
theorem last_cell {w : World} {ai : Option Addr} {R : List Nat} {ct : Nat} {la : Int} (rd : RdZ w ai (fwL R)) (hc : ct = R.length) (hl : la = lastOf R) :
    ∀ X, Frm [] w X → 0 < ct → ∃ bi oi, ai = some ⟨bi, oi, none⟩ ∧ X.cell? ⟨bi, oi + (ct - 1), none⟩ = some (.int .i64 la) := by
  intro X hX h0
  subst hc
  obtain ⟨y, hy, hly⟩ := last_at (R := R) h0
  have h1 : ((fwL R).map (Value.int .i64))[R.length - 1]? = some (.int .i64 (y : Int)) := by
    unfold fwL
    rw [List.map_map, List.getElem?_map, hy]
    rfl
  obtain ⟨bi, oi, ha, hb, hc⟩ := rd _ _ h1
  rw [hl, hly]
  exact ⟨bi, oi, ha, (hX.cell hb (by simp)).trans hc⟩
theorem held_mid {n a b : Int} (h1 : a ≤ n) (h2 : n ≤ b) : held n a b = n := by unfold held; split <;> (try split) <;> omega
/-- The mark set in the first byte. -/
theorem mark_first {X N Z : Nat} (hX : X < 2 ^ N) (hZ : N + 1 = 8 * Z) (h1 : 1 ≤ Z) : ∃ d, (bigL (X : Int) Z)[0]? = some d ∧ 0 ≤ d ∧ d ≤ 127 ∧ (bigL (X : Int) Z).set 0 (d + 128) = bigL ((X : Int) + 2 ^ N) Z := by
  obtain ⟨z, rfl⟩ : ∃ z, Z = z + 1 := ⟨Z - 1, by omega⟩
  have hN : N = 8 * z + 7 := by omega
  subst hN
  have h256 : (256 : Int) ^ z = ((2 ^ (8 * z) : Nat) : Int) := by rw [Nat.pow_mul]; simp
  have h2 : ((2 : Int) ^ (8 * z + 7)) = ((2 ^ (8 * z) * 128 : Nat) : Int) := by
    rw [show (2 : Int) ^ (8 * z + 7) = ((2 ^ (8 * z + 7) : Nat) : Int) by simp, Nat.pow_add]
  have hX2 : X < 2 ^ (8 * z) * 128 := by rw [Nat.pow_add] at hX; exact hX
  have hpos : 0 < 2 ^ (8 * z) := Nat.two_pow_pos _
  have hd : X / 2 ^ (8 * z) < 128 := by rw [Nat.div_lt_iff_lt_mul hpos]; omega
  obtain ⟨q, hq⟩ : ∃ q : Nat, q = X / 2 ^ (8 * z) := ⟨_, rfl⟩
  rw [← hq] at hd
  refine ⟨(q : Int), ?_, by omega, by omega, ?_⟩
  · simp only [bigL, List.getElem?_map, List.getElem?_range (show 0 < z + 1 by omega), Option.map_some, Option.some.injEq]
    unfold dig
    rw [show z + 1 - 1 - 0 = z by omega, h256, ← Int.natCast_ediv, ← hq]
    omega
  · apply List.ext_getElem?
    intro i
    by_cases hi : i < z + 1
    · rw [List.getElem?_set]
      simp only [bigL, List.length_map, List.length_range, List.getElem?_map, List.getElem?_range hi, Option.map_some]
      by_cases h0 : 0 = i
      · subst h0
        rw [if_pos rfl, if_pos (by omega)]
        congr 1
        unfold dig
        rw [show z + 1 - 1 - 0 = z by omega, h256, h2, ← Int.natCast_add, ← Int.natCast_ediv, Nat.add_mul_div_left _ _ hpos, ← hq]
        omega
      · rw [if_neg h0]
        congr 1
        unfold dig
        obtain ⟨t, ht⟩ : ∃ t, z = (z + 1 - 1 - i) + 1 + t := ⟨i - 1, by omega⟩
        obtain ⟨s, hs⟩ : ∃ s, s = z + 1 - 1 - i := ⟨_, rfl⟩
        rw [← hs] at ht ⊢
        have e : (2 : Int) ^ (8 * z + 7) = 256 ^ s * (256 * (256 ^ t * 128)) := by
          rw [h2, Int.natCast_mul, ← h256, ht, Int.pow_add, Int.pow_add]
          simp only [Int.pow_one, Int.mul_assoc]
          rfl
        rw [e, Int.add_mul_ediv_left _ _ (Int.ne_of_gt (Int.pow_pos (by decide)))]
        omega
    · rw [List.getElem?_eq_none (by simp [bigL]; omega), List.getElem?_eq_none (by simp [bigL]; omega)]

set_option maxRecDepth 100000 in
set_option maxHeartbeats 16000000 in
theorem rwrite_c (x : Fx) (a : Option Addr) (c : Nat) (w : World) (hok : x.Ok) (hrd : RdI .u8 w a x.B) (hn : a = none → c = 0) (hl : x.B.length ≤ 9223372036854775807) :
    Calls Tryd.prog 16 #[x.val (.slice a x.B.length c)] w (WrP w (woX x) (weX x)) := by
  have HG := Lib.hid (fun h => good_of hok.rh hok.rl h)
  have HA := Lib.hid (@wr_arg x)
  have HI := Lib.hid (@wr_in x)
  have HBd := Lib.hid (@we_bad x)
  have HLg := Lib.hid (@we_long x)
  have HGd := Lib.hid (@we_good x)
  have HO := Lib.hid (fun X => rof_c x.h x.l X hok.rh hok.rl)
  have HRd := Lib.hid (fun X (hX : Frm [] w X) => hrd.below (w' := X) hX.below)
  obtain ⟨E, hE⟩ : ∃ E, E = wrX x := ⟨_, rfl⟩
  obtain ⟨r, hr⟩ : ∃ r, r = weX x := ⟨_, rfl⟩
  obtain ⟨O, hO⟩ : ∃ O, O = woX x := ⟨_, rfl⟩
  rw [← hE] at HG HA HI HBd HLg HGd
  rw [← hr] at HBd HLg HGd ⊢
  rw [← hO] at HBd HLg HGd ⊢
  have hlaR : laN x.h x.l = lastOf (bitsOf x.h x.l) := laN_eq hok.rh hok.rl
  have hcnR := count_len x.h x.l
  rw [hlaR, ← hcnR] at HI
  have HBits := Lib.hid (And.intro (liB_all x.h x.l) (And.intro hlaR hcnR))
  have HPt := Lib.hid (fun (f : Int) (N : Nat) (hN : N ≤ 63) => ptN_lt x.h x.l hok.rh hok.rl f hN)
  have HPr := Lib.hid (fun f n => part_ref hok.rh hok.rl f n)
  have hb128 := bools_len128 x.h x.l
  have hRl : (bitsOf x.h x.l).length ≤ 128 := by
    have := @cnt_le x.h 64
    have := @cnt_le x.l 64
    omega
  obtain ⟨R, hR⟩ : ∃ R, R = bitsOf x.h x.l := ⟨_, rfl⟩
  obtain ⟨bs, hbs⟩ : ∃ bs, bs = bools x.h x.l := ⟨_, rfl⟩
  rw [← hR] at HI HBits hRl
  rw [← hbs] at HBits HO HPr hb128
  obtain ⟨ct, hct⟩ : ∃ ct, ct = R.length := ⟨_, rfl⟩
  rw [← hct] at HI hRl
  have HCt := Lib.hid hct
  have Hb128 := Lib.hid hb128
  clear hb128
  obtain ⟨la, hla⟩ : ∃ la, la = lastOf R := ⟨_, rfl⟩
  rw [← hla] at HI
  have HLa := Lib.hid hla
  have hla1 : -1 ≤ la ∧ la ≤ 127 := by rw [hla, hR, ← hlaR]; exact laN_in _ _ hok.rh hok.rl
  obtain ⟨r0, r1, r2, r3, r4, r5, r6, r7, rb, rh, rl, rL, rD, rB⟩ := hok
  clear hE hr hO hlaR hcnR hR hbs hct hla hrd
  obtain ⟨h0, h1, h2, h3, h4, h5, h6, h7, b, h, l, fx, L, D, B⟩ := x
  simp only [Fx.val, Fx.cells] at *
  obtain ⟨n, hn'⟩ : ∃ n, n = B.length := ⟨_, rfl⟩
  have HNn := Lib.hid hn'
  rw [← hn'] at HI hl ⊢
  clear hn'
  have HS0 := Lib.hid ((Sep.init w).alloc #[.int .u8 h0, .int .u8 h1, .int .u8 h2, .int .u8 h3, .int .u8 h4, .int .u8 h5, .int .u8 h6, .int .u8 h7, .int .u16 b, .int .u64 (h : Int), .int .u64 (l : Int), .bool fx, .int .i64 L, .int .i64 D, .slice a n c] 36)
  obtain ⟨A, hA⟩ : ∃ A : Bool, A = (fx && !gridB L D || !fx && !(decide (L = 0) && decide (D = 0))) := ⟨_, rfl⟩
  rw [← hA] at HA HI
  have HAa := Lib.hid hA
  clear hA
  go_enter Tryd.func16, Tryd.ntmps16
  go_upto_region 1 with fail
  obtain ⟨w1, hw1⟩ : ∃ w1, w1 = w.alloc (.cells #[.int .u8 h0, .int .u8 h1, .int .u8 h2, .int .u8 h3, .int .u8 h4, .int .u8 h5, .int .u8 h6, .int .u8 h7, .int .u16 b, .int .u64 (h : Int), .int .u64 (l : Int), .bool fx, .int .i64 L, .int .i64 D, .slice a n c] 36) := ⟨_, rfl⟩
  obtain ⟨o, ho⟩ : ∃ o, o = w.heap.size := ⟨_, rfl⟩
  rw [← hw1, ← ho] at HS0
  rw [← hw1, ← ho]
  clear hw1 ho
  go_cut [49] (fun v wx => v = .bool A ∧ wx = w1)
  case first => as_aux_lemma =>
    have k11 := (HS0.out.blk 0 rfl).cell 11 rfl
    have k12 := (HS0.out.blk 0 rfl).cell 12 rfl
    have k13 := (HS0.out.blk 0 rfl).cell 13 rfl
    cases fx with
    | true =>
      by_cases hc0 : L < 1
      · have thc0 : decide (L < 1) = true := decide_eq_true hc0
        obtain rfl : A = true := by rw [HAa.out]; simp [gridB]; omega
        clear HAa hc0
        go_wp2_with fail
        go_meet
        exact ⟨rfl, rfl⟩
      have thc0 : decide (L < 1) = false := decide_eq_false hc0
      by_cases hc1 : 255 < L
      · have thc1 : decide (255 < L) = true := decide_eq_true hc1
        obtain rfl : A = true := by rw [HAa.out]; simp [gridB]; omega
        clear HAa hc0 hc1
        go_wp2_with fail
        go_meet
        exact ⟨rfl, rfl⟩
      have thc1 : decide (255 < L) = false := decide_eq_false hc1
      by_cases hc2 : D < 0
      · have thc2 : decide (D < 0) = true := decide_eq_true hc2
        obtain rfl : A = true := by rw [HAa.out]; simp [gridB]; omega
        clear HAa hc0 hc1 hc2
        go_wp2_with fail
        go_meet
        exact ⟨rfl, rfl⟩
      have thc2 : decide (D < 0) = false := decide_eq_false hc2
      by_cases hc3 : 255 < D
      · have thc3 : decide (255 < D) = true := decide_eq_true hc3
        obtain rfl : A = true := by rw [HAa.out]; simp [gridB]; omega
        clear HAa hc0 hc1 hc2 hc3
        go_wp2_with fail
        go_meet
        exact ⟨rfl, rfl⟩
      have thc3 : decide (255 < D) = false := decide_eq_false hc3
      obtain rfl : A = false := by rw [HAa.out]; simp [gridB]; omega
      clear HAa hc0 hc1 hc2 hc3
      go_wp2_with fail
      go_meet
      exact ⟨rfl, rfl⟩
    | false =>
      by_cases hL : L = 0
      · by_cases hD : D = 0
        · obtain rfl : A = false := by rw [HAa.out]; simp [hL, hD]
          subst hL hD
          clear HAa
          go_wp2_with fail
          go_meet
          exact ⟨rfl, rfl⟩
        · obtain rfl : A = true := by rw [HAa.out]; simp [hL, hD]
          have d0 : (D == 0) = false := by simp [hD]
          have d1 : (D != 0) = true := by simp [hD]
          subst hL
          clear HAa hD
          go_wp2_with fail
          go_meet
          exact ⟨rfl, rfl⟩
      · obtain rfl : A = true := by rw [HAa.out]; simp [hL]
        have d0 : (L == 0) = false := by simp [hL]
        have d1 : (L != 0) = true := by simp [hL]
        clear HAa hL
        go_wp2_with fail
        go_meet
        exact ⟨rfl, rfl⟩
  obtain ⟨rfl, hwc⟩ := hcut
  rw [hwc]
  clear hwc
  have hbadend : ∀ (W : World), Frm [] w W → E ≠ 0 → Sep [] w W [sumR (.slice none 0 0) O] ∧ r = E := fun W hW h0 => by
    obtain ⟨h1, h2⟩ := HBd.out h0
    rw [h2]
    exact ⟨(((Sep.init w).keep hW).nil 5 1), h1⟩
  have HBe := Lib.hid hbadend
  clear hbadend HBd
  cases A with
  | true =>
    have hE1 : E = 1 := HA.out rfl
    obtain ⟨hs, hr⟩ := HBe.out w1 HS0.out.frm (by omega)
    have HSe := Lib.hid hs
    rw [hE1] at hr
    subst hr
    clear hs hE1 HA HI HBe HLg HGd HG
    go_wp2_with fail
    refine bodyPost_ret (v := .tuple #[.slice none 0 0, .int .i64 1]) ?_ rfl ⟨_, rfl, HSe.out⟩
    simp [results, Tryd.results16]
  | false =>
    have hi := HI.out (by decide)
    have HE := Lib.hid hi
    clear HA HI hi HAa
    have k9 := (HS0.out.blk 0 rfl).cell 9 rfl
    have k10 := (HS0.out.blk 0 rfl).cell 10 rfl
    go_wp2_with fail
    clear k9 k10
    refine (HO.out _).mono ?_
    rintro e w2 ⟨ab, cb, rfl, hS⟩
    have HS1 := Lib.hid (HS0.out.keep hS.frm)
    obtain ⟨ab', cb', hv, hn1, hn2, rdB⟩ := rdB_own (hS.own 0 rfl)
    clear hn1 hn2
    obtain ⟨e1, e2⟩ : ab = ab' ∧ cb = cb' := by
      injection hv with h1 _ h3
      exact ⟨h1, h3⟩
    subst e1 e2
    have HL := Lib.hid (rlist_c ab cb bs w2 rdB Hb128.out)
    rw [HBits.out.1, ← HCt.out] at HL
    have HRb := Lib.hid (fun X (hX : Frm [] w2 X) => rdB.below hX.below)
    clear hS hv rdB HS0 HO
    go_wp2_with fail
    refine HL.out.mono ?_
    rintro e w3 ⟨ai, ci, rfl, ni, rdZ, hf⟩
    have HS2 := Lib.hid (HS1.out.keep hf)
    have HF23 := Lib.hid hf
    have HZ := Lib.hid (last_cell rdZ HCt.out HLa.out)
    clear hf HL HS1 rdZ ni
    -- the second test
    obtain ⟨Z, hZ⟩ : ∃ Z : Bool, Z = decide (ct = 0) := ⟨_, rfl⟩
    have hz2 : ((ct : Int) == 0) = Z := by rw [hZ]; exact decide_eq_decide.2 (by omega)
    have hz3 : decide ((ct : Int) = 0) = Z := by rw [hZ]; exact decide_eq_decide.2 (by omega)
    have hz4 : decide (ct = 0) = Z := hZ.symm
    have HZz := Lib.hid hZ
    clear hZ
    obtain ⟨Q, hQ⟩ : ∃ Q : Bool, Q = ((fx != Z) || decide (109 ≤ la)) := ⟨_, rfl⟩
    have HQ := Lib.hid hQ
    clear hQ
    go_upto_region 5 with fail
    go_cut [76] (fun v wx => v = .bool Q ∧ wx = w3)
    case first => as_aux_lemma =>
      have k11 := (HS2.out.blk 0 rfl).cell 11 rfl
      by_cases hne : (fx != Z) = true
      · obtain rfl : Q = true := by rw [HQ.out, hne]; rfl
        clear HQ HZz
        cases fx <;> cases Z <;> first | (simp at hne; done) | skip
        all_goals
          clear hne
          go_wp2_with fail
          go_meet
          exact ⟨rfl, rfl⟩
      · have hq : Q = decide (109 ≤ la) := by rw [HQ.out]; simp only [Bool.not_eq_true] at hne; rw [hne]; rfl
        cases Z with
        | true =>
          obtain rfl : fx = true := by cases fx <;> simp at hne ⊢
          have hc0 : ct = 0 := of_decide_eq_true HZz.out.symm
          have hl9 : la = -1 := by
            rw [HLa.out]
            have : R = [] := by rw [← List.length_eq_zero_iff, ← HCt.out]; exact hc0
            rw [this]; rfl
          obtain rfl : Q = false := by rw [hq]; exact decide_eq_false (by omega)
          subst hc0
          clear hne HQ HZz hq hl9 hz2 hz3 hz4
          go_wp2_with fail
          go_meet
          exact ⟨rfl, rfl⟩
        | false =>
          obtain rfl : fx = false := by cases fx <;> simp at hne ⊢
          have hc0 : ¬ ct = 0 := of_decide_eq_false HZz.out.symm
          obtain ⟨bi, oi, rfl, hci⟩ := HZ.out w3 (Frm.refl _ _) (by omega)
          have p1 : decide (0 < (ct : Int)) = true := decide_eq_true (by omega)
          have p2 : decide (0 < ct) = true := decide_eq_true (by omega)
          obtain ⟨cm, hcm⟩ : ∃ cm, cm = ct - 1 := ⟨_, rfl⟩
          rw [← hcm] at hci
          have p3 : IntKind.i64.wrap ((ct : Int) - 1) = (cm : Int) := by rw [show (ct : Int) - 1 = (cm : Int) by omega]; exact IntWalk.i64_in _ (by omega)
          have p4 : (cm : Int) < (ct : Int) := by omega
          have p5 : 0 ≤ (cm : Int) := by omega
          have hq2 : decide (109 ≤ la) = Q := hq.symm
          clear hne HQ HZz hq hcm hc0
          go_wp2_with fail
          go_meet
          exact ⟨rfl, rfl⟩
    obtain ⟨rfl, hwc⟩ := hcut
    rw [hwc]
    clear hwc hz2 hz3 hz4
    have hE30 : Q = true → E = 30 := fun h => by
      rw [HE.out]
      rw [HQ.out, Bool.or_eq_true] at h
      rcases h with h | h
      · rw [if_pos (.inl (by rw [← HZz.out]; exact h))]
      · rw [if_pos (.inr (of_decide_eq_true h))]
    have hEb : Q = false → E = if 1500 < n then 2 else 0 := fun h => by
      rw [HE.out]
      rw [HQ.out, Bool.or_eq_false_iff] at h
      rw [if_neg]
      intro h2
      rcases h2 with h2 | h2
      · rw [← HZz.out, h.1] at h2; cases h2
      · have := of_decide_eq_false h.2; omega
    have HE30 := Lib.hid hE30
    have HEb := Lib.hid hEb
    clear hE30 hEb HE
    cases Q with
    | true =>
      have hE1 : E = 30 := HE30.out rfl
      obtain ⟨hs, hr⟩ := HBe.out w3 HS2.out.frm (by omega)
      have HSe := Lib.hid hs
      rw [hE1] at hr
      subst hr
      clear hs hE1 HE30 HEb HBe HLg HGd HG
      go_wp2_with fail
      refine bodyPost_ret (v := .tuple #[.slice none 0 0, .int .i64 30]) ?_ rfl ⟨_, rfl, HSe.out⟩
      simp [results, Tryd.results16]
    | false =>
      have k14 := (HS2.out.blk 0 rfl).cell 14 rfl
      have hEb := HEb.out rfl
      clear HE30 HEb
      by_cases h15 : 1500 < n
      · have d5 : decide (1500 < (n : Int)) = true := decide_eq_true (by omega)
        rw [if_pos h15] at hEb
        obtain ⟨hs, hr⟩ := HBe.out w3 HS2.out.frm (by omega)
        have HSe := Lib.hid hs
        rw [hEb] at hr
        subst hr
        clear hs hEb HBe HLg HGd HG h15
        go_wp2_with fail
        refine bodyPost_ret (v := .tuple #[.slice none 0 0, .int .i64 2]) ?_ rfl ⟨_, rfl, HSe.out⟩
        simp [results, Tryd.results16]
      rw [if_neg h15] at hEb
      subst hEb
      have HGo := Lib.hid (HG.out rfl)
      have HLg2 := Lib.hid (HLg.out rfl)
      have HGd2 := Lib.hid (HGd.out rfl)
      have d5 : decide (1500 < (n : Int)) = false := decide_eq_false (by omega)
      have hn15 : n ≤ 1500 := by omega
      clear HG HBe HLg HGd h15
      go_upto_region 9 with fail
      clear d5 k14
      have e1 : Int.tmod h0 64 = h0 % 64 := Int.tmod_eq_emod_of_nonneg r0.1
      have e2 : IntKind.i64.wrap (h0 % 64) = h0 % 64 := IntWalk.i64_in _ (by omega)
      have e3 : IntKind.i64.wrap (h0 % 64 + 64) = h0 % 64 + 64 := IntWalk.i64_in _ (by omega)
      obtain ⟨f, hf⟩ : ∃ f : Int, f = h0 % 64 + if fx then 64 else 0 := ⟨_, rfl⟩
      have hf0 : 0 ≤ f ∧ f ≤ 255 := by rw [hf]; cases fx <;> simp <;> omega
      have HF := Lib.hid hf
      clear hf
      have k0 := (HS2.out.blk 0 rfl).cell 0 rfl
      have k11 := (HS2.out.blk 0 rfl).cell 11 rfl
      go_upto_if 87 with fail
      go_cut [6] (fun v wx => v = .int .i64 f ∧ wx = w3)
      case first => as_aux_lemma =>
        cases fx with
        | true =>
          go_wp2_with fail
          go_meet
          exact ⟨by rw [HF.out]; rfl, rfl⟩
        | false =>
          go_wp2_with fail
          go_meet
          exact ⟨by rw [HF.out]; simp, rfl⟩
      obtain ⟨rfl, hwc⟩ := hcut
      rw [hwc]
      clear hwc e1 e2 e3 k0 k11
      -- the head
      have e1 : IntKind.u8.wrap f = f := u8_wrap hf0.1 hf0.2
      have e2 : IntKind.u64.wrap b = b := wrapU64 (by omega) (by omega)
      have HN1 := Lib.hid (show 8 + (bigN' b 2).length ≤ 1000000 by rw [bigN'_len]; decide)
      have HBC := Lib.hid (fun W => rbig_c b 2 2 rfl (by decide) (by omega) (by omega) W)
      have k1 := (HS2.out.blk 0 rfl).cell 1 rfl
      have k2 := (HS2.out.blk 0 rfl).cell 2 rfl
      have k3 := (HS2.out.blk 0 rfl).cell 3 rfl
      have k4 := (HS2.out.blk 0 rfl).cell 4 rfl
      have k5 := (HS2.out.blk 0 rfl).cell 5 rfl
      have k6 := (HS2.out.blk 0 rfl).cell 6 rfl
      have k7 := (HS2.out.blk 0 rfl).cell 7 rfl
      have k8 := (HS2.out.blk 0 rfl).cell 8 rfl
      go_upto_region 12 with fail
      go_cut [7] (fun v wx => Sep [] w3 wx [sumR v ([f, h1, h6, h7, h2, h3, h4, h5] ++ bigL b 2)])
      case first =>
        have HB := Lib.hid (show o < w3.heap.size from (HS2.out.blk 0 rfl).lt)
        refine region_pm [] [0, 1, 2, 3, 4, 5, 6, 7, 8, 9, 10, 11, 12, 13, 14, 15, 16, 17, 18, 19, 20, 21, 22, 24, 25, 26] [23, 27, 28, 29] [Pr.blk 5 #[.int .u8 f, .int .u8 h1, .int .u8 h6, .int .u8 h7, .int .u8 h2, .int .u8 h3, .int .u8 h4, .int .u8 h5] 8 0, Pr.sum (bigN' b 2), Pr.two [f, h1, h6, h7, h2, h3, h4, h5] (bigN' b 2), Pr.sep w3.drew (fun v => [sumR v ([f, h1, h6, h7, h2, h3, h4, h5] ++ bigN' b 2)])] [] [30] (by kernel_rfl) (by kernel_rfl) (by kernel_rfl) rfl ?_
        simp only [remOf, mvs, List.zip_cons_cons, List.zip_nil_right, List.filterMap_cons, List.filterMap_nil, List.getElem?_cons_zero, List.getElem?_cons_succ, Option.map_some]
        have HS3 := Lib.hid HS2.out.drew
        obtain ⟨x3, hx3⟩ : ∃ x, x = w3.drew := ⟨_, rfl⟩
        have hx0 := Lib.hid (show Frm [] w3 x3 from hx3 ▸ (Frm.refl _ _).drew)
        rw [← hx3] at HS3
        rw [← hx3]
        clear hx3
        have n1 : Nonempty (Cls (fun v => Frm [] x3 v)) := ⟨⟨_, Frm.refl _ _⟩⟩
        have q1 := fun x : Cls (fun v => Frm [] x3 v) => (x.ok.blk (HS3.out.blk 0 rfl) (by simp)).cell 1 rfl
        have q2 := fun x : Cls (fun v => Frm [] x3 v) => (x.ok.blk (HS3.out.blk 0 rfl) (by simp)).cell 2 rfl
        have q3 := fun x : Cls (fun v => Frm [] x3 v) => (x.ok.blk (HS3.out.blk 0 rfl) (by simp)).cell 3 rfl
        have q4 := fun x : Cls (fun v => Frm [] x3 v) => (x.ok.blk (HS3.out.blk 0 rfl) (by simp)).cell 4 rfl
        have q5 := fun x : Cls (fun v => Frm [] x3 v) => (x.ok.blk (HS3.out.blk 0 rfl) (by simp)).cell 5 rfl
        have q6 := fun x : Cls (fun v => Frm [] x3 v) => (x.ok.blk (HS3.out.blk 0 rfl) (by simp)).cell 6 rfl
        have q7 := fun x : Cls (fun v => Frm [] x3 v) => (x.ok.blk (HS3.out.blk 0 rfl) (by simp)).cell 7 rfl
        have q8 := fun x : Cls (fun v => Frm [] x3 v) => (x.ok.blk (HS3.out.blk 0 rfl) (by simp)).cell 8 rfl
        show wpQuiet _ _ _ _ [_, _, _, _, _, _, _, _, _, _, _, _, _, _, _, _, _, _, _, _, _, _, _, _, _, _] _
        repeat (go_big_quiet_step (rfl))
        refine wpQuiet_nil ?_
        refine And.intro ?_ ?_
        · show slotsB _ _ = true
          kernel_rfl
        clear q1 k1 q2 k2 q3 k3 q4 k4 q5 k5 q6 k6 q7 k7 q8 k8 n1
        unfold wpMk
        refine ⟨fun X hX hk => ?_, fun v23 => ?_⟩
        · clear hk
          refine mk_run rfl rfl (by kernel_rfl) (.slice (some ⟨X.heap.size, 0, none⟩) 8 8) (X.alloc (.cells #[.int .u8 f, .int .u8 h1, .int .u8 h6, .int .u8 h7, .int .u8 h2, .int .u8 h3, .int .u8 h4, .int .u8 h5] 5)) (by kernel_rfl) ((Frm.refl _ _).alloc _) ⟨X.heap.size, rfl, Blk.made _ _ _, Nat.zero_le _⟩
        unfold wpMk
        refine ⟨fun X hX hk => ?_, fun v27 => ?_⟩
        · clear hk
          refine only_step (fun K' hK => ?_)
          go_wp2_with fail
          refine (HBC.out X).mono ?_
          rintro e w5 ⟨vb, rfl, hSb⟩
          go_wp2_with fail
          refine hK.out _ _ ⟨hSb.frm, rfl, AtSum.of hSb⟩
        unfold wpMk
        refine ⟨fun X hX hk => ?_, fun v28 => ?_⟩
        · obtain ⟨a2, c2, rfl, hr2, -⟩ := hk 0 _ _ rfl (by kernel_rfl)
          obtain ⟨g1, rfl, hb1, -⟩ := hk 1 _ _ rfl (by kernel_rfl)
          clear hk
          have hR1 := RdI.of_blk (k := .u8) hb1 (zs := [f, h1, h6, h7, h2, h3, h4, h5]) rfl
          have H1 := Lib.hid (And.intro hr2 hR1)
          clear hr2 hb1 hR1
          refine only_step (fun K' hK => ?_)
          go_wp2_with fail
          refine hK.out _ _ ⟨(Frm.refl _ _).alloc _, rfl, X.heap.size, some ⟨g1, 0, none⟩, 8, a2, c2, rfl, Blk.made _ _ _, H1.out.2.alloc _, H1.out.1.alloc _⟩
        unfold wpMk
        refine ⟨fun X hX hk => ?_, fun v29 => ?_⟩
        · obtain ⟨g, a1, c1, a2, c2, rfl, hb, h1, h2⟩ := hk 0 _ _ rfl (by kernel_rfl)
          clear hk
          have HJ := Lib.hid (join2_c (cap := 2) hb h1 h2 rfl rfl HN1.out)
          clear hb h1 h2
          refine only_step (fun K' hK => ?_)
          go_wp2_with fail
          refine HJ.out.mono ?_
          rintro e w6 ⟨v6, rfl, hS6⟩
          go_wp2_with fail
          refine hK.out _ _ ⟨hS6.frm, rfl, ?_⟩
          exact ((Sep.init x3).keep hX).more hS6
        unfold wpMk
        simp only [Act.put, List.setIfInBounds_toArray, List.set_cons_succ, List.set_cons_zero]
        intro X hX hk
        have HJ := Lib.hid (show Sep [] x3 X [sumR v29 ([f, h1, h6, h7, h2, h3, h4, h5] ++ bigN' b 2)] from hk 0 _ _ rfl)
        clear hk
        unfold wpSegs
        have n1 : Nonempty (Cls (fun v => Frm [] X v)) := ⟨⟨_, Frm.refl _ _⟩⟩
        show wpQuiet _ _ _ _ [_] _
        repeat (go_big_quiet_step (rfl))
        refine wpQuiet_nil ?_
        refine NoPanic.normal ?_
        rename_i J0 K0 hJ0 hK0
        refine hK0 _ _ ?_
        go_meet
        exact ((Sep.init w3).keep hx0.out).more HJ.out
      obtain ⟨a7, c7, rfl, -, -⟩ := own_shape (hcut.own 0 rfl)
      have HS4 := Lib.hid (show Sep [] w wc [sumR (.slice a7 10 c7) ([f, h1, h6, h7, h2, h3, h4, h5] ++ bigL b 2), blkR o 36 #[.int .u8 h0, .int .u8 h1, .int .u8 h2, .int .u8 h3, .int .u8 h4, .int .u8 h5, .int .u8 h6, .int .u8 h7, .int .u16 b, .int .u64 (h : Int), .int .u64 (l : Int), .bool fx, .int .i64 L, .int .i64 D, .slice a n c]] from HS2.out.more hcut)
      have HF3 := Lib.hid (show Frm [] w3 wc from hcut.frm)
      clear hcut e1 e2 HN1 HBC k1 k2 k3 k4 k5 k6 k7 k8
      obtain ⟨M, hM⟩ : ∃ M, M = if fx then [L, D] else mkB h l 3 0 := ⟨_, rfl⟩
      have HM := Lib.hid hM
      clear hM
      have hc11 := (HS4.out.blk 1 rfl).cell 11 rfl
      go_upto_if 121 with fail
      clear hc11
      go_cut [7] (fun v wx => Sep [] w wx [sumR v ([f, h1, h6, h7, h2, h3, h4, h5] ++ bigL b 2 ++ M), blkR o 36 #[.int .u8 h0, .int .u8 h1, .int .u8 h2, .int .u8 h3, .int .u8 h4, .int .u8 h5, .int .u8 h6, .int .u8 h7, .int .u16 b, .int .u64 (h : Int), .int .u64 (l : Int), .bool fx, .int .i64 L, .int .i64 D, .slice a n c]])
      case first =>
        cases fx with
        | true =>
          obtain rfl : M = [L, D] := HM.out
          obtain ⟨g1, g2, g3, g4, -⟩ : 1 ≤ L ∧ L ≤ 255 ∧ 0 ≤ D ∧ D ≤ 255 ∧ _ := HGo.out.fix rfl
          have e1 : IntKind.u8.wrap L = L := u8_wrap (by omega) (by omega)
          have e2 : IntKind.u8.wrap D = D := u8_wrap (by omega) (by omega)
          have hc12 := (HS4.out.blk 1 rfl).cell 12 rfl
          have hc13 := (HS4.out.blk 1 rfl).cell 13 rfl
          obtain ⟨i0, hi, hz0, hz1, hz2⟩ := info_parts info_u8
          have HA1 := Lib.hid (HS4.out.alloc #[.int .u8 L, .int .u8 D] 5)
          have HR1 := Lib.hid (RdI.of_blk (k := .u8) (HA1.out.blk 0 rfl) (zs := [L, D]) rfl)
          go_wp2_with (at_builtin; go_must (refine wpList_append_said rfl _ _ 22 rfl 1 5 i0 (.int .u8 0) 1 Tryd.underlying22 hi hz0 hz1 hz2 rfl .u8 _ 10 (([f, h1, h6, h7, h2, h3, h4, h5] ++ bigL b 2).map (Value.int .u8)) rfl HA1.out rfl (some ⟨wc.heap.size, 0, none⟩) 2 2 [L, D] rfl rfl (fun h => by cases h) HR1.out 12 rfl (([f, h1, h6, h7, h2, h3, h4, h5] ++ bigL b 2 ++ [L, D]).map (Value.int .u8)) (by rw [List.map_append (l₂ := [L, D])]) (by decide) (by decide) ?_); intro v4 w4 hS5; have HS5 := Lib.hid hS5; clear hS5)
          go_meet
          exact HS5.out.at_ [1, 2] (by decide) rfl
        | false =>
          obtain rfl : M = mkB h l 3 0 := HM.out
          obtain ⟨-, -, g3⟩ := HGo.out.msk rfl
          have g4 : laN h l < 109 := HGo.out.last
          go_wp2_with fail
          have hct0 : ct ≠ 0 := by
            rw [HCt.out, HBits.out.2.2]
            exact fun h => g3 ((cnt_none rh rl).1 h)
          have HA3 : Hid (mkA 0 = 0 ∧ mkA 1 = 15 ∧ mkA 2 = 46) := Lib.hid (by decide)
          clear HM HLg2 HGd2 HA3
          go_loopw [7, 8, 9] (fun v fr kk wx => ∃ (k : Nat) (pre : List Int), k < 3 ∧ pre.length ≤ 10 + 8 * k ∧ fr = .int .i64 (mkA k : Int) ∧ kk = .int .i64 k ∧ pre ++ mkB h l (3 - k) k = [f, h1, h6, h7, h2, h3, h4, h5] ++ bigL b 2 ++ mkB h l 3 0 ∧ Frm [] w3 wx ∧ Sep [] w wx [sumR v pre, blkR o 36 #[.int .u8 h0, .int .u8 h1, .int .u8 h2, .int .u8 h3, .int .u8 h4, .int .u8 h5, .int .u8 h6, .int .u8 h7, .int .u16 b, .int .u64 (h : Int), .int .u64 (l : Int), .bool false, .int .i64 L, .int .i64 D, .slice a n c]]) (fun _ _ kk _ => 3 - (intOf kk).toNat)
          case atStart => exact ⟨0, [f, h1, h6, h7, h2, h3, h4, h5] ++ bigL b 2, by decide, by simp [bigL_len], rfl, rfl, rfl, HF3.out, HS4.out⟩
          case round =>
            obtain ⟨k, pre, hk, hpl, rfl, rfl, hpre, hfr, hS⟩ := hrel
            have HS := Lib.hid hS
            have HFr := Lib.hid hfr
            have HPre := Lib.hid hpre
            clear hS hfr hpre HS4 HF3
            obtain ⟨a6, c6, hv6, -, -⟩ := own_shape (HS.out.own 0 rfl)
            subst hv6
            have He1 := Lib.hid (show wrap64 (2 * 2 ^ k) = (mkS k : Int) by
              have : k = 0 ∨ k = 1 ∨ k = 2 := by omega
              rcases this with rfl | rfl | rfl <;> decide +kernel)
            have hNZ : 8 * mkS k = mkN k + 1 ∧ 2 ≤ mkS k ∧ mkS k ≤ 8 := by
              have : k = 0 ∨ k = 1 ∨ k = 2 := by omega
              rcases this with rfl | rfl | rfl <;> decide
            have hA : mkA k ≤ 46 := by
              have : k = 0 ∨ k = 1 ∨ k = 2 := by omega
              rcases this with rfl | rfl | rfl <;> decide
            have hA2 : laN h l < (mkA k : Int) + (mkN k : Int) ∨ (k < 2 ∧ mkA (k + 1) = mkA k + mkN k) := by
              have : k = 0 ∨ k = 1 ∨ k = 2 := by omega
              rcases this with rfl | rfl | rfl
              · exact .inr (by decide)
              · exact .inr (by decide)
              · exact .inl (by simp [mkA, mkN]; omega)
            have HMk := Lib.hid (show mkB h l (3 - k) k = if laN h l < (mkA k : Int) + (mkN k : Int) then bigL ((ptN h l (mkA k) (mkN k) : Int) + 2 ^ mkN k) (mkS k) else bigL (ptN h l (mkA k) (mkN k) : Int) (mkS k) ++ mkB h l (2 - k) (k + 1) by
              rw [show 3 - k = (2 - k) + 1 by omega]; rfl)
            have HHd := Lib.hid (show (held (mkA k : Int) (-200) 200) = (mkA k : Int) ∧ (held (mkN k : Int) 0 64).toNat = mkN k by
              refine ⟨held_mid (by omega) (by omega), ?_⟩
              rw [held_mid (by omega) (by omega)]; omega)
            have hpr := HPr.out (mkA k) (mkN k)
            rw [HHd.out.1, HHd.out.2] at hpr
            have hptl := HPt.out (mkA k) (mkN k) (by omega)
            obtain ⟨A, hAe⟩ : ∃ A, A = mkA k := ⟨_, rfl⟩
            obtain ⟨N, hNe⟩ : ∃ N, N = mkN k := ⟨_, rfl⟩
            obtain ⟨Z, hZe⟩ : ∃ Z, Z = mkS k := ⟨_, rfl⟩
            rw [← hAe, ← hNe] at hA2 HMk hpr hptl
            rw [← hZe] at HMk He1 hNZ
            rw [← hAe] at hA
            rw [← hNe] at hNZ
            obtain ⟨pt, hpt⟩ : ∃ pt, pt = ptN h l A N := ⟨_, rfl⟩
            rw [← hpt] at HMk hpr hptl
            have hp63 : pt < 2 ^ 63 := Nat.lt_of_lt_of_le hptl (Nat.pow_le_pow_right (by decide) (by omega))
            have HCp := Lib.hid (fun X (hX : Frm [] w3 X) => (by have h := rpart_c ab cb bs A N X (HRb.out X (HF23.out.trans hX)) Hb128.out (by omega) (by omega); rw [← hpr] at h; exact h : Calls Tryd.prog 45 #[.slice ab 128 cb, .int .i64 (A : Int), .int .i64 (N : Int)] X fun e w' => e = .returned (.int .u64 (pt : Int)) ∧ X = w'))
            have HCb := Lib.hid (fun X => rbig_c pt Z (wrap64 (2 * 2 ^ k)) He1.out (by omega) (by omega) (by omega) X)
            have HMf := Lib.hid (mark_first (X := pt) (N := N) (Z := Z) hptl (by omega) (by omega))
            have HlaE := Lib.hid (HBits.out.2.1.trans HLa.out.symm)
            have e2 : 8 * (Z : Int) - 1 = (N : Int) := by omega
            rw [← hAe]
            have HAe := Lib.hid hAe
            have HA2 := Lib.hid hA2
            have HNZ := Lib.hid hNZ
            have HPl := Lib.hid hpl
            have z1 : 1 ≤ Z := by omega
            have z2 : Z ≤ 8 := by omega
            have z3 : N ≤ 63 := by omega
            have HW1 := Lib.hid (show wrap64 (wrap64 (8 * wrap64 (2 * 2 ^ k)) - 1) = (N : Int) by
              rw [He1.out, show wrap64 (8 * (Z : Int)) = 8 * (Z : Int) from IntWalk.wrap64_in _ (by omega), e2]
              exact IntWalk.wrap64_in _ (by omega))
            clear e2
            clear hpr hptl hpt hAe hNe hZe HHd He1 hp63 hA2 hNZ hpl
            go_upto_region 20 with fail
            rw [HW1.out]
            -- the part, as bytes
            refine region_segsP (G := []) [0, 1, 2, 4, 5, 3, 6, 7] [5, 0] (by decide) (by kernel_rfl) (by kernel_rfl) (by kernel_rfl) (by kernel_rfl) (by kernel_rfl) (by kernel_rfl) (by kernel_rfl) ?_
            simp only [remOf, List.filterMap_cons, List.filterMap_nil, List.getElem?_cons_zero, List.getElem?_cons_succ]
            have HSx := Lib.hid HS.out.drew
            have HFx := Lib.hid HFr.out.drew
            obtain ⟨x6, hx6⟩ : ∃ x, x = wr.drew := ⟨_, rfl⟩
            rw [← hx6] at HSx HFx
            rw [← hx6]
            clear hx6 HS HFr
            have n1 : Nonempty (Cls (fun v => Frm [] x6 v)) := ⟨⟨_, Frm.refl _ _⟩⟩
            unfold wpSegs
            simp only [List.take_succ_cons, List.take_zero, List.drop_succ_cons, List.drop_zero]
            repeat (go_big_quiet_step (rfl))
            refine wpQuiet_nil ?_
            refine only_step (fun K' hK => ?_)
            clear n1
            go_wp2_with fail
            refine (HCp.out _ HFx.out).mono ?_
            rintro e w7 ⟨rfl, rfl⟩
            go_wp2_with fail
            refine hK.out _ _ ⟨Frm.refl _ _, ?_⟩
            clear hK
            have n1 : Nonempty (Cls (fun v => Frm [] x6 v)) := ⟨⟨_, Frm.refl _ _⟩⟩
            unfold wpSegs
            simp only [List.take_succ_cons, List.take_zero, List.drop_succ_cons, List.drop_zero]
            repeat (go_big_quiet_step (rfl))
            refine wpQuiet_nil ?_
            refine only_step (fun K' hK => ?_)
            clear n1
            go_wp2_with fail
            refine (HCb.out _).mono ?_
            rintro e w8 ⟨v8, rfl, hS8⟩
            go_wp2_with fail
            have HS8 := Lib.hid (show Sep [] w w8 [sumR v8 (bigL pt Z), sumR (.slice a6 pre.length c6) pre, blkR o 36 #[.int .u8 h0, .int .u8 h1, .int .u8 h2, .int .u8 h3, .int .u8 h4, .int .u8 h5, .int .u8 h6, .int .u8 h7, .int .u16 b, .int .u64 (h : Int), .int .u64 (l : Int), .bool false, .int .i64 L, .int .i64 D, .slice a n c]] from HSx.out.more hS8)
            have HF8 := Lib.hid (HFx.out.trans hS8.frm)
            refine hK.out _ _ ⟨hS8.frm, ?_⟩
            clear hK hS8 HSx HFx
            obtain ⟨a8, c8, rfl, -, -⟩ := own_shape (HS8.out.own 0 rfl)
            rw [show (bigL (pt : Int) Z).length = Z from bigL_len _ _] at *
            have n1 : Nonempty (Cls (fun v => Frm [] w8 v)) := ⟨⟨_, Frm.refl _ _⟩⟩
            unfold wpSegs
            show wpQuiet _ _ _ _ [_] _
            repeat (go_big_quiet_step (rfl))
            refine wpQuiet_nil ?_
            clear n1
            refine NoPanic.normal ?_
            have hct1 : 0 < ct := by omega
            obtain ⟨bi, oi, rfl, hci⟩ := HZ.out w8 (HF8.out) hct1
            obtain ⟨cm, hcm⟩ : ∃ cm, cm = ct - 1 := ⟨_, rfl⟩
            rw [← hcm] at hci
            have p2 : (ct : Int) - 1 = (cm : Int) := by omega
            have p3 : (cm : Int) < (ct : Int) := by omega
            have p4 : 0 ≤ (cm : Int) := by omega
            have p5 : cm < ct := by omega
            obtain ⟨s, hs⟩ : ∃ s, s = A + N := ⟨_, rfl⟩
            have p6 : (A : Int) + (N : Int) = (s : Int) := by omega
            have p7 : s ≤ 109 := by omega
            have hA2 := HA2.out
            rw [HlaE.out] at hA2 HMk
            rw [← hs, p6] at hA2
            rw [p6] at HMk
            have hA3 := Lib.hid hA2
            obtain ⟨d, hd0, hd1, hd2, hdset⟩ := HMf.out
            have hs8 := HS8.out
            unfold sumR at hs8
            rw [bigL_len] at hs8
            obtain ⟨g8, hg8⟩ := own_addr2 (hs8.own 0 rfl) (show 0 < Z by omega)
            subst hg8
            by_cases hlast : la < (s : Int)
            · have q1 : decide (la < (s : Int)) = true := decide_eq_true hlast
              have q2 : IntKind.u8.wrap (d + 128) = d + 128 := u8_wrap (by omega) (by omega)
              have c0 := own_cell2 (hs8.own 0 rfl) (j := 0) (v := .int .u8 d) (by rw [List.getElem?_map, hd0]; rfl)
              have f0 := own_free (hs8.own 0 rfl) 0
              have hst5 := own_set (hs8.own 0 rfl) 0 (.int .u8 (d + 128)) (by omega)
              rw [← List.map_set, hdset] at hst5
              have HS9 := Lib.hid (show Sep [] w (w8.setCell ⟨g8, 0, none⟩ (.int .u8 (d + 128))) [sumR (.slice (some ⟨g8, 0, none⟩) Z c8) (bigL ((pt : Int) + 2 ^ N) Z), sumR (.slice a6 pre.length c6) pre, blkR o 36 #[.int .u8 h0, .int .u8 h1, .int .u8 h2, .int .u8 h3, .int .u8 h4, .int .u8 h5, .int .u8 h6, .int .u8 h7, .int .u16 b, .int .u64 (h : Int), .int .u64 (l : Int), .bool false, .int .i64 L, .int .i64 D, .slice a n c]] from by
                have h := hs8.grow 0 rfl (grown_put (grown_refl w8 _) 0 (.int .u8 (d + 128))) hst5 (.inl rfl)
                unfold sumR
                rw [bigL_len]
                exact h)
              have HLst := Lib.hid hlast
              clear hs8 hst5 hd0 hdset hs hcm hA2 hlast HS8 HA2 hA3 HCp HCb HMf HlaE p5 hct1 HF8
              go_upto_region 25 with fail
              obtain ⟨w9, hw9⟩ : ∃ w9, w9 = w8.setCell ⟨g8, 0, none⟩ (.int .u8 (d + 128)) := ⟨_, rfl⟩
              rw [← hw9] at HS9
              rw [← hw9]
              clear hw9 c0 f0 q2 hci
              have hr1 := RdI.own (k := .u8) (HS9.out.own 1 rfl)
              have hr2 := RdI.own (k := .u8) (HS9.out.own 0 rfl)
              have HR12 := Lib.hid (And.intro hr1 hr2)
              have HNl := Lib.hid (show pre.length + Z ≤ 1000000 by have := HPl.out; omega)
              have HZl := Lib.hid (show (bigL ((pt : Int) + 2 ^ N) Z).length = Z from bigL_len _ _)
              clear hr1 hr2
              go_wp2_with fail
              refine (join2_c (z1 := pre) (z2 := bigL ((pt : Int) + 2 ^ N) Z) (Blk.made _ _ _) (HR12.out.1.alloc _) (HR12.out.2.alloc _) rfl HZl.out HNl.out).mono ?_
              rintro e w10 ⟨v10, rfl, hS10⟩
              have HS10 := Lib.hid (show Sep [] w w10 [sumR v10 (pre ++ bigL ((pt : Int) + 2 ^ N) Z), blkR o 36 #[.int .u8 h0, .int .u8 h1, .int .u8 h2, .int .u8 h3, .int .u8 h4, .int .u8 h5, .int .u8 h6, .int .u8 h7, .int .u16 b, .int .u64 (h : Int), .int .u64 (l : Int), .bool false, .int .i64 L, .int .i64 D, .slice a n c]] from ((HS9.out.skip _).more hS10).at_ [0, 3] (by decide) rfl)
              have HF10 := Lib.hid (((Frm.refl _ w9).alloc _).trans hS10.frm)
              clear hS10 HR12 HNl HZl HS9
              go_wp2_with fail
              go_meet
              rw [← HPre.out, HMk.out, if_pos HLst.out]
              exact HS10.out
            · have q1 : decide (la < (s : Int)) = false := decide_eq_false hlast
              have HLst := Lib.hid hlast
              have HF9 := Lib.hid HF8.out
              have HS9 := Lib.hid (show Sep [] w w8 [sumR (.slice (some ⟨g8, 0, none⟩) Z c8) (bigL (pt : Int) Z), sumR (.slice a6 pre.length c6) pre, blkR o 36 #[.int .u8 h0, .int .u8 h1, .int .u8 h2, .int .u8 h3, .int .u8 h4, .int .u8 h5, .int .u8 h6, .int .u8 h7, .int .u16 b, .int .u64 (h : Int), .int .u64 (l : Int), .bool false, .int .i64 L, .int .i64 D, .slice a n c]] from by
                unfold sumR
                rw [bigL_len]
                exact hs8)
              have HSe := Lib.hid hs
              clear hs8 hd0 hdset hd1 hd2 hs hcm hA2 hlast HS8 HA2 HCp HCb HMf HlaE p5 hct1 HF8
              go_upto_region 25 with fail
              clear hci
              have hr1 := RdI.own (k := .u8) (HS9.out.own 1 rfl)
              have hr2 := RdI.own (k := .u8) (HS9.out.own 0 rfl)
              have HR12 := Lib.hid (And.intro hr1 hr2)
              have HNl := Lib.hid (show pre.length + Z ≤ 1000000 by have := HPl.out; omega)
              have HZl := Lib.hid (show (bigL (pt : Int) Z).length = Z from bigL_len _ _)
              clear hr1 hr2
              go_wp2_with fail
              refine (join2_c (z1 := pre) (z2 := bigL (pt : Int) Z) (Blk.made _ _ _) (HR12.out.1.alloc _) (HR12.out.2.alloc _) rfl HZl.out HNl.out).mono ?_
              rintro e w10 ⟨v10, rfl, hS10⟩
              have HS10 := Lib.hid (show Sep [] w w10 [sumR v10 (pre ++ bigL (pt : Int) Z), blkR o 36 #[.int .u8 h0, .int .u8 h1, .int .u8 h2, .int .u8 h3, .int .u8 h4, .int .u8 h5, .int .u8 h6, .int .u8 h7, .int .u16 b, .int .u64 (h : Int), .int .u64 (l : Int), .bool false, .int .i64 L, .int .i64 D, .slice a n c]] from ((HS9.out.skip _).more hS10).at_ [0, 3] (by decide) rfl)
              have HF10 := Lib.hid (((Frm.refl _ w8).alloc _).trans hS10.frm)
              clear hS10 HR12 HNl HZl HS9
              go_wp2_with fail
              have hk2 := hA3.out.resolve_left (Int.not_lt.2 HLst.out)
              go_roundw
              case rel => exact ⟨k + 1, pre ++ bigL (pt : Int) Z, by omega, by have := HPl.out; rw [List.length_append, bigL_len]; omega, by rw [hk2.2], by go_num, by rw [← HPre.out, HMk.out, if_neg (Int.not_lt.2 HLst.out), List.append_assoc, show 3 - (k + 1) = 2 - k by omega], HF9.out.trans HF10.out, HS10.out⟩
              case measure => simp [intOf]; omega
      clear HS4 HF3 HZ HBits HPt HPr hla1 HLa
      obtain ⟨OU, hOU⟩ : ∃ OU, OU = [f, h1, h6, h7, h2, h3, h4, h5] ++ bigL b 2 ++ M := ⟨_, rfl⟩
      rw [← hOU] at hcut
      have hby : byX ⟨h0, h1, h2, h3, h4, h5, h6, h7, b, h, l, fx, L, D, B⟩ = OU ++ B := by
        rw [hOU, HM.out, HF.out]
        rfl
      have hol : OU.length ≤ 100 := by
        rw [hOU, HM.out]
        have := @mkB_len h l 3 0
        simp only [List.length_append, bigL_len]
        cases fx
        · simp only [List.length_cons, List.length_nil]; simp; omega
        · simp
      rw [hby] at HLg2 HGd2
      clear hby hOU HM HF
      obtain ⟨on, hon⟩ : ∃ on, on = OU.length := ⟨_, rfl⟩
      obtain ⟨a7', c7', hv7, -, -⟩ := own_shape (hcut.own 0 rfl)
      subst hv7
      rw [← hon] at hcut hol ⊢
      have HOn := Lib.hid hon
      have HS4 := Lib.hid hcut
      clear hcut hon
      have hr1 := RdI.own (k := .u8) (HS4.out.own 0 rfl)
      have hr2 := HRd.out _ HS4.out.frm
      have HR12 := Lib.hid (And.intro hr1 hr2)
      have HNl := Lib.hid (show on + n ≤ 1000000 by omega)
      have hc14 := (HS4.out.blk 1 rfl).cell 14 rfl
      clear hr1 hr2 HRd
      go_wp2_with fail
      refine (join2_c (z1 := OU) (z2 := B) (Blk.made _ _ _) (HR12.out.1.alloc _) (HR12.out.2.alloc _) HOn.out.symm HNn.out.symm HNl.out).mono ?_
      rintro e w10 ⟨v10, rfl, hS10⟩
      have HS10 := Lib.hid (show Sep [] w w10 [sumR v10 (OU ++ B)] from ((HS4.out.skip _).more hS10).at_ [0] (by decide) rfl)
      clear hS10 HR12 HNl HS4 hc14
      obtain ⟨a8, c8, hv8, -, -⟩ := own_shape (HS10.out.own 0 rfl)
      subst hv8
      obtain ⟨m, hm⟩ : ∃ m, m = (OU ++ B).length := ⟨_, rfl⟩
      rw [← hm] at HLg2 HGd2 HS10 ⊢
      clear hm
      by_cases hlg : 1500 < m
      · have t9 : decide (1500 < (m : Int)) = true := decide_eq_true (by omega)
        obtain ⟨g1, g2⟩ := HLg2.out hlg
        subst g1 g2
        have HSe := Lib.hid (((Sep.init w).keep HS10.out.frm).nil 5 1)
        clear HLg2 HGd2 hlg
        go_wp2_with fail
        refine bodyPost_ret (v := .tuple #[.slice none 0 0, .int .i64 2]) ?_ rfl ⟨_, rfl, HSe.out⟩
        simp [results, Tryd.results16]
      · have t9 : decide (1500 < (m : Int)) = false := decide_eq_false (by omega)
        obtain ⟨g1, g2⟩ := HGd2.out (by omega)
        subst g1 g2
        clear HLg2 HGd2 hlg
        go_wp2_with fail
        refine bodyPost_ret (v := .tuple #[.slice a8 m c8, .int .i64 0]) ?_ rfl ⟨_, rfl, HS10.out⟩
        simp [results, Tryd.results16]

end Go.Proofs.YtnloabpdjedanaaDoor
