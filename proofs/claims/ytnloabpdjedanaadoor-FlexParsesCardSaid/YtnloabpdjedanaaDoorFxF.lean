/-
  THE WALK of flex.writeMask.
-/
import Derived.Test.YtnloabpdjedanaaDoorFxE
set_option linter.unusedVariables false
set_option linter.unusedSimpArgs false
namespace Go.Proofs.YtnloabpdjedanaaDoor
open Go.RowKit

def Tabs (w : World) : Prop := TabAt 0 Lib.deBruijn64tab w ∧ 0 < w.heap.size
theorem Tabs.frm {S : List Nat} {w w' : World} (h : Tabs w) (hf : Frm S w w') (hs : 0 ∉ S) : Tabs w' := by
  refine ⟨fun j hj => ?_, Nat.lt_of_lt_of_le h.2 hf.size⟩
  rw [hf.cell h.2 hs]
  exact h.1 j hj

theorem mkB_last {h l f k : Nat} (hl : laN h l < (mkA k : Int) + (mkN k : Int)) : mkB h l (f + 1) k = bigL ((ptN h l (mkA k) (mkN k) : Int) + 2 ^ mkN k) (mkS k) := by
  rw [mkB]
  rw [if_pos hl]
theorem mkB_more {h l f k : Nat} (hl : ¬ laN h l < (mkA k : Int) + (mkN k : Int)) : mkB h l (f + 1) k = bigL (ptN h l (mkA k) (mkN k) : Int) (mkS k) ++ mkB h l f (k + 1) := by
  rw [mkB]
  rw [if_neg hl]
theorem mkB_len {h l : Nat} : ∀ f k, (mkB h l f k).length ≤ 8 * f
  | 0, k => by simp [mkB]
  | f + 1, k => by
    have hs : mkS k ≤ 8 := by unfold mkS; split <;> (try split) <;> omega
    by_cases hl : laN h l < (mkA k : Int) + (mkN k : Int)
    · rw [mkB_last hl, bigL_len]; omega
    · rw [mkB_more hl, List.length_append, bigL_len]
      have := @mkB_len h l f (k + 1)
      omega
theorem ptN_lt (h l : Nat) (h0 : h < 18446744073709551616) (h1 : l < 18446744073709551616) (f : Int) {N : Nat} (hN : N ≤ 63) : ptN h l f (N : Int) < 2 ^ N := by
  unfold ptN
  have e : (64 - held (N : Int) 0 64).toNat = 64 - N := by unfold held; rw [if_neg (by omega), if_neg (by omega)]; omega
  rw [e]
  have hd := dwH_lt h l (-(held f (-128) 128)) h0 h1
  rw [Nat.div_lt_iff_lt_mul (Nat.two_pow_pos _), ← Nat.pow_add, show N + (64 - N) = 64 by omega]
  exact hd
theorem laN_in (h l : Nat) (h0 : h < 18446744073709551616) (h1 : l < 18446744073709551616) : -1 ≤ laN h l ∧ laN h l ≤ 127 := by
  have a := czn_le h h0
  have b := czn_le l h1
  unfold laN
  split
  · omega
  · split <;> omega
theorem u_join {p N : Nat} (hp : p < 2 ^ N) (hN : N ≤ 63) : bits .or .u64 (p : Int) ((2 : Int) ^ N) = ((p + 2 ^ N : Nat) : Int) := by
  have h2 : (2 : Nat) ^ N < 18446744073709551616 := Nat.lt_of_lt_of_le (Nat.pow_lt_pow_right (by decide) (show N < 64 by omega)) (by decide)
  rw [show (2 : Int) ^ N = ((2 ^ N : Nat) : Int) by simp, u_or (by omega) h2]
  congr 1
  rw [Nat.or_comm]
  have := Nat.two_pow_add_eq_or_of_lt (i := N) (b := p) hp 1
  simp at this
  omega
theorem u_byte {b j : Nat} (hb : b < 18446744073709551616) : bits .and .u64 ((b / 2 ^ j : Nat) : Int) 255 = ((b / 2 ^ j % 256 : Nat) : Int) := by
  rw [show (255 : Int) = ((255 : Nat) : Int) from rfl, u_and (Nat.lt_of_le_of_lt (Nat.div_le_self _ _) hb) (by decide)]
  congr 1
  exact Nat.and_two_pow_sub_one_eq_mod (b / 2 ^ j) 8
theorem dig_nat (b k j : Nat) (hj : j < k) : dig (b : Int) k j = ((b / 2 ^ (8 * (k - 1 - j)) % 256 : Nat) : Int) := by
  unfold dig
  rw [Nat.pow_mul]
  simp

set_option maxRecDepth 100000 in
set_option maxHeartbeats 8000000 in
theorem writeMask_c (s : Nat) (v : Value) (xs : List Int) (w : World) (F : List Nat) (h : Sep F w w [sumR v xs, wtrR s v]) (hx : xs.length ≤ 900000) (H L : Nat) (h0 : H < 18446744073709551616) (h1 : L < 18446744073709551616) (hT : Tabs w)
    (hF : 0 ∉ F) :
    Calls Tryd.prog 38 #[.pointer (some ⟨s, 0, none⟩), mV H L] w fun e w' => e = .returned (.tuple #[]) ∧ ∃ v', Sep F w w' [sumR v' (xs ++ mkB H L 3 0), wtrR s v'] := by
  have HS0 := Lib.hid h
  have HT := Lib.hid (fun X (hX : Frm F w X) => hT.frm hX hF)
  have HP := Lib.hid (fun f n X => part_c H L f n X h0 h1)
  have HL := Lib.hid (fun X (hX : Frm F w X) => last_c H L X h0 h1 (HT.out X hX).1 (HT.out X hX).2)
  have HPt := Lib.hid (fun f N (hN : N ≤ 63) => ptN_lt H L h0 h1 f hN)
  obtain ⟨la, hla⟩ : ∃ la, la = laN H L := ⟨_, rfl⟩
  have HLa := Lib.hid hla
  rw [← hla] at HL
  have hl1 := laN_in H L h0 h1
  rw [← hla] at hl1
  clear h hT hF h0 h1 hla
  unfold mV at *
  go_enter Tryd.func38, Tryd.ntmps38
  have HSb := Lib.hid ((HS0.out.alloc #[.int .u64 (H : Int), .int .u64 (L : Int)] 29).at_ [1, 2, 0] (by decide) rfl)
  go_upto_region 2 with fail
  obtain ⟨w1, hw1⟩ : ∃ w1, w1 = w.alloc (.cells #[.int .u64 (H : Int), .int .u64 (L : Int)] 29) := ⟨_, rfl⟩
  obtain ⟨o, ho⟩ : ∃ o, o = w.heap.size := ⟨_, rfl⟩
  rw [← hw1, ← ho] at HSb
  rw [← hw1, ← ho]
  clear hw1 ho HS0
  go_wp2_with fail
  refine (parts_c _).mono ?_
  rintro e w2 ⟨rfl, hf⟩
  have HS1 := Lib.hid (HSb.out.keep hf)
  clear hf HSb
  go_wp2_with fail
  go_loopw [4, 11] (fun at' i wr => ∃ (k : Nat) (v' : Value) (Y : List Int), k ≤ 3 ∧ i = .int .i64 (k : Int) ∧ (k < 3 → at' = .int .i64 (mkA k : Int)) ∧ Y ++ mkB H L (3 - k) k = mkB H L 3 0 ∧ Y.length ≤ 8 * k ∧
      Sep F w wr [sumR v' (xs ++ Y), wtrR s v', blkR o 29 #[.int .u64 (H : Int), .int .u64 (L : Int)]]) (fun _ i _ => 3 - (intOf i).toNat)
  case atStart => exact ⟨0, v, [], by omega, rfl, fun _ => rfl, by simp, by simp, by rw [List.append_nil]; exact HS1.out⟩
  case round =>
    obtain ⟨k, v1, Y, hk, rfl, hat, hmk, hY, hS⟩ := hrel
    have HS := Lib.hid hS
    have HMk := Lib.hid hmk
    have HY := Lib.hid hY
    clear hS HS1 hmk hY
    by_cases hlt : k < 3
    · obtain rfl := hat hlt
      obtain ⟨m1, m2, m3, m4, m5, m6⟩ := mk_facts hlt
      have hix := fun W => arr3 k hlt W
      have HLk : Hid (la < (mkA k : Int) + (mkN k : Int) → mkB H L (3 - k) k = bigL ((ptN H L (mkA k) (mkN k) : Int) + 2 ^ mkN k) (mkS k)) := Lib.hid (fun hh => by
        rw [show 3 - k = (2 - k) + 1 by omega]; exact mkB_last (by rw [← HLa.out]; exact hh))
      have HMr : Hid (¬ la < (mkA k : Int) + (mkN k : Int) → mkB H L (3 - k) k = bigL (ptN H L (mkA k) (mkN k) : Int) (mkS k) ++ mkB H L (2 - k) (k + 1)) := Lib.hid (fun hh => by
        rw [show 3 - k = (2 - k) + 1 by omega]; exact mkB_more (by rw [← HLa.out]; exact hh))
      obtain ⟨N, hN⟩ : ∃ N, N = mkN k := ⟨_, rfl⟩
      obtain ⟨A, hA⟩ : ∃ A, A = mkA k := ⟨_, rfl⟩
      obtain ⟨Z, hZ⟩ : ∃ Z, Z = mkS k := ⟨_, rfl⟩
      rw [← hN] at m1 m2 m5 hix
      rw [← hA] at m6 ⊢
      rw [← hZ] at m1 m2 m3 m4
      rw [← hN, ← hA, ← hZ] at HLk HMr
      have k0 : (k : Int) < 3 := by omega
      have e1 : IntKind.i64.wrap ((N : Int) + 1) = (N : Int) + 1 := IntWalk.i64_in _ (by omega)
      have e2 : ((N : Int) + 1).tdiv 8 = (Z : Int) := by rw [Int.tdiv_eq_ediv_of_nonneg (by omega)]; omega
      have e3 : IntKind.i64.wrap ((A : Int) + (N : Int)) = (A : Int) + (N : Int) := IntWalk.i64_in _ (by omega)
      have e4 : IntKind.i64.wrap ((Z : Int) - 1) = (Z : Int) - 1 := IntWalk.i64_in _ (by omega)
      have HAN := Lib.hid (And.intro hA (And.intro hN hZ))
      have c0 := (HS.out.blk 2 rfl).cell 0 rfl
      have c1 := (HS.out.blk 2 rfl).cell 1 rfl
      have hXlt := HPt.out (A : Int) N m5
      obtain ⟨X, hX⟩ : ∃ X, X = ptN H L (A : Int) (N : Int) := ⟨_, rfl⟩
      have hp := HP.out (A : Int) (N : Int)
      rw [← hX] at hp HLk HMr hXlt
      have HP2 := Lib.hid hp
      have hX8 : X < 9223372036854775808 := Nat.lt_of_lt_of_le hXlt (Nat.le_trans (Nat.pow_le_pow_right (by decide) m5) (by decide))
      have HXl := Lib.hid hXlt
      clear hN hA hZ hX hp hat hXlt
      go_wp2_with fail
      refine (HP2.out _).mono ?_
      rintro e w3 ⟨rfl, hf⟩
      have HS3 := Lib.hid (HS.out.keep hf)
      clear hf HS HP2 c0 c1
      have c0 := (HS3.out.blk 2 rfl).cell 0 rfl
      have c1 := (HS3.out.blk 2 rfl).cell 1 rfl
      go_wp2_with fail
      refine (HL.out _ HS3.out.frm).mono ?_
      rintro e w4 ⟨rfl, hf⟩
      have HS4 := Lib.hid (HS3.out.keep hf)
      clear hf HS3 c0 c1
      obtain ⟨E, hE⟩ : ∃ E : Nat, E = if la < (A : Int) + (N : Int) then X + 2 ^ N else X := ⟨_, rfl⟩
      obtain ⟨T, hT⟩ : ∃ T : Bool, T = decide (la < (A : Int) + (N : Int)) := ⟨_, rfl⟩
      have hE8 : E < 18446744073709551616 := by
        have h2 : (2 : Nat) ^ N ≤ 2 ^ 63 := Nat.pow_le_pow_right (by decide) m5
        rw [hE]; split <;> omega
      have HE := Lib.hid hE
      have HTt := Lib.hid hT
      have ht : decide (la < (A : Int) + (N : Int)) = T := hT.symm
      clear hE hT
      have hjn := fun (hh : la < (A : Int) + (N : Int)) => u_join (p := X) (N := N) HXl.out m5
      go_upto_if 25 with fail
      go_cut [7] (fun v wx => v = .int .u64 (E : Int) ∧ wx = w4)
      case first =>
        by_cases hh : la < (A : Int) + (N : Int)
        · have t1 : T = true := by rw [HTt.out]; exact decide_eq_true hh
          subst t1
          have e5 := hjn hh
          have hE : E = X + 2 ^ N := by rw [HE.out, if_pos hh]
          rw [← hE] at e5
          clear hE hjn hh
          have hw : IntKind.u64.wrap ((2 : Int) ^ N) = (2 : Int) ^ N := by
            have h2 : (2 : Nat) ^ N ≤ 2 ^ 63 := Nat.pow_le_pow_right (by decide) m5
            have h3 : (((2 : Nat) ^ N : Nat) : Int) = (2 : Int) ^ N := by simp
            rw [← h3]; exact u_wrap (by omega)
          have hmn : min N 64 = N := by omega
          go_wp2_with fail
          go_meet
          exact ⟨rfl, rfl⟩
        · have t1 : T = false := by rw [HTt.out]; exact decide_eq_false hh
          subst t1
          have hE : E = X := by rw [HE.out, if_neg hh]
          subst hE
          go_wp2_with fail
          go_meet
          exact ⟨rfl, rfl⟩
      case rest =>
        obtain ⟨rfl, rfl⟩ := hcut
        obtain ⟨w5, rfl⟩ : ∃ w5, w5 = wc := ⟨_, rfl⟩
        clear hjn ht hl1 hX8
        have HLen : Hid (xs.length ≤ 900000) := Lib.hid hx
        go_wp2_with fail
        go_loopw [9] (fun i wr => ∃ (r j : Nat) (v' : Value), r + j = Z ∧ i = .int .i64 ((r : Int) - 1) ∧
          Sep F w wr [sumR v' (xs ++ Y ++ (bigL (E : Int) Z).take j), wtrR s v', blkR o 29 #[.int .u64 (H : Int), .int .u64 (L : Int)]]) (fun i _ => (intOf i + 1).toNat)
        case atStart => exact ⟨Z, 0, v1, by omega, rfl, by rw [List.take_zero, List.append_nil]; exact HS4.out⟩
        case round =>
          obtain ⟨r, j, v2, hrj, rfl, hS⟩ := hrel
          have HSi := Lib.hid hS
          clear hS HS4
          obtain ⟨wi, hwi⟩ : ∃ wi : World, wi = wr := ⟨_, rfl⟩
          rw [← hwi] at HSi ⊢
          clear hwi
          rcases r with _ | r
          · obtain rfl : j = Z := by omega
            have hfull : (bigL (E : Int) j).take j = bigL (E : Int) j := List.take_of_length_le (by rw [bigL_len]; omega)
            rw [hfull] at HSi
            by_cases hh : la < (A : Int) + (N : Int)
            · obtain rfl : T = true := by rw [HTt.out]; exact decide_eq_true hh
              have hE : E = X + 2 ^ N := by rw [HE.out, if_pos hh]
              have hfin : xs ++ Y ++ bigL (E : Int) j = xs ++ mkB H L 3 0 := by
                rw [← HMk.out, HLk.out hh, hE, List.append_assoc]
                congr 3
              rw [hfin] at HSi
              clear hfull hh hE hfin
              go_wp2_with fail
              refine bodyPost_ret (results_none rfl _ _ _) rfl ⟨rfl, v2, HSi.out.at_ [0, 1] (by decide) rfl⟩
            · obtain rfl : T = false := by rw [HTt.out]; exact decide_eq_false hh
              have hE : E = X := by rw [HE.out, if_neg hh]
              have hmo : (Y ++ bigL (E : Int) j) ++ mkB H L (3 - (k + 1)) (k + 1) = mkB H L 3 0 := by
                rw [← HMk.out, HMr.out (by omega), hE, List.append_assoc, show 3 - (k + 1) = 2 - k by omega]
              have HMo := Lib.hid hmo
              have hA2 : Hid (k + 1 < 3 → ((A : Int) + (N : Int)) = (mkA (k + 1) : Int)) := Lib.hid (fun h3 => by
                rw [HAN.out.1, HAN.out.2.1]
                rcases (show k = 0 ∨ k = 1 by omega) with rfl | rfl <;> rfl)
              have hk3 : k + 1 ≤ 3 := by omega
              clear hfull hh hE hmo
              go_wp2_with fail
              go_roundw
              case rel => exact ⟨k + 1, v2, Y ++ bigL (E : Int) j, hk3, by go_num, fun h3 => by rw [hA2.out h3], HMo.out, by rw [List.length_append, bigL_len]; have := HY.out; omega, by rw [← List.append_assoc]; exact HSi.out⟩
              case measure => simp [intOf]; omega
          · have hr1 : ((r + 1 : Nat) : Int) - 1 = (r : Int) := by omega
            rw [hr1]
            have hjz : j < Z := by omega
            obtain ⟨y, hy⟩ : ∃ y : Nat, y = 8 * r := ⟨_, rfl⟩
            have y1 : (y : Int) = 8 * (r : Int) := by omega
            have hd := dig_nat E Z j hjz
            rw [show Z - 1 - j = r by omega, ← hy] at hd
            obtain ⟨d, hd2⟩ : ∃ d : Nat, d = E / 2 ^ y % 256 := ⟨_, rfl⟩
            rw [← hd2] at hd
            have d255 : d ≤ 255 := by omega
            have e5 : bits .and .u64 ((E : Int) / 2 ^ y) 255 = (d : Int) := by rw [c_div, u_byte hE8, hd2]
            have e6 : IntKind.i64.wrap (8 * (r : Int)) = (y : Int) := by rw [← y1]; exact IntWalk.i64_in _ (by omega)
            have e7 : IntKind.i64.wrap (d : Int) = (d : Int) := IntWalk.i64_in _ (by omega)
            have e8 : IntKind.i64.wrap ((r : Int) - 1) = (r : Int) - 1 := IntWalk.i64_in _ (by omega)
            have hmn : min y 64 = y := by omega
            have y0 : 0 ≤ (y : Int) := by omega
            have y64 : (y : Int) ≤ 64 := by omega
            have r0 : decide (0 ≤ (r : Int)) = true := decide_eq_true (by omega)
            have HBt := Lib.hid (bigL_take (E : Int) hjz)
            have HD := Lib.hid hd
            have hsz : (xs ++ Y ++ (bigL (E : Int) Z).take j).length ≤ 1000000 := by
              rw [List.length_append, List.length_append, List.length_take, bigL_len]
              have := HY.out
              omega
            have HB := Lib.hid (HSi.out.wr (wbyte_c _ _ _ _ _ HSi.out.part2 hsz (d : Int) (by omega) (by omega)))
            clear hd hd2 hy y1 hr1 hsz
            go_wp2_with fail
            refine HB.out.mono ?_
            rintro e w6 ⟨rfl, v3, h⟩
            rw [bigL_one, show (d : Int) % 256 = (d : Int) by omega, ← HD.out, List.append_assoc, ← HBt.out] at h
            have HS6 := Lib.hid h
            clear h HB
            go_wp2_with fail
            go_roundw
            case rel => exact ⟨r, j + 1, v3, by omega, rfl, HS6.out⟩
            case measure => simp [intOf]
    · obtain rfl : k = 3 := by omega
      have h3 : Y = mkB H L 3 0 := by rw [← HMk.out]; simp [mkB]
      subst h3
      go_wp2_with fail
      go_end0
      exact ⟨rfl, v1, HS.out.at_ [0, 1] (by decide) rfl⟩

end Go.Proofs.YtnloabpdjedanaaDoor
