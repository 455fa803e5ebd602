/-
  THE WALKS of flex.parts, flex.readMask.
-/
import Derived.Test.YtnloabpdjedanaaDoorFxP
import Derived.Test.YtnloabpdjedanaaDoorBb
import Derived.Deep.QuietTactic
import Derived.BigQuiet
set_option linter.unusedVariables false
set_option linter.unusedSimpArgs false
namespace Go.Proofs.YtnloabpdjedanaaDoor
open Go.RowKit

theorem parts_c (w : World) : Calls Tryd.prog 61 #[] w fun e w' => e = .returned (.agg #[.int .i64 15, .int .i64 31, .int .i64 63]) ∧ Frm [] w w' := by
  have HS := Lib.hid (((Sep.init w).alloc #[.int .i64 0, .int .i64 0, .int .i64 0] 100))
  go_enter Tryd.func61, Tryd.ntmps61
  go_wp2_with fail
  have h5 := (Sep.init w).alloc #[.int .i64 15, .int .i64 31, .int .i64 63] 100
  have e0 := (h5.blk 0 rfl).cell 0 rfl
  have e1 := (h5.blk 0 rfl).cell 1 rfl
  have e2 := (h5.blk 0 rfl).cell 2 rfl
  obtain ⟨wx, hwx⟩ : ∃ wx, wx = w.alloc (.cells #[.int .i64 15, .int .i64 31, .int .i64 63] 100) := ⟨_, rfl⟩
  rw [← hwx] at h5 e0 e1 e2 ⊢
  refine bodyPost_ret (v := .agg #[.int .i64 15, .int .i64 31, .int .i64 63]) ?_ rfl ⟨rfl, h5.frm⟩
  simp [results, Tryd.results61, go_sem, e0, e1, e2]

theorem cut_more (zs : List Int) (p j : Nat) : cut zs p (j + 1) = cut zs p j ++ cut zs (p + j) 1 := by
  unfold cut
  rw [← List.drop_drop]
  exact List.take_add (l := zs.drop p) (i := j) (j := 1)
theorem cut_snoc {zs : List Int} {p j : Nat} {y : Int} (h : cut zs (p + j) 1 = [y]) : cut zs p (j + 1) = cut zs p j ++ [y] := by rw [cut_more, h]
theorem cut_byte {zs : List Int} (hb : Byt zs) {p : Nat} (h : p + 1 ≤ zs.length) : ∃ y, cut zs p 1 = [y] ∧ 0 ≤ y ∧ y ≤ 255 ∧ bigN (cut zs p 1) = y ∧ zs[p]? = some y := by
  have hlt : p < zs.length := by omega
  have e : cut zs p 1 = [zs[p]] := by unfold cut; rw [List.drop_eq_getElem_cons hlt]; rfl
  exact ⟨zs[p], e, (hb _ (List.getElem_mem hlt)).1, (hb _ (List.getElem_mem hlt)).2, by rw [e]; simp [bigN], List.getElem?_eq_getElem hlt⟩

theorem arr3 (k : Nat) (hk : k < 3) (w : World) : (Instr.index 100 (.agg #[.int .i64 15, .int .i64 31, .int .i64 63]) (.int .i64 (k : Int))).run Tryd.prog w = .ok (.int .i64 (mkN k : Int)) w := by
  rcases (show k = 0 ∨ k = 1 ∨ k = 2 by omega) with rfl | rfl | rfl <;> kernel_rfl
theorem mkS_eq {k : Nat} (hk : k < 3) : (mkN k + 1) / 8 = mkS k ∧ mkN k + 1 = 8 * mkS k ∧ mkS k ≤ 8 ∧ mkN k ≤ 63 ∧ mkA k + mkN k = mkA (k + 1) ∨ k = 2 ∧ (mkN k + 1) / 8 = mkS k ∧ mkN k + 1 = 8 * mkS k ∧ mkS k ≤ 8 ∧ mkN k ≤ 63 := by
  rcases (show k = 0 ∨ k = 1 ∨ k = 2 by omega) with rfl | rfl | rfl <;> simp [mkS, mkN, mkA]
theorem mk_facts {k : Nat} (hk : k < 3) : (mkN k + 1) / 8 = mkS k ∧ mkN k + 1 = 8 * mkS k ∧ mkS k ≤ 8 ∧ 1 ≤ mkS k ∧ mkN k ≤ 63 ∧ mkA k ≤ 46 := by
  rcases (show k = 0 ∨ k = 1 ∨ k = 2 by omega) with rfl | rfl | rfl <;> simp [mkS, mkN, mkA]

/-- What readMask gives. -/
def MaskP (w : World) (g : Nat) (a : Option Addr) (c : Nat) (zs : List Int) (r : Except Int (Nat × Nat × Nat)) (x : Ending) (w' : World) : Prop :=
  match r with
  | .error e => x = .panicked (faultV e) ∧ Frm [g] w w'
  | .ok (h, l, n) => x = .returned (mV h l) ∧ Rdr w' g a c zs n ∧ Frm [g] w w'

set_option maxRecDepth 100000 in
set_option maxHeartbeats 8000000 in
theorem readMask_c {w : World} {g : Nat} {a : Option Addr} {c : Nat} {zs : List Int} {p : Nat} (hR : Rdr w g a c zs p) :
    Calls Tryd.prog 56 #[.pointer (some ⟨g, 0, none⟩)] w (MaskP w g a c zs (mkF zs 3 0 p 0 0)) := by
  obtain ⟨M, hM⟩ : ∃ M, M = mkF zs 3 0 p 0 0 := ⟨_, rfl⟩
  rw [← hM]
  have HS0 := Lib.hid ((((Sep.enter (r := blkR g 106 #[.slice a zs.length c, .int .i64 (p : Int)]) hR.blk).alloc #[.int .u64 0, .int .u64 0] 29).alloc #[.int .u64 0, .int .u64 0] 29))
  simp only [World.size_alloc] at HS0
  have HR0 := Lib.hid hR
  have HM := Lib.hid hM
  clear hR hM
  go_enter Tryd.func56, Tryd.ntmps56
  go_upto_region 2 with fail
  obtain ⟨w1, hw1⟩ : ∃ w1, w1 = (w.alloc (.cells #[.int .u64 0, .int .u64 0] 29)).alloc (.cells #[.int .u64 0, .int .u64 0] 29) := ⟨_, rfl⟩
  obtain ⟨o, ho⟩ : ∃ o, o = w.heap.size := ⟨_, rfl⟩
  rw [← hw1, ← ho] at HS0
  rw [← hw1, ← ho]
  clear hw1 ho
  go_wp2_with fail
  refine (parts_c _).mono ?_
  rintro e w2 ⟨rfl, hf⟩
  have HS1 := Lib.hid (HS0.out.keep hf)
  clear hf HS0
  go_wp2_with fail
  go_loopw [4, 9] (fun at' i wr => ∃ (k P H L : Nat), k ≤ 3 ∧ i = .int .i64 (k : Int) ∧ (k < 3 → at' = .int .i64 (mkA k : Int)) ∧ mkF zs (3 - k) k P H L = M ∧ P ≤ zs.length ∧ H < 18446744073709551616 ∧ L < 18446744073709551616 ∧
      Sep [g] w wr [blkR (o + 1) 29 #[.int .u64 (H : Int), .int .u64 (L : Int)], blkR o 29 #[.int .u64 0, .int .u64 0], blkR g 106 #[.slice a zs.length c, .int .i64 (P : Int)]]) (fun _ i _ => 3 - (intOf i).toNat)
  case atStart => exact ⟨0, p, 0, 0, by omega, rfl, fun _ => rfl, HM.out.symm, HR0.out.le, by decide, by decide, HS1.out⟩
  case round =>
    obtain ⟨k, P, H, L, hk, rfl, hat, hmk, hP, hH, hL, hS⟩ := hrel
    have HS := Lib.hid hS
    have HMk := Lib.hid hmk
    clear hS HS1 hmk
    by_cases hlt : k < 3
    · obtain rfl := hat hlt
      obtain ⟨m1, m2, m3, m4, m5, m6⟩ := mk_facts hlt
      have hix := fun W => arr3 k hlt W
      obtain ⟨N, hN⟩ : ∃ N, N = mkN k := ⟨_, rfl⟩
      obtain ⟨A, hA⟩ : ∃ A, A = mkA k := ⟨_, rfl⟩
      obtain ⟨Z, hZ⟩ : ∃ Z, Z = mkS k := ⟨_, rfl⟩
      rw [← hN] at m1 m2 m5 hix
      rw [← hA] at m6 ⊢
      rw [← hZ] at m1 m2 m3 m4
      have k0 : (k : Int) < 3 := by omega
      have e1 : IntKind.i64.wrap ((N : Int) + 1) = (N : Int) + 1 := IntWalk.i64_in _ (by omega)
      have e2 : ((N : Int) + 1).tdiv 8 = (Z : Int) := by rw [Int.tdiv_eq_ediv_of_nonneg (by omega)]; omega
      have HK := Lib.hid (And.intro hN (And.intro hA hZ))
      clear hN hA hZ hat
      go_wp2_with fail
      clear k0 e1 e2 hix
      go_loopw [7, 15] (fun v i wi => ∃ j : Nat, j ≤ Z ∧ i = .int .i64 (j : Int) ∧ v = .int .u64 (bigN (cut zs P j)) ∧ P + j ≤ zs.length ∧
        Sep [g] w wi [blkR (o + 1) 29 #[.int .u64 (H : Int), .int .u64 (L : Int)], blkR o 29 #[.int .u64 0, .int .u64 0], blkR g 106 #[.slice a zs.length c, .int .i64 ((P + j : Nat) : Int)]]) (fun _ i _ => Z - (intOf i).toNat)
      case atStart => exact ⟨0, by omega, rfl, rfl, by omega, HS.out⟩
      case round =>
        obtain ⟨j, hj, rfl, rfl, hPj, hS⟩ := hrel
        have HSi := Lib.hid hS
        have hRd := HR0.out.to hS.frm (hS.blk 2 rfl) hPj
        have hbt := HR0.out.byt
        clear hS HS
        by_cases hjl : j < Z
        · have j1 : (j : Int) < (Z : Int) := by omega
          by_cases hsh : zs.length < P + j + 1
          · have HB := Lib.hid (byte_short hRd hsh)
            have hme : M = .error 20 := by rw [← HMk.out, show 3 - k = (2 - k) + 1 by omega]; exact mkF_short (by rw [← HK.out.2.2]; omega)
            subst hme
            clear hRd hbt hsh
            go_wp2_with fail
            refine HB.out.mono ?_
            rintro x w3 ⟨rfl, hF⟩
            exact ⟨rfl, by simp, HSi.out.frm.trans hF.more⟩
          · obtain ⟨y, hy1, y0, y1, hy2, _⟩ := cut_byte hbt (p := P + j) (by omega)
            have hby := byte_ok hRd (by omega)
            rw [hy2] at hby
            have HB := Lib.hid hby
            have hsn : bigN (cut zs P (j + 1)) = bigN (cut zs P j) * 256 + y := by rw [cut_snoc hy1]; exact bigN_snoc _ _
            obtain ⟨v0, v1⟩ := bigN_small (hbt.cut P j) (k := 7) (by unfold cut; rw [List.length_take]; omega) (Nat.le_refl _)
            obtain ⟨v, hv⟩ : ∃ v, v = bigN (cut zs P j) := ⟨_, rfl⟩
            rw [← hv] at hsn v0 v1 ⊢
            have e1 : IntKind.u64.wrap (v * 256) = v * 256 := wrapU64 (by omega) (by omega)
            have e2 := orJoin v0 v1 y0 y1
            have e3 : IntKind.u64.wrap y = y := wrapU64 (by omega) (by omega)
            have HSn := Lib.hid hsn
            clear hRd hbt hby hsn hv hy1 hy2 hsh v0 v1 y0 y1
            go_wp2_with fail
            refine HB.out.mono ?_
            rintro x w3 ⟨rfl, hR3, hF⟩
            have HS3 := Lib.hid (HSi.out.call 2 rfl hF hR3.blk)
            have HR3 := Lib.hid hR3
            clear hR3 hF HB
            go_wp2_with fail
            go_roundw
            case rel => exact ⟨j + 1, by omega, by go_num, by rw [HSn.out], by have := HR3.out.le; omega, HS3.out⟩
            case measure => simp [intOf]; omega
        · obtain rfl : j = Z := by omega
          have hxl := bigN_lt (hbt.cut P j)
          rw [cut_len hPj] at hxl
          obtain ⟨X, hX⟩ : ∃ X, X = (bigN (cut zs P j)).toNat := ⟨_, rfl⟩
          have hX2 : bigN (cut zs P j) = (X : Int) := by omega
          have hX3 : X < 2 ^ (N + 1) := by
            have h1 : (X : Int) < 256 ^ j := by rw [← hX2]; exact hxl.2
            have h2 : (256 : Int) ^ j = ((2 ^ (8 * j) : Nat) : Int) := by rw [Nat.pow_mul]; simp
            rw [h2] at h1
            rw [m2]
            omega
          rw [hX2]
          have hmk := HMk.out
          rw [show 3 - k = (2 - k) + 1 by omega] at hmk
          have hns : ¬ zs.length < P + mkS k := by rw [← HK.out.2.2]; omega
          have hX8 : X < 18446744073709551616 := by
            have : 2 ^ (N + 1) ≤ 2 ^ 64 := Nat.pow_le_pow_right (by decide) (by omega)
            omega
          have hla := fun W => lay_c (A : Int) (N : Int) X W
          have hoH := lyH_lt (A : Int) (N : Int) X
          have hoL := lyL_lt (A : Int) (N : Int) X
          have hor := fun W => mor_c H L (lyH (A : Int) (N : Int) X) (lyL (A : Int) (N : Int) X) W hH hL hoH hoL
          have hH2 := or_lt hH hoH
          have hL2 := or_lt hL hoL
          have hdv : (X : Int) / 2 ^ N = ((X / 2 ^ N : Nat) : Int) := by rw [Int.natCast_ediv, Int.natCast_pow]; rfl
          have hmn : min N 64 = N := by omega
          have e1 : IntKind.i64.wrap ((A : Int) + (N : Int)) = ((A + N : Nat) : Int) := by rw [show (A : Int) + (N : Int) = ((A + N : Nat) : Int) by omega]; exact IntWalk.i64_in _ (by omega)
          obtain ⟨lH, hlH⟩ : ∃ lH, lH = lyH (A : Int) (N : Int) X := ⟨_, rfl⟩
          obtain ⟨lL, hlL⟩ : ∃ lL, lL = lyL (A : Int) (N : Int) X := ⟨_, rfl⟩
          rw [← hlH, ← hlL] at hla hor
          rw [← hlH] at hH2
          rw [← hlL] at hL2
          obtain ⟨H', hH'⟩ : ∃ H', H' = H ||| lH := ⟨_, rfl⟩
          obtain ⟨L', hL'⟩ : ∃ L', L' = L ||| lL := ⟨_, rfl⟩
          rw [← hH', ← hL'] at hor
          rw [← hH'] at hH2
          rw [← hL'] at hL2
          have HLa := Lib.hid hla
          have HOr := Lib.hid hor
          have hlast : 2 ^ N ≤ X → M = .ok (H', L', P + j) := fun h2 => by
            rw [← hmk, mkF_last hns (by rw [← HK.out.2.2, ← HK.out.1, ← hX]; exact h2), ← HK.out.1, ← HK.out.2.1, ← HK.out.2.2, ← hX, ← hlH, ← hlL, ← hH', ← hL']
          have hmore : ¬ 2 ^ N ≤ X → mkF zs (2 - k) (k + 1) (P + j) H' L' = M := fun h2 => by
            rw [← hmk, mkF_more hns (by rw [← HK.out.2.2, ← HK.out.1, ← hX]; exact h2), ← HK.out.1, ← HK.out.2.1, ← HK.out.2.2, ← hX, ← hlH, ← hlL, ← hH', ← hL']
          have HLs := Lib.hid hlast
          have HMr := Lib.hid hmore
          unfold mV at HLa HOr
          have hq1 : 2 ^ N ≤ X → X / 2 ^ N = 1 := fun h2 => by
            have h3 : X < 2 * 2 ^ N := by rw [Nat.pow_succ] at hX3; omega
            exact Nat.div_eq_of_lt_le (by omega) (by omega)
          have hq0 : ¬ 2 ^ N ≤ X → X / 2 ^ N = 0 := fun h2 => Nat.div_eq_of_lt (by omega)
          obtain ⟨d, hd⟩ : ∃ d, d = X / 2 ^ N := ⟨_, rfl⟩
          rw [← hd] at hq1 hq0 hdv
          obtain ⟨E, hE⟩ : ∃ E, E = P + j := ⟨_, rfl⟩
          rw [← hE] at HSi HLs HMr hPj
          clear hE hxl hX hX2 hX3 hmk hns hX8 hla hoH hoL hor hlH hlL hH' hL' hlast hmore hd hbt hRd HMk
          go_upto_region 11 with fail
          have n1 := HSi.out.inh
          have q0 := Cls.cell (S := [g]) (w0 := w) (L := [blkR (o + 1) 29 #[.int .u64 (H : Int), .int .u64 (L : Int)], blkR o 29 #[.int .u64 0, .int .u64 0], blkR g 106 #[.slice a zs.length c, .int .i64 (E : Int)]]) 0 rfl 0 (v := .int .u64 (H : Int)) rfl
          have q1 := Cls.cell (S := [g]) (w0 := w) (L := [blkR (o + 1) 29 #[.int .u64 (H : Int), .int .u64 (L : Int)], blkR o 29 #[.int .u64 0, .int .u64 0], blkR g 106 #[.slice a zs.length c, .int .i64 (E : Int)]]) 0 rfl 1 (v := .int .u64 (L : Int)) rfl
          refine region_sep_tail 6 HSi.out (by kernel_rfl) (by kernel_rfl) ?_
          simp only [List.take_succ_cons, List.take_zero, List.drop_succ_cons, List.drop_zero]
          repeat (go_big_quiet_step ((rename_i x; first
            | (go_at_call 70; exact call_keeps x.ok (HLa.out _))
            | (go_at_call 65; exact call_keeps x.ok (HOr.out _)))))
          refine wpQuiet_nil ?_
          intro w3 hS3
          have HS3 := Lib.hid hS3
          have c0 := (hS3.blk 0 rfl).cell 0 rfl
          have c1 := (hS3.blk 0 rfl).cell 1 rfl
          have f0 := (hS3.blk 0 rfl).free 0
          have f1 := (hS3.blk 0 rfl).free 1
          clear hS3 n1 q0 q1
          go_upto_region 12 with fail
          have HS4 := Lib.hid ((HS3.out.put 0 rfl 0 (.int .u64 (H' : Int))).put 0 rfl 1 (.int .u64 (L' : Int)))
          obtain ⟨w4, hw4⟩ : ∃ w4, w4 = (w3.setCell ⟨o + 1, 0, none⟩ (.int .u64 (H' : Int))).setCell ⟨o + 1, 1, none⟩ (.int .u64 (L' : Int)) := ⟨_, rfl⟩
          rw [← hw4] at HS4
          rw [← hw4]
          clear hw4 c0 c1 f0 f1 HS3
          by_cases h2 : 2 ^ N ≤ X
          · obtain rfl := hq1 h2
            have hme := HLs.out h2
            subst hme
            clear h2 hq0 hq1
            have c0 := (HS4.out.blk 0 rfl).cell 0 rfl
            have c1 := (HS4.out.blk 0 rfl).cell 1 rfl
            have d0 := (HS4.out.blk 1 rfl).cell 0 rfl
            have d1 := (HS4.out.blk 1 rfl).cell 1 rfl
            have f0 := (HS4.out.blk 1 rfl).free 0
            have f1 := (HS4.out.blk 1 rfl).free 1
            go_wp2_with fail
            have h5 := (HS4.out.put 1 rfl 0 (.int .u64 (H' : Int))).put 1 rfl 1 (.int .u64 (L' : Int))
            have z0 := (h5.blk 1 rfl).cell 0 rfl
            have z1 := (h5.blk 1 rfl).cell 1 rfl
            obtain ⟨wx, hwx⟩ : ∃ wx, wx = (w4.setCell ⟨o, 0, none⟩ (.int .u64 (H' : Int))).setCell ⟨o, 1, none⟩ (.int .u64 (L' : Int)) := ⟨_, rfl⟩
            rw [← hwx] at h5 z0 z1 ⊢
            refine bodyPost_ret (v := .agg #[.int .u64 (H' : Int), .int .u64 (L' : Int)]) ?_ rfl ⟨rfl, HR0.out.to h5.frm (h5.blk 2 rfl) hPj, h5.frm⟩
            simp [results, Tryd.results56, go_sem, z0, z1]
          · obtain rfl := hq0 h2
            have hme := HMr.out h2
            have HMe := Lib.hid hme
            clear h2 hq0 hq1 hme
            go_wp2_with fail
            go_roundw
            case rel => exact ⟨k + 1, E, H', L', by omega, by go_num, fun h => by
              rw [HK.out.1, HK.out.2.1]
              rcases (show k = 0 ∨ k = 1 by omega) with rfl | rfl <;> rfl, by rw [show 3 - (k + 1) = 2 - k by omega]; exact HMe.out, hPj, hH2, hL2, HS4.out⟩
            case measure => simp [intOf]; omega
    · obtain rfl : k = 3 := by omega
      have hme : M = .error 21 := HMk.out.symm
      subst hme
      go_wp2_with fail
      refine (fail_c _ _ _).mono ?_
      rintro x w3 ⟨rfl, rfl⟩
      exact ⟨rfl, by simp, HS.out.frm⟩

end Go.Proofs.YtnloabpdjedanaaDoor
