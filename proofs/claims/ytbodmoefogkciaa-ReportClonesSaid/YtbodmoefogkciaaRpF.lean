/-
  THE WALK of the law ReportParts.
-/
import Derived.Test.YtbodmoefogkciaaRpE
import Derived.Laws.BitsAllLaws
set_option linter.unusedVariables false
set_option linter.unusedSimpArgs false
namespace Go.Proofs.Ytbodmoefogkciaa
open Go.RowKit

theorem bv_and15 (m : BitVec 64) : (m &&& 15#64).toNat ≤ 15 := by
  rw [BitVec.toNat_and]
  exact Nat.and_le_right
theorem and15 (m : Int) : 0 ≤ bits .and .i64 m 15 ∧ bits .and .i64 m 15 ≤ 15 := by
  have h : bits .and .i64 m 15 = IntKind.i64.wrap ((BitVec.ofInt 64 m &&& 15#64).toNat : Int) := rfl
  have h2 := bv_and15 (BitVec.ofInt 64 m)
  rw [h, IntWalk.i64_in _ (by omega)]
  omega

set_option maxRecDepth 100000 in
set_option maxHeartbeats 16000000 in
theorem reportParts_w (w : World) (f : Int) (wf : (Lit.int .u16 f).wf = true) (a : Option Addr) (cap : Nat) (bs : List Bool) (lc : bs.length ≤ cap) (mc : cap ≤ maxLen) (rd : RdB w a bs) (parts : Int) (wp : (Lit.int .i64 parts).wf = true) :
    Calls Try.prog 6 #[.int .u16 f, .slice a bs.length cap, .int .i64 parts] w fun e w' => e = .returned (.bool true) ∧ Below w.heap.size w w' := by
  unfold maxLen at mc
  obtain ⟨f0, f1⟩ : 0 ≤ f ∧ f ≤ 65535 := by simpa [Lit.wf, IntKind.min, IntKind.max, IntKind.bits, IntKind.signed] using wf
  clear wf wp
  have HR := Lib.hid rd
  clear rd
  by_cases hbig : 200 < bs.length
  · go_enter Try.func6, Try.ntmps6
    go_wp2_with fail
    refine (alive_c _).mono ?_
    rintro e w1 ⟨rfl, hf⟩
    have HF1 := Lib.hid hf
    clear hf
    go_wp2_with fail
    go_ret
    exact ⟨rfl, HF1.out.below⟩
  · obtain ⟨z0, z1⟩ := and15 parts
    obtain ⟨z, hz⟩ : ∃ z, bits .and .i64 parts 15 = z := ⟨_, rfl⟩
    rw [hz] at z0 z1
    obtain ⟨P, hP⟩ : ∃ P, P = 1 + z := ⟨_, rfl⟩
    have hzw : IntKind.i64.wrap (1 + z) = P := by rw [hP]; exact IntWalk.i64_in _ (by omega)
    have P0 : 1 ≤ P := by omega
    have P1 : P ≤ 16 := by omega
    clear hP
    go_enter Try.func6, Try.ntmps6
    go_wp2_with fail
    refine (alive_c _).mono ?_
    rintro e w1 ⟨rfl, hf⟩
    have HS1 := Lib.hid (((Sep.init w).keep hf).alloc St.zero.cells 29)
    clear hf
    go_wp2_with fail
    clear hz hzw z0 z1
    refine (note_c _ St.zero 0 f 0 0 _ (HS1.out.blk 0 rfl) St.zero_ok (by decide) (by decide) f0 f1 (by decide) (by decide)).mono ?_
    rintro e w2 ⟨rfl, hb, hf⟩
    rw [stP_first f f0 f1] at hb
    have HS2 := Lib.hid (HS1.out.call 0 rfl hf hb)
    clear hb hf
    go_wp2_with fail
    refine (report_c _ (stP f 0 1 0 0) 300 1 _ (HS2.out.blk 0 rfl) (stP_ok f 0 1 0 0 f0 f1 (by decide) (by decide) (by decide) (by decide) (by decide) (by decide) (by decide) (by decide))).mono ?_
    rintro e w3 ⟨rfl, hb, hf⟩
    rw [stP_rep f 0 1 0 0 f0 (by decide)] at hb
    have HS3 := Lib.hid (HS2.out.call 0 rfl hf hb)
    clear hb hf
    go_wp2_with fail
    go_loopw [8, 9, 10, 27] (fun x y s i wr => ∃ (k : Nat) (p j r ca : Int), k ≤ bs.length ∧ i = .int .i64 k ∧ x = .int .i64 (k - p - (r - ca)) ∧ y = .int .i64 (k - p) ∧ s = .int .i32 (p + 1 - ca) ∧ 0 ≤ p ∧ p ≤ j ∧ j ≤ k ∧ (bs.length ≤ k → k ≤ p) ∧ 1 ≤ ca ∧ ca ≤ p + 1 ∧ ca ≤ r ∧ r - ca ≤ k - p ∧ Sep [] w wr [blkR w1.heap.size 29 (stP f j r (p + 1) ca).cells]) (fun _ _ _ i _ => bs.length - (intOf i).toNat)
    case atStart => exact ⟨0, 0, 0, 1, 1, Nat.zero_le _, rfl, rfl, rfl, rfl, by decide, by decide, by decide, by intro _; decide, by decide, by decide, by decide, by decide, HS3.out⟩
    case round =>
      obtain ⟨k, p, j, r, ca, hk, rfl, rfl, rfl, rfl, p0, j0, j1, hlast, ca0, ca1, r0, r1, hS⟩ := hrel
      have HS := Lib.hid hS
      clear hS
      by_cases hlt : k < bs.length
      · obtain ⟨b, off, x, hx, rfl, hb, c0⟩ := (HR.out.below HS.out.frm.below).at_ k hlt
        clear hx hb hlast
        obtain ⟨A, hA⟩ : ∃ A, A = (k : Int) - p + 1 := ⟨_, rfl⟩
        obtain ⟨L, hL⟩ : ∃ L, L = (k : Int) - p - (r - ca) := ⟨_, rfl⟩
        have hAw : IntKind.i64.wrap ((k : Int) - p + 1) = A := by rw [hA]; exact IntWalk.i64_in _ (by omega)
        have hLw : IntKind.i64.wrap ((bs.length : Int) - 1) = bs.length - 1 := IntWalk.i64_in _ (by omega)
        rw [← hL]
        have A1 : A ≤ k - p + 1 := by omega
        have A2 : k - p + 1 ≤ A := by omega
        have L1 : L ≤ k - p - (r - ca) := by omega
        have L2 : k - p - (r - ca) ≤ L := by omega
        clear hA hL
        by_cases hp : A = P
        · have bp : (A == P) = true := beq_iff_eq.2 hp
          clear hp
          by_cases hl : (k : Int) = bs.length - 1
          · have bl : ((k : Int) == bs.length - 1) = true := beq_iff_eq.2 hl
            have hl2 : (bs.length : Int) ≤ k + 1 := by omega
            clear hl
            cases x
            · have e1 : IntKind.i64.wrap ((k : Int) + 1) = k + 1 := IntWalk.i64_in _ (by omega)
              go_wp2_with fail
              refine (add_c f (k + 1) _ f0 f1).mono ?_
              rintro e w' ⟨rfl, rfl⟩
              go_wp2_with fail
              refine (note_c _ (stP f j r (p + 1) ca) 300 (add16 f (k + 1)) 0 0 _ (HS.out.blk 0 rfl) (stP_ok f j r (p + 1) ca f0 f1 (by omega) (by omega) (by omega) (by omega) (by omega) (by omega) (by omega) (by omega)) (by decide) (by simp only [stP]; omega) (by unfold add16; omega) (by unfold add16; omega) (by decide) (by decide)).mono ?_
              rintro e w4 ⟨rfl, hb, hf⟩
              rw [stP_note f j (k + 1) r (p + 1) ca f0 f1 (by omega) (by omega) (by omega)] at hb
              have HS4 := Lib.hid (HS.out.call 0 rfl hf hb)
              clear hb hf
              go_wp2_with fail
              refine (report_c _ (stP f (k + 1) (r + 1) (p + 1) ca) 300 1 _ (HS4.out.blk 0 rfl) (stP_ok f (k + 1) (r + 1) (p + 1) ca f0 f1 (by omega) (by omega) (by omega) (by omega) (by omega) (by omega) (by omega) (by omega))).mono ?_
              rintro e w5 ⟨rfl, hb, hf⟩
              rw [stP_rep f (k + 1) (r + 1) (p + 1) ca f0 (by omega)] at hb
              obtain ⟨q, hq⟩ : ∃ q, L * 256 / A = q := ⟨_, rfl⟩
              obtain ⟨m, hm⟩ : ∃ m, (if (255 : Int) < q then 255 else q) = m := ⟨_, rfl⟩
              have hm2 : min q 255 = m := by rw [← hm]; split <;> omega
              have hfr : (stP f (k + 1) (r + 1) (p + 1) ca).fraction = m := by
                rw [stP_frac f (k + 1) (r + 1) (p + 1) ca A L f0 (by omega) (by omega) (by omega), frac_all _ _ (by omega) (by omega), hq, hm2]
              obtain ⟨T, hT⟩ : ∃ T : Int, T = k + 2 - (r + 1) := ⟨_, rfl⟩
              have T1 : T ≤ k + 1 - r := by omega
              have T2 : k + 1 - r ≤ T := by omega
              rw [show ((stP f (k + 1) (r + 1) (p + 1) ca).rep 1).toArray = #[.int .u32 1, .int .i64 m, .int .i32 T, .int .u32 (f + (k + 1)), .int .u32 0, .int .u32 0, .int .u32 0] from by
                unfold St.rep; rw [hfr, stP_lost f (k + 1) (r + 1) (p + 1) ca f0 (by omega) (by omega) (by omega) (by omega), stP_high f (k + 1) (r + 1) (p + 1) ca f0 f1 (by omega) (by omega), show (k : Int) + 1 + 1 - (r + 1) = T from by omega]; rfl]
              have HS5 := Lib.hid ((HS4.out.call 0 rfl hf hb).alloc #[.int .u32 1, .int .i64 m, .int .i32 T, .int .u32 (f + (k + 1)), .int .u32 0, .int .u32 0, .int .u32 0] 36)
              clear hb hf hfr hm2 hT
              have e4 : IntKind.i64.wrap (L * 256) = L * 256 := IntWalk.i64_in _ (by omega)
              have e5 : IntKind.i64.wrap ((L * 256).tdiv A) = q := by rw [← hq]; exact IntWalk.i64_quo _ _ (by omega)
              have n2 : (A == 0) = false := beq_eq_false_iff_ne.2 (by omega)
              have e6 : IntKind.i32.wrap (T - (p + 1 - ca)) = L := by rw [IntWalk.i32_in _ (by omega)]; omega
              have e7 : IntKind.i32.wrap L = L := IntWalk.i32_in _ (by omega)
              clear hq
              go_wp2_with fail
              obtain ⟨W, hW⟩ : ∃ W, W = w5.alloc (.cells #[.int .u32 1, .int .i64 m, .int .i32 T, .int .u32 (f + (k + 1)), .int .u32 0, .int .u32 0, .int .u32 0] 36) := ⟨_, rfl⟩
              rw [← hW] at HS5 ⊢
              clear hW
              have p1 : W.cell? ⟨w5.heap.size, 1, none⟩ = some (.int .i64 m) := (HS5.out.blk 0 rfl).cell 1 rfl
              have p2 : W.cell? ⟨w5.heap.size, 2, none⟩ = some (.int .i32 T) := (HS5.out.blk 0 rfl).cell 2 rfl
              go_region
              go_wp2_with fail
              go_quiet (fail)
              clear e4 e5 e6 e7 p1 p2 n2
              go_wp2_with fail
              go_roundw
              case rel => exact ⟨k + 1, k + 1, k + 1, r + 1, r + 1, by omega, by go_num, by congr 1; omega, by congr 1; omega, by congr 1; omega, by omega, by omega, by omega, by intro _; omega, by omega, by omega, by omega, by omega, (HS5.out.drewN (1 + nq)).only 1 rfl⟩
              case measure => simp [intOf]; omega

            · have e1 : IntKind.i64.wrap ((k : Int) + 1) = k + 1 := IntWalk.i64_in _ (by omega)
              go_wp2_with fail
              refine (add_c f (k + 1) _ f0 f1).mono ?_
              rintro e w' ⟨rfl, rfl⟩
              go_wp2_with fail
              refine (note_c _ (stP f j r (p + 1) ca) 300 (add16 f (k + 1)) 0 0 _ (HS.out.blk 0 rfl) (stP_ok f j r (p + 1) ca f0 f1 (by omega) (by omega) (by omega) (by omega) (by omega) (by omega) (by omega) (by omega)) (by decide) (by simp only [stP]; omega) (by unfold add16; omega) (by unfold add16; omega) (by decide) (by decide)).mono ?_
              rintro e w4 ⟨rfl, hb, hf⟩
              rw [stP_note f j (k + 1) r (p + 1) ca f0 f1 (by omega) (by omega) (by omega)] at hb
              have HS4 := Lib.hid (HS.out.call 0 rfl hf hb)
              clear hb hf
              go_wp2_with fail
              refine (report_c _ (stP f (k + 1) (r + 1) (p + 1) ca) 300 1 _ (HS4.out.blk 0 rfl) (stP_ok f (k + 1) (r + 1) (p + 1) ca f0 f1 (by omega) (by omega) (by omega) (by omega) (by omega) (by omega) (by omega) (by omega))).mono ?_
              rintro e w5 ⟨rfl, hb, hf⟩
              rw [stP_rep f (k + 1) (r + 1) (p + 1) ca f0 (by omega)] at hb
              obtain ⟨q, hq⟩ : ∃ q, L * 256 / A = q := ⟨_, rfl⟩
              obtain ⟨m, hm⟩ : ∃ m, (if (255 : Int) < q then 255 else q) = m := ⟨_, rfl⟩
              have hm2 : min q 255 = m := by rw [← hm]; split <;> omega
              have hfr : (stP f (k + 1) (r + 1) (p + 1) ca).fraction = m := by
                rw [stP_frac f (k + 1) (r + 1) (p + 1) ca A L f0 (by omega) (by omega) (by omega), frac_all _ _ (by omega) (by omega), hq, hm2]
              obtain ⟨T, hT⟩ : ∃ T : Int, T = k + 2 - (r + 1) := ⟨_, rfl⟩
              have T1 : T ≤ k + 1 - r := by omega
              have T2 : k + 1 - r ≤ T := by omega
              rw [show ((stP f (k + 1) (r + 1) (p + 1) ca).rep 1).toArray = #[.int .u32 1, .int .i64 m, .int .i32 T, .int .u32 (f + (k + 1)), .int .u32 0, .int .u32 0, .int .u32 0] from by
                unfold St.rep; rw [hfr, stP_lost f (k + 1) (r + 1) (p + 1) ca f0 (by omega) (by omega) (by omega) (by omega), stP_high f (k + 1) (r + 1) (p + 1) ca f0 f1 (by omega) (by omega), show (k : Int) + 1 + 1 - (r + 1) = T from by omega]; rfl]
              have HS5 := Lib.hid ((HS4.out.call 0 rfl hf hb).alloc #[.int .u32 1, .int .i64 m, .int .i32 T, .int .u32 (f + (k + 1)), .int .u32 0, .int .u32 0, .int .u32 0] 36)
              clear hb hf hfr hm2 hT
              have e4 : IntKind.i64.wrap (L * 256) = L * 256 := IntWalk.i64_in _ (by omega)
              have e5 : IntKind.i64.wrap ((L * 256).tdiv A) = q := by rw [← hq]; exact IntWalk.i64_quo _ _ (by omega)
              have n2 : (A == 0) = false := beq_eq_false_iff_ne.2 (by omega)
              have e6 : IntKind.i32.wrap (T - (p + 1 - ca)) = L := by rw [IntWalk.i32_in _ (by omega)]; omega
              have e7 : IntKind.i32.wrap L = L := IntWalk.i32_in _ (by omega)
              clear hq
              go_wp2_with fail
              obtain ⟨W, hW⟩ : ∃ W, W = w5.alloc (.cells #[.int .u32 1, .int .i64 m, .int .i32 T, .int .u32 (f + (k + 1)), .int .u32 0, .int .u32 0, .int .u32 0] 36) := ⟨_, rfl⟩
              rw [← hW] at HS5 ⊢
              clear hW
              have p1 : W.cell? ⟨w5.heap.size, 1, none⟩ = some (.int .i64 m) := (HS5.out.blk 0 rfl).cell 1 rfl
              have p2 : W.cell? ⟨w5.heap.size, 2, none⟩ = some (.int .i32 T) := (HS5.out.blk 0 rfl).cell 2 rfl
              go_region
              go_wp2_with fail
              go_quiet (fail)
              clear e4 e5 e6 e7 p1 p2 n2
              go_wp2_with fail
              go_roundw
              case rel => exact ⟨k + 1, k + 1, k + 1, r + 1, r + 1, by omega, by go_num, by congr 1; omega, by congr 1; omega, by congr 1; omega, by omega, by omega, by omega, by intro _; omega, by omega, by omega, by omega, by omega, (HS5.out.drewN (1 + nq)).only 1 rfl⟩
              case measure => simp [intOf]; omega

          · have bl : ((k : Int) == bs.length - 1) = false := beq_eq_false_iff_ne.2 hl
            have hl2 : (k : Int) + 2 ≤ bs.length := by omega
            clear hl
            cases x
            · have e1 : IntKind.i64.wrap ((k : Int) + 1) = k + 1 := IntWalk.i64_in _ (by omega)
              go_wp2_with fail
              refine (add_c f (k + 1) _ f0 f1).mono ?_
              rintro e w' ⟨rfl, rfl⟩
              go_wp2_with fail
              refine (note_c _ (stP f j r (p + 1) ca) 300 (add16 f (k + 1)) 0 0 _ (HS.out.blk 0 rfl) (stP_ok f j r (p + 1) ca f0 f1 (by omega) (by omega) (by omega) (by omega) (by omega) (by omega) (by omega) (by omega)) (by decide) (by simp only [stP]; omega) (by unfold add16; omega) (by unfold add16; omega) (by decide) (by decide)).mono ?_
              rintro e w4 ⟨rfl, hb, hf⟩
              rw [stP_note f j (k + 1) r (p + 1) ca f0 f1 (by omega) (by omega) (by omega)] at hb
              have HS4 := Lib.hid (HS.out.call 0 rfl hf hb)
              clear hb hf
              go_wp2_with fail
              refine (report_c _ (stP f (k + 1) (r + 1) (p + 1) ca) 300 1 _ (HS4.out.blk 0 rfl) (stP_ok f (k + 1) (r + 1) (p + 1) ca f0 f1 (by omega) (by omega) (by omega) (by omega) (by omega) (by omega) (by omega) (by omega))).mono ?_
              rintro e w5 ⟨rfl, hb, hf⟩
              rw [stP_rep f (k + 1) (r + 1) (p + 1) ca f0 (by omega)] at hb
              obtain ⟨q, hq⟩ : ∃ q, L * 256 / A = q := ⟨_, rfl⟩
              obtain ⟨m, hm⟩ : ∃ m, (if (255 : Int) < q then 255 else q) = m := ⟨_, rfl⟩
              have hm2 : min q 255 = m := by rw [← hm]; split <;> omega
              have hfr : (stP f (k + 1) (r + 1) (p + 1) ca).fraction = m := by
                rw [stP_frac f (k + 1) (r + 1) (p + 1) ca A L f0 (by omega) (by omega) (by omega), frac_all _ _ (by omega) (by omega), hq, hm2]
              obtain ⟨T, hT⟩ : ∃ T : Int, T = k + 2 - (r + 1) := ⟨_, rfl⟩
              have T1 : T ≤ k + 1 - r := by omega
              have T2 : k + 1 - r ≤ T := by omega
              rw [show ((stP f (k + 1) (r + 1) (p + 1) ca).rep 1).toArray = #[.int .u32 1, .int .i64 m, .int .i32 T, .int .u32 (f + (k + 1)), .int .u32 0, .int .u32 0, .int .u32 0] from by
                unfold St.rep; rw [hfr, stP_lost f (k + 1) (r + 1) (p + 1) ca f0 (by omega) (by omega) (by omega) (by omega), stP_high f (k + 1) (r + 1) (p + 1) ca f0 f1 (by omega) (by omega), show (k : Int) + 1 + 1 - (r + 1) = T from by omega]; rfl]
              have HS5 := Lib.hid ((HS4.out.call 0 rfl hf hb).alloc #[.int .u32 1, .int .i64 m, .int .i32 T, .int .u32 (f + (k + 1)), .int .u32 0, .int .u32 0, .int .u32 0] 36)
              clear hb hf hfr hm2 hT
              have e4 : IntKind.i64.wrap (L * 256) = L * 256 := IntWalk.i64_in _ (by omega)
              have e5 : IntKind.i64.wrap ((L * 256).tdiv A) = q := by rw [← hq]; exact IntWalk.i64_quo _ _ (by omega)
              have n2 : (A == 0) = false := beq_eq_false_iff_ne.2 (by omega)
              have e6 : IntKind.i32.wrap (T - (p + 1 - ca)) = L := by rw [IntWalk.i32_in _ (by omega)]; omega
              have e7 : IntKind.i32.wrap L = L := IntWalk.i32_in _ (by omega)
              clear hq
              go_wp2_with fail
              obtain ⟨W, hW⟩ : ∃ W, W = w5.alloc (.cells #[.int .u32 1, .int .i64 m, .int .i32 T, .int .u32 (f + (k + 1)), .int .u32 0, .int .u32 0, .int .u32 0] 36) := ⟨_, rfl⟩
              rw [← hW] at HS5 ⊢
              clear hW
              have p1 : W.cell? ⟨w5.heap.size, 1, none⟩ = some (.int .i64 m) := (HS5.out.blk 0 rfl).cell 1 rfl
              have p2 : W.cell? ⟨w5.heap.size, 2, none⟩ = some (.int .i32 T) := (HS5.out.blk 0 rfl).cell 2 rfl
              go_region
              go_wp2_with fail
              go_quiet (fail)
              clear e4 e5 e6 e7 p1 p2 n2
              go_wp2_with fail
              go_roundw
              case rel => exact ⟨k + 1, k + 1, k + 1, r + 1, r + 1, by omega, by go_num, by congr 1; omega, by congr 1; omega, by congr 1; omega, by omega, by omega, by omega, by intro _; omega, by omega, by omega, by omega, by omega, (HS5.out.drewN (1 + nq)).only 1 rfl⟩
              case measure => simp [intOf]; omega

            · have e1 : IntKind.i64.wrap ((k : Int) + 1) = k + 1 := IntWalk.i64_in _ (by omega)
              go_wp2_with fail
              refine (add_c f (k + 1) _ f0 f1).mono ?_
              rintro e w' ⟨rfl, rfl⟩
              go_wp2_with fail
              refine (note_c _ (stP f j r (p + 1) ca) 300 (add16 f (k + 1)) 0 0 _ (HS.out.blk 0 rfl) (stP_ok f j r (p + 1) ca f0 f1 (by omega) (by omega) (by omega) (by omega) (by omega) (by omega) (by omega) (by omega)) (by decide) (by simp only [stP]; omega) (by unfold add16; omega) (by unfold add16; omega) (by decide) (by decide)).mono ?_
              rintro e w4 ⟨rfl, hb, hf⟩
              rw [stP_note f j (k + 1) r (p + 1) ca f0 f1 (by omega) (by omega) (by omega)] at hb
              have HS4 := Lib.hid (HS.out.call 0 rfl hf hb)
              clear hb hf
              go_wp2_with fail
              refine (report_c _ (stP f (k + 1) (r + 1) (p + 1) ca) 300 1 _ (HS4.out.blk 0 rfl) (stP_ok f (k + 1) (r + 1) (p + 1) ca f0 f1 (by omega) (by omega) (by omega) (by omega) (by omega) (by omega) (by omega) (by omega))).mono ?_
              rintro e w5 ⟨rfl, hb, hf⟩
              rw [stP_rep f (k + 1) (r + 1) (p + 1) ca f0 (by omega)] at hb
              obtain ⟨q, hq⟩ : ∃ q, L * 256 / A = q := ⟨_, rfl⟩
              obtain ⟨m, hm⟩ : ∃ m, (if (255 : Int) < q then 255 else q) = m := ⟨_, rfl⟩
              have hm2 : min q 255 = m := by rw [← hm]; split <;> omega
              have hfr : (stP f (k + 1) (r + 1) (p + 1) ca).fraction = m := by
                rw [stP_frac f (k + 1) (r + 1) (p + 1) ca A L f0 (by omega) (by omega) (by omega), frac_all _ _ (by omega) (by omega), hq, hm2]
              obtain ⟨T, hT⟩ : ∃ T : Int, T = k + 2 - (r + 1) := ⟨_, rfl⟩
              have T1 : T ≤ k + 1 - r := by omega
              have T2 : k + 1 - r ≤ T := by omega
              rw [show ((stP f (k + 1) (r + 1) (p + 1) ca).rep 1).toArray = #[.int .u32 1, .int .i64 m, .int .i32 T, .int .u32 (f + (k + 1)), .int .u32 0, .int .u32 0, .int .u32 0] from by
                unfold St.rep; rw [hfr, stP_lost f (k + 1) (r + 1) (p + 1) ca f0 (by omega) (by omega) (by omega) (by omega), stP_high f (k + 1) (r + 1) (p + 1) ca f0 f1 (by omega) (by omega), show (k : Int) + 1 + 1 - (r + 1) = T from by omega]; rfl]
              have HS5 := Lib.hid ((HS4.out.call 0 rfl hf hb).alloc #[.int .u32 1, .int .i64 m, .int .i32 T, .int .u32 (f + (k + 1)), .int .u32 0, .int .u32 0, .int .u32 0] 36)
              clear hb hf hfr hm2 hT
              have e4 : IntKind.i64.wrap (L * 256) = L * 256 := IntWalk.i64_in _ (by omega)
              have e5 : IntKind.i64.wrap ((L * 256).tdiv A) = q := by rw [← hq]; exact IntWalk.i64_quo _ _ (by omega)
              have n2 : (A == 0) = false := beq_eq_false_iff_ne.2 (by omega)
              have e6 : IntKind.i32.wrap (T - (p + 1 - ca)) = L := by rw [IntWalk.i32_in _ (by omega)]; omega
              have e7 : IntKind.i32.wrap L = L := IntWalk.i32_in _ (by omega)
              clear hq
              go_wp2_with fail
              obtain ⟨W, hW⟩ : ∃ W, W = w5.alloc (.cells #[.int .u32 1, .int .i64 m, .int .i32 T, .int .u32 (f + (k + 1)), .int .u32 0, .int .u32 0, .int .u32 0] 36) := ⟨_, rfl⟩
              rw [← hW] at HS5 ⊢
              clear hW
              have p1 : W.cell? ⟨w5.heap.size, 1, none⟩ = some (.int .i64 m) := (HS5.out.blk 0 rfl).cell 1 rfl
              have p2 : W.cell? ⟨w5.heap.size, 2, none⟩ = some (.int .i32 T) := (HS5.out.blk 0 rfl).cell 2 rfl
              go_region
              go_wp2_with fail
              go_quiet (fail)
              clear e4 e5 e6 e7 p1 p2 n2
              go_wp2_with fail
              go_roundw
              case rel => exact ⟨k + 1, k + 1, k + 1, r + 1, r + 1, by omega, by go_num, by congr 1; omega, by congr 1; omega, by congr 1; omega, by omega, by omega, by omega, by intro _; omega, by omega, by omega, by omega, by omega, (HS5.out.drewN (1 + nq)).only 1 rfl⟩
              case measure => simp [intOf]; omega

        · have bp : (A == P) = false := beq_eq_false_iff_ne.2 hp
          clear hp
          by_cases hl : (k : Int) = bs.length - 1
          · have bl : ((k : Int) == bs.length - 1) = true := beq_iff_eq.2 hl
            have hl2 : (bs.length : Int) ≤ k + 1 := by omega
            clear hl
            cases x
            · have e1 : IntKind.i64.wrap ((k : Int) + 1) = k + 1 := IntWalk.i64_in _ (by omega)
              go_wp2_with fail
              refine (add_c f (k + 1) _ f0 f1).mono ?_
              rintro e w' ⟨rfl, rfl⟩
              go_wp2_with fail
              refine (note_c _ (stP f j r (p + 1) ca) 300 (add16 f (k + 1)) 0 0 _ (HS.out.blk 0 rfl) (stP_ok f j r (p + 1) ca f0 f1 (by omega) (by omega) (by omega) (by omega) (by omega) (by omega) (by omega) (by omega)) (by decide) (by simp only [stP]; omega) (by unfold add16; omega) (by unfold add16; omega) (by decide) (by decide)).mono ?_
              rintro e w4 ⟨rfl, hb, hf⟩
              rw [stP_note f j (k + 1) r (p + 1) ca f0 f1 (by omega) (by omega) (by omega)] at hb
              have HS4 := Lib.hid (HS.out.call 0 rfl hf hb)
              clear hb hf
              go_wp2_with fail
              refine (report_c _ (stP f (k + 1) (r + 1) (p + 1) ca) 300 1 _ (HS4.out.blk 0 rfl) (stP_ok f (k + 1) (r + 1) (p + 1) ca f0 f1 (by omega) (by omega) (by omega) (by omega) (by omega) (by omega) (by omega) (by omega))).mono ?_
              rintro e w5 ⟨rfl, hb, hf⟩
              rw [stP_rep f (k + 1) (r + 1) (p + 1) ca f0 (by omega)] at hb
              obtain ⟨q, hq⟩ : ∃ q, L * 256 / A = q := ⟨_, rfl⟩
              obtain ⟨m, hm⟩ : ∃ m, (if (255 : Int) < q then 255 else q) = m := ⟨_, rfl⟩
              have hm2 : min q 255 = m := by rw [← hm]; split <;> omega
              have hfr : (stP f (k + 1) (r + 1) (p + 1) ca).fraction = m := by
                rw [stP_frac f (k + 1) (r + 1) (p + 1) ca A L f0 (by omega) (by omega) (by omega), frac_all _ _ (by omega) (by omega), hq, hm2]
              obtain ⟨T, hT⟩ : ∃ T : Int, T = k + 2 - (r + 1) := ⟨_, rfl⟩
              have T1 : T ≤ k + 1 - r := by omega
              have T2 : k + 1 - r ≤ T := by omega
              rw [show ((stP f (k + 1) (r + 1) (p + 1) ca).rep 1).toArray = #[.int .u32 1, .int .i64 m, .int .i32 T, .int .u32 (f + (k + 1)), .int .u32 0, .int .u32 0, .int .u32 0] from by
                unfold St.rep; rw [hfr, stP_lost f (k + 1) (r + 1) (p + 1) ca f0 (by omega) (by omega) (by omega) (by omega), stP_high f (k + 1) (r + 1) (p + 1) ca f0 f1 (by omega) (by omega), show (k : Int) + 1 + 1 - (r + 1) = T from by omega]; rfl]
              have HS5 := Lib.hid ((HS4.out.call 0 rfl hf hb).alloc #[.int .u32 1, .int .i64 m, .int .i32 T, .int .u32 (f + (k + 1)), .int .u32 0, .int .u32 0, .int .u32 0] 36)
              clear hb hf hfr hm2 hT
              have e4 : IntKind.i64.wrap (L * 256) = L * 256 := IntWalk.i64_in _ (by omega)
              have e5 : IntKind.i64.wrap ((L * 256).tdiv A) = q := by rw [← hq]; exact IntWalk.i64_quo _ _ (by omega)
              have n2 : (A == 0) = false := beq_eq_false_iff_ne.2 (by omega)
              have e6 : IntKind.i32.wrap (T - (p + 1 - ca)) = L := by rw [IntWalk.i32_in _ (by omega)]; omega
              have e7 : IntKind.i32.wrap L = L := IntWalk.i32_in _ (by omega)
              clear hq
              go_wp2_with fail
              obtain ⟨W, hW⟩ : ∃ W, W = w5.alloc (.cells #[.int .u32 1, .int .i64 m, .int .i32 T, .int .u32 (f + (k + 1)), .int .u32 0, .int .u32 0, .int .u32 0] 36) := ⟨_, rfl⟩
              rw [← hW] at HS5 ⊢
              clear hW
              have p1 : W.cell? ⟨w5.heap.size, 1, none⟩ = some (.int .i64 m) := (HS5.out.blk 0 rfl).cell 1 rfl
              have p2 : W.cell? ⟨w5.heap.size, 2, none⟩ = some (.int .i32 T) := (HS5.out.blk 0 rfl).cell 2 rfl
              go_region
              go_wp2_with fail
              go_quiet (fail)
              clear e4 e5 e6 e7 p1 p2 n2
              go_wp2_with fail
              go_roundw
              case rel => exact ⟨k + 1, k + 1, k + 1, r + 1, r + 1, by omega, by go_num, by congr 1; omega, by congr 1; omega, by congr 1; omega, by omega, by omega, by omega, by intro _; omega, by omega, by omega, by omega, by omega, (HS5.out.drewN (1 + nq)).only 1 rfl⟩
              case measure => simp [intOf]; omega

            · have e1 : IntKind.i64.wrap ((k : Int) + 1) = k + 1 := IntWalk.i64_in _ (by omega)
              go_wp2_with fail
              refine (add_c f (k + 1) _ f0 f1).mono ?_
              rintro e w' ⟨rfl, rfl⟩
              go_wp2_with fail
              refine (note_c _ (stP f j r (p + 1) ca) 300 (add16 f (k + 1)) 0 0 _ (HS.out.blk 0 rfl) (stP_ok f j r (p + 1) ca f0 f1 (by omega) (by omega) (by omega) (by omega) (by omega) (by omega) (by omega) (by omega)) (by decide) (by simp only [stP]; omega) (by unfold add16; omega) (by unfold add16; omega) (by decide) (by decide)).mono ?_
              rintro e w4 ⟨rfl, hb, hf⟩
              rw [stP_note f j (k + 1) r (p + 1) ca f0 f1 (by omega) (by omega) (by omega)] at hb
              have HS4 := Lib.hid (HS.out.call 0 rfl hf hb)
              clear hb hf
              go_wp2_with fail
              refine (report_c _ (stP f (k + 1) (r + 1) (p + 1) ca) 300 1 _ (HS4.out.blk 0 rfl) (stP_ok f (k + 1) (r + 1) (p + 1) ca f0 f1 (by omega) (by omega) (by omega) (by omega) (by omega) (by omega) (by omega) (by omega))).mono ?_
              rintro e w5 ⟨rfl, hb, hf⟩
              rw [stP_rep f (k + 1) (r + 1) (p + 1) ca f0 (by omega)] at hb
              obtain ⟨q, hq⟩ : ∃ q, L * 256 / A = q := ⟨_, rfl⟩
              obtain ⟨m, hm⟩ : ∃ m, (if (255 : Int) < q then 255 else q) = m := ⟨_, rfl⟩
              have hm2 : min q 255 = m := by rw [← hm]; split <;> omega
              have hfr : (stP f (k + 1) (r + 1) (p + 1) ca).fraction = m := by
                rw [stP_frac f (k + 1) (r + 1) (p + 1) ca A L f0 (by omega) (by omega) (by omega), frac_all _ _ (by omega) (by omega), hq, hm2]
              obtain ⟨T, hT⟩ : ∃ T : Int, T = k + 2 - (r + 1) := ⟨_, rfl⟩
              have T1 : T ≤ k + 1 - r := by omega
              have T2 : k + 1 - r ≤ T := by omega
              rw [show ((stP f (k + 1) (r + 1) (p + 1) ca).rep 1).toArray = #[.int .u32 1, .int .i64 m, .int .i32 T, .int .u32 (f + (k + 1)), .int .u32 0, .int .u32 0, .int .u32 0] from by
                unfold St.rep; rw [hfr, stP_lost f (k + 1) (r + 1) (p + 1) ca f0 (by omega) (by omega) (by omega) (by omega), stP_high f (k + 1) (r + 1) (p + 1) ca f0 f1 (by omega) (by omega), show (k : Int) + 1 + 1 - (r + 1) = T from by omega]; rfl]
              have HS5 := Lib.hid ((HS4.out.call 0 rfl hf hb).alloc #[.int .u32 1, .int .i64 m, .int .i32 T, .int .u32 (f + (k + 1)), .int .u32 0, .int .u32 0, .int .u32 0] 36)
              clear hb hf hfr hm2 hT
              have e4 : IntKind.i64.wrap (L * 256) = L * 256 := IntWalk.i64_in _ (by omega)
              have e5 : IntKind.i64.wrap ((L * 256).tdiv A) = q := by rw [← hq]; exact IntWalk.i64_quo _ _ (by omega)
              have n2 : (A == 0) = false := beq_eq_false_iff_ne.2 (by omega)
              have e6 : IntKind.i32.wrap (T - (p + 1 - ca)) = L := by rw [IntWalk.i32_in _ (by omega)]; omega
              have e7 : IntKind.i32.wrap L = L := IntWalk.i32_in _ (by omega)
              clear hq
              go_wp2_with fail
              obtain ⟨W, hW⟩ : ∃ W, W = w5.alloc (.cells #[.int .u32 1, .int .i64 m, .int .i32 T, .int .u32 (f + (k + 1)), .int .u32 0, .int .u32 0, .int .u32 0] 36) := ⟨_, rfl⟩
              rw [← hW] at HS5 ⊢
              clear hW
              have p1 : W.cell? ⟨w5.heap.size, 1, none⟩ = some (.int .i64 m) := (HS5.out.blk 0 rfl).cell 1 rfl
              have p2 : W.cell? ⟨w5.heap.size, 2, none⟩ = some (.int .i32 T) := (HS5.out.blk 0 rfl).cell 2 rfl
              go_region
              go_wp2_with fail
              go_quiet (fail)
              clear e4 e5 e6 e7 p1 p2 n2
              go_wp2_with fail
              go_roundw
              case rel => exact ⟨k + 1, k + 1, k + 1, r + 1, r + 1, by omega, by go_num, by congr 1; omega, by congr 1; omega, by congr 1; omega, by omega, by omega, by omega, by intro _; omega, by omega, by omega, by omega, by omega, (HS5.out.drewN (1 + nq)).only 1 rfl⟩
              case measure => simp [intOf]; omega

          · have bl : ((k : Int) == bs.length - 1) = false := beq_eq_false_iff_ne.2 hl
            have hl2 : (k : Int) + 2 ≤ bs.length := by omega
            clear hl
            cases x
            · have e1 : IntKind.i64.wrap (L + 1) = L + 1 := IntWalk.i64_in _ (by omega)
              go_wp2_with fail
              go_roundw
              case rel => exact ⟨k + 1, p, j, r, ca, by omega, by go_num, by congr 1; omega, by congr 1; omega, rfl, by omega, by omega, by omega, by omega, by omega, by omega, by omega, by omega, HS.out⟩
              case measure => simp [intOf]; omega

            · have e1 : IntKind.i64.wrap ((k : Int) + 1) = k + 1 := IntWalk.i64_in _ (by omega)
              go_wp2_with fail
              refine (add_c f (k + 1) _ f0 f1).mono ?_
              rintro e w' ⟨rfl, rfl⟩
              go_wp2_with fail
              refine (note_c _ (stP f j r (p + 1) ca) 300 (add16 f (k + 1)) 0 0 _ (HS.out.blk 0 rfl) (stP_ok f j r (p + 1) ca f0 f1 (by omega) (by omega) (by omega) (by omega) (by omega) (by omega) (by omega) (by omega)) (by decide) (by simp only [stP]; omega) (by unfold add16; omega) (by unfold add16; omega) (by decide) (by decide)).mono ?_
              rintro e w4 ⟨rfl, hb, hf⟩
              rw [stP_note f j (k + 1) r (p + 1) ca f0 f1 (by omega) (by omega) (by omega)] at hb
              have HS4 := Lib.hid (HS.out.call 0 rfl hf hb)
              clear hb hf
              go_wp2_with fail
              go_roundw
              case rel => exact ⟨k + 1, p, k + 1, r + 1, ca, by omega, by go_num, by congr 1; omega, by congr 1; omega, rfl, by omega, by omega, by omega, by omega, by omega, by omega, by omega, by omega, HS4.out⟩
              case measure => simp [intOf]; omega

      · obtain rfl : k = bs.length := by omega
        have hl := hlast (Nat.le_refl _)
        obtain rfl : p = bs.length := by omega
        obtain rfl : j = bs.length := by omega
        obtain rfl : r = ca := by omega
        clear hlast
        obtain ⟨M, hM⟩ : ∃ M : Int, M = bs.length := ⟨_, rfl⟩
        have M1 : (bs.length : Int) ≤ M := by omega
        have M2 : M ≤ bs.length := by omega
        have e1 : IntKind.i64.wrap ((bs.length : Int) + 1) = M + 1 := by rw [hM]; exact IntWalk.i64_in _ (by omega)
        rw [← hM] at HS
        have e3 : IntKind.i64.wrap (M + 1 - r) = M + 1 - r := IntWalk.i64_in _ (by omega)
        have e4 : IntKind.i64.wrap (M + 1 - (M + 1 - r)) = r := by rw [IntWalk.i64_in _ (by omega)]; omega
        have hok : (stP f M r (M + 1) r).ok 300 := stP_ok f M r (M + 1) r f0 f1 (by omega) (by omega) (by omega) (by omega) (by omega) (by omega) (by omega) (by omega)
        have HK := Lib.hid hok
        clear hok
        have HM := Lib.hid hM
        rw [← hM]
        clear hM
        go_wp2_with fail
        refine (frm_of (expected_c _ (stP f M r (M + 1) r) 300 _ (HS.out.blk 0 rfl) HK.out)).mono ?_
        rintro e w4 ⟨rfl, hf⟩
        have HS4 := Lib.hid (HS.out.keep hf)
        clear hf
        rw [stP_expd f M r (M + 1) r f0 (by omega)]
        go_wp2_with fail
        refine (frm_of (lost_c _ (stP f M r (M + 1) r) 300 _ (HS4.out.blk 0 rfl) HK.out)).mono ?_
        rintro e w5 ⟨rfl, hf⟩
        have HS5 := Lib.hid (HS4.out.keep hf)
        clear hf
        rw [stP_lost f M r (M + 1) r f0 (by omega) (by omega) (by omega) (by omega)]
        go_wp2_with fail
        refine (received_c _ (stP f M r (M + 1) r) _ (HS5.out.blk 0 rfl)).mono ?_
        rintro e w' ⟨rfl, rfl⟩
        rw [show (stP f M r (M + 1) r).rcv = r from rfl]
        go_wp2_with fail
        refine (frm_of (expected_c _ (stP f M r (M + 1) r) 300 _ (HS5.out.blk 0 rfl) HK.out)).mono ?_
        rintro e w6 ⟨rfl, hf⟩
        have HS6 := Lib.hid (HS5.out.keep hf)
        clear hf
        rw [stP_expd f M r (M + 1) r f0 (by omega)]
        go_wp2_with fail
        go_ret
        exact ⟨rfl, HS6.out.frm.below⟩

end Go.Proofs.Ytbodmoefogkciaa
