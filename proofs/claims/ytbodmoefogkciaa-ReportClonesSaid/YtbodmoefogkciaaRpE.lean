/-
  THE WALK of the law ReportLoses.
-/
import Derived.Test.YtbodmoefogkciaaRpD
import Derived.Test.YtbodmoefogkciaaRpL
import Derived.Test.YtbodmoefogkciaaOb
set_option linter.unusedVariables false
set_option linter.unusedSimpArgs false
namespace Go.Proofs.Ytbodmoefogkciaa
open Go.RowKit

theorem fraction_v (b : Nat) (s : St) (k : Nat) (v : Int) (w : World) (h : Stat w b s) (ok : s.ok k) (hv : s.fraction = v) (n : Nat) :
    Calls Try.prog 18 #[.pointer (some ⟨b, 0, none⟩)] (w.drewN n) fun e w' => e = .returned (.int .i64 v) ∧ ∃ m, w' = (w.drewN n).drewN m :=
  hv ▸ fraction_c b s k (w.drewN n) (h.drewN n) ok
theorem jitter_v (b : Nat) (s : St) (k : Nat) (v : Int) (w : World) (h : Stat w b s) (ok : s.ok k) (hv : s.jitter = v) (n : Nat) :
    Calls Try.prog 19 #[.pointer (some ⟨b, 0, none⟩)] (w.drewN n) fun e w' => e = .returned (.int .u32 v) ∧ ∃ m, w' = (w.drewN n).drewN m :=
  (hv ▸ jitter_c b s k (w.drewN n) (h.drewN n) ok).mono fun _ _ ⟨h1, h2⟩ => ⟨h1, 0, h2 ▸ rfl⟩

set_option maxRecDepth 100000 in
set_option maxHeartbeats 8000000 in
theorem reportLoses_w (w : World) (f : Int) (wf : (Lit.int .u16 f).wf = true) (a : Option Addr) (cap : Nat) (bs : List Bool) (lc : bs.length ≤ cap) (mc : cap ≤ maxLen) (rd : RdB w a bs) :
    Calls Try.prog 5 #[.int .u16 f, .slice a bs.length cap] w fun e w' => e = .returned (.bool true) ∧ Below w.heap.size w w' := by
  unfold maxLen at mc
  obtain ⟨f0, f1⟩ : 0 ≤ f ∧ f ≤ 65535 := by simpa [Lit.wf, IntKind.min, IntKind.max, IntKind.bits, IntKind.signed] using wf
  clear wf
  have HR := Lib.hid rd
  clear rd
  by_cases hbig : 200 < bs.length
  · go_enter Try.func5, Try.ntmps5
    go_wp2_with fail
    refine (alive_c _).mono ?_
    rintro e w1 ⟨rfl, hf⟩
    have HF1 := Lib.hid hf
    clear hf
    go_wp2_with fail
    go_ret
    exact ⟨rfl, HF1.out.below⟩
  · go_enter Try.func5, Try.ntmps5
    go_wp2_with fail
    refine (alive_c _).mono ?_
    rintro e w1 ⟨rfl, hf⟩
    have HS1 := Lib.hid (((Sep.init w).keep hf).alloc St.zero.cells 29)
    clear hf
    go_wp2_with fail
    refine (note_c _ St.zero 0 f 0 0 _ (HS1.out.blk 0 rfl) St.zero_ok (by decide) (by decide) f0 f1 (by decide) (by decide)).mono ?_
    rintro e w2 ⟨rfl, hb, hf⟩
    rw [stP_first f f0 f1] at hb
    have HS2 := Lib.hid (HS1.out.call 0 rfl hf hb)
    clear hb hf
    go_wp2_with fail
    go_loopw [6, 21] (fun x i wr => ∃ (k : Nat) (l j : Int), k ≤ bs.length ∧ i = .int .i64 k ∧ x = .int .i64 l ∧ 0 ≤ l ∧ l ≤ k ∧ 0 ≤ j ∧ j ≤ k ∧ Sep [] w wr [blkR w1.heap.size 29 (stP f j (1 + k - l) 0 0).cells]) (fun _ i _ => bs.length - (intOf i).toNat)
    case atStart => exact ⟨0, 0, 0, Nat.zero_le _, rfl, rfl, by decide, by decide, by decide, by decide, HS2.out⟩
    case round =>
      obtain ⟨k, l, j, hk, rfl, rfl, l0, l1, j0, j1, hS⟩ := hrel
      have HS := Lib.hid hS
      clear hS
      by_cases hlt : k < bs.length
      · obtain ⟨b, off, x, hx, rfl, hb, c0⟩ := (HR.out.below HS.out.frm.below).at_ k hlt
        clear hx hb
        cases x
        · go_wp2_with fail
          go_roundw
          case rel => exact ⟨k + 1, l + 1, j, by omega, by go_num, by go_num, by omega, by omega, by omega, by omega, by rw [show (1 : Int) + (k + 1 : Nat) - (l + 1) = 1 + k - l from by omega]; exact HS.out⟩
          case measure => simp [intOf]; omega
        · have e1 : IntKind.i64.wrap ((k : Int) + 1) = k + 1 := IntWalk.i64_in _ (by omega)
          go_wp2_with fail
          refine (add_c f (k + 1) _ f0 f1).mono ?_
          rintro e w' ⟨rfl, rfl⟩
          go_wp2_with fail
          refine (note_c _ (stP f j (1 + k - l) 0 0) 300 (add16 f (k + 1)) 0 0 _ (HS.out.blk 0 rfl) (stP_ok f j _ 0 0 f0 f1 j0 (by omega) (by omega) (by omega) (by decide) (by decide) (by decide) (by decide)) (by decide) (by simp only [stP]; omega) (by unfold add16; omega) (by unfold add16; omega) (by decide) (by decide)).mono ?_
          rintro e w3 ⟨rfl, hb, hf⟩
          rw [stP_note f j (k + 1) _ 0 0 f0 f1 j0 (by omega) (by omega)] at hb
          have HS3 := Lib.hid (HS.out.call 0 rfl hf hb)
          clear hb hf
          go_wp2_with fail
          go_roundw
          case rel => exact ⟨k + 1, l, k + 1, by omega, by go_num, rfl, by omega, by omega, by omega, by omega, by rw [show (1 : Int) + (k + 1 : Nat) - l = 1 + k - l + 1 from by omega]; exact HS3.out⟩
          case measure => simp [intOf]; omega
      · obtain rfl : k = bs.length := by omega
        obtain ⟨E, hE⟩ : ∃ E : Int, E = bs.length + 1 := ⟨_, rfl⟩
        go_wp2_with fail
        rw [← hE]
        have hE1 : E ≤ bs.length + 1 := by omega
        have hE2 : (bs.length : Int) + 1 ≤ E := by omega
        clear hE
        refine (add_c f E _ f0 f1).mono ?_
        rintro e w' ⟨rfl, rfl⟩
        go_wp2_with fail
        go_wp2_with fail
        have a0 : 0 ≤ add16 f E := by unfold add16; omega
        have a1 : add16 f E ≤ 65535 := by unfold add16; omega
        have r0 : 0 ≤ 1 + (bs.length : Int) - l := by omega
        have r1 : 1 + (bs.length : Int) - l + 1 ≤ 1000 := by omega
        have r2 : 1 + (bs.length : Int) - l ≤ 1000 := by omega
        have j2 : j ≤ 1000 := by omega
        have hok0 : (stP f j (1 + bs.length - l) 0 0).ok 300 := stP_ok f j _ 0 0 f0 f1 j0 j2 r0 r2 (by decide) (by decide) (by decide) (by decide)
        obtain ⟨A, hA⟩ : ∃ A, A = add16 f E := ⟨_, rfl⟩
        rw [← hA] at a0 a1 ⊢
        have HA := Lib.hid hA
        clear hA
        refine (note_c _ (stP f j (1 + bs.length - l) 0 0) 300 A 0 0 _ (HS.out.blk 0 rfl) hok0 (by decide) r1 a0 a1 (by decide) (by decide)).mono ?_
        rintro e w3 ⟨rfl, hb, hf⟩
        rw [HA.out, stP_note f j E _ 0 0 f0 f1 j0 (by omega) (by omega)] at hb
        clear HA a0 a1 r0 r1 r2 j2 hok0
        have HS3 := Lib.hid (HS.out.call 0 rfl hf hb)
        clear hb hf
        obtain ⟨R, hR⟩ : ∃ R : Int, (1 : Int) + bs.length - l + 1 = R := ⟨_, rfl⟩
        rw [hR] at HS3
        have hR1 : R ≤ 1 + bs.length - l + 1 := by omega
        have hR2 : 1 + bs.length - l + 1 ≤ R := by omega
        clear hR
        have e2 : IntKind.i64.wrap (E + 1) = E + 1 := IntWalk.i64_in _ (by omega)
        have hok : (stP f E R 0 0).ok 300 := stP_ok f E R 0 0 f0 f1 (by omega) (by omega) (by omega) (by omega) (by decide) (by decide) (by decide) (by decide)
        have HK := Lib.hid hok
        clear hok
        go_wp2_with fail
        refine (frm_of (lost_c _ (stP f E R 0 0) 300 _ (HS3.out.blk 0 rfl) HK.out)).mono ?_
        rintro e w4 ⟨rfl, hf⟩
        have HS4 := Lib.hid (HS3.out.keep hf)
        clear hf
        rw [stP_lost f E R 0 0 f0 (by omega) (by omega) (by omega) (by omega), show E + 1 - R = l from by omega]
        have e3 : IntKind.i32.wrap l = l := IntWalk.i32_in _ (by omega)
        go_wp2_with fail
        refine (frm_of (expected_c _ (stP f E R 0 0) 300 _ (HS4.out.blk 0 rfl) HK.out)).mono ?_
        rintro e w5 ⟨rfl, hf⟩
        have HS5 := Lib.hid (HS4.out.keep hf)
        clear hf
        rw [stP_expd f E R 0 0 f0 (by omega)]
        go_wp2_with fail
        refine (received_c _ (stP f E R 0 0) _ (HS5.out.blk 0 rfl)).mono ?_
        rintro e w' ⟨rfl, rfl⟩
        have e4 : IntKind.i64.wrap (E + 1 - l) = R := by rw [IntWalk.i64_in _ (by omega)]; omega
        rw [show (stP f E R 0 0).rcv = R from rfl]
        go_wp2_with fail
        refine (high_c _ (stP f E R 0 0) 300 _ (HS5.out.blk 0 rfl) HK.out).mono ?_
        rintro e w' ⟨rfl, rfl⟩
        rw [stP_high f E R 0 0 f0 f1 (by omega) (by omega)]
        have e5 : IntKind.u32.wrap f = f := IntWalk.u32_in _ (by omega)
        have e6 : IntKind.u32.wrap E = E := IntWalk.u32_in _ (by omega)
        have e7 : IntKind.u32.wrap (f + E) = f + E := IntWalk.u32_in _ (by omega)
        go_wp2_with fail
        clear e4 e5 e6 e7
        refine (report_c _ (stP f E R 0 0) 300 1 _ (HS5.out.blk 0 rfl) HK.out).mono ?_
        rintro e w6 ⟨rfl, hb, hf⟩
        rw [stP_rep f E R 0 0 f0 (by omega)] at hb
        have hfr : (stP f E R 0 0).fraction = l * 256 / (E + 1) := by
          rw [stP_frac f E R 0 0 (E + 1) l f0 (by omega) (by omega) (by omega), frac_low _ _ (by omega) (by omega)]
        obtain ⟨q, hq⟩ : ∃ q, l * 256 / (E + 1) = q := ⟨_, rfl⟩
        rw [hq] at hfr
        rw [show ((stP f E R 0 0).rep 1).toArray = #[.int .u32 1, .int .i64 q, .int .i32 l, .int .u32 (f + E), .int .u32 0, .int .u32 0, .int .u32 0] from by
          unfold St.rep; rw [hfr, stP_lost f E R 0 0 f0 (by omega) (by omega) (by omega) (by omega), stP_high f E R 0 0 f0 f1 (by omega) (by omega), show E + 1 - R = l from by omega]; rfl]
        have HS6 := Lib.hid ((HS5.out.call 0 rfl hf hb).alloc #[.int .u32 1, .int .i64 q, .int .i32 l, .int .u32 (f + E), .int .u32 0, .int .u32 0, .int .u32 0] 36)
        clear hb hf hfr
        have HQ := Lib.hid hq
        have hok2 : (stP f E R (E + 1) R).ok 300 := stP_ok f E R (E + 1) R f0 f1 (by omega) (by omega) (by omega) (by omega) (by omega) (by omega) (by omega) (by omega)
        have HK2 := Lib.hid hok2
        clear hok2
        have e4 : IntKind.i64.wrap (l * 256) = l * 256 := IntWalk.i64_in _ (by omega)
        have e5 : IntKind.i64.wrap ((l * 256).tdiv (E + 1)) = q := by rw [← hq]; exact IntWalk.i64_quo _ _ (by omega)
        have n1 : ¬ (E + 1 = 0) := by omega
        have n2 : (E + 1 == 0) = false := beq_eq_false_iff_ne.2 n1
        have hfr2 : (stP f E R (E + 1) R).fraction = 0 := by rw [stP_frac f E R (E + 1) R 0 0 f0 (by omega) (by omega) (by omega), frac_none]
        have HF2 := Lib.hid hfr2
        clear hq hfr2 n1
        go_wp2_with fail
        obtain ⟨W, hW⟩ : ∃ W, W = w6.alloc (.cells #[.int .u32 1, .int .i64 q, .int .i32 l, .int .u32 (f + E), .int .u32 0, .int .u32 0, .int .u32 0] 36) := ⟨_, rfl⟩
        rw [← hW] at HS6 ⊢
        clear hW
        have p1 : W.cell? ⟨w6.heap.size, 1, none⟩ = some (.int .i64 q) := (HS6.out.blk 0 rfl).cell 1 rfl
        have p2 : W.cell? ⟨w6.heap.size, 2, none⟩ = some (.int .i32 l) := (HS6.out.blk 0 rfl).cell 2 rfl
        go_quiet (first
          | (go_at_call 18; exact Calls.quiet_of (fraction_v _ _ _ 0 _ (HS6.out.blk 1 rfl) HK2.out HF2.out _))
          | (go_at_call 19; exact Calls.quiet_of (jitter_v _ _ _ 0 _ (HS6.out.blk 1 rfl) HK2.out rfl _)))
        go_wp2_with fail
        go_ret
        exact ⟨rfl, (HS6.out.frm.drewN _).below⟩

end Go.Proofs.Ytbodmoefogkciaa
