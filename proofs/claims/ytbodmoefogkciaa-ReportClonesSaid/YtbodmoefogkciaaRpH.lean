/-
  THE WALK of the law ReportClones.
-/
import Derived.Test.YtbodmoefogkciaaRpF
import Derived.Test.YtbodmoefogkciaaRpO
import Derived.Test.YtbodmoefogkciaaRpM
import Derived.Deep.DeepCutAuto
set_option linter.unusedVariables false
set_option linter.unusedSimpArgs false
namespace Go.Proofs.Ytbodmoefogkciaa
open Go.RowKit

theorem bv_and63 (m : BitVec 64) : (m &&& 63#64).toNat ≤ 63 := by
  rw [BitVec.toNat_and]
  exact Nat.and_le_right
theorem and63 (m : Int) : 0 ≤ bits .and .i64 m 63 ∧ bits .and .i64 m 63 ≤ 63 := by
  have h : bits .and .i64 m 63 = IntKind.i64.wrap ((BitVec.ofInt 64 m &&& 63#64).toNat : Int) := rfl
  have h2 := bv_and63 (BitVec.ofInt 64 m)
  rw [h, IntWalk.i64_in _ (by omega)]
  omega
theorem bv_and1023 (m : BitVec 16) : (m &&& 1023#16).toNat ≤ 1023 := by
  rw [BitVec.toNat_and]
  exact Nat.and_le_right
theorem and1023 (m : Int) : 0 ≤ bits .and .u16 m 1023 ∧ bits .and .u16 m 1023 ≤ 1023 := by
  have h : bits .and .u16 m 1023 = IntKind.u16.wrap ((BitVec.ofInt 16 m &&& 1023#16).toNat : Int) := rfl
  have h2 := bv_and1023 (BitVec.ofInt 16 m)
  rw [h, IntWalk.u16_in _ (by omega)]
  omega
/-- The numbers of the law. -/
def gOf (ms : List Int) (i : Nat) : Int := bits .and .u16 (ms.getD i 0) 1023
theorem gOf_in (ms : List Int) (i : Nat) : 0 ≤ gOf ms i ∧ gOf ms i ≤ 1023 := and1023 _

theorem rdI_cell {k : IntKind} {w : World} {b off : Nat} {ms : List Int} {i : Nat} {x : Int} (h : RdI k w (some ⟨b, off, none⟩) ms) (hx : ms[i]? = some x) : w.cell? ⟨b, off + i, none⟩ = some (.int k x) := by
  obtain ⟨b', off', h1, _, h3⟩ := h i x hx
  simp at h1
  obtain ⟨rfl, rfl⟩ := h1
  exact h3
theorem gOf_at {ms : List Int} {i : Nat} {x : Int} (hx : ms[i]? = some x) : gOf ms i = bits .and .u16 x 1023 := by unfold gOf; rw [List.getD_eq_getElem?_getD, hx]; rfl

set_option maxRecDepth 100000 in
set_option maxHeartbeats 16000000 in
theorem reportClones_w (w : World) (a : Option Addr) (cap : Nat) (ones : List One) (lc : ones.length ≤ cap) (mc : cap ≤ maxLen) (rd : RdS 3 w a (ones.map oneRow)) (wf : ∀ o ∈ ones, o.ok)
    (a2 : Option Addr) (cap2 : Nat) (ms : List Int) (lc2 : ms.length ≤ cap2) (mc2 : cap2 ≤ maxLen) (rd2 : RdI .u16 w a2 ms) (wf2 : ∀ x ∈ ms, (Lit.int .u16 x).wf = true) (swap : Int) (ws : (Lit.int .i64 swap).wf = true) :
    Calls Try.prog 4 #[.slice a ones.length cap, .slice a2 ms.length cap2, .int .i64 swap] w fun e w' => e = .returned (.bool true) ∧ Below w.heap.size w w' := by
  unfold maxLen at mc mc2
  clear ws
  have hms : ∀ x ∈ ms, 0 ≤ x ∧ x ≤ 65535 := fun x hx => by simpa [Lit.wf, IntKind.min, IntKind.max, IntKind.bits, IntKind.signed] using wf2 x hx
  have HMS := Lib.hid hms
  have HR := Lib.hid rd
  have HR2 := Lib.hid rd2
  have HO := Lib.hid wf
  clear rd rd2 wf wf2 hms
  by_cases hbig : 60 < ones.length ∨ 60 < ms.length ∨ ms.length < 2
  · by_cases hb1 : 60 < ones.length
    · clear hbig
      go_enter Try.func4, Try.ntmps4
      go_wp2_with fail
      refine (alive_c _).mono ?_
      rintro e w1 ⟨rfl, hf⟩
      have HF1 := Lib.hid hf
      clear hf
      go_wp2_with fail
      go_ret
      exact ⟨rfl, HF1.out.below⟩
    · by_cases hb2 : 60 < ms.length
      · clear hbig
        go_enter Try.func4, Try.ntmps4
        go_wp2_with fail
        refine (alive_c _).mono ?_
        rintro e w1 ⟨rfl, hf⟩
        have HF1 := Lib.hid hf
        clear hf
        go_wp2_with fail
        go_ret
        exact ⟨rfl, HF1.out.below⟩
      · have hb3 : ms.length < 2 := by omega
        clear hbig
        go_enter Try.func4, Try.ntmps4
        go_wp2_with fail
        refine (alive_c _).mono ?_
        rintro e w1 ⟨rfl, hf⟩
        have HF1 := Lib.hid hf
        clear hf
        go_wp2_with fail
        go_ret
        exact ⟨rfl, HF1.out.below⟩
  · have b1 : ones.length ≤ 60 := by omega
    have b2 : ms.length ≤ 60 := by omega
    have b3 : 2 ≤ ms.length := by omega
    clear hbig
    go_enter Try.func4, Try.ntmps4
    go_wp2_with fail
    refine (alive_c _).mono ?_
    rintro e w1 ⟨rfl, hf⟩
    have HS1 := Lib.hid (((Sep.init w).keep hf).alloc St.zero.cells 29)
    clear hf
    go_wp2_with fail
    go_loopw [36] (fun i wr => ∃ (k : Nat) (S : St), k ≤ ones.length ∧ i = .int .i64 k ∧ S.ok k ∧ S.rcv = k ∧ Sep [] w wr [blkR w1.heap.size 29 S.cells]) (fun i _ => ones.length - (intOf i).toNat)
    case atStart => exact ⟨0, St.zero, Nat.zero_le _, rfl, St.zero_ok, rfl, HS1.out⟩
    case round =>
      obtain ⟨k, S, hk, rfl, hok, hrcv, hS⟩ := hrel
      have HS := Lib.hid hS
      have HK := Lib.hid hok
      have HC := Lib.hid hrcv
      clear hS hok hrcv
      by_cases hlt : k < ones.length
      · obtain ⟨b, off, o, rfl, hb, x0, x1, x2, hx⟩ := oneRow_at (HR.out.below HS.out.frm.below) k hlt
        have ho := HO.out o (List.mem_of_getElem? hx)
        have HOk := Lib.hid ho
        clear hx hb ho
        go_wp2_with fail
        refine (note_c _ S k o.seq o.ts o.now _ (HS.out.skip (.cells #[.int .u16 o.seq, .int .u32 o.ts, .int .i64 o.now] 34) |>.blk 0 rfl) HK.out (by omega) (by have := HC.out; omega) HOk.out.q0 HOk.out.q1 HOk.out.t0 HOk.out.t1).mono ?_
        rintro e w3 ⟨rfl, hb, hf⟩
        have HS3 := Lib.hid ((HS.out.skip (.cells #[.int .u16 o.seq, .int .u32 o.ts, .int .i64 o.now] 34)).call 0 rfl hf hb)
        clear hb hf
        go_wp2_with fail
        go_roundw
        case rel => exact ⟨k + 1, _, by omega, by go_num, St.note_ok HK.out (by omega) o.seq o.ts o.now HOk.out.q0 HOk.out.q1 HOk.out.t0 HOk.out.t1 (by have := HC.out; omega), by have := HC.out; simp only [St.note]; omega, HS3.out⟩
        case measure => simp [intOf]; omega
      · obtain rfl : k = ones.length := by omega
        go_wp2_with fail
        refine (note_c _ S ones.length 100 0 0 _ (HS.out.blk 0 rfl) HK.out (by omega) (by have := HC.out; omega) (by decide) (by decide) (by decide) (by decide)).mono ?_
        rintro e w3 ⟨rfl, hb, hf⟩
        have HS3 := Lib.hid (HS.out.call 0 rfl hf hb)
        have hok : (S.note 100 0 0).ok (ones.length + 1) := St.note_ok HK.out (by omega) 100 0 0 (by decide) (by decide) (by decide) (by decide) (by have := HC.out; omega)
        have hrc : (S.note 100 0 0).rcv = ones.length + 1 := by have := HC.out; simp only [St.note]; omega
        obtain ⟨T, hT⟩ : ∃ T, T = S.note 100 0 0 := ⟨_, rfl⟩
        rw [← hT] at HS3 hok hrc
        have HT := Lib.hid hok
        have HTc := Lib.hid hrc
        clear hb hf hok hrc hT HK HC
        go_wp2_with fail
        refine (rclone_c _ T _ (HS3.out.blk 0 rfl)).mono ?_
        rintro e w4 ⟨rfl, hb, hf⟩
        have HS4 := Lib.hid (HS3.out.add hf (r := blkR w3.heap.size 29 T.cells) hb (by simp [blkR]))
        clear hb hf
        go_wp2_with fail
        obtain ⟨F, Lo, Hi, J, hrep⟩ : ∃ F Lo Hi J, (T.rep 3).toArray = #[.int .u32 3, .int .i64 F, .int .i32 Lo, .int .u32 Hi, .int .u32 J, .int .u32 0, .int .u32 0] := ⟨_, _, _, _, rfl⟩
        have HREP := Lib.hid hrep
        clear hrep
        refine (report_c _ T _ 3 _ (HS4.out.blk 1 rfl) HT.out).mono ?_
        rintro e w5 ⟨rfl, hb, hf⟩
        rw [HREP.out]
        have HS5 := Lib.hid ((HS4.out.call 1 rfl hf hb).alloc #[.int .u32 3, .int .i64 F, .int .i32 Lo, .int .u32 Hi, .int .u32 J, .int .u32 0, .int .u32 0] 36)
        clear hb hf
        go_upto_region 14 with fail
        go_cut [58] (fun c wx => c = .bool false ∧ Sep [] w wx [blkR w5.heap.size 36 #[.int .u32 3, .int .i64 F, .int .i32 Lo, .int .u32 Hi, .int .u32 J, .int .u32 0, .int .u32 0], blkR w3.heap.size 29 T.report.cells, blkR w1.heap.size 29 T.report.cells])
        case first =>
          obtain ⟨W, hW⟩ : ∃ W, W = w5.alloc (.cells #[.int .u32 3, .int .i64 F, .int .i32 Lo, .int .u32 Hi, .int .u32 J, .int .u32 0, .int .u32 0] 36) := ⟨_, rfl⟩
          rw [← hW] at HS5 ⊢
          clear hW
          have p0 : W.cell? ⟨w5.heap.size, 0, none⟩ = some (.int .u32 3) := (HS5.out.blk 0 rfl).cell 0 rfl
          have p1 : W.cell? ⟨w5.heap.size, 1, none⟩ = some (.int .i64 F) := (HS5.out.blk 0 rfl).cell 1 rfl
          have p2 : W.cell? ⟨w5.heap.size, 2, none⟩ = some (.int .i32 Lo) := (HS5.out.blk 0 rfl).cell 2 rfl
          have p3 : W.cell? ⟨w5.heap.size, 3, none⟩ = some (.int .u32 Hi) := (HS5.out.blk 0 rfl).cell 3 rfl
          have p4 : W.cell? ⟨w5.heap.size, 4, none⟩ = some (.int .u32 J) := (HS5.out.blk 0 rfl).cell 4 rfl
          have p5 : W.cell? ⟨w5.heap.size, 5, none⟩ = some (.int .u32 0) := (HS5.out.blk 0 rfl).cell 5 rfl
          have p6 : W.cell? ⟨w5.heap.size, 6, none⟩ = some (.int .u32 0) := (HS5.out.blk 0 rfl).cell 6 rfl
          go_region_with (go_at_call 8; refine (report_c _ T _ 3 _ (HS5.out.drew.blk 1 rfl) HT.out).mono ?_; rintro e w6 ⟨rfl, hb, hf⟩; rw [HREP.out]; have HS6 := Lib.hid (HS5.out.drew.call 1 rfl hf hb); clear hb hf; have q0 : w6.cell? ⟨w5.heap.size, 0, none⟩ = some (.int .u32 3) := (HS6.out.blk 0 rfl).cell 0 rfl; have q1 : w6.cell? ⟨w5.heap.size, 1, none⟩ = some (.int .i64 F) := (HS6.out.blk 0 rfl).cell 1 rfl; have q2 : w6.cell? ⟨w5.heap.size, 2, none⟩ = some (.int .i32 Lo) := (HS6.out.blk 0 rfl).cell 2 rfl; have q3 : w6.cell? ⟨w5.heap.size, 3, none⟩ = some (.int .u32 Hi) := (HS6.out.blk 0 rfl).cell 3 rfl; have q4 : w6.cell? ⟨w5.heap.size, 4, none⟩ = some (.int .u32 J) := (HS6.out.blk 0 rfl).cell 4 rfl; have q5 : w6.cell? ⟨w5.heap.size, 5, none⟩ = some (.int .u32 0) := (HS6.out.blk 0 rfl).cell 5 rfl; have q6 : w6.cell? ⟨w5.heap.size, 6, none⟩ = some (.int .u32 0) := (HS6.out.blk 0 rfl).cell 6 rfl)
          all_goals go_wp2_with fail
          all_goals (go_meet; exact ⟨by rfl, HS6.out⟩)
        case rest =>
          obtain ⟨rfl, hS⟩ := hcut
          have HS6 := Lib.hid hS
          clear hS
          go_wp2_with fail
          have hS7 := (HS6.out.alloc St.zero.cells 29).alloc St.zero.cells 29
          rw [World.size_alloc] at hS7
          have HS7 := Lib.hid hS7
          clear hS7
          refine (note_c _ St.zero 0 1000 0 0 _ (HS7.out.blk 1 rfl) St.zero_ok (by decide) (by decide) (by decide) (by decide) (by decide) (by decide)).mono ?_
          rintro e w7 ⟨rfl, hb, hf⟩
          rw [stP_first 1000 (by decide) (by decide)] at hb
          have HS8 := Lib.hid (HS7.out.call 1 rfl hf hb)
          clear hb hf
          go_wp2_with fail
          refine (note_c _ St.zero 0 1000 0 0 _ (HS8.out.blk 0 rfl) St.zero_ok (by decide) (by decide) (by decide) (by decide) (by decide) (by decide)).mono ?_
          rintro e w8 ⟨rfl, hb, hf⟩
          rw [stP_first 1000 (by decide) (by decide)] at hb
          have HS9 := Lib.hid (HS8.out.call 0 rfl hf hb)
          clear hb hf
          obtain ⟨z0, z1⟩ := and63 swap
          obtain ⟨z, hz⟩ : ∃ z, bits .and .i64 swap 63 = z := ⟨_, rfl⟩
          rw [hz] at z0 z1
          have hm1 : IntKind.i64.wrap ((ms.length : Int) - 1) = ms.length - 1 := IntWalk.i64_in _ (by omega)
          have hm2 : ((ms.length : Int) - 1 == 0) = false := beq_eq_false_iff_ne.2 (by omega)
          have hk0 : 0 ≤ z.tmod ((ms.length : Int) - 1) ∧ z.tmod ((ms.length : Int) - 1) < ms.length - 1 := by
            rw [Int.tmod_eq_emod_of_nonneg z0]
            exact ⟨Int.emod_nonneg _ (by omega), Int.emod_lt_of_pos _ (by omega)⟩
          obtain ⟨K, hK⟩ : ∃ K : Nat, z.tmod ((ms.length : Int) - 1) = K := ⟨(z.tmod ((ms.length : Int) - 1)).toNat, by omega⟩
          rw [hK] at hk0
          have hk1 : K + 2 ≤ ms.length := by omega
          have hm3 : IntKind.i64.wrap (K : Int) = K := IntWalk.i64_in _ (by omega)
          clear hk0
          go_wp2_with fail
          go_loopw [75] (fun n wr => ∃ (i : Nat) (U : St), i ≤ ms.length ∧ n = .int .i64 i ∧ U.ok (ones.length + 1 + i) ∧ U.rcv = ones.length + 1 + i ∧ Sep [] w wr [blkR (wc.heap.size + 1) 29 (stP 1000 (mz (gOf ms) K i) (1 + i) 0 0).cells, blkR wc.heap.size 29 (stP 1000 (mx (gOf ms) i) (1 + i) 0 0).cells, blkR w5.heap.size 36 #[.int .u32 3, .int .i64 F, .int .i32 Lo, .int .u32 Hi, .int .u32 J, .int .u32 0, .int .u32 0], blkR w3.heap.size 29 T.report.cells, blkR w1.heap.size 29 U.cells]) (fun n _ => ms.length - (intOf n).toNat)
          case atStart => exact ⟨0, T.report, Nat.zero_le _, rfl, St.report_ok HT.out, by have := HTc.out; simp only [St.report]; omega, by rw [mz_zero]; exact HS9.out⟩
          case round =>
            obtain ⟨i, U, hi, rfl, hok, hrcv, hS⟩ := hrel
            have HS := Lib.hid hS
            have HK := Lib.hid hok
            have HC := Lib.hid hrcv
            clear hS hok hrcv
            by_cases hlt : i < ms.length
            · have hsw : sw K i < ms.length := by unfold sw; split <;> (try split) <;> omega
              obtain ⟨b, off, x, hx, rfl, hb, c0⟩ := (HR2.out.below HS.out.frm.below).at_ i hlt
              have hy : ms[sw K i]? = some ms[sw K i] := List.getElem?_eq_getElem hsw
              obtain ⟨y, hyy⟩ : ∃ y, y = ms[sw K i] := ⟨_, rfl⟩
              rw [← hyy] at hy
              have hbx := HMS.out x (List.mem_of_getElem? hx)
              have hgx := gOf_at hx
              have hgy := gOf_at hy
              have hgx0 := gOf_in ms i
              have hgy0 := gOf_in ms (sw K i)
              obtain ⟨gx, hx2⟩ : ∃ gx, gx = gOf ms i := ⟨_, rfl⟩
              obtain ⟨gy, hy2⟩ : ∃ gy, gy = gOf ms (sw K i) := ⟨_, rfl⟩
              rw [← hx2] at hgx hgx0
              rw [← hy2] at hgy hgy0
              obtain ⟨x0, x1⟩ := hbx
              obtain ⟨gx0, gx1⟩ := hgx0
              obtain ⟨gy0, gy1⟩ := hgy0
              have hfx : bits .and .u16 x 1023 = gx := hgx.symm
              have hfy : bits .and .u16 y 1023 = gy := hgy.symm
              have hw1 : IntKind.u16.wrap (1000 + gx) = 1000 + gx := IntWalk.u16_in _ (by omega)
              have hw2 : IntKind.u16.wrap (1000 + gy) = 1000 + gy := IntWalk.u16_in _ (by omega)
              have hmA := mx_in (gOf ms) (gOf_in ms) i
              have hmB := mz_in (gOf ms) (gOf_in ms) K i
              have HX := Lib.hid hx
              have HY := Lib.hid hy
              have HX2 := Lib.hid hx2
              have HY2 := Lib.hid hy2
              obtain ⟨MA, hMA⟩ : ∃ MA, MA = mx (gOf ms) i := ⟨_, rfl⟩
              obtain ⟨MB, hMB⟩ : ∃ MB, MB = mz (gOf ms) K i := ⟨_, rfl⟩
              rw [← hMA] at hmA HS
              rw [← hMB] at hmB HS
              obtain ⟨a0, a1⟩ := hmA
              obtain ⟨m0, m1⟩ := hmB
              have HMA := Lib.hid hMA
              have HMB := Lib.hid hMB
              clear hx hy hyy hgx hgy hx2 hy2 hMA hMB hsw hb
              by_cases hiK : (i : Int) = K
              · have hsk : sw K i = K + 1 := by unfold sw; rw [if_neg (by omega), if_pos (by omega)]
                have hBK : ((i : Int) == K) = true := beq_iff_eq.2 hiK
                have hBK1 : ((i : Int) == K + 1) = false := beq_eq_false_iff_ne.2 (by omega)
                have HYK : Hid (ms[K + 1]? = some y) := Lib.hid (hsk ▸ HY.out)
                have hk2 : (i : Int) + 1 < ms.length := by omega
                clear hsk hiK
                go_wp2_with fail
                refine (note_c _ (stP 1000 MA (1 + i) 0 0) 300 (1000 + gx) 0 0 _ (HS.out.blk 1 rfl) (stM_ok MA (1 + i) a0 a1 (by omega) (by omega)) (by decide) (by simp only [stP]; omega) (by omega) (by omega) (by decide) (by decide)).mono ?_
                rintro e w10 ⟨rfl, hb, hf⟩
                rw [stP_any MA gx _ a0 a1 gx0 gx1] at hb
                have HS10 := Lib.hid (HS.out.call 1 rfl hf hb)
                clear hb hf
                have c1 : w10.cell? ⟨b, off + (K + 1), none⟩ = some (.int .u16 y) := rdI_cell (HR2.out.below HS10.out.frm.below) HYK.out
                go_wp2_with fail
                refine (note_c _ (stP 1000 MB (1 + i) 0 0) 300 (1000 + gy) 0 0 _ (HS10.out.blk 0 rfl) (stM_ok MB (1 + i) m0 m1 (by omega) (by omega)) (by decide) (by simp only [stP]; omega) (by omega) (by omega) (by decide) (by decide)).mono ?_
                rintro e w11 ⟨rfl, hb, hf⟩
                rw [stP_any MB gy _ m0 m1 gy0 gy1] at hb
                have HS11 := Lib.hid (HS10.out.call 0 rfl hf hb)
                clear hb hf
                have c2 : w11.cell? ⟨b, off + i, none⟩ = some (.int .u16 x) := rdI_cell (HR2.out.below HS11.out.frm.below) HX.out
                go_wp2_with fail
                refine (note_c _ U (ones.length + 1 + i) x 5 5 _ (HS11.out.blk 4 rfl) HK.out (by omega) (by have := HC.out; omega) x0 x1 (by decide) (by decide)).mono ?_
                rintro e w12 ⟨rfl, hb, hf⟩
                have HS12 := Lib.hid (HS11.out.call 4 rfl hf hb)
                clear hb hf
                go_wp2_with fail
                go_roundw
                case rel => exact ⟨i + 1, _, by omega, by go_num, St.note_ok HK.out (by omega) x 5 5 x0 x1 (by decide) (by decide) (by have := HC.out; omega), by have := HC.out; simp only [St.note]; omega, by rw [mz_step, show mx (gOf ms) (i + 1) = max (mx (gOf ms) i) (gOf ms i) from rfl, ← HMA.out, ← HMB.out, ← HX2.out, ← HY2.out, show (1 : Int) + (i + 1 : Nat) = 1 + i + 1 from by omega]; exact HS12.out⟩
                case measure => simp [intOf]; omega
              · have hBK : ((i : Int) == K) = false := beq_eq_false_iff_ne.2 hiK
                by_cases hiK1 : (i : Int) = K + 1
                · have hsk : sw K i = K := by unfold sw; rw [if_pos (by omega)]
                  have hBK1 : ((i : Int) == K + 1) = true := beq_iff_eq.2 hiK1
                  have HYK : Hid (ms[K]? = some y) := Lib.hid (hsk ▸ HY.out)
                  clear hsk hiK1 hiK
                  go_wp2_with fail
                  refine (note_c _ (stP 1000 MA (1 + i) 0 0) 300 (1000 + gx) 0 0 _ (HS.out.blk 1 rfl) (stM_ok MA (1 + i) a0 a1 (by omega) (by omega)) (by decide) (by simp only [stP]; omega) (by omega) (by omega) (by decide) (by decide)).mono ?_
                  rintro e w10 ⟨rfl, hb, hf⟩
                  rw [stP_any MA gx _ a0 a1 gx0 gx1] at hb
                  have HS10 := Lib.hid (HS.out.call 1 rfl hf hb)
                  clear hb hf
                  have c1 : w10.cell? ⟨b, off + K, none⟩ = some (.int .u16 y) := rdI_cell (HR2.out.below HS10.out.frm.below) HYK.out
                  go_wp2_with fail
                  refine (note_c _ (stP 1000 MB (1 + i) 0 0) 300 (1000 + gy) 0 0 _ (HS10.out.blk 0 rfl) (stM_ok MB (1 + i) m0 m1 (by omega) (by omega)) (by decide) (by simp only [stP]; omega) (by omega) (by omega) (by decide) (by decide)).mono ?_
                  rintro e w11 ⟨rfl, hb, hf⟩
                  rw [stP_any MB gy _ m0 m1 gy0 gy1] at hb
                  have HS11 := Lib.hid (HS10.out.call 0 rfl hf hb)
                  clear hb hf
                  have c2 : w11.cell? ⟨b, off + i, none⟩ = some (.int .u16 x) := rdI_cell (HR2.out.below HS11.out.frm.below) HX.out
                  go_wp2_with fail
                  refine (note_c _ U (ones.length + 1 + i) x 5 5 _ (HS11.out.blk 4 rfl) HK.out (by omega) (by have := HC.out; omega) x0 x1 (by decide) (by decide)).mono ?_
                  rintro e w12 ⟨rfl, hb, hf⟩
                  have HS12 := Lib.hid (HS11.out.call 4 rfl hf hb)
                  clear hb hf
                  go_wp2_with fail
                  go_roundw
                  case rel => exact ⟨i + 1, _, by omega, by go_num, St.note_ok HK.out (by omega) x 5 5 x0 x1 (by decide) (by decide) (by have := HC.out; omega), by have := HC.out; simp only [St.note]; omega, by rw [mz_step, show mx (gOf ms) (i + 1) = max (mx (gOf ms) i) (gOf ms i) from rfl, ← HMA.out, ← HMB.out, ← HX2.out, ← HY2.out, show (1 : Int) + (i + 1 : Nat) = 1 + i + 1 from by omega]; exact HS12.out⟩
                  case measure => simp [intOf]; omega
                · have hsk : sw K i = i := by unfold sw; rw [if_neg (by omega), if_neg (by omega)]
                  have hBK1 : ((i : Int) == K + 1) = false := beq_eq_false_iff_ne.2 hiK1
                  have HYK : Hid (ms[i]? = some y) := Lib.hid (hsk ▸ HY.out)
                  clear hsk hiK1 hiK
                  go_wp2_with fail
                  refine (note_c _ (stP 1000 MA (1 + i) 0 0) 300 (1000 + gx) 0 0 _ (HS.out.blk 1 rfl) (stM_ok MA (1 + i) a0 a1 (by omega) (by omega)) (by decide) (by simp only [stP]; omega) (by omega) (by omega) (by decide) (by decide)).mono ?_
                  rintro e w10 ⟨rfl, hb, hf⟩
                  rw [stP_any MA gx _ a0 a1 gx0 gx1] at hb
                  have HS10 := Lib.hid (HS.out.call 1 rfl hf hb)
                  clear hb hf
                  have c1 : w10.cell? ⟨b, off + i, none⟩ = some (.int .u16 y) := rdI_cell (HR2.out.below HS10.out.frm.below) HYK.out
                  go_wp2_with fail
                  refine (note_c _ (stP 1000 MB (1 + i) 0 0) 300 (1000 + gy) 0 0 _ (HS10.out.blk 0 rfl) (stM_ok MB (1 + i) m0 m1 (by omega) (by omega)) (by decide) (by simp only [stP]; omega) (by omega) (by omega) (by decide) (by decide)).mono ?_
                  rintro e w11 ⟨rfl, hb, hf⟩
                  rw [stP_any MB gy _ m0 m1 gy0 gy1] at hb
                  have HS11 := Lib.hid (HS10.out.call 0 rfl hf hb)
                  clear hb hf
                  have c2 : w11.cell? ⟨b, off + i, none⟩ = some (.int .u16 x) := rdI_cell (HR2.out.below HS11.out.frm.below) HX.out
                  go_wp2_with fail
                  refine (note_c _ U (ones.length + 1 + i) x 5 5 _ (HS11.out.blk 4 rfl) HK.out (by omega) (by have := HC.out; omega) x0 x1 (by decide) (by decide)).mono ?_
                  rintro e w12 ⟨rfl, hb, hf⟩
                  have HS12 := Lib.hid (HS11.out.call 4 rfl hf hb)
                  clear hb hf
                  go_wp2_with fail
                  go_roundw
                  case rel => exact ⟨i + 1, _, by omega, by go_num, St.note_ok HK.out (by omega) x 5 5 x0 x1 (by decide) (by decide) (by have := HC.out; omega), by have := HC.out; simp only [St.note]; omega, by rw [mz_step, show mx (gOf ms) (i + 1) = max (mx (gOf ms) i) (gOf ms i) from rfl, ← HMA.out, ← HMB.out, ← HX2.out, ← HY2.out, show (1 : Int) + (i + 1 : Nat) = 1 + i + 1 from by omega]; exact HS12.out⟩
                  case measure => simp [intOf]; omega
            · obtain rfl : i = ms.length := by omega
              rw [mz_end _ _ _ hk1] at HS
              have hmA := mx_in (gOf ms) (gOf_in ms) ms.length
              obtain ⟨MA, hMA⟩ : ∃ MA, MA = mx (gOf ms) ms.length := ⟨_, rfl⟩
              rw [← hMA] at hmA HS
              obtain ⟨a0, a1⟩ := hmA
              clear hMA
              have hok := stM_ok MA (1 + ms.length) a0 a1 (by omega) (by omega)
              obtain ⟨V, hV⟩ : ∃ V, V = stP 1000 MA (1 + ms.length) 0 0 := ⟨_, rfl⟩
              rw [← hV] at HS hok
              have HV := Lib.hid hok
              clear hV hok
              have hU : U.rcv = ones.length + 1 + ms.length := HC.out
              have hTr : T.report.rcv = ones.length + 1 := HTc.out
              have HU := Lib.hid hU
              have HTr := Lib.hid hTr
              clear hU hTr
              go_wp2_with fail
              refine (frm_of (lost_c _ V 300 _ (HS.out.blk 1 rfl) HV.out)).mono ?_
              rintro e w10 ⟨rfl, hf⟩
              have HS10 := Lib.hid (HS.out.keep hf)
              clear hf
              go_wp2_with fail
              refine (frm_of (lost_c _ V 300 _ (HS10.out.blk 0 rfl) HV.out)).mono ?_
              rintro e w11 ⟨rfl, hf⟩
              have HS11 := Lib.hid (HS10.out.keep hf)
              clear hf
              go_wp2_with fail
              refine (frm_of (expected_c _ V 300 _ (HS11.out.blk 1 rfl) HV.out)).mono ?_
              rintro e w12 ⟨rfl, hf⟩
              have HS12 := Lib.hid (HS11.out.keep hf)
              clear hf
              go_wp2_with fail
              refine (frm_of (expected_c _ V 300 _ (HS12.out.blk 0 rfl) HV.out)).mono ?_
              rintro e w13 ⟨rfl, hf⟩
              have HS13 := Lib.hid (HS12.out.keep hf)
              clear hf
              go_wp2_with fail
              refine (high_c _ V 300 _ (HS13.out.blk 1 rfl) HV.out).mono ?_
              rintro e w' ⟨rfl, rfl⟩
              go_wp2_with fail
              refine (high_c _ V 300 _ (HS13.out.blk 0 rfl) HV.out).mono ?_
              rintro e w' ⟨rfl, rfl⟩
              go_wp2_with fail
              refine (received_c _ T.report _ (HS13.out.blk 3 rfl)).mono ?_
              rintro e w' ⟨rfl, rfl⟩
              rw [HTr.out]
              go_wp2_with fail
              refine (received_c _ U _ (HS13.out.blk 4 rfl)).mono ?_
              rintro e w' ⟨rfl, rfl⟩
              rw [HU.out]
              go_wp2_with fail
              refine (received_c _ T.report _ (HS13.out.blk 3 rfl)).mono ?_
              rintro e w' ⟨rfl, rfl⟩
              rw [HTr.out]
              go_wp2_with fail
              go_ret
              exact ⟨rfl, HS13.out.frm.below⟩

end Go.Proofs.Ytbodmoefogkciaa
