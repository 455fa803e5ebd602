/-
  THE WALK of the law ReportPlays.
-/
import Derived.Test.YtbodmoefogkciaaRpT
import Derived.Test.YtbodmoefogkciaaApp
set_option linter.unusedVariables false
set_option linter.unusedSimpArgs false
namespace Go.Proofs.Ytbodmoefogkciaa
open Go.RowKit

/-- What the slots of 'append(append([]One{}, x.All...), o)' hold: newer than block B; the slice lies in a field of block X. -/
def apT (B X : Nat) (a' : Option Addr) (k c' : Nat) (rows : List (List Value)) (row : List Value) (d : Nat) (v : Value) (W : World) : Prop :=
  (d = 56 → ∃ g, v = .slice (some ⟨g, 0, none⟩) 0 0 ∧ B ≤ g ∧ Blk W g 34 #[]) ∧
  (d = 57 → v = .pointer (some ⟨X, 0, none⟩)) ∧
  (d = 58 → v = .slice a' k c') ∧
  (d = 59 → W.ownsRow 0 34 3 v k rows.flatten ∧ ∀ g, v.ownBlock = some g → B ≤ g) ∧
  (d = 60 → v = .agg row.toArray) ∧
  (d = 61 → ∃ g, v = .slice (some ⟨g, 0, none⟩) 1 1 ∧ Blk W g 34 row.toArray)
theorem apT_frm {B X : Nat} {a' : Option Addr} {k c' : Nat} {rows : List (List Value)} {row : List Value} (d : Nat) (v : Value) (w w' : World) (hf : Frm [] w w') (h : apT B X a' k c' rows row d v w) : apT B X a' k c' rows row d v w' := by
  obtain ⟨h1, h2, h3, h4, h5, h6⟩ := h
  refine ⟨fun e => ?_, h2, h3, fun e => ⟨own_frm (h4 e).1 hf, (h4 e).2⟩, h5, fun e => ?_⟩
  · obtain ⟨g, hv, hg, hb⟩ := h1 e
    exact ⟨g, hv, hg, hf.blk hb (by simp)⟩
  · obtain ⟨g, hv, hb⟩ := h6 e
    exact ⟨g, hv, hf.blk hb (by simp)⟩
theorem apT_56 {B X : Nat} {a' : Option Addr} {k c' : Nat} {rows : List (List Value)} {row : List Value} {v : Value} {W : World} (h : ∃ g, v = .slice (some ⟨g, 0, none⟩) 0 0 ∧ B ≤ g ∧ Blk W g 34 #[]) : apT B X a' k c' rows row 56 v W := by
  refine ⟨fun _ => h, ?_, ?_, ?_, ?_, ?_⟩ <;> exact fun e => absurd e (by decide)
theorem apT_57 {B X : Nat} {a' : Option Addr} {k c' : Nat} {rows : List (List Value)} {row : List Value} {v : Value} {W : World} (h : v = .pointer (some ⟨X, 0, none⟩)) : apT B X a' k c' rows row 57 v W := by
  refine ⟨?_, fun _ => h, ?_, ?_, ?_, ?_⟩ <;> exact fun e => absurd e (by decide)
theorem apT_58 {B X : Nat} {a' : Option Addr} {k c' : Nat} {rows : List (List Value)} {row : List Value} {v : Value} {W : World} (h : v = .slice a' k c') : apT B X a' k c' rows row 58 v W := by
  refine ⟨?_, ?_, fun _ => h, ?_, ?_, ?_⟩ <;> exact fun e => absurd e (by decide)
theorem apT_59 {B X : Nat} {a' : Option Addr} {k c' : Nat} {rows : List (List Value)} {row : List Value} {v : Value} {W : World} (h : W.ownsRow 0 34 3 v k rows.flatten ∧ ∀ g, v.ownBlock = some g → B ≤ g) : apT B X a' k c' rows row 59 v W := by
  refine ⟨?_, ?_, ?_, fun _ => h, ?_, ?_⟩ <;> exact fun e => absurd e (by decide)
theorem apT_60 {B X : Nat} {a' : Option Addr} {k c' : Nat} {rows : List (List Value)} {row : List Value} {v : Value} {W : World} (h : v = .agg row.toArray) : apT B X a' k c' rows row 60 v W := by
  refine ⟨?_, ?_, ?_, ?_, fun _ => h, ?_⟩ <;> exact fun e => absurd e (by decide)
theorem apT_61 {B X : Nat} {a' : Option Addr} {k c' : Nat} {rows : List (List Value)} {row : List Value} {v : Value} {W : World} (h : ∃ g, v = .slice (some ⟨g, 0, none⟩) 1 1 ∧ Blk W g 34 row.toArray) : apT B X a' k c' rows row 61 v W := by
  refine ⟨?_, ?_, ?_, ?_, ?_, fun _ => h⟩ <;> exact fun e => absurd e (by decide)
theorem info_one : (Try.prog.info? 34).map (fun i => (i.zero, i.size, i.bytes)) = some (some (.agg #[.int .u16 0, .int .u32 0, .int .i64 0]), 3, 16) := by kernel_rfl

set_option maxRecDepth 100000 in
set_option maxHeartbeats 16000000 in
theorem reportPlays_w (w : World) (a : Option Addr) (cap : Nat) (ones : List One) (lc : ones.length ≤ cap) (mc : cap ≤ maxLen) (rd : RdS 3 w a (ones.map oneRow)) (wf : ∀ o ∈ ones, o.ok) (ssrc : Int) (ws : (Lit.int .u32 ssrc).wf = true) :
    Calls Try.prog 3 #[.slice a ones.length cap, .int .u32 ssrc] w fun e w' => e = .returned (.bool true) ∧ Below w.heap.size w w' := by
  unfold maxLen at mc
  clear ws
  have HR := Lib.hid rd
  have HO := Lib.hid wf
  clear rd wf
  by_cases hbig : 60 < ones.length
  · go_enter Try.func3, Try.ntmps3
    go_wp2_with fail
    refine (alive_c _).mono ?_
    rintro e w1 ⟨rfl, hf⟩
    have HF1 := Lib.hid hf
    clear hf
    go_wp2_with fail
    go_ret
    exact ⟨rfl, HF1.out.below⟩
  · have b1 : ones.length ≤ 60 := by omega
    clear hbig
    go_enter Try.func3, Try.ntmps3
    go_wp2_with fail
    refine (alive_c _).mono ?_
    rintro e w1 ⟨rfl, hf⟩
    have hS1 := ((Sep.init w).keep hf).alloc St.zero.cells 29
    have hS1 := hS1.alloc #[.slice none 0 0, .int .i64 0, .int .i64 0] 31
    rw [World.size_alloc] at hS1
    have hS1 := hS1.add (r := rowsR 3 none []) (Frm.refl _ _) ⟨fun i row hi => by simp at hi, fun p hp => by cases hp⟩ (by simp [rowsR])
    have HS1 := Lib.hid hS1
    clear hf hS1
    go_wp2_with fail
    go_loopw [22] (fun i wr => ∃ (k : Nat) (a' : Option Addr) (c' : Nat) (ex ca : Int), k ≤ ones.length ∧ i = .int .i64 k ∧ (a' = none → c' = 0) ∧ (0 ≤ ex ∧ ex ≤ 70000000 ∧ 0 ≤ ca ∧ ca ≤ 1000) ∧ Sep [] w wr [rowsR 3 a' ((ones.take k).map oneRow), blkR (w1.heap.size + 1) 31 #[.slice a' k c', .int .i64 ex, .int .i64 ca], blkR w1.heap.size 29 (runS (ones.take k) ex ca).cells]) (fun i _ => ones.length - (intOf i).toNat)
    case atStart => exact ⟨0, none, 0, 0, 0, Nat.zero_le _, rfl, fun _ => rfl, ⟨by decide, by decide, by decide, by decide⟩, HS1.out⟩
    case round =>
      obtain ⟨k, a', c', ex, ca, hk, rfl, hac, hbd, hS⟩ := hrel
      have HS := Lib.hid hS
      have HAC := Lib.hid hac
      have HBD := Lib.hid hbd
      clear hS hac hbd
      by_cases hlt : k < ones.length
      · obtain ⟨b, off, o, rfl, hb, x0, x1, x2, hx⟩ := oneRow_at (HR.out.below HS.out.frm.below) k hlt
        have HX := Lib.hid hx
        have HOo := Lib.hid (HO.out o (List.mem_of_getElem? hx))
        clear hx hb
        have HSo := Lib.hid (HS.out.alloc #[.int .u16 o.seq, .int .u32 o.ts, .int .i64 o.now] 34)
        have hlen : (ones.take k).length = k := by rw [List.length_take]; omega
        have HLen := Lib.hid hlen
        have HTo : Hid (∀ p ∈ ones.take k, p.ok) := Lib.hid fun p hp => HO.out p (List.mem_of_mem_take hp)
        clear hlen
        obtain ⟨z, hz⟩ : ∃ z, bits .and .i64 o.now 1 = z := ⟨_, rfl⟩
        go_upto_region 9 with fail
        go_cut [34] (fun c wx => c = .bool (decide (o.now < 0) || (z == 1)) ∧ Sep [] w wx [blkR wr.heap.size 34 #[.int .u16 o.seq, .int .u32 o.ts, .int .i64 o.now], rowsR 3 a' ((ones.take k).map oneRow), blkR (w1.heap.size + 1) 31 #[.slice a' k c', .int .i64 ex, .int .i64 ca], blkR w1.heap.size 29 (runS (ones.take k) ex ca).cells])
        case first =>
          have c2 := (HSo.out.blk 0 rfl).cell 2 rfl
          by_cases hn : o.now < 0
          · have hd : decide (o.now < 0) = true := by simpa using hn
            go_wp2_with fail
            go_meet
            exact ⟨by simp [hd], HSo.out⟩
          · have hd : decide (o.now < 0) = false := by simpa using hn
            by_cases h1 : z = 1
            · have h2 : (z == 1) = true := beq_iff_eq.2 h1
              clear h1
              go_wp2_with fail
              go_meet
              exact ⟨by simp [hd, h2], HSo.out⟩
            · have h2 : (z == 1) = false := beq_eq_false_iff_ne.2 h1
              clear h1
              go_wp2_with fail
              go_meet
              exact ⟨by simp [hd, h2], HSo.out⟩
        case rest =>
          obtain ⟨rfl, hS2⟩ := hcut
          have HS2 := Lib.hid hS2
          clear hS2 HSo
          obtain ⟨T, hT⟩ : ∃ T, (decide (o.now < 0) || (z == 1)) = T := ⟨_, rfl⟩
          rw [hT]
          clear hT hz
          go_upto_if 34 with fail
          go_cut [] (fun wx => ∃ ex' ca' : Int, (0 ≤ ex' ∧ ex' ≤ 70000000 ∧ 0 ≤ ca' ∧ ca' ≤ 1000) ∧ Sep [] w wx [blkR wr.heap.size 34 #[.int .u16 o.seq, .int .u32 o.ts, .int .i64 o.now], rowsR 3 a' ((ones.take k).map oneRow), blkR (w1.heap.size + 1) 31 #[.slice a' k c', .int .i64 ex', .int .i64 ca'], blkR w1.heap.size 29 (runS (ones.take k) ex' ca').cells])
          case first =>
            cases T
            · go_wp2_with fail
              go_meet
              exact ⟨ex, ca, HBD.out, HS2.out⟩
            · go_wp2_with fail
              obtain ⟨S, hS⟩ : ∃ S, S = runS (ones.take k) ex ca := ⟨_, rfl⟩
              have hok : S.ok (ones.take k).length := by rw [hS]; exact runS_ok _ _ _ HTo.out (by rw [HLen.out]; omega) HBD.out.1 HBD.out.2.1 HBD.out.2.2.1 HBD.out.2.2.2
              have hin := St.expd_in hok
              have hsr : S.report = runS (ones.take k) S.expd k := by
                have h1 := runS_rcv (ones.take k) ex ca
                rw [HLen.out] at h1
                rw [hS]
                exact congrArg (fun c => ({ runS (ones.take k) ex ca with ex := (runS (ones.take k) ex ca).expd, ca := c } : St)) h1
              obtain ⟨E, hE⟩ : ∃ E, S.expd = E := ⟨_, rfl⟩
              rw [hE] at hsr hin
              obtain ⟨F, Lo, Hi, J, hrep⟩ : ∃ F Lo Hi J, (S.rep ssrc).toArray = #[.int .u32 ssrc, .int .i64 F, .int .i32 Lo, .int .u32 Hi, .int .u32 J, .int .u32 0, .int .u32 0] := ⟨_, _, _, _, rfl⟩
              have HCr : Hid (∀ W, RdS 3 W a' ((ones.take k).map oneRow) → Calls Try.prog 9 #[.agg #[.slice a' k c', .int .i64 ex, .int .i64 ca], .int .u32 ssrc] W fun e w' => e = .returned (.tuple #[.agg #[.int .u32 ssrc, .int .i64 F, .int .i32 Lo, .int .u32 Hi, .int .u32 J, .int .u32 0, .int .u32 0], .agg #[.slice a' k c', .int .i64 E, .int .i64 k]]) ∧ Frm [] W w') := Lib.hid fun W hW => by
                have h1 := rreport_c a' c' ex ca ssrc (ones.take k) W hW (by rw [HLen.out]; omega) HTo.out HBD.out.1 HBD.out.2.1 HBD.out.2.2.1 HBD.out.2.2.2
                rw [HLen.out, ← hS, hrep, hE] at h1
                exact h1
              have HREP := Lib.hid hrep
              have HOK := Lib.hid hok
              have HSR := Lib.hid hsr
              have HIN := Lib.hid hin
              rw [← hS] at HS2
              clear hok hin hsr hE hrep hS
              refine (report_c _ S _ ssrc _ (HS2.out.blk 3 rfl) HOK.out).mono ?_
              rintro e w5 ⟨rfl, hb, hf⟩
              rw [HREP.out]
              rw [HSR.out] at hb
              have HS5 := Lib.hid ((HS2.out.call 3 rfl hf hb).alloc #[.int .u32 ssrc, .int .i64 F, .int .i32 Lo, .int .u32 Hi, .int .u32 J, .int .u32 0, .int .u32 0] 36)
              clear hb hf
              have k0 := (HS5.out.blk 3 rfl).cell 0 rfl
              have k1 := (HS5.out.blk 3 rfl).cell 1 rfl
              have k2 := (HS5.out.blk 3 rfl).cell 2 rfl
              go_wp2_with fail
              refine (HCr.out _ (HS5.out.get 2 (r := rowsR 3 a' ((ones.take k).map oneRow)) rfl).1).mono ?_
              rintro e w6 ⟨rfl, hf⟩
              have hS7 := ((HS5.out.keep hf).alloc #[.int .u32 ssrc, .int .i64 F, .int .i32 Lo, .int .u32 Hi, .int .u32 J, .int .u32 0, .int .u32 0] 36).alloc #[.slice a' k c', .int .i64 E, .int .i64 k] 31
              rw [World.size_alloc] at hS7
              have HS7 := Lib.hid hS7
              clear hf hS7 k0 k1 k2
              go_upto_region 12 with fail
              go_cut [] (fun wx => Sep [] w wx [blkR (w6.heap.size + 1) 31 #[.slice a' k c', .int .i64 E, .int .i64 k], blkR w6.heap.size 36 #[.int .u32 ssrc, .int .i64 F, .int .i32 Lo, .int .u32 Hi, .int .u32 J, .int .u32 0, .int .u32 0], blkR w5.heap.size 36 #[.int .u32 ssrc, .int .i64 F, .int .i32 Lo, .int .u32 Hi, .int .u32 J, .int .u32 0, .int .u32 0], blkR wr.heap.size 34 #[.int .u16 o.seq, .int .u32 o.ts, .int .i64 o.now], rowsR 3 a' ((ones.take k).map oneRow), blkR (w1.heap.size + 1) 31 #[.slice a' k c', .int .i64 E, .int .i64 k], blkR w1.heap.size 29 (runS (ones.take k) E k).cells])
              case first =>
                have k0 := (HS7.out.blk 5 rfl).cell 0 rfl
                have k1 := (HS7.out.blk 5 rfl).cell 1 rfl
                have k2 := (HS7.out.blk 5 rfl).cell 2 rfl
                have f0 := (HS7.out.blk 5 rfl).free 0
                have f1 := (HS7.out.blk 5 rfl).free 1
                have f2 := (HS7.out.blk 5 rfl).free 2
                have j0 := (HS7.out.blk 0 rfl).cell 0 rfl
                have j1 := (HS7.out.blk 0 rfl).cell 1 rfl
                have j2 := (HS7.out.blk 0 rfl).cell 2 rfl
                go_wp2_with fail
                go_meet
                exact ((HS7.out.put 5 rfl 0 (.slice a' k c')).put 5 rfl 1 (.int .i64 E)).put 5 rfl 2 (.int .i64 k)
              case rest =>
                have HS8 := Lib.hid hcut
                clear hcut
                have p10 := (HS8.out.blk 1 rfl).cell 0 rfl
                have p11 := (HS8.out.blk 1 rfl).cell 1 rfl
                have p12 := (HS8.out.blk 1 rfl).cell 2 rfl
                have p13 := (HS8.out.blk 1 rfl).cell 3 rfl
                have p14 := (HS8.out.blk 1 rfl).cell 4 rfl
                have p15 := (HS8.out.blk 1 rfl).cell 5 rfl
                have p16 := (HS8.out.blk 1 rfl).cell 6 rfl
                have p20 := (HS8.out.blk 2 rfl).cell 0 rfl
                have p21 := (HS8.out.blk 2 rfl).cell 1 rfl
                have p22 := (HS8.out.blk 2 rfl).cell 2 rfl
                have p23 := (HS8.out.blk 2 rfl).cell 3 rfl
                have p24 := (HS8.out.blk 2 rfl).cell 4 rfl
                have p25 := (HS8.out.blk 2 rfl).cell 5 rfl
                have p26 := (HS8.out.blk 2 rfl).cell 6 rfl
                go_wp2_with fail
                go_meet
                exact ⟨E, k, ⟨HIN.out.1, by have := HIN.out.2; omega, by omega, by omega⟩, HS8.out.tail.tail.tail⟩
          case rest =>
            obtain ⟨ex', ca', hbd, hS3⟩ := hcut
            have HS3 := Lib.hid hS3
            have HBD' := Lib.hid hbd
            clear hS3 hbd HS2
            have hok := runS_ok (ones.take k) ex' ca' HTo.out (by rw [HLen.out]; omega) HBD'.out.1 HBD'.out.2.1 HBD'.out.2.2.1 HBD'.out.2.2.2
            have hrc := runS_rcv (ones.take k) ex' ca'
            rw [HLen.out] at hok hrc
            have HOK := Lib.hid hok
            have HRC := Lib.hid hrc
            have hsn : (runS (ones.take k) ex' ca').note o.seq o.ts o.now = runS (ones.take (k + 1)) ex' ca' := by rw [take_snoc ones k o HX.out, runS_snoc]
            have HSN := Lib.hid hsn
            clear hok hrc hsn
            have c0 := (HS3.out.blk 0 rfl).cell 0 rfl
            have c1 := (HS3.out.blk 0 rfl).cell 1 rfl
            have c2 := (HS3.out.blk 0 rfl).cell 2 rfl
            go_wp2_with fail
            refine (note_c _ (runS (ones.take k) ex' ca') k o.seq o.ts o.now _ (HS3.out.blk 3 rfl) HOK.out (by omega) (by rw [HRC.out]; omega) HOo.out.q0 HOo.out.q1 HOo.out.t0 HOo.out.t1).mono ?_
            rintro e w4 ⟨rfl, hb, hf⟩
            rw [HSN.out] at hb
            have HS4 := Lib.hid (HS3.out.call 3 rfl hf hb)
            clear hb hf HS3 c0 c1 c2
            go_upto_region 16 with fail
            go_cut [] (fun wx => ∃ (a2 : Option Addr) (c2 : Nat), (a2 = none → c2 = 0) ∧ Sep [] w wx [rowsR 3 a2 ((ones.take (k + 1)).map oneRow), blkR (w1.heap.size + 1) 31 #[.slice a2 (k + 1 : Nat) c2, .int .i64 ex', .int .i64 ca'], blkR w1.heap.size 29 (runS (ones.take (k + 1)) ex' ca').cells])
            case first =>
              refine region_makes 6 (fun v => Sep [] w v [blkR wr.heap.size 34 #[.int .u16 o.seq, .int .u32 o.ts, .int .i64 o.now], rowsR 3 a' ((ones.take k).map oneRow), blkR (w1.heap.size + 1) 31 #[.slice a' k c', .int .i64 ex', .int .i64 ca'], blkR w1.heap.size 29 (runS (ones.take (k + 1)) ex' ca').cells] ∧ w4.heap.size ≤ v.heap.size) (apT w4.heap.size (w1.heap.size + 1) a' k c' ((ones.take k).map oneRow) (oneRow o))
                (fun v v' hf hv => ⟨hv.1.keep hf, Nat.le_trans hv.2 hf.size⟩) apT_frm ⟨HS4.out.drew, Nat.le_refl _⟩ (by kernel_rfl) (by kernel_rfl) (by kernel_rfl) ?_ ?_
              · refine List.forall_mem_cons.2 ⟨?_, List.forall_mem_cons.2 ⟨?_, List.forall_mem_cons.2 ⟨?_, List.forall_mem_cons.2 ⟨?_, List.forall_mem_cons.2 ⟨?_, List.forall_mem_cons.2 ⟨?_, ?_⟩⟩⟩⟩⟩⟩
                · intro u A v K hu ha hv hd hK
                  exact wp_run (.slice (some ⟨v.heap.size, 0, none⟩) 0 0) (v.alloc (.cells #[] 34)) (by kernel_rfl) (hK _ _ ((Frm.refl _ _).alloc _) (apT_56 ⟨_, rfl, hv.2, Blk.made _ _ _⟩))
                · intro u A v K hu ha hv hd hK
                  have e6 : A.tmps[6]?.getD undef = .pointer (some ⟨w1.heap.size + 1, 0, none⟩) := (eval_tmp A 6).symm.trans (ha 6 rfl)
                  exact wp_run (.pointer (some ⟨w1.heap.size + 1, 0, none⟩)) v (by simp [execOp, go_sem, e6]) (hK _ _ (Frm.refl _ _) (apT_57 rfl))
                · intro u A v K hu ha hv hd hK
                  have e57 : A.tmps[57]?.getD undef = _ := ((eval_tmp A 57).symm.trans (hu 57 rfl)).trans ((hd ⟨1, .data⟩ (by simp) rfl _ _ rfl rfl).2.1 rfl)
                  have k0 := (hv.1.blk 2 rfl).cell 0 rfl
                  exact wp_run (.slice a' k c') v (by simp [execOp, go_sem, e57, k0]) (hK _ _ (Frm.refl _ _) (apT_58 rfl))
                · intro u A v K hu ha hv hd hK
                  have t58 := (hu 58 rfl).trans ((hd ⟨2, .data⟩ (by simp) rfl _ _ rfl rfl).2.2.1 rfl)
                  obtain ⟨g, hv56, hg, hb⟩ := (hd ⟨0, .data⟩ (by simp) rfl _ _ rfl rfl).1 rfl
                  have t56 := (hu 56 rfl).trans hv56
                  obtain ⟨i0, hi, hz0, hz1, hz2⟩ := info_parts info_one
                  have hml : ((ones.take k).map oneRow).length = k := by rw [List.length_map, HLen.out]
                  refine wp_append_fresh (P := Try.prog) (.tmp 56) (.tmp 58) 22 rfl 34 i0 _ 3 16 Try.underlying22 hi hz0 hz1 hz2 rfl (by decide) g t56 hb a' c' ((ones.take k).map oneRow) (by rw [hml]; exact t58) HAC.out (fun r hr => by obtain ⟨p, _, rfl⟩ := List.mem_map.1 hr; rfl) (hv.1.get 1 (r := rowsR 3 a' ((ones.take k).map oneRow)) rfl).1 (by unfold maxLen; omega) (by omega) ?_
                  intro v' w' hown hf hat
                  rw [hml] at hown
                  refine hK _ _ hf (apT_59 ⟨hown, fun g' hg' => ?_⟩)
                  rcases hat with hat | hat
                  · rw [hat] at hg'; injection hg' with hg'; subst hg'; exact hg
                  · rw [hat] at hg'; injection hg' with hg'; subst hg'; exact hv.2
                · intro u A v K hu ha hv hd hK
                  have e8 : A.tmps[8]?.getD undef = .pointer (some ⟨wr.heap.size, 0, none⟩) := (eval_tmp A 8).symm.trans (ha 8 rfl)
                  have k0 := (hv.1.blk 0 rfl).cell 0 rfl
                  have k1 := (hv.1.blk 0 rfl).cell 1 rfl
                  have k2 := (hv.1.blk 0 rfl).cell 2 rfl
                  exact wp_run (.agg (oneRow o).toArray) v (by simp [execOp, go_sem, e8, k0, k1, k2, oneRow]) (hK _ _ (Frm.refl _ _) (apT_60 rfl))
                · intro u A v K hu ha hv hd hK
                  have t60 : A.tmps[60]?.getD undef = _ := ((eval_tmp A 60).symm.trans (hu 60 rfl)).trans ((hd ⟨4, .data⟩ (by simp) rfl _ _ rfl rfl).2.2.2.2.1 rfl)
                  exact wp_run (.slice (some ⟨v.heap.size, 0, none⟩) 1 1) (v.alloc (.cells (oneRow o).toArray 34)) (by simp [execOp, go_sem, t60, oneRow]) (hK _ _ ((Frm.refl _ _).alloc _) (apT_61 ⟨_, rfl, Blk.made _ _ _⟩))
                · exact fun o ho => absurd ho List.not_mem_nil
              · intro u v hv hd
                obtain ⟨hown, hnew⟩ := (hd _ (List.mem_of_getElem? (i := 3) rfl) 59 rfl).2.2.2.1 rfl
                obtain ⟨g, h61, hb61⟩ := (hd _ (List.mem_of_getElem? (i := 5) rfl) 61 rfl).2.2.2.2.2 rfl
                obtain ⟨i0, hi, hz0, hz1, hz2⟩ := info_parts info_one
                have hml : ((ones.take k).map oneRow).length = k := by rw [List.length_map, HLen.out]
                refine wpList_plain rfl fun K hK => ?_
                refine wp_append_rows (P := Try.prog) (.tmp 59) (.tmp 61) 22 rfl 34 i0 _ 3 16 Try.underlying22 hi hz0 hz1 hz2 rfl (by decide) (u 59) k ((ones.take k).map oneRow).flatten rfl hown (some ⟨g, 0, none⟩) 1 [oneRow o] h61 (fun h => by cases h) (fun r hr => by simp at hr; subst hr; rfl) ?_ ?_ (by unfold maxLen; simp; omega) (by simp; omega) ?_
                · intro i row hrow
                  cases i with
                  | zero =>
                    simp at hrow
                    subst hrow
                    exact ⟨g, 0, rfl, hb61.lt, fun j u hj => by rw [Nat.zero_mul, Nat.add_zero, Nat.zero_add]; exact hb61.cell j (by simpa using hj)⟩
                  | succ i => simp at hrow
                · intro r hr u hu
                  simp at hr
                  subst hr
                  simp [oneRow] at hu
                  rcases hu with rfl | rfl | rfl <;> rfl
                · intro v' w' hown' hg hat
                  have hfl : ((ones.take k).map oneRow).flatten ++ [oneRow o].flatten = ((ones.take (k + 1)).map oneRow).flatten := by rw [take_snoc ones k o HX.out]; simp
                  rw [hfl] at hown'
                  have hk1 : (ones.take (k + 1)).length = k + 1 := by rw [List.length_take]; omega
                  obtain ⟨a2, c2, rfl, _, _, hac2, hrd2, hlt2⟩ := RdS.of_own (rows := (ones.take (k + 1)).map oneRow) hown' (fun r hr => by obtain ⟨p, _, rfl⟩ := List.mem_map.1 hr; rfl) (by decide) (by rw [List.length_map, hk1]; rfl)
                  have hF := hv.1.far (Frm.of_grown_opt hg) (fun k hk => hnew k (by simpa using hk)) HS4.out.blocks_lt HS4.out.frm.size
                  have hG := hF.gain (r := rowsR 3 a2 ((ones.take (k + 1)).map oneRow)) ⟨hrd2, hlt2⟩ HS4.out.blocks_lt (fun k hk => by
                    cases a2 with
                    | none => simp [rowsR] at hk
                    | some p =>
                      simp [rowsR] at hk
                      subst hk
                      rcases hat with hat | hat
                      · exact hnew _ (by rw [← hat]; rfl)
                      · simp [Value.ownBlock] at hat
                        rw [hat]
                        exact hv.2) HS4.out.frm.size
                  have HG := Lib.hid (hG.sub (L' := _ :: _) (List.Sublist.cons_cons _ (List.Sublist.cons _ (List.Sublist.cons _ (List.Sublist.refl _)))))
                  have x0 := (hG.blk 3 rfl).cell 0 rfl
                  have y0 := (hG.blk 3 rfl).free 0
                  have xl := (hG.blk 3 rfl).lt
                  rw [List.length_map, hk1]
                  clear hG hF hv hd hown hown' hnew hb61 h61 hat hg hrd2 hlt2 hfl hi hz0 hz1 hz2
                  refine hK _ _ ?_
                  simp only [List.take_succ_cons, List.take_zero, List.drop_succ_cons, List.drop_zero, fills]
                  have HA2 := Lib.hid hac2
                  clear hac2
                  go_wp2_with fail
                  go_meet
                  exact ⟨a2, c2, HA2.out, HG.out.put 1 rfl 0 _⟩
            case rest =>
              obtain ⟨a2, c2, hac, hS5⟩ := hcut
              have HS5 := Lib.hid hS5
              have HAC2 := Lib.hid hac
              clear hS5 hac HS4
              have hlen : (ones.take (k + 1)).length = k + 1 := by rw [List.length_take]; omega
              have HCs : Hid (∀ W, Stat W w1.heap.size (runS (ones.take (k + 1)) ex' ca') → RdS 3 W a2 ((ones.take (k + 1)).map oneRow) → Calls Try.prog 11 #[.pointer (some ⟨w1.heap.size, 0, none⟩), .agg #[.slice a2 (k + 1 : Nat) c2, .int .i64 ex', .int .i64 ca']] W fun e w' => e = .returned (.bool true) ∧ Frm [] W w') := Lib.hid fun W h1 h2 => by
                have h3 := same_c w1.heap.size a2 c2 ex' ca' (ones.take (k + 1)) W h1 h2 (by rw [hlen]; omega) (fun p hp => HO.out p (List.mem_of_mem_take hp)) HBD'.out.1 HBD'.out.2.1 HBD'.out.2.2.1 HBD'.out.2.2.2
                rw [hlen] at h3
                exact h3
              clear hlen
              have k0 := (HS5.out.blk 1 rfl).cell 0 rfl
              have k1 := (HS5.out.blk 1 rfl).cell 1 rfl
              have k2 := (HS5.out.blk 1 rfl).cell 2 rfl
              go_wp2_with fail
              refine (HCs.out _ (HS5.out.blk 2 rfl) (HS5.out.get 0 (r := rowsR 3 a2 ((ones.take (k + 1)).map oneRow)) rfl).1).mono ?_
              rintro e w6 ⟨rfl, hf⟩
              have HS6 := Lib.hid (HS5.out.keep hf)
              clear hf k0 k1 k2 HS5
              go_wp2_with fail
              go_roundw
              case rel => exact ⟨k + 1, a2, c2, ex', ca', by omega, by go_num, HAC2.out, HBD'.out, HS6.out⟩
              case measure => simp [intOf]; omega
      · obtain rfl : k = ones.length := by omega
        have htk : ones.take ones.length = ones := List.take_length
        rw [htk] at HS
        have HCs : Hid (∀ W, Stat W w1.heap.size (runS ones ex ca) → RdS 3 W a' (ones.map oneRow) → Calls Try.prog 11 #[.pointer (some ⟨w1.heap.size, 0, none⟩), .agg #[.slice a' ones.length c', .int .i64 ex, .int .i64 ca]] W fun e w' => e = .returned (.bool true) ∧ Frm [] W w') := Lib.hid fun W h1 h2 =>
          same_c w1.heap.size a' c' ex ca ones W h1 h2 (by omega) HO.out HBD.out.1 HBD.out.2.1 HBD.out.2.2.1 HBD.out.2.2.2
        clear htk
        have k0 := (HS.out.blk 1 rfl).cell 0 rfl
        have k1 := (HS.out.blk 1 rfl).cell 1 rfl
        have k2 := (HS.out.blk 1 rfl).cell 2 rfl
        go_wp2_with fail
        refine (HCs.out _ (HS.out.blk 2 rfl) (HS.out.get 0 (r := rowsR 3 a' (ones.map oneRow)) rfl).1).mono ?_
        rintro e w6 ⟨rfl, hf⟩
        have HS6 := Lib.hid (HS.out.keep hf)
        clear hf k0 k1 k2
        go_wp2_with fail
        go_ret
        exact ⟨rfl, HS6.out.frm.below⟩

end Go.Proofs.Ytbodmoefogkciaa
