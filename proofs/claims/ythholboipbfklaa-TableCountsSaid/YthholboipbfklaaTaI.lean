/-
  THE WALK of the law TableCounts.
-/
import Derived.Test.YthholboipbfklaaTaG
import Derived.Deep.RegionHeld3
import Derived.Deep.MidRow
import Derived.Laws.StructEq
set_option linter.unusedVariables false
set_option linter.unusedSimpArgs false
namespace Go.Proofs.Ythholboipbfklaa
open Go.RowKit

theorem run_equal_arr (d : Nat) (f : Nat → Int) (w : World) : (Op.equalIn (d + 2) 26 (.agg (arr f)) (.agg (arr f))).run Try.prog w = .ok true w := by
  have hsz : ∀ w, (sizeOf 3).run Try.prog w = .ok 1 w := fun w => by kernel_rfl
  rw [Op.equalIn]
  simp only [Sem.run_bind, run_underlying Try.underlying26, Result.andThen_ok, hsz, Std.Legacy.Range.forIn_eq_forIn_range', Std.Legacy.Range.size, Nat.sub_zero, Nat.add_sub_cancel, Nat.div_one]
  have hl : ∀ i ∈ List.range' 0 256 1, i < 256 := fun i hi => by simpa using (List.mem_range'_1.1 hi).2
  generalize List.range' 0 256 1 = l at hl ⊢
  induction l with
  | nil => simp
  | cons i l ih =>
    have hi : i < 256 := hl i (by simp)
    have hag : (isAgg 3).run Try.prog w = .ok false w := by kernel_rfl
    have px : (part 3 (arr f) (i * 1)).run Try.prog w = .ok (.int .i64 (f i)) w := by
      simp [part, hag, arr_get f i hi, Sem.run_bind]
    have pe : (Op.equalIn (d + 1) 3 (.int .i64 (f i)) (.int .i64 (f i))).run Try.prog w = .ok true w := by
      rw [run_equalIn_int w d 3 .i64 .i64 _ _ Try.underlying3]
      simp
    simp only [List.forIn_cons, Sem.run_bind, px, pe, Result.andThen_ok, List.all_cons]
    simp only [Bool.not_true, Bool.false_eq_true, if_false, Sem.run_pure, Result.andThen_ok, Bool.true_and]
    exact ih fun j hj => hl j (by simp [hj])
theorem run_neq_arr (f : Nat → Int) (w : World) : (binOp .neq 26 (.agg (arr f)) (.agg (arr f))).run Try.prog w = .ok (.bool false) w := by
  rw [run_neq_struct, run_equal_arr 9998 f w]
  rfl

/-- A load of a whole array in a region that only reads. -/
theorem wpQuiet_load {P : Program} {ops : Array Oper} {C : World → Prop} {Q : Act → Prop} {a : Act} {o : Oper} {rest : List Oper} (hw : Region.wanted o (yielded ops a.tmps) = true) (ty : TypeId) (x : Operand) (ho : o.op = .load ty x)
    (p : Addr) (hx : a.eval x = .pointer (some p)) (v : Value) (hrun : ∀ w, C w → (Instr.loadAt ty (.pointer (some p))).run P w = .ok v w) (h : wpQuiet P ops C Q rest (a.put o.dst v)) : wpQuiet P ops C Q (o :: rest) a :=
  wpQuiet_step fun K hK => by
    rw [if_pos hw]
    refine ⟨v, fun w hC => ?_, hK _ h⟩
    unfold Oper.quietAt execOp
    simp only [ho, hx, Sem.run_bind, hrun w hC, Result.andThen_ok, Sem.run_pure]
    exact ⟨rfl, rfl⟩

set_option maxRecDepth 100000 in
set_option maxHeartbeats 16000000 in
theorem tableCounts_w (w : World) (kind : Int) (wkd : (Lit.int .i64 kind).wf = true) (loss : Int) (wl : (Lit.int .i64 loss).wf = true) (k : Int) (wk : (Lit.int .i64 k).wf = true) (n : Int) (wn : (Lit.int .i64 n).wf = true) :
    Calls Try.prog 3 #[.int .i64 kind, .int .i64 loss, .int .i64 k, .int .i64 n] w fun e w' => e = .returned (.bool true) ∧ Below w.heap.size w w' := by
  clear wkd wl wk wn
  obtain ⟨Z, hZ⟩ : ∃ Z, Z = arr fun _ => 0 := ⟨_, rfl⟩
  have hz := zero256
  rw [← hZ] at hz
  have HZ := Lib.hid hZ
  obtain ⟨C, hC⟩ : ∃ C, C = arr fun l => tcount kind l k := ⟨_, rfl⟩
  have hCs : C.size = 256 := by rw [hC]; exact arr_size _
  have hC1 : C.all (·.oneCell') = true := by rw [hC]; exact arr_one _
  have hZs : Z.size = 256 := by rw [hZ]; exact arr_size _
  have HCs := Lib.hid (And.intro hCs (And.intro hC1 hZs))
  have HIx := Lib.hid (show ∀ (m : Nat) (h : m < 256) (w : World), (Instr.index 26 (.agg C) (.int .i64 m)).run Try.prog w = .ok (.int .i64 (tcount kind m k)) w from fun m h w => by rw [hC]; exact arr_index (fun l => tcount kind l k) m h w)
  have HNq := Lib.hid (show ∀ w, (binOp .neq 26 (.agg C) (.agg C)).run Try.prog w = .ok (.bool false) w from fun w => by rw [hC]; exact run_neq_arr _ w)
  have HC := Lib.hid hC
  obtain ⟨N, hN⟩ : ∃ N, N = tcount kind loss k := ⟨_, rfl⟩
  have hNb := tcount_bd kind loss k
  rw [← hN] at hNb
  have HN := Lib.hid hN
  obtain ⟨H, hH⟩ : ∃ H : Nat, upTo k 48 = (H : Int) := ⟨(upTo k 48).toNat, by have := upTo_ge k 48 (by decide); omega⟩
  have hH2 : H ≤ 48 := by have := upTo_le k 48; omega
  rw [hH] at hNb
  obtain ⟨n0, n1⟩ := hNb
  have HH := Lib.hid hH
  clear hZ hC hCs hC1 hZs hN hH
  have e1 : (N != N) = false := by simp
  go_enter Try.func3, Try.ntmps3
  go_wp2_with fail
  refine (alive_c _).mono ?_
  rintro e w1 ⟨rfl, hf⟩
  have HS1 := Lib.hid ((Sep.init w).keep hf)
  clear hf
  go_wp2_with fail
  refine (least_c kind k n w1).mono ?_
  rintro e w2 ⟨l, ok, rfl, hl, hf⟩
  have HS2 := Lib.hid (HS1.out.keep hf)
  have HL := Lib.hid hl
  clear hf hl HS1
  go_wp2_with fail
  refine (rleast_c kind k n w2).mono ?_
  rintro e w3 ⟨l', ok', rfl, hl', hf⟩
  obtain ⟨rfl, rfl⟩ := HL.out.one hl'
  have HS3 := Lib.hid (HS2.out.keep hf)
  have e2 : (l != l) = false := by simp
  have e3 : (ok != ok) = false := by simp
  clear hf hl' HS2 HL
  go_wp2_with fail
  refine (rcount_c kind loss k _).mono ?_
  rintro e w' ⟨rfl, rfl⟩
  rw [← HN.out]
  go_wp2_with fail
  refine (tcount_c kind loss k _).mono ?_
  rintro e w' ⟨rfl, rfl⟩
  rw [← HN.out]
  go_wp2_with fail
  refine (row_c kind k _).mono ?_
  rintro e w4 ⟨rfl, hf⟩
  rw [← HC.out]
  have HS4 := Lib.hid ((HS3.out.keep hf).alloc Z 26)
  clear hf HS3
  obtain ⟨g, hg⟩ : ∃ g, g = w4.heap.size := ⟨_, rfl⟩
  rw [← hg] at HS4
  go_wp2_with (first | (refine wpList_store_row rfl 26 _ _ rfl g C (by rw [hg]; rfl) rfl 26 Z (HS4.out.blk 0 rfl) (by rw [HCs.out.1]; exact info256) (by rw [HCs.out.1, HCs.out.2.2]) HCs.out.2.1 ?_; have HS5 := Lib.hid (HS4.out.setRow 0 rfl C)) | (refine wpList_load_row rfl 26 _ rfl g (by rw [hg]; rfl) 26 C (0, 0) _ (HS5.out.blk 0 rfl) Try.underlying26 rfl (by rw [HCs.out.1]; exact info256) ?_))
  rw [← hg]
  obtain ⟨w5, hw5⟩ : ∃ w5, w5 = (w4.alloc (.cells Z 26)).setRow g C := ⟨_, rfl⟩
  rw [← hw5] at HS5 ⊢
  clear hw5 hg hz HS4
  go_loopw [59] (fun i wr => ∃ j : Nat, j ≤ 256 ∧ i = .int .i64 j ∧ w5 = wr) (fun i _ => 256 - (intOf i).toNat)
  case atStart => exact ⟨0, Nat.zero_le _, rfl, rfl⟩
  case round =>
    obtain ⟨j, hj, rfl, rfl⟩ := hrel
    by_cases hlt : j < 256
    · have hix := HIx.out j hlt
      obtain ⟨X, hX⟩ : ∃ X, X = tcount kind j k := ⟨_, rfl⟩
      rw [← hX] at hix
      have HX := Lib.hid hX
      have i1 : (j : Int) < 256 := by omega
      have e4 : (X != X) = false := by simp
      clear hX
      go_wp2_with fail
      refine (rcount_c kind j k _).mono ?_
      rintro e w' ⟨rfl, rfl⟩
      rw [← HX.out]
      go_wp2_with fail
      refine ⟨⟨j + 1, by omega, by go_num, trivial⟩, by simp [intOf]; omega⟩
    · obtain rfl : j = 256 := by omega
      go_wp2_with fail
      refine (table_c kind w5).mono ?_
      rintro e w6 ⟨at_, ct, rfl, hrd, hf⟩
      have HS6 := Lib.hid (HS5.out.keep hf)
      obtain ⟨bt, ot, rfl, _, hct⟩ := hrd H C.toList (by
        have e : (arr fun l => tcount kind l k) = arr fun l => tcount kind l (H : Int) := arr_congr fun i _ => by
          have h : upTo (upTo k 48) 48 = upTo k 48 := by unfold upTo; omega
          unfold tcount
          rw [← HH.out, h]
        rw [HC.out, e]
        simp [tblL, List.getElem?_range (show H < 49 by omega)])
      have HCt := Lib.hid hct
      clear hf hrd hct
      go_wp2_with fail
      refine (rheld0_c k 48 w6 (by decide)).mono ?_
      rintro e w' ⟨rfl, rfl⟩
      rw [HH.out]
      go_wp2_with fail
      have r1 : w6.rangeAt bt (ot + H * 256) C.toList := fun j v hv => HCt.out j v hv
      have r2 : w6.rangeAt g 0 C.toList := fun j v hv => by
        rw [Nat.zero_add]
        exact (HS6.out.blk 0 rfl).cell j (by simpa using hv)
      have hi26 : (Try.prog.info? 26).map (·.size) = some C.toList.length := by rw [Array.length_toList, HCs.out.1]; exact info256
      have ld : ∀ (b o n : Nat), w6.rangeAt b o C.toList → (Instr.loadAt 26 (.pointer (some ⟨b, o, none⟩))).run Try.prog (w6.drewN n) = .ok (.agg C) (w6.drewN n) := fun b o n hr => by
        have h := run_loadAt_mid (P := Try.prog) (w6.drewN n) b o 26 C.toList _ (fun j v hv => hr j v hv) Try.underlying26 rfl hi26
        rw [Array.toArray_toList] at h
        exact h
      have ld1 : ∀ n, (Instr.loadAt 26 (.pointer (some ⟨bt, ot + H * 256, none⟩))).run Try.prog (w6.drewN n) = .ok (.agg C) (w6.drewN n) := fun n => ld _ _ n r1
      have ld2 : ∀ n, (Instr.loadAt 26 (.pointer (some ⟨g, 0, none⟩))).run Try.prog (w6.drewN n) = .ok (.agg C) (w6.drewN n) := fun n => ld _ _ n r2
      have hnq := HNq.out
      have i0 : (0 : Int) ≤ (H : Int) := by omega
      have i1 : (H : Int) < 49 := by omega
      have hgd : Try.prog.eqGuardType Try.prog.depth 26 = false := by kernel_rfl
      clear r1 r2 hi26 ld
      refine wp_region_quiet_lit (by kernel_rfl) (by kernel_rfl) ?_
      go_big_quiet_step (fail)
      go_big_quiet_step (fail)
      go_big_quiet_step (fail)
      go_big_quiet_step (fail)
      go_big_quiet_step (fail)
      go_big_quiet_step (fail)
      go_big_quiet_step (fail)
      refine wpQuiet_load rfl 26 _ rfl ⟨bt, ot + H * 256, none⟩ rfl (.agg C) (fun w hw => by obtain ⟨n, rfl⟩ := hw; exact ld1 n) ?_
      refine wpQuiet_load rfl 26 _ rfl ⟨g, 0, none⟩ rfl (.agg C) (fun w hw => by obtain ⟨n, rfl⟩ := hw; exact ld2 n) ?_
      simp only [Act.put, List.setIfInBounds_toArray, List.set_cons_zero, List.set_cons_succ]
      go_big_quiet_step (fail)
      go_big_quiet_step (fail)
      refine wpQuiet_nil ?_
      intro _ hw'
      obtain ⟨nq, hw''⟩ := hw'
      subst hw''
      clear ld1 ld2 hnq hgd
      have n2 : N ≤ 48 := by omega
      obtain ⟨w7, hw7⟩ : ∃ w7, w7 = w6.drewN nq := ⟨_, rfl⟩
      have HS7 := Lib.hid (HS6.out.drewN nq)
      rw [← hw7] at HS7 ⊢
      clear hw7 HS6
      by_cases hH0 : H = 0
      · have g1 : ((H : Int) == 0) = true := by rw [beq_iff_eq]; omega
        have hcost := cost_c kind loss k w7
        rw [if_pos (by rw [HH.out]; omega)] at hcost
        have HCo := Lib.hid hcost
        clear hcost hH0
        go_wp2_with fail
        refine HCo.out.mono ?_
        rintro e w' ⟨rfl, rfl⟩
        go_wp2_with fail
        go_ret
        exact ⟨rfl, HS7.out.frm.below⟩
      · have g1 : ((H : Int) == 0) = false := by rw [beq_eq_false_iff_ne]; omega
        have g2 : (H : Int) ≠ 0 := by omega
        have g3 : (1 : Int) ≤ (H : Int) := by omega
        have hcost := fun w => cost_c kind loss k w
        simp only [HH.out, ← HN.out, if_neg g2] at hcost
        have HCo := Lib.hid hcost
        obtain ⟨X, hX⟩ : ∃ X, N * 100 / (H : Int) = X := ⟨_, rfl⟩
        rw [hX] at HCo
        have c1 : (X == X) = true := by simp
        clear hcost hH0
        go_wp2_with fail
        go_quiet ((go_at_call 15; exact Calls.quiet_of_same (same_of (HCo.out _))))
        go_wp2_with fail
        go_ret
        exact ⟨rfl, (HS7.out.drewN _).frm.below⟩

end Go.Proofs.Ythholboipbfklaa
