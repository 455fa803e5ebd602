/-
  THE WALK of the law SmoothPlays.
-/
import Derived.Test.YtjjekkpncdmcbaaSmC
set_option linter.unusedVariables false
set_option linter.unusedSimpArgs false
namespace Go.Proofs.Ytjjekkpncdmcbaa
open Go.RowKit

theorem feed_row (L : List Int) (x : Int) : feed (fineR L) (L.length : Int) x = fineR (L ++ [x]) := by
  cases L with
  | nil => simp [feed, fineR, fineL]
  | cons y r =>
    unfold feed
    rw [if_neg (by simp; omega)]
    exact (fineR_snoc (y :: r) x (by simp)).symm
theorem feed_row0 (x : Int) : feed 0 0 x = fineR ([] ++ [x]) := by simp [feed, fineR, fineL]

theorem info_int : (Try.prog.info? 3).map (fun i => (i.zero, i.size, i.bytes)) = some (some (.int .i64 0), 1, 8) := by kernel_rfl

set_option maxHeartbeats 4000000 in
theorem smoothPlays_w (a : Option Addr) (cap : Nat) (zs : List Int) (w : World) (lc : zs.length ≤ cap) (mc : cap ≤ maxLen) (rd : RdI .i64 w a zs) (wf : ∀ x ∈ zs, (Lit.int .i64 x).wf = true) :
    Calls Try.prog 3 #[.slice a zs.length cap] w fun e w' => e = .returned (.bool true) ∧ Below w.heap.size w w' := by
  clear wf
  unfold maxLen at mc
  obtain ⟨i0, hi, hz0, hz1, hz2⟩ := info_parts info_int
  have HR := Lib.hid rd
  clear rd
  by_cases hbig : 100 < zs.length
  · go_enter Try.func3, Try.ntmps3
    go_wp2_with fail
    refine (alive_c _).mono ?_
    rintro e w1 ⟨rfl, hB⟩
    have HB1 := Lib.hid hB
    clear hB
    go_wp2_with fail
    go_ret
    exact ⟨rfl, HB1.out⟩
  · go_enter Try.func3, Try.ntmps3
    go_wp2_with fail
    refine (alive_c _).mono ?_
    rintro e w1 ⟨rfl, hB⟩
    have HB1 := Lib.hid hB
    clear hB
    go_wp2_with fail
    go_loopw [4, 16] (fun v i wr => ∃ (k : Nat) (L : List Int), k ≤ zs.length ∧ i = .int .i64 k ∧ L.length ≤ k ∧ wr.ownsRow (w1.heap.size + 1) 3 1 v L.length (L.map (Value.int .i64)) ∧ Fl wr w1.heap.size (fineR L) (L.length : Int) ∧ Below w.heap.size w wr) (fun _ i _ => zs.length - (intOf i).toNat)
    case atStart => exact ⟨0, [], Nat.zero_le _, rfl, Nat.le_refl _, by have := World.ownsRow_made (e := 3) (size := 1) (base := w1.heap.size + 1) (w1.alloc (.cells #[.int .i64 0, .int .i64 0] 25)) #[] 0 (by simp) (by unfold maxLen; omega) rfl; simpa using this, (Blk.made w1 25 #[.int .i64 0, .int .i64 0]).alloc _, ((HB1.out.alloc HB1.out.size _).alloc (by have := HB1.out.size; simp; omega) _)⟩
    case round =>
      obtain ⟨k, L, hk, rfl, hL, hO, hF, hB⟩ := hrel
      have HO := Lib.hid hO
      have HF := Lib.hid hF
      have HB := Lib.hid hB
      have hLr := fineR_in L
      obtain ⟨l0, l1⟩ := hLr
      clear hO hF hB
      by_cases hlt : k < zs.length
      · obtain ⟨b, off, x, hx, rfl, hb, hc⟩ := (HR.out.below HB.out).at_ k hlt
        have HX := Lib.hid hx
        clear hx hb
        by_cases hbig : 1000 < x
        · go_wp2_with fail
          refine (clear_c _ _ _ _ HF.out).mono ?_
          rintro e w1a ⟨rfl, hF, hG⟩
          have HBb := Lib.hid (HB.out.grown hG HB.out.size (fun j hj => by injection hj with hj; have := HB1.out.size; omega))
          have HFb := Lib.hid hF
          clear hF hG
          go_wp2_with fail
          have HFa := Lib.hid (HFb.out.alloc (.cells #[] 3))
          have HBa := Lib.hid (HBb.out.alloc HBb.out.size (.cells #[] 3))
          have HOa : Hid ((w1a.alloc (.cells #[] 3)).ownsRow (w1.heap.size + 1) 3 1 (.slice (some ⟨w1a.heap.size, 0, none⟩) 0 0) ([] : List Int).length (([] : List Int).map (Value.int .i64))) := Lib.hid (World.ownsRow_made w1a #[] 0 (by have := HFb.out.lt; omega) (by unfold maxLen; omega) rfl)
          clear HO HF HB HFb HBb

          go_wp2_with fail
          refine (feed_c _ _ _ _ _ HFa.out (by omega) (by omega) (by omega) (by omega)).mono ?_
          rintro e w2 ⟨rfl, hF, hG⟩
          have HO2 := Lib.hid (HOa.out.kept hG (.inr (fun e => (own_ne_low HOa.out (Nat.lt_succ_self _) e.symm))))
          have HB2 := Lib.hid (HBa.out.grown hG HBa.out.size (fun j hj => by injection hj with hj; have := HB1.out.size; omega))
          obtain ⟨M, hM⟩ : ∃ M, M = ([] : List Int) ++ [x] := ⟨_, rfl⟩
          rw [feed_row0, ← hM] at hF
          rw [feed_row0, ← hM]
          have hMl : M.length = ([] : List Int).length + 1 := by rw [hM]; simp
          have m2 : M.length ≤ k + 1 := by have h := hMl; simp only [List.length_nil] at h; omega
          have HMm := Lib.hid (show (([] : List Int)).map (Value.int .i64) ++ [Value.int .i64 x] = M.map (Value.int .i64) from by rw [hM]; simp)
          have hF' : Fl w2 w1.heap.size (fineR M) (M.length : Int) := by rw [show (M.length : Int) = ((([] : List Int).length : Nat) : Int) + 1 from by rw [hMl]; rfl]; exact hF
          have HF2 := Lib.hid hF'
          have hMr := fineR_in M
          obtain ⟨m0, m1⟩ := hMr
          have HMl := Lib.hid hMl
          have HM := Lib.hid hM
          clear hF hF' hM hG hMl
          have Hn1 := Lib.hid (show ([] : List Int).length + 1 ≤ maxLen from by have := HMl.out; unfold maxLen; omega)
          have Hn2 := Lib.hid (show (([] : List Int).length + 1) * 8 ≤ 140737488355328 from by have := HMl.out; omega)
          have hsz := HB2.out.size
          have hflt := HF2.out.lt
          have hb1 := HB1.out.size
          go_wp2_with (at_builtin; go_must (refine wpList_append_one rfl _ _ 22 rfl (w1.heap.size + 1) 3 i0 (.int .i64 0) 8 Try.underlying22 hi hz0 hz1 hz2 rfl _ _ _ rfl (HO2.out.alloc _) w2.heap.size 1 (.int .i64 x) rfl (World.cell?_alloc_at _ _ _ _ rfl) rfl Hn1.out Hn2.out (by simp; omega) ?_); intro v' w3 hO hG; have HO := Lib.hid hO; have HG := Lib.hid hG; clear hO hG; obtain ⟨a3, c3, rfl, hc3, hR⟩ := RdI.of_own (show w3.ownsRow (w1.heap.size + 1) 3 1 v' M.length (M.map (Value.int .i64)) from by have h := HO.out; rw [HMm.out, ← HMl.out] at h; exact h); have HR3 := Lib.hid hR; clear hR)
          have HO3 := Lib.hid (show w3.ownsRow (w1.heap.size + 1) 3 1 (.slice a3 M.length c3) M.length (M.map (Value.int .i64)) from by have h := HO.out; rw [HMm.out, ← HMl.out] at h; exact h)
          have HB3 := Lib.hid ((HB2.out.alloc HB2.out.size _).grown HG.out (by simp; omega) (fun j hj => by have := HO2.out.lt j hj; omega))
          have HF3 := Lib.hid ((HF2.out.alloc _).grown HG.out (own_ne_low HO2.out (Nat.lt_succ_self _)))
          clear HO HG
          go_wp2_with fail
          refine (rvalue_c _ _ _ _ HR3.out (by omega)).mono ?_
          rintro e w' ⟨rfl, rfl⟩
          go_wp2_with fail
          refine (value_c _ _ _ _ HF3.out m0 m1).mono ?_
          rintro e w' ⟨rfl, rfl⟩
          go_wp2_with fail
          refine (fine_c _ _ _ _ HF3.out).mono ?_
          rintro e w' ⟨rfl, rfl⟩
          go_wp2_with fail
          refine (rfine_c _ _ _ _ HR3.out (by omega)).mono ?_
          rintro e w' ⟨rfl, rfl⟩
          go_wp2_with fail
          refine (count_c _ _ _ _ HF3.out).mono ?_
          rintro e w' ⟨rfl, rfl⟩
          go_wp2_with fail
          go_roundw
          case rel => exact ⟨k + 1, M, by omega, by go_num, m2, HO3.out, HF3.out, HB3.out⟩
          case measure => simp [intOf]; omega

        · have HFa := HF
          have HBa := HB
          have HOa := HO
          clear HO HF HB

          go_wp2_with fail
          refine (feed_c _ _ _ _ _ HFa.out (by omega) (by omega) (by omega) (by omega)).mono ?_
          rintro e w2 ⟨rfl, hF, hG⟩
          have HO2 := Lib.hid (HOa.out.kept hG (.inr (fun e => (own_ne_low HOa.out (Nat.lt_succ_self _) e.symm))))
          have HB2 := Lib.hid (HBa.out.grown hG HBa.out.size (fun j hj => by injection hj with hj; have := HB1.out.size; omega))
          obtain ⟨M, hM⟩ : ∃ M, M = L ++ [x] := ⟨_, rfl⟩
          rw [feed_row, ← hM] at hF
          rw [feed_row, ← hM]
          have hMl : M.length = L.length + 1 := by rw [hM]; simp
          have m2 : M.length ≤ k + 1 := by have h := hMl; skip; omega
          have HMm := Lib.hid (show (L).map (Value.int .i64) ++ [Value.int .i64 x] = M.map (Value.int .i64) from by rw [hM]; simp)
          have hF' : Fl w2 w1.heap.size (fineR M) (M.length : Int) := by rw [show (M.length : Int) = ((L.length : Nat) : Int) + 1 from by rw [hMl]; rfl]; exact hF
          have HF2 := Lib.hid hF'
          have hMr := fineR_in M
          obtain ⟨m0, m1⟩ := hMr
          have HMl := Lib.hid hMl
          have HM := Lib.hid hM
          clear hF hF' hM hG hMl
          have Hn1 := Lib.hid (show L.length + 1 ≤ maxLen from by have := HMl.out; unfold maxLen; omega)
          have Hn2 := Lib.hid (show (L.length + 1) * 8 ≤ 140737488355328 from by have := HMl.out; omega)
          have hsz := HB2.out.size
          have hflt := HF2.out.lt
          have hb1 := HB1.out.size
          go_wp2_with (at_builtin; go_must (refine wpList_append_one rfl _ _ 22 rfl (w1.heap.size + 1) 3 i0 (.int .i64 0) 8 Try.underlying22 hi hz0 hz1 hz2 rfl _ _ _ rfl (HO2.out.alloc _) w2.heap.size 1 (.int .i64 x) rfl (World.cell?_alloc_at _ _ _ _ rfl) rfl Hn1.out Hn2.out (by simp; omega) ?_); intro v' w3 hO hG; have HO := Lib.hid hO; have HG := Lib.hid hG; clear hO hG; obtain ⟨a3, c3, rfl, hc3, hR⟩ := RdI.of_own (show w3.ownsRow (w1.heap.size + 1) 3 1 v' M.length (M.map (Value.int .i64)) from by have h := HO.out; rw [HMm.out, ← HMl.out] at h; exact h); have HR3 := Lib.hid hR; clear hR)
          have HO3 := Lib.hid (show w3.ownsRow (w1.heap.size + 1) 3 1 (.slice a3 M.length c3) M.length (M.map (Value.int .i64)) from by have h := HO.out; rw [HMm.out, ← HMl.out] at h; exact h)
          have HB3 := Lib.hid ((HB2.out.alloc HB2.out.size _).grown HG.out (by simp; omega) (fun j hj => by have := HO2.out.lt j hj; omega))
          have HF3 := Lib.hid ((HF2.out.alloc _).grown HG.out (own_ne_low HO2.out (Nat.lt_succ_self _)))
          clear HO HG
          go_wp2_with fail
          refine (rvalue_c _ _ _ _ HR3.out (by omega)).mono ?_
          rintro e w' ⟨rfl, rfl⟩
          go_wp2_with fail
          refine (value_c _ _ _ _ HF3.out m0 m1).mono ?_
          rintro e w' ⟨rfl, rfl⟩
          go_wp2_with fail
          refine (fine_c _ _ _ _ HF3.out).mono ?_
          rintro e w' ⟨rfl, rfl⟩
          go_wp2_with fail
          refine (rfine_c _ _ _ _ HR3.out (by omega)).mono ?_
          rintro e w' ⟨rfl, rfl⟩
          go_wp2_with fail
          refine (count_c _ _ _ _ HF3.out).mono ?_
          rintro e w' ⟨rfl, rfl⟩
          go_wp2_with fail
          go_roundw
          case rel => exact ⟨k + 1, M, by omega, by go_num, m2, HO3.out, HF3.out, HB3.out⟩
          case measure => simp [intOf]; omega

      · go_wp2_with fail
        go_ret
        exact ⟨rfl, HB.out⟩

end Go.Proofs.Ytjjekkpncdmcbaa
