/-
  THE WALKS of flex.grid, flex.wrong. Printed by gen_fxg.py.
-/
import Derived.Test.YtnloabpdjedanaaDoorFxF
import Derived.Test.YtnloabpdjedanaaDoorBb
set_option linter.unusedVariables false
set_option linter.unusedSimpArgs false
namespace Go.Proofs.YtnloabpdjedanaaDoor
open Go.RowKit

theorem grid_c (l d : Int) (w : World) : Calls Tryd.prog 48 #[.int .i64 l, .int .i64 d] w fun e w' => e = .returned (.bool (gridB l d)) ∧ w = w' := by
  obtain ⟨G, hG⟩ : ∃ G, G = gridB l d := ⟨_, rfl⟩
  rw [← hG]
  have HG := Lib.hid hG
  clear hG
  by_cases h0 : 1 ≤ l
  · have t0 : decide (1 ≤ l) = true := decide_eq_true h0
    by_cases h1 : l ≤ 255
    · have t1 : decide (l ≤ 255) = true := decide_eq_true h1
      by_cases h2 : 0 ≤ d
      · have t2 : decide (0 ≤ d) = true := decide_eq_true h2
        by_cases h3 : d ≤ 255
        · have t3 : decide (d ≤ 255) = true := decide_eq_true h3
          obtain rfl : G = true := by rw [HG.out]; simp [gridB]; omega
          clear HG h0 h1 h2 h3
          go_enter Tryd.func48, Tryd.ntmps48
          go_wp2_with fail
          go_ret
          exact ⟨rfl, rfl⟩
        · have t3 : decide (d ≤ 255) = false := decide_eq_false h3
          obtain rfl : G = false := by rw [HG.out]; simp [gridB]; omega
          clear HG h0 h1 h2 h3
          go_enter Tryd.func48, Tryd.ntmps48
          go_wp2_with fail
          go_ret
          exact ⟨rfl, rfl⟩
      · have t2 : decide (0 ≤ d) = false := decide_eq_false h2
        obtain rfl : G = false := by rw [HG.out]; simp [gridB]; omega
        clear HG h0 h1 h2
        go_enter Tryd.func48, Tryd.ntmps48
        go_wp2_with fail
        go_ret
        exact ⟨rfl, rfl⟩
    · have t1 : decide (l ≤ 255) = false := decide_eq_false h1
      obtain rfl : G = false := by rw [HG.out]; simp [gridB]; omega
      clear HG h0 h1
      go_enter Tryd.func48, Tryd.ntmps48
      go_wp2_with fail
      go_ret
      exact ⟨rfl, rfl⟩
  · have t0 : decide (1 ≤ l) = false := decide_eq_false h0
    obtain rfl : G = false := by rw [HG.out]; simp [gridB]; omega
    clear HG h0
    go_enter Tryd.func48, Tryd.ntmps48
    go_wp2_with fail
    go_ret
    exact ⟨rfl, rfl⟩
theorem wr_arg {x : Fx} (h : (x.fx && !gridB x.L x.D || !x.fx && !(decide (x.L = 0) && decide (x.D = 0))) = true) : wrX x = 1 := by unfold wrX; rw [if_pos h]
theorem wr_in {x : Fx} (h : ¬ (x.fx && !gridB x.L x.D || !x.fx && !(decide (x.L = 0) && decide (x.D = 0))) = true) : wrX x = if (x.fx != decide (cnt x.h 64 + cnt x.l 64 = 0)) = true ∨ 109 ≤ laN x.h x.l then 30 else if 1500 < x.B.length then 2 else 0 := by unfold wrX; rw [if_neg h]

set_option maxRecDepth 100000 in
set_option maxHeartbeats 8000000 in
theorem wrong_c (x : Fx) (a : Option Addr) (c : Nat) (w : World) (h0 : x.h < 18446744073709551616) (h1 : x.l < 18446744073709551616) (hT : Tabs w) (hl : x.B.length ≤ 9223372036854775807) :
    Calls Tryd.prog 34 #[x.val (.slice a x.B.length c)] w fun e w' => e = .returned (.int .i64 (wrX x)) ∧ Frm [] w w' := by
  have HC := Lib.hid (fun X => count_c x.h x.l X h0 h1)
  have HT := Lib.hid (fun X (hX : Frm [] w X) => hT.frm hX (by simp))
  have HL := Lib.hid (fun X (hX : Frm [] w X) => last_c x.h x.l X h0 h1 (HT.out X hX).1 (HT.out X hX).2)
  have hla := laN_in x.h x.l h0 h1
  have hcn := cnt_le x.h 64
  have hcm := cnt_le x.l 64
  obtain ⟨E, hE⟩ : ∃ E, E = wrX x := ⟨_, rfl⟩
  rw [← hE]
  have HE := Lib.hid hE
  have HA := Lib.hid (@wr_arg x)
  have HI := Lib.hid (@wr_in x)
  obtain ⟨h0, h1, h2, h3, h4, h5, h6, h7, b, h, l, fx, L, D, B⟩ := x
  simp only [Fx.val, Fx.cells] at *
  obtain ⟨n, hn⟩ : ∃ n, n = B.length := ⟨_, rfl⟩
  obtain ⟨la, hla2⟩ : ∃ la, la = laN h l := ⟨_, rfl⟩
  obtain ⟨ct, hct⟩ : ∃ ct : Nat, ct = cnt h 64 + cnt l 64 := ⟨_, rfl⟩
  obtain ⟨G, hG⟩ : ∃ G, G = gridB L D := ⟨_, rfl⟩
  rw [← hn] at HI hl ⊢
  rw [← hla2] at HI hla
  rw [← hla2] at HL
  rw [← hct] at HC HI
  rw [← hG] at HA HI
  have hg := fun X => grid_c L D X
  rw [← hG] at hg
  have HG := Lib.hid hg
  have hct2 : ct ≤ 128 := by omega
  clear h0 h1 hT hE hn hla2 hct hG hcn hcm hg
  unfold mV at *
  have HS0 := Lib.hid ((Sep.init w).alloc #[.int .u8 h0, .int .u8 h1, .int .u8 h2, .int .u8 h3, .int .u8 h4, .int .u8 h5, .int .u8 h6, .int .u8 h7, .int .u16 b, .int .u64 (h : Int), .int .u64 (l : Int), .bool fx, .int .i64 L, .int .i64 D, .slice a n c] 31)
  go_enter Tryd.func34, Tryd.ntmps34
  go_upto_region 1 with fail
  obtain ⟨w1, hw1⟩ : ∃ w1, w1 = w.alloc (.cells #[.int .u8 h0, .int .u8 h1, .int .u8 h2, .int .u8 h3, .int .u8 h4, .int .u8 h5, .int .u8 h6, .int .u8 h7, .int .u16 b, .int .u64 (h : Int), .int .u64 (l : Int), .bool fx, .int .i64 L, .int .i64 D, .slice a n c] 31) := ⟨_, rfl⟩
  obtain ⟨o, ho⟩ : ∃ o, o = w.heap.size := ⟨_, rfl⟩
  rw [← hw1, ← ho] at HS0
  rw [← hw1, ← ho]
  clear hw1 ho
  have k9 := (HS0.out.blk 0 rfl).cell 9 rfl
  have k10 := (HS0.out.blk 0 rfl).cell 10 rfl
  have k11 := (HS0.out.blk 0 rfl).cell 11 rfl
  have k12 := (HS0.out.blk 0 rfl).cell 12 rfl
  have k13 := (HS0.out.blk 0 rfl).cell 13 rfl
  have k14 := (HS0.out.blk 0 rfl).cell 14 rfl
  cases fx with
  | true =>
    cases G with
    | false =>
      obtain rfl : E = 1 := HE.out.trans (HA.out rfl)
      clear HA HI HE
      go_wp2_with fail
      refine (HG.out _).mono ?_
      rintro e w2 ⟨rfl, rfl⟩
      go_wp2_with fail
      go_ret
      exact ⟨rfl, HS0.out.frm⟩
    | true =>
      have hi := HI.out (by simp)
      have HE2 := Lib.hid (HE.out.trans hi)
      clear HA HI HE hi
      go_wp2_with fail
      refine (HG.out _).mono ?_
      rintro e w2 ⟨rfl, rfl⟩
      go_upto_region 3 with fail
      clear k9 k10 k11 k12 k13 k14
      refine region_segs (G := []) [4, 5] (by kernel_rfl) (by kernel_rfl) (by kernel_rfl) (by kernel_rfl) (by kernel_rfl) (by kernel_rfl) (by kernel_rfl) ?_
      have HS1 := Lib.hid HS0.out.drew
      obtain ⟨w2, hw2⟩ : ∃ w2, w2 = w1.drew := ⟨_, rfl⟩
      rw [← hw2] at HS1
      rw [← hw2]
      clear hw2 HS0
      unfold wpSegs
      simp only [List.take_succ_cons, List.take_zero, List.drop_succ_cons, List.drop_zero]
      have n1 : Nonempty (Cls (fun v => Frm [] w2 v)) := ⟨⟨_, Frm.refl _ _⟩⟩
      have q9 := fun x : Cls (fun v => Frm [] w2 v) => ((HS1.out.keep x.ok).blk 0 rfl).cell 9 rfl
      have q10 := fun x : Cls (fun v => Frm [] w2 v) => ((HS1.out.keep x.ok).blk 0 rfl).cell 10 rfl
      have q11 := fun x : Cls (fun v => Frm [] w2 v) => ((HS1.out.keep x.ok).blk 0 rfl).cell 11 rfl
      repeat (go_big_quiet_step (fail))
      refine wpQuiet_nil ?_
      refine only_step (fun K' hK => ?_)
      clear q9 q10 q11 n1
      go_wp2_with fail
      refine (HC.out _).mono ?_
      rintro e w3 ⟨rfl, hf⟩
      have HS2 := Lib.hid (HS1.out.keep hf)
      go_wp2_with fail
      refine hK.out _ _ ⟨hf, ?_⟩
      clear hK hf HS1
      unfold wpSegs
      simp only [List.take_succ_cons, List.take_zero, List.drop_succ_cons, List.drop_zero]
      have n1 : Nonempty (Cls (fun v => Frm [] w3 v)) := ⟨⟨_, Frm.refl _ _⟩⟩
      have q9 := fun x : Cls (fun v => Frm [] w3 v) => ((HS2.out.keep x.ok).blk 0 rfl).cell 9 rfl
      have q10 := fun x : Cls (fun v => Frm [] w3 v) => ((HS2.out.keep x.ok).blk 0 rfl).cell 10 rfl
      obtain ⟨Z, hZ⟩ : ∃ Z : Bool, Z = decide (ct = 0) := ⟨_, rfl⟩
      have hz : decide ((ct : Int) = 0) = Z := by rw [hZ]; exact decide_eq_decide.2 (by omega)
      have hz2 : ((ct : Int) == 0) = Z := hz
      have HZ := Lib.hid hZ
      clear hZ
      cases Z with
      | false =>
        have hE : E = 30 := by rw [HE2.out, ← HZ.out]; simp
        subst hE
        clear HE2 HL
        repeat (go_big_quiet_step (fail))
        refine wpQuiet_nil ?_
        refine only_step (fun K' hK => ?_)
        clear q9 q10 n1
        go_wp2_with fail
        refine hK.out _ _ ⟨Frm.refl _ _, ?_⟩
        clear hK
        unfold wpSegs
        try simp only [List.take_succ_cons, List.take_zero, List.drop_succ_cons, List.drop_zero]
        have n1 : Nonempty (Cls (fun v => Frm [] w3 v)) := ⟨⟨_, Frm.refl _ _⟩⟩
        repeat (go_big_quiet_step (fail))
        refine wpQuiet_nil ?_
        refine NoPanic.normal ?_
        clear n1
        go_wp2_with fail
        go_ret
        exact ⟨rfl, HS2.out.frm⟩
      | true =>
        repeat (go_big_quiet_step (fail))
        refine wpQuiet_nil ?_
        refine only_step (fun K' hK => ?_)
        clear q9 q10 n1
        go_wp2_with fail
        refine (HL.out _ HS2.out.frm).mono ?_
        rintro e w4 ⟨rfl, hf⟩
        have HS4 := Lib.hid (HS2.out.keep hf)
        go_wp2_with fail
        refine hK.out _ _ ⟨hf, ?_⟩
        clear hK hf HS2
        unfold wpSegs
        try simp only [List.take_succ_cons, List.take_zero, List.drop_succ_cons, List.drop_zero]
        have n1 : Nonempty (Cls (fun v => Frm [] w4 v)) := ⟨⟨_, Frm.refl _ _⟩⟩
        by_cases h9 : 109 ≤ la
        · have d9 : decide (109 ≤ la) = true := decide_eq_true h9
          have hE : E = 30 := by rw [HE2.out, if_pos (.inr h9)]
          subst hE
          clear HE2 h9
          repeat (go_big_quiet_step (fail))
          refine wpQuiet_nil ?_
          refine NoPanic.normal ?_
          clear n1
          go_wp2_with fail
          go_ret
          exact ⟨rfl, HS4.out.frm⟩
        · have d9 : decide (109 ≤ la) = false := decide_eq_false h9
          have hE := HE2.out
          rw [← HZ.out, if_neg (by simp; omega)] at hE
          clear HE2 h9
          repeat (go_big_quiet_step (fail))
          refine wpQuiet_nil ?_
          refine NoPanic.normal ?_
          clear n1
          have k14 := (HS4.out.blk 0 rfl).cell 14 rfl
          by_cases h5 : 1500 < n
          · have d5 : decide (1500 < (n : Int)) = true := decide_eq_true (by omega)
            rw [if_pos h5] at hE
            subst hE
            clear h5
            go_wp2_with fail
            go_ret
            exact ⟨rfl, HS4.out.frm⟩
          · have d5 : decide (1500 < (n : Int)) = false := decide_eq_false (by omega)
            rw [if_neg h5] at hE
            subst hE
            clear h5
            go_wp2_with fail
            go_ret
            exact ⟨rfl, HS4.out.frm⟩
  | false =>
    by_cases hL : L = 0
    · by_cases hD : D = 0
      · subst hL hD
        have hi := HI.out (by simp)
        have HE2 := Lib.hid (HE.out.trans hi)
        clear HA HI HE hi
        go_upto_region 3 with fail
        clear k9 k10 k11 k12 k13 k14
        refine region_segs (G := []) [4, 5] (by kernel_rfl) (by kernel_rfl) (by kernel_rfl) (by kernel_rfl) (by kernel_rfl) (by kernel_rfl) (by kernel_rfl) ?_
        have HS1 := Lib.hid HS0.out.drew
        obtain ⟨w2, hw2⟩ : ∃ w2, w2 = w1.drew := ⟨_, rfl⟩
        rw [← hw2] at HS1
        rw [← hw2]
        clear hw2 HS0
        unfold wpSegs
        simp only [List.take_succ_cons, List.take_zero, List.drop_succ_cons, List.drop_zero]
        have n1 : Nonempty (Cls (fun v => Frm [] w2 v)) := ⟨⟨_, Frm.refl _ _⟩⟩
        have q9 := fun x : Cls (fun v => Frm [] w2 v) => ((HS1.out.keep x.ok).blk 0 rfl).cell 9 rfl
        have q10 := fun x : Cls (fun v => Frm [] w2 v) => ((HS1.out.keep x.ok).blk 0 rfl).cell 10 rfl
        have q11 := fun x : Cls (fun v => Frm [] w2 v) => ((HS1.out.keep x.ok).blk 0 rfl).cell 11 rfl
        repeat (go_big_quiet_step (fail))
        refine wpQuiet_nil ?_
        refine only_step (fun K' hK => ?_)
        clear q9 q10 q11 n1
        go_wp2_with fail
        refine (HC.out _).mono ?_
        rintro e w3 ⟨rfl, hf⟩
        have HS2 := Lib.hid (HS1.out.keep hf)
        go_wp2_with fail
        refine hK.out _ _ ⟨hf, ?_⟩
        clear hK hf HS1
        unfold wpSegs
        simp only [List.take_succ_cons, List.take_zero, List.drop_succ_cons, List.drop_zero]
        have n1 : Nonempty (Cls (fun v => Frm [] w3 v)) := ⟨⟨_, Frm.refl _ _⟩⟩
        have q9 := fun x : Cls (fun v => Frm [] w3 v) => ((HS2.out.keep x.ok).blk 0 rfl).cell 9 rfl
        have q10 := fun x : Cls (fun v => Frm [] w3 v) => ((HS2.out.keep x.ok).blk 0 rfl).cell 10 rfl
        obtain ⟨Z, hZ⟩ : ∃ Z : Bool, Z = decide (ct = 0) := ⟨_, rfl⟩
        have hz : decide ((ct : Int) = 0) = Z := by rw [hZ]; exact decide_eq_decide.2 (by omega)
        have hz2 : ((ct : Int) == 0) = Z := hz
        have HZ := Lib.hid hZ
        clear hZ
        cases Z with
        | true =>
          have hE : E = 30 := by rw [HE2.out, ← HZ.out]; simp
          subst hE
          clear HE2 HL
          repeat (go_big_quiet_step (fail))
          refine wpQuiet_nil ?_
          refine only_step (fun K' hK => ?_)
          clear q9 q10 n1
          go_wp2_with fail
          refine hK.out _ _ ⟨Frm.refl _ _, ?_⟩
          clear hK
          unfold wpSegs
          try simp only [List.take_succ_cons, List.take_zero, List.drop_succ_cons, List.drop_zero]
          have n1 : Nonempty (Cls (fun v => Frm [] w3 v)) := ⟨⟨_, Frm.refl _ _⟩⟩
          repeat (go_big_quiet_step (fail))
          refine wpQuiet_nil ?_
          refine NoPanic.normal ?_
          clear n1
          go_wp2_with fail
          go_ret
          exact ⟨rfl, HS2.out.frm⟩
        | false =>
          repeat (go_big_quiet_step (fail))
          refine wpQuiet_nil ?_
          refine only_step (fun K' hK => ?_)
          clear q9 q10 n1
          go_wp2_with fail
          refine (HL.out _ HS2.out.frm).mono ?_
          rintro e w4 ⟨rfl, hf⟩
          have HS4 := Lib.hid (HS2.out.keep hf)
          go_wp2_with fail
          refine hK.out _ _ ⟨hf, ?_⟩
          clear hK hf HS2
          unfold wpSegs
          try simp only [List.take_succ_cons, List.take_zero, List.drop_succ_cons, List.drop_zero]
          have n1 : Nonempty (Cls (fun v => Frm [] w4 v)) := ⟨⟨_, Frm.refl _ _⟩⟩
          by_cases h9 : 109 ≤ la
          · have d9 : decide (109 ≤ la) = true := decide_eq_true h9
            have hE : E = 30 := by rw [HE2.out, if_pos (.inr h9)]
            subst hE
            clear HE2 h9
            repeat (go_big_quiet_step (fail))
            refine wpQuiet_nil ?_
            refine NoPanic.normal ?_
            clear n1
            go_wp2_with fail
            go_ret
            exact ⟨rfl, HS4.out.frm⟩
          · have d9 : decide (109 ≤ la) = false := decide_eq_false h9
            have hE := HE2.out
            rw [← HZ.out, if_neg (by simp; omega)] at hE
            clear HE2 h9
            repeat (go_big_quiet_step (fail))
            refine wpQuiet_nil ?_
            refine NoPanic.normal ?_
            clear n1
            have k14 := (HS4.out.blk 0 rfl).cell 14 rfl
            by_cases h5 : 1500 < n
            · have d5 : decide (1500 < (n : Int)) = true := decide_eq_true (by omega)
              rw [if_pos h5] at hE
              subst hE
              clear h5
              go_wp2_with fail
              go_ret
              exact ⟨rfl, HS4.out.frm⟩
            · have d5 : decide (1500 < (n : Int)) = false := decide_eq_false (by omega)
              rw [if_neg h5] at hE
              subst hE
              clear h5
              go_wp2_with fail
              go_ret
              exact ⟨rfl, HS4.out.frm⟩
      · subst hL
        obtain rfl : E = 1 := HE.out.trans (HA.out (by simp [hD]))
        clear HA HI HE
        have d0 : (D == 0) = false := by simp [hD]
        have d1 : (D != 0) = true := by simp [hD]
        clear hD
        go_wp2_with fail
        go_ret
        exact ⟨rfl, HS0.out.frm⟩
    · obtain rfl : E = 1 := HE.out.trans (HA.out (by simp [hL]))
      clear HA HI HE
      have d0 : (L == 0) = false := by simp [hL]
      have d1 : (L != 0) = true := by simp [hL]
      clear hL
      go_wp2_with fail
      go_ret
      exact ⟨rfl, HS0.out.frm⟩

end Go.Proofs.YtnloabpdjedanaaDoor
