/-
  THE WALK of the law WireParts.
-/
import Derived.Test.YtdkbibfgebfeaaaWiM
import Derived.Test.YtdkbibfgebfeaaaWiL
import Derived.Test.YtdkbibfgebfeaaaBits
import Derived.Deep.RegionHeld3
import Derived.Deep.DeepCutAuto
import Derived.Deep.DeepMust
set_option linter.unusedVariables false
set_option linter.unusedSimpArgs false
namespace Go.Proofs.Ytdkbibfgebfeaaa
open Go.RowKit

theorem parse_s (a : Option Addr) (n c : Nat) (w : World) :
    Calls Try.prog 16 #[.slice a n c] w fun e w' => ∃ sb, e = .returned (.func (.func 43) #[] #[.pointer (some ⟨sb, 0, none⟩)]) ∧ Blk w' sb 22 #[.slice a n c] ∧ Frm [] w w' :=
  (parse_c a n c w).mono fun _ _ ⟨h1, h2⟩ => ⟨_, h1, h2 ▸ Blk.made w _ _, h2 ▸ (Frm.refl _ _).alloc _⟩

set_option maxRecDepth 100000 in
set_option maxHeartbeats 32000000 in
theorem wirePartsA_w (w : World) (a : Option Addr) (c : Nat) (zs : List Int) (hb : Bytes w a c zs) (hz : zs.length ≤ 200) (ad : Option Addr) (cs : Nat) (ss : List Stp) (hs : Steps w ad ss) (hcs : ss.length ≤ cs) (hcm : cs ≤ 9223372036854775807) (hsl : ss.length ≤ 20) (hs0 : 0 < ss.length) (cut0 : Int) :
    Calls Try.prog 6 #[.slice a zs.length c, .slice ad ss.length cs, .int .i64 cut0] w fun e w' => e = .returned (.bool true) ∧ Below w.heap.size w w' := by
  obtain ⟨i0, hi, hz0, hz1, hz2⟩ := info_parts info_got
  have HB := Lib.hid (fun X (hX : Frm [] w X) => hb.frm hX)
  have HSt := Lib.hid (fun X (hX : Frm [] w X) => hs.frm hX)
  obtain ⟨b, off, h1, _⟩ := hs.rd 0 ss[0].row (by rw [List.getElem?_map, List.getElem?_eq_getElem hs0]; rfl)
  subst h1
  have hbc := hb.cap
  have hbb := hb.big
  clear hb hs
  have t1 : decide (200 < (zs.length : Int)) = false := by rw [decide_eq_false_iff_not]; omega
  have t2 : decide (20 < (ss.length : Int)) = false := by rw [decide_eq_false_iff_not]; omega
  have t3 : ((ss.length : Int) == 0) = false := by rw [beq_eq_false_iff_ne]; omega
  obtain ⟨z, hzz⟩ : ∃ z, bits .and .i64 cut0 31 = z := ⟨_, rfl⟩
  have hzb := and_i64 cut0 31 (by omega) (by omega)
  rw [hzz] at hzb
  obtain ⟨z0, z1⟩ := hzb
  go_enter Try.func6, Try.ntmps6
  go_wp2_with fail
  refine (alive_c _).mono ?_
  rintro e w1 ⟨rfl, hF⟩
  have HS1 := Lib.hid ((Sep.init w).keep hF)
  clear hF
  go_wp2_with fail
  go_loopw [35] (fun i wr => ∃ k : Nat, k ≤ ss.length ∧ i = .int .i64 k ∧ (∀ s ∈ ss.take k, s.good) ∧ Sep [] w wr []) (fun i _ => ss.length - (intOf i).toNat)
  case atStart => exact ⟨0, Nat.zero_le _, rfl, by simp, HS1.out⟩
  case round =>
    obtain ⟨k, hk, rfl, hgd, hS⟩ := hrel
    have HT := Lib.hid hS
    have HGd := Lib.hid hgd
    clear hS hgd
    obtain ⟨wo, hwo⟩ : ∃ wo : World, wo = wr := ⟨_, rfl⟩
    rw [← hwo] at HT ⊢
    clear hwo
    by_cases hlt : k < ss.length
    · obtain ⟨s, hs⟩ : ∃ s, ss[k]? = some s := ⟨_, List.getElem?_eq_getElem hlt⟩
      obtain ⟨b', off', h1, _, hc⟩ := (HSt.out _ HT.out.frm).rd k s.row (by rw [List.getElem?_map, hs]; rfl)
      injection h1 with h1
      injection h1 with h1 h2 h3
      subst h1 h2
      obtain ⟨kk, n⟩ := s
      have d0 : wo.cell? ⟨b, off + k * 2, none⟩ = some (.int .i64 kk) := hc 0 _ rfl
      have d1 : wo.cell? ⟨b, off + k * 2 + 1, none⟩ = some (.int .i64 n) := hc 1 _ rfl
      have i1 : (0 : Int) ≤ (k : Int) := by omega
      have i2 : (k : Int) < (ss.length : Int) := by omega
      have HSs := Lib.hid hs
      have hnext : kk = 0 ∨ kk = 1 ∨ kk = 2 ∨ kk = 4 ∨ kk = 8 → ∀ s ∈ ss.take (k + 1), s.good := fun hg s hm => by
        rw [List.take_add_one, HSs.out] at hm
        rcases List.mem_append.1 hm with hm | hm
        · exact HGd.out s hm
        · simp at hm; subst hm; exact hg
      have HNx := Lib.hid hnext
      have HTx := Lib.hid (HT.out.skip (.cells #[.int .i64 kk, .int .i64 n] 57))
      clear hc hs hnext h3
      by_cases n0 : kk < 0
      · have q1 : decide (kk < 0) = true := decide_eq_true n0
        clear n0
        go_wp2_with fail
        go_ret
        exact ⟨rfl, HTx.out.frm.below⟩
      · by_cases n8 : 8 < kk
        · have q1 : decide (kk < 0) = false := decide_eq_false n0
          have q2 : decide (8 < kk) = true := decide_eq_true n8
          clear n0 n8
          go_wp2_with fail
          go_ret
          exact ⟨rfl, HTx.out.frm.below⟩
        · obtain rfl | rfl | rfl | rfl | rfl | rfl | rfl | rfl | rfl : kk = 0 ∨ kk = 1 ∨ kk = 2 ∨ kk = 4 ∨ kk = 8 ∨ kk = 3 ∨ kk = 5 ∨ kk = 6 ∨ kk = 7 := by omega
          iterate 5
            · go_wp2_with fail
              go_roundw
              case rel => exact ⟨k + 1, by omega, by go_num, HNx.out (by omega), HTx.out⟩
              case measure => simp [intOf]; omega
          all_goals
            go_wp2_with fail
            go_ret
            exact ⟨rfl, HTx.out.frm.below⟩
    · obtain rfl : k = ss.length := by omega
      rw [List.take_length] at HGd
      have HBase := Lib.hid HT.out
      obtain ⟨kc, hkc, hkl⟩ : ∃ kc : Nat, z % (ss.length : Int) = (kc : Int) ∧ kc < ss.length := by
        have h1 := Int.emod_nonneg z (show (ss.length : Int) ≠ 0 by omega)
        have h2 := Int.emod_lt_of_pos z (show (0 : Int) < (ss.length : Int) by omega)
        exact ⟨(z % (ss.length : Int)).toNat, by omega, by omega⟩
      have HGood := Lib.hid HGd.out
      have hcb : cs ≠ kc := by omega
      have k2 : (kc : Int) ≤ (cs : Int) := by omega
      have k3 : kc ≤ cs := by omega
      have k4 : (kc : Int) ≤ (ss.length : Int) := by omega
      have k5 : kc ≤ ss.length := by omega
      have k6 : (ss.length : Int) ≤ (cs : Int) := by omega
      have HTk := Lib.hid (show ∀ X, Frm [] w X → Steps X (some ⟨b, off, none⟩) (ss.take kc) from fun X hX => ⟨by rw [List.map_take]; exact RdS.firsts (HSt.out X hX).rd kc, by rw [List.length_take]; omega, fun s hs => (HSt.out X hX).n s (List.mem_of_mem_take hs)⟩)
      have HDp := Lib.hid (show ∀ X, Frm [] w X → Steps X (some ⟨b, off + kc * 2, none⟩) (ss.drop kc) from fun X hX => ⟨by rw [List.map_drop]; exact RdS.offs (HSt.out X hX).rd kc, by rw [List.length_drop]; omega, fun s hs => (HSt.out X hX).n s (List.mem_of_mem_drop hs)⟩)
      have htl : (ss.take kc).length = kc := by rw [List.length_take]; omega
      have hdl : (ss.drop kc).length = ss.length - kc := List.length_drop
      have HTl := Lib.hid htl
      have HDl := Lib.hid hdl
      clear htl hdl hkl
      go_wp2_with fail
      rw [hkc]
      clear hkc
      refine (parse_c _ ss.length cs wo).mono ?_
      rintro e w3 ⟨rfl, rfl⟩
      have HS3 := Lib.hid (HBase.out.skip (.cells #[.slice (some ⟨b, off, none⟩) ss.length cs] 22))
      have HK3 := Lib.hid (Blk.made wo 22 #[.slice (some ⟨b, off, none⟩) ss.length cs])
      obtain ⟨w3, hw3⟩ : ∃ w3, w3 = wo.alloc (.cells #[.slice (some ⟨b, off, none⟩) ss.length cs] 22) := ⟨_, rfl⟩
      rw [← hw3] at HS3 HK3 ⊢
      clear hw3
      have HP := Lib.hid (part_v (HB.out _ HS3.out.frm) (HSt.out _ HS3.out.frm) HK3.out)
      obtain ⟨o, ho⟩ : ∃ o, o = runO zs ss := ⟨_, rfl⟩
      obtain ⟨N, hN⟩ : ∃ N, N = runN zs ss := ⟨_, rfl⟩
      obtain ⟨E, hE⟩ : ∃ E, E = runE zs ss := ⟨_, rfl⟩
      rw [← ho, ← hN, ← hE] at HP
      have HoE := Lib.hid (And.intro ho (And.intro hN hE))
      clear ho hN hE
      go_wp2_with fail
      refine HP.out.mono ?_
      rintro e w4 ⟨v4, g4, hg4, rfl, hs4, hS4⟩
      obtain ⟨a4, c4, rfl, j1, j2⟩ := own_shape (hS4.get 1 rfl)
      have HG4 := Lib.hid (And.intro hg4 hs4)
      have HS4 := Lib.hid (HS3.out.more hS4)
      clear hg4 hs4 hS4 HP j1 j2
      go_wp2_with fail
      refine (parse_c _ kc cs w4).mono ?_
      rintro e w5 ⟨rfl, rfl⟩
      have HS5 := Lib.hid (HS4.out.skip (.cells #[.slice (some ⟨b, off, none⟩) kc cs] 22))
      have HK5 := Lib.hid (Blk.made w4 22 #[.slice (some ⟨b, off, none⟩) kc cs])
      obtain ⟨w5, hw5⟩ : ∃ w5, w5 = w4.alloc (.cells #[.slice (some ⟨b, off, none⟩) kc cs] 22) := ⟨_, rfl⟩
      rw [← hw5] at HS5 HK5 ⊢
      clear hw5
      have HP5 := Lib.hid (part_v (cs := cs) (HB.out _ HS5.out.frm) (HTk.out _ HS5.out.frm) (by rw [HTl.out]; exact HK5.out))
      obtain ⟨o1, ho⟩ : ∃ o, o = runO zs (ss.take kc) := ⟨_, rfl⟩
      obtain ⟨N1, hN⟩ : ∃ N, N = runN zs (ss.take kc) := ⟨_, rfl⟩
      obtain ⟨E1, hE⟩ : ∃ E, E = runE zs (ss.take kc) := ⟨_, rfl⟩
      rw [← ho, ← hN, ← hE] at HP5
      have HoE1 := Lib.hid (And.intro ho (And.intro hN hE))
      clear ho hN hE
      go_wp2_with fail
      refine HP5.out.mono ?_
      rintro e w6 ⟨v6, g6, hg6, rfl, hs6, hS6⟩
      obtain ⟨a6, c6, rfl, j1, j2⟩ := own_shape (hS6.get 1 rfl)
      have HG6 := Lib.hid (And.intro hg6 hs6)
      have HS6 := Lib.hid (HS5.out.more hS6)
      clear hg6 hs6 hS6 HP5 j1 j2
      by_cases hE1 : E1 = 0
      · have u1 : (E1 != 0) = false := by simp [hE1]
        subst hE1
        obtain ⟨p1, p2, p3, p4⟩ := part_good HGood.out kc HoE1.out.2.2.symm
        rw [← HoE1.out.2.1] at p1 p2 p4
        rw [← HoE.out.2.2] at p2 p3 p4
        rw [← HoE.out.2.1, ← HoE.out.1] at p3 p4
        rw [← HoE1.out.1] at p4
        obtain ⟨q, hsl, hqb⟩ := slice_from a zs.length c N1 p1 hbc hbb
        have hq := hqb _ zs rfl (HB.out w (Frm.refl _ _))
        have HQ := Lib.hid (show ∀ X, Frm [] w X → Bytes X q (c - N1) (zs.drop N1) from fun X hX => hq.frm hX)
        have HP7 : Hid (∀ W sb, Frm [] w W → Blk W sb 22 #[.slice (some ⟨b, off + kc * 2, none⟩) (ss.length - kc) (cs - kc)] → Calls Try.prog 19 #[.slice q (zs.length - N1) (c - N1), .func (.func 43) #[] #[.pointer (some ⟨sb, 0, none⟩)]] W (PartP W (runO (zs.drop N1) (ss.drop kc)) (runN (zs.drop N1) (ss.drop kc)) (runE (zs.drop N1) (ss.drop kc)) (zs.length - N1))) := Lib.hid (fun W sb hW hk => by
          have h := part_v (cs := cs - kc) (HQ.out W hW) (HDp.out W hW) (by rw [HDl.out]; exact hk)
          rw [List.length_drop] at h
          exact h)
        obtain ⟨o3, ho⟩ : ∃ o, o = runO (zs.drop N1) (ss.drop kc) := ⟨_, rfl⟩
        obtain ⟨N3, hN⟩ : ∃ N, N = runN (zs.drop N1) (ss.drop kc) := ⟨_, rfl⟩
        rw [p2] at HP7
        rw [← ho, ← hN] at HP7 p4
        have HPp := Lib.hid (And.intro p3 p4)
        have HoL3 := Lib.hid (show o3.length ≤ 20 by have := runO_len (zs.drop N1) (ss.drop kc); have := HDl.out; rw [ho]; omega)
        have hN3 : N3 ≤ zs.length := by
          rw [hN]
          unfold runN
          split
          · omega
          · rename_i o n hr; have := (runL_le _ hr).1; rw [List.length_drop] at this; omega
        have l1 : (N1 : Int) ≤ (zs.length : Int) := by omega
        clear hqb hq ho hN p2 p3 p4
        go_wp2_with fail
        go_region_held3 (fun _ => True) (trivial) (first | (go_at_call 16; (with_reducible refine (parse_s (some ⟨b, off + kc * 2, none⟩) (ss.length - kc) (cs - kc) _).mono ?_); rintro e w7 ⟨sb7, rfl, hk7, hF7⟩; have HS7 := Lib.hid (HS6.out.drew.keep hF7); have HK7 := Lib.hid hk7; clear hk7 hF7) | (go_at_call 19; (with_reducible refine (HP7.out _ _ HS7.out.frm HK7.out).mono ?_); rintro e w8 ⟨v8, g8, hg8, rfl, hs8, hS8⟩; obtain ⟨a8, c8, rfl, j1, j2⟩ := own_shape (hS8.get 1 rfl); have HG8 := Lib.hid (And.intro hg8 hs8); have HS8 := Lib.hid (HS7.out.more hS8); clear hg8 hs8 hS8 j1 j2))
        by_cases hE : E = 0
        · subst hE
          obtain ⟨e1, e2⟩ := HPp.out.2 rfl
          subst e1
          have HOo := Lib.hid e2
          have t9 : (((N1 + N3 : Nat) : Int) == (N1 : Int) + (N3 : Int)) = true := by rw [beq_iff_eq]; omega
          have t8 : IntKind.i64.wrap ((N1 : Int) + (N3 : Int)) = (N1 : Int) + (N3 : Int) := IntWalk.i64_in _ (by omega)
          have hl6 : g6.length ≤ 20 := by have h := congrArg List.length HG6.out.1; rw [List.length_map, HoE1.out.1] at h; have := runO_len zs (ss.take kc); have := HTl.out; omega
          have hl8 : g8.length ≤ 20 := by have h := congrArg List.length HG8.out.1; have h2 := HoL3.out; rw [List.length_map] at h; omega
          have hB6 : ∀ g ∈ g6, g.B.length ≤ 1000000 := fun g hg => by have := HG6.out.2 g hg; omega
          have hB8 : ∀ g ∈ g8, g.B.length ≤ 1000000 := fun g hg => by have := HG8.out.2 g hg; omega
          have hB4 : ∀ g ∈ g4, g.B.length ≤ 1000000 := fun g hg => by have := HG4.out.2 g hg; omega
          have HBs := Lib.hid (And.intro hB6 (And.intro hB8 hB4))
          obtain ⟨a8', c8', h1, _, _, hn8, hrd8, _⟩ := RdS.of_own (rows := g8.map GtV.row) (HS8.out.get 1 rfl) (fun r hr => by obtain ⟨g, _, rfl⟩ := List.mem_map.1 hr; rfl) (by decide) (List.length_map _).symm
          injection h1 with h1 h2 h3
          subst h1 h3
          have HR8 := Lib.hid (And.intro hn8 hrd8)
          have ho8 : ∀ r ∈ g8.map GtV.row, ∀ u ∈ r, u.oneCell' = true := fun r hr u hu => by
            obtain ⟨g, hg, rfl⟩ := List.mem_map.1 hr
            have hb := (HS8.out.get 0 rfl) (sumR g.bv g.B) (List.mem_map.2 ⟨g, hg, rfl⟩)
            obtain ⟨p, c', e1, _, _⟩ := own_shape hb
            simp [GtV.row] at hu
            rcases hu with rfl | rfl
            · rfl
            · rw [e1]; rfl
          have HO8 := Lib.hid ho8
          clear e2 hB6 hB8 hB4 h2 hn8 hrd8 ho8
          go_wp2_with (at_builtin; refine wpList_wanted (by rfl) (fun K hK => ?_); go_must (refine wp_append_rows (.tmp 140) (.tmp 141) 23 rfl 28 i0 (.agg #[.int .u64 0, .slice none 0 0]) 2 32 Try.underlying23 hi hz0 hz1 hz2 rfl (by decide) _ g6.length (g6.map GtV.row).flatten rfl (HS8.out.own 3 rfl) a8 c8 (g8.map GtV.row) (by rw [List.length_map]; rfl) HR8.out.1 (fun r hr => by obtain ⟨g, _, rfl⟩ := List.mem_map.1 hr; rfl) HR8.out.2 HO8.out (by rw [List.length_map]; unfold maxLen; omega) (by rw [List.length_map]; omega) ?_); intro v9 w9 h2 h3 h4; rw [List.length_map] at h2; obtain ⟨a9, c9, rfl, j1, j2⟩ := own_shape h2; have HS9 := Lib.hid (HS8.out.grow 3 rfl h3 h2 h4); clear h2 h3 h4 j1 j2; refine hK _ _ ?_; clear hK)
          have hsp : (gotsR (.slice a9 (g6.length + g8.length) c9) (g6 ++ g8)).P w9 := by
            have h := HS9.out.own 3 rfl
            unfold gotsR
            rw [List.length_append, List.map_append, List.flatten_append]
            exact h
          have hbp : (bodR (g6 ++ g8)).P w9 := fun r hr => by
            obtain ⟨g, hg, rfl⟩ := List.mem_map.1 hr
            rcases List.mem_append.1 hg with hg | hg
            · exact (HS9.out.get 2 rfl) _ (List.mem_map.2 ⟨g, hg, rfl⟩)
            · exact (HS9.out.get 0 rfl) _ (List.mem_map.2 ⟨g, hg, rfl⟩)
          obtain ⟨p1, q1, e1, r1⟩ := gots_rdP hsp hbp (fun g hg => by
            rcases List.mem_append.1 hg with hg | hg
            · exact HBs.out.1 g hg
            · exact HBs.out.2.1 g hg)
          rw [List.length_append] at e1
          injection e1 with e1 e2 e3
          subst e1 e3
          obtain ⟨p2, q2, e1, r2⟩ := gots_rdP (HS9.out.get 5 rfl) (HS9.out.get 4 rfl) HBs.out.2.2
          injection e1 with e1 e4 e3
          subst e1 e3
          have hC := gsame_c a9 a4 c9 c4 (g6 ++ g8) g4 w9 r1 r2 (by rw [List.length_append]; omega) (by rw [List.map_append, HG6.out.1, HG8.out.1, HG4.out.1, HOo.out])
          rw [List.length_append] at hC
          have HC := Lib.hid hC
          clear hsp hbp e2 e4 r1 r2 hC
          go_wp2_with fail
          refine HC.out.mono ?_
          rintro e wF ⟨rfl, mF, rfl⟩
          have HF := Lib.hid (HS9.out.frm.drewN mF)
          go_wp2_with fail
          go_ret
          exact ⟨rfl, HF.out.below⟩
        · have u2 : (E != 0) = true := by simp [hE]
          obtain ⟨e1, e2⟩ := HPp.out.1 hE
          subst e1 
          have g0 : g4 = [] := by have := HG4.out.1; rw [e2] at this; exact List.map_eq_nil_iff.1 this
          subst g0
          clear e2 hE
          go_wp2_with fail
          go_ret
          exact ⟨rfl, HS8.out.frm.below⟩
      · have u1 : (E1 != 0) = true := by simp [hE1]
        obtain ⟨p1, p2, p3, p4⟩ := part_bad (zs := zs) (ss := ss) kc (by rw [← HoE1.out.2.2]; exact hE1)
        obtain rfl : E = E1 := by rw [HoE.out.2.2, HoE1.out.2.2, p1]
        obtain rfl : N = 0 := by rw [HoE.out.2.1, p2]
        have g0 : g4 = [] := by have := HG4.out.1; rw [HoE.out.1, p3] at this; exact List.map_eq_nil_iff.1 this
        have g1 : g6 = [] := by have := HG6.out.1; rw [HoE1.out.1, p4] at this; exact List.map_eq_nil_iff.1 this
        subst g0 g1
        clear p1 p2 p3 p4 hE1
        go_wp2_with fail
        go_ret
        exact ⟨rfl, HS6.out.frm.below⟩

set_option maxRecDepth 100000 in
set_option maxHeartbeats 4000000 in
theorem wirePartsB_w (w : World) (a : Option Addr) (c n : Nat) (ad : Option Addr) (cs m : Nat) (cut0 : Int) (hn : n ≤ 9223372036854775807) (hm : m ≤ 9223372036854775807) (h : 200 < n ∨ 20 < m ∨ m = 0) :
    Calls Try.prog 6 #[.slice a n c, .slice ad m cs, .int .i64 cut0] w fun e w' => e = .returned (.bool true) ∧ Below w.heap.size w w' := by
  by_cases h1 : 200 < n
  · have t1 : decide (200 < (n : Int)) = true := by rw [decide_eq_true_iff]; omega
    clear h h1
    go_enter Try.func6, Try.ntmps6
    go_wp2_with fail
    refine (alive_c _).mono ?_
    rintro e w1 ⟨rfl, hF⟩
    have HF := Lib.hid hF
    clear hF
    go_wp2_with fail
    go_ret
    exact ⟨rfl, HF.out.below⟩
  · have t1 : decide (200 < (n : Int)) = false := by rw [decide_eq_false_iff_not]; omega
    by_cases h2 : 20 < m
    · have t2 : decide (20 < (m : Int)) = true := by rw [decide_eq_true_iff]; omega
      clear h h1 h2
      go_enter Try.func6, Try.ntmps6
      go_wp2_with fail
      refine (alive_c _).mono ?_
      rintro e w1 ⟨rfl, hF⟩
      have HF := Lib.hid hF
      clear hF
      go_wp2_with fail
      go_ret
      exact ⟨rfl, HF.out.below⟩
    · obtain rfl : m = 0 := by omega
      clear h h1 h2
      go_enter Try.func6, Try.ntmps6
      go_wp2_with fail
      refine (alive_c _).mono ?_
      rintro e w1 ⟨rfl, hF⟩
      have HF := Lib.hid hF
      clear hF
      go_wp2_with fail
      go_ret
      exact ⟨rfl, HF.out.below⟩

theorem wireParts_w (w : World) (a : Option Addr) (c : Nat) (zs : List Int) (lc : zs.length ≤ c) (mc : c ≤ maxLen) (nc : a = none → c = 0) (rd : RdI .u8 w a zs) (wf : ∀ x ∈ zs, (Lit.int .u8 x).wf = true)
    (ad : Option Addr) (cs : Nat) (ss : List Stp) (lc2 : ss.length ≤ cs) (mc2 : cs ≤ maxLen) (rd2 : RdS 2 w ad (ss.map Stp.row)) (wf2 : ∀ s ∈ ss, s.ok) (cut0 : Int) (wm : (Lit.int .i64 cut0).wf = true) :
    Calls Try.prog 6 #[.slice a zs.length c, .slice ad ss.length cs, .int .i64 cut0] w fun e w' => e = .returned (.bool true) ∧ Below w.heap.size w w' := by
  unfold maxLen at mc mc2
  by_cases h : 200 < zs.length ∨ 20 < ss.length ∨ ss.length = 0
  · exact wirePartsB_w w a c zs.length ad cs ss.length cut0 (by omega) (by omega) h
  · exact wirePartsA_w w a c zs ⟨rd, byt_wf wf, lc, mc, nc, by omega⟩ (by omega) ad cs ss ⟨rd2, by omega, fun s hs => (wf2 s hs).2⟩ lc2 mc2 (by omega) (by omega) cut0

end Go.Proofs.Ytdkbibfgebfeaaa
