/-
  THE WALK of the law StripeTurns.
-/
import Derived.Test.YtmdjdhbnigppcaaStQ
import Derived.Deep.RegionHeld3
import Derived.Deep.DeepCutAuto
set_option linter.unusedVariables false
set_option linter.unusedSimpArgs false
namespace Go.Proofs.Ytmdjdhbnigppcaa
open Go.RowKit Go.Shelf

set_option maxRecDepth 100000 in
set_option maxHeartbeats 16000000 in
theorem turnsA_w (w : World) (ad : Option Addr) (cap : Nat) (xs : List Bs) (lc : xs.length ≤ cap) (mc : cap ≤ 9223372036854775807) (nc : ad = none → cap = 0) (rd : ∀ wx, Below w.heap.size w wx → RdRows wx ad xs) (hn : xs.length ≤ 30) (hs : ∀ x ∈ xs, x.zs.length ≤ 500)
    (b : Option Addr) (cb : Nat) (ys : List Int) (sb : Sl w b ys ys.length) (hly : ys.length ≤ 500) (t : Int) :
    Calls Try.prog 5 #[.slice ad xs.length cap, .slice b ys.length cb, .int .i64 t] w fun e w' => e = .returned (.bool true) ∧ Below w.heap.size w w' := by
  obtain ⟨inf, hi, hz0, hz1, hz2⟩ := info_parts info_row
  have HA := Lib.hid rd
  have HN := Lib.hid nc
  have HB := Lib.hid sb
  have HXb := Lib.hid (show ∀ x ∈ xs, Byt x.zs from fun x hx => by
    obtain ⟨i, hi⟩ := List.getElem?_of_mem hx
    exact ((rd w (Below.refl _ _)) i x hi).2.2.1)
  have HSm := Lib.hid (small_c ad cap xs)
  have HSz := Lib.hid (And.intro hs hn)
  have d1 : decide (500 < (ys.length : Int)) = false := by rw [decide_eq_false_iff_not]; omega
  obtain ⟨z, hz⟩ : ∃ z, bits .and .i64 t 1023 = z := ⟨_, rfl⟩
  have hzb := and_i64 t 1023 (by omega) (by omega)
  rw [hz] at hzb
  obtain ⟨z0, z1⟩ := hzb
  obtain ⟨A, hA⟩ : ∃ A, A = xoAll (xs.map Bs.zs) := ⟨_, rfl⟩
  have HAe := Lib.hid hA
  clear rd nc sb hs hA
  go_enter Try.func5, Try.ntmps5
  go_wp2_with fail
  refine (alive_c _).mono ?_
  rintro e w1 ⟨rfl, hf⟩
  have HS1 := Lib.hid ((Sep.init w).keep hf)
  clear hf
  go_wp2_with fail
  refine (HSm.out w1 (HA.out _ HS1.out.frm.below).heads (by omega)).mono ?_
  rintro e w' ⟨rfl, ⟨rfl, _, _⟩ | ⟨_, hno⟩⟩
  case inr => exact absurd HSz.out hno
  clear HSm
  go_wp2_with fail
  refine (all_s cap (HA.out _ HS1.out.frm.below) rfl (by omega)).mono ?_
  rw [← HAe.out]
  rintro e w2 ⟨a2, n2, c2, rfl, s2, nn2, hS2⟩
  have HBase := Lib.hid (HS1.out.frm.trans hS2.frm).below
  have HF2 := Lib.hid (show ∀ wx, Below w2.heap.size w2 wx → Sl wx a2 A n2 from fun wx hb => s2.below hb)
  have HA2 := Lib.hid (show ∀ wx, Below w2.heap.size w2 wx → RdRows wx ad xs from fun wx hb => HA.out wx (HBase.out.trans (hb.mono HBase.out.size)))
  have HB2 := Lib.hid (show ∀ wx, Below w2.heap.size w2 wx → Sl wx b ys ys.length from fun wx hb => HB.out.below (HBase.out.trans (hb.mono HBase.out.size)))
  have HBa := Lib.hid s2.2.2.1
  have HBy := Lib.hid HB.out.2.2.1
  clear s2 nn2 hS2 HS1 HA HB
  have HS2 := Lib.hid (Sep.init w2)
  go_wp2_with fail
  refine (xor_s c2 cb (HF2.out _ HS2.out.frm.below) (HB2.out _ HS2.out.frm.below)).mono ?_
  rintro e w3 ⟨a3, n3, c3, rfl, s3, nn3, hS3⟩
  have HS3 := Lib.hid (HS2.out.keep hS3.frm)
  have Hs3 := Lib.hid s3
  clear s3 nn3 hS3 HS2
  go_wp2_with fail
  refine (xor_s c3 cb Hs3.out (HB2.out _ HS3.out.frm.below)).mono ?_
  rintro e w4 ⟨a4, n4, c4, rfl, s4, nn4, hS4⟩
  have HS4 := Lib.hid (HS3.out.keep hS4.frm)
  have Hs4 := Lib.hid s4
  clear s4 nn4 hS4 HS3 Hs3
  go_wp2_with fail
  refine (gap_s c4 c2 Hs4.out (HF2.out _ HS4.out.frm.below) true (gap_back HBa.out HBy.out)).mono ?_
  rintro e w5 ⟨⟨g, rfl, hg⟩, hf⟩
  have HS5 := Lib.hid (HS4.out.keep hf)
  have hg2 : decide (g ≥ 0) = false := by simp at hg ⊢; omega
  have hg3 : decide (0 ≤ g) = false := by simp at hg ⊢; omega
  clear hf HS4 Hs4
  go_wp2_with fail
  refine (xor_s c2 c2 (HF2.out _ HS5.out.frm.below) (HF2.out _ HS5.out.frm.below)).mono ?_
  rintro e w6 ⟨a6, n6, c6, rfl, s6, nn6, hS6⟩
  have HS6 := Lib.hid (HS5.out.keep hS6.frm)
  have Hs6 := Lib.hid s6
  clear s6 nn6 hS6 HS5 hg hg2 hg3
  go_wp2_with fail
  refine (zero_s c6 Hs6.out true (zero_self HBa.out)).mono ?_
  rintro e w7 ⟨rfl, hf⟩
  have HS7 := Lib.hid (((HS6.out.keep hf).made 25 1 0 #[] (by unfold maxLen; omega) rfl))
  clear hf HS6 Hs6
  go_wp2_with fail
  obtain ⟨w8, hw8⟩ : ∃ w8, w8 = w7.alloc (.cells #[] 25) := ⟨_, rfl⟩
  obtain ⟨g8, hg8⟩ : ∃ g8, g8 = w7.heap.size := ⟨_, rfl⟩
  rw [← hw8, ← hg8] at HS7
  rw [← hw8, ← hg8]
  clear hw8 hg8
  go_loopw [42, 8] (fun i v wr => ∃ (k g c : Nat), k ≤ xs.length ∧ i = .int .i64 k ∧ v = .slice (some ⟨g, 0, none⟩) k c ∧ Sep [] w2 wr [ownR 25 1 (.slice (some ⟨g, 0, none⟩) k c) k ((xs.reverse.take k).map Bs.val)]) (fun i _ _ => xs.length - (intOf i).toNat)
  case atStart => exact ⟨0, _, _, Nat.zero_le _, rfl, rfl, HS7.out⟩
  case round =>
    obtain ⟨k, g, c, hk, rfl, rfl, hS⟩ := hrel
    have HS9 := Lib.hid hS
    clear hS
    by_cases hlt : k < xs.length
    · obtain ⟨j, hj, hjl⟩ : ∃ j : Nat, (xs.length : Int) - 1 - (k : Int) = (j : Int) ∧ j = xs.length - 1 - k := ⟨xs.length - 1 - k, by omega, rfl⟩
      have hjx : j < xs.length := by omega
      obtain ⟨x, hx⟩ : ∃ x, xs[j]? = some x := ⟨_, List.getElem?_eq_getElem hjx⟩
      obtain ⟨⟨b1, o1, rfl, _, cx⟩, _⟩ := HA2.out _ HS9.out.frm.below j x hx
      have hrev : xs.reverse.take (k + 1) = xs.reverse.take k ++ [x] := by
        rw [List.take_add_one, List.getElem?_reverse hlt, ← hjl, hx]; rfl
      have HRv := Lib.hid hrev
      have i0 : (0 : Int) ≤ (j : Int) := by omega
      have i1 : (j : Int) < (xs.length : Int) := by omega
      unfold Bs.val at cx
      clear hx hrev hjl
      go_wp2_with (at_builtin; refine wpList_append_sep rfl _ _ 22 rfl 0 25 inf (.slice none 0 0) 24 Try.underlying22 hi hz0 hz1 hz2 rfl _ _ _ rfl (HS9.out.skip _) rfl _ 1 (.slice x.a x.zs.length x.c) rfl (World.cell?_alloc_at _ _ _ _ rfl) rfl (by unfold maxLen; omega) (by omega) ?_; intro g4 c4 w4 hS4; have HS10 := Lib.hid hS4; clear hS4)
      go_roundw
      case rel =>
        refine ⟨k + 1, g4, c4, by omega, by go_num, rfl, ?_⟩
        rw [HRv.out, List.map_append, List.map_singleton]; exact HS10.out
      case measure => simp [intOf]; omega
    · obtain rfl : k = xs.length := by omega
      have hrl : xs.reverse.take xs.length = xs.reverse := List.take_of_length_le (by simp)
      rw [hrl] at HS9
      have HRo : Hid (∀ wx, Frm [] wr wx → RdRows wx (some ⟨g, 0, none⟩) xs.reverse) := Lib.hid (fun wx hf => by
        obtain ⟨a, c', hv, _, hr⟩ := rows_own ((HS9.out.keep hf).own 0 rfl) (fun m hm => by
          obtain ⟨i, hi⟩ := List.getElem?_of_mem (List.mem_reverse.1 hm)
          exact ((HA2.out _ (HS9.out.frm.trans hf).below) i m hi).2)
        injection hv with h1 _ _
        rw [h1]
        exact hr)
      have HS10 := Lib.hid (HS9.out.sub (List.nil_sublist _))
      have HAl := Lib.hid (all_s c (HRo.out _ (Frm.refl _ _)) (by simp) (by omega : xs.length ≤ 1000))
      rw [all_reverse HXb.out, ← HAe.out] at HAl
      clear hrl HRo HS9
      go_wp2_with fail
      refine HAl.out.mono ?_
      rintro e w3 ⟨a3, n3, c3, rfl, s3, nn3, hS3⟩
      have HS3 := Lib.hid (HS10.out.keep hS3.frm)
      have Hs3 := Lib.hid s3
      clear s3 nn3 hS3 HS10 HAl
      go_wp2_with fail
      refine (same_s c3 c2 Hs3.out (HF2.out _ HS3.out.frm.below) rfl).mono ?_
      rintro e w4 ⟨rfl, hf⟩
      have HS4 := Lib.hid (HS3.out.keep hf)
      clear hf HS3 Hs3
      go_wp2_with fail
      refine (xor_s cb c2 (HB2.out _ HS4.out.frm.below) (HF2.out _ HS4.out.frm.below)).mono ?_
      rintro e w5 ⟨a5, n5, c5, rfl, s5, nn5, hS5⟩
      have HS5 := Lib.hid (HS4.out.keep hS5.frm)
      have Hs5 := Lib.hid (show ∀ wx, Frm [] w5 wx → _ from fun wx hf => s5.below hf.below)
      clear s5 nn5 hS5 HS4
      go_wp2_with fail
      refine (xor_s c2 cb (HF2.out _ HS5.out.frm.below) (HB2.out _ HS5.out.frm.below)).mono ?_
      rintro e w6 ⟨a6, n6, c6, rfl, s6, nn6, hS6⟩
      have HS6 := Lib.hid (HS5.out.keep hS6.frm)
      have Hs6 := Lib.hid s6
      have Hs5b := Lib.hid (Hs5.out _ hS6.frm)
      clear s6 nn6 hS6 HS5 Hs5
      go_wp2_with fail
      refine (same_s c5 c6 Hs5b.out Hs6.out (xo_comm HBy.out HBa.out)).mono ?_
      rintro e w7 ⟨rfl, hf⟩
      have HS7 := Lib.hid (HS6.out.keep hf)
      clear hf HS6 Hs6 Hs5b
      by_cases hz0' : xs.length = 0
      · have e1 : ((xs.length : Int) == 0) = true := by rw [beq_iff_eq]; omega
        have hn2 : n2 = 0 := by
          have h1 := (HF2.out _ HS7.out.frm.below).1
          have h2 := HAe.out
          have h3 : xs = [] := List.eq_nil_of_length_eq_zero hz0'
          rw [h3] at h2
          rw [← h1, h2]
          rfl
        have e2 : ((n2 : Int) == 0) = true := by rw [beq_iff_eq]; omega
        clear hz0'
        go_wp2_with fail
        go_ret
        exact ⟨rfl, HBase.out.trans (HS7.out.frm.below.mono HBase.out.size)⟩
      · have e1 : ((xs.length : Int) == 0) = false := by rw [beq_eq_false_iff_ne]; omega
        have hpos : 0 < xs.length := by omega
        obtain ⟨k, hk, hkl⟩ : ∃ k : Nat, z % (xs.length : Int) = (k : Int) ∧ k < xs.length := by
          have h1 := Int.emod_nonneg z (show (xs.length : Int) ≠ 0 by omega)
          have h2 := Int.emod_lt_of_pos z (show (0 : Int) < (xs.length : Int) by omega)
          exact ⟨(z % (xs.length : Int)).toNat, by omega, by omega⟩
        obtain ⟨x, hx⟩ : ∃ x, xs[k]? = some x := ⟨_, List.getElem?_eq_getElem hkl⟩
        obtain ⟨⟨b1, o1, rfl, _, _⟩, _⟩ := HA2.out _ HS7.out.frm.below k x hx
        have HX := Lib.hid hx
        have HLb := Lib.hid (lost_back HXb.out k x hx)
        have i1 : (0 : Int) ≤ (k : Int) := by omega
        have i2 : (k : Int) < (xs.length : Int) := by omega
        have j1 : k ≤ cap := by omega
        have j3 : k ≤ xs.length := by omega
        have j5 : (k : Int) ≤ (cap : Int) := by omega
        have j7 : (k : Int) ≤ (xs.length : Int) := by omega
        have j9 : (xs.length : Int) ≤ (cap : Int) := by omega
        have j11 : IntKind.i64.wrap ((k : Int) + 1) = (k : Int) + 1 := IntWalk.i64_in _ (by omega)
        have j12 : (0 : Int) ≤ (k : Int) + 1 := by omega
        have j13 : (k : Int) + 1 ≤ (xs.length : Int) := by omega
        have j14 : (k : Int) + 1 ≤ (cap : Int) := by omega
        have j15 : ((k : Int) + 1).toNat = k + 1 := by omega
        have hok : ∀ m ∈ xs.take k ++ xs.drop (k + 1), m ∈ xs := fun m hm => by
          rcases List.mem_append.1 hm with h | h
          · exact List.mem_of_mem_take h
          · exact List.mem_of_mem_drop h
        have hol : (xs.take k ++ xs.drop (k + 1)).length = xs.length - 1 := by rw [List.length_append, List.length_take, List.length_drop]; omega
        have HOk := Lib.hid (And.intro hok hol)
        clear hx hok hol hpos hz0'
        go_upto_region 19 with (fail)
        rw [hk]
        clear hk
        go_cut [10] (fun v wx => Sep [] w2 wx [ownR 25 1 v (xs.length - 1) ((xs.take k ++ xs.drop (k + 1)).map Bs.val)])
        case first =>
          have HSn := Lib.hid (HS7.out.drew.made 25 1 0 #[] (by unfold maxLen; omega) rfl)
          have HRd := Lib.hid (HA2.out _ HS7.out.frm.below).heads
          have hl1 : (xs.take k).length = k := by rw [List.length_take]; omega
          have HL1 := Lib.hid hl1
          have hl2 : (xs.drop (k + 1)).length = xs.length - (k + 1) := List.length_drop
          have hl3 : k + (xs.length - (k + 1)) = xs.length - 1 := by omega
          have HL2 := Lib.hid hl2
          have HL3 := Lib.hid hl3
          have HL4 := Lib.hid (show (xs.take k).map Bs.val ++ (xs.drop (k + 1)).map Bs.val = (xs.take k ++ xs.drop (k + 1)).map Bs.val by rw [List.map_append])
          clear hl1 hl2 hl3
          have HRr := Lib.hid (HA2.out _ HS7.out.frm.below).heads
          by_cases hcap : cap = k + 1
          · have hdn : xs.drop (k + 1) = [] := List.drop_eq_nil_of_le (by omega)
            have HDn : Hid (∀ (wx : World) ad, RdHs wx ad (xs.drop (k + 1))) := Lib.hid (fun wx ad => by rw [hdn]; exact fun i x h => by simp at h)
            clear hdn
            have hxk : xs.length = k + 1 := by omega
            have HXk := Lib.hid hxk
            have HL5 := Lib.hid (show (xs.drop (k + 1)).length = 0 by rw [List.length_drop]; omega)
            have HL6 := Lib.hid (show k + 0 = xs.length - 1 by omega)
            subst hcap
            have q1 : (k : Int) ≤ (k : Int) + 1 := by omega
            have q2 : (xs.length : Int) ≤ (k : Int) + 1 := by omega
            have q3 : k ≤ k + 1 := by omega
            clear hxk
            go_region_held3 (fun _ => True) (trivial) (first | (rw [if_pos (by rfl)]; refine wp_append_heads (.tmp 83) (.tmp 86) 22 rfl 0 25 inf (.slice none 0 0) 24 Try.underlying22 hi hz0 hz1 hz2 rfl _ 0 [] rfl HSn.out rfl (some ⟨b1, o1, none⟩) _ k (xs.take k) HL1.out rfl (fun h => by cases h) ((HRd.out.below ((Below.refl _ _).drew.alloc (Nat.le_refl _) _)).take k) k (Nat.zero_add _) ((xs.take k).map Bs.val) rfl (by unfold maxLen; omega) (by omega) ?_; intro v8 w8 hS8; have HS8 := Lib.hid hS8; clear hS8) | (rw [if_pos (by rfl)]; refine wp_append_heads (.tmp 87) (.tmp 91) 22 rfl 0 25 inf (.slice none 0 0) 24 Try.underlying22 hi hz0 hz1 hz2 rfl v8 k ((xs.take k).map Bs.val) rfl HS8.out rfl (some ⟨b1, o1, none⟩) 0 0 (xs.drop (k + 1)) HL5.out rfl (fun h => by cases h) (HDn.out _ _) (xs.length - 1) HL6.out ((xs.take k ++ xs.drop (k + 1)).map Bs.val) HL4.out (by unfold maxLen; omega) (by omega) ?_; intro v9 w9 hS9; have HS9 := Lib.hid hS9; clear hS9))
            go_wp2_with fail
            go_meet
            exact HS9.out
          · go_region_held3 (fun _ => True) (trivial) (first | (rw [if_pos (by rfl)]; refine wp_append_heads (.tmp 83) (.tmp 86) 22 rfl 0 25 inf (.slice none 0 0) 24 Try.underlying22 hi hz0 hz1 hz2 rfl _ 0 [] rfl HSn.out rfl (some ⟨b1, o1, none⟩) cap k (xs.take k) HL1.out rfl (fun h => by cases h) ((HRd.out.below ((Below.refl _ _).drew.alloc (Nat.le_refl _) _)).take k) k (Nat.zero_add _) ((xs.take k).map Bs.val) rfl (by unfold maxLen; omega) (by omega) ?_; intro v8 w8 hS8; have HS8 := Lib.hid hS8; clear hS8) | (rw [if_pos (by rfl)]; refine wp_append_heads (.tmp 87) (.tmp 91) 22 rfl 0 25 inf (.slice none 0 0) 24 Try.underlying22 hi hz0 hz1 hz2 rfl v8 k ((xs.take k).map Bs.val) rfl HS8.out rfl (some ⟨b1, o1 + (k + 1), none⟩) (cap - (k + 1)) (xs.length - (k + 1)) (xs.drop (k + 1)) HL2.out rfl (fun h => by cases h) ((HA2.out _ HS8.out.frm.below).heads.drop (k + 1)) (xs.length - 1) HL3.out ((xs.take k ++ xs.drop (k + 1)).map Bs.val) HL4.out (by unfold maxLen; omega) (by omega) ?_; intro v9 w9 hS9; have HS9 := Lib.hid hS9; clear hS9))
            go_wp2_with fail
            go_meet
            exact HS9.out
        case rest =>
          obtain ⟨aO, cO, rfl, hOl, _⟩ := rows_own (hcut.own 0 rfl) (fun m hm => by
            obtain ⟨i, hi⟩ := List.getElem?_of_mem (HOk.out.1 m hm)
            exact ((HA2.out _ hcut.frm.below) i m hi).2)
          have HOr := Lib.hid (show ∀ wx, Frm [] wc wx → RdRows wx aO (xs.take k ++ xs.drop (k + 1)) from fun wx hf => by
            obtain ⟨a', c', hv, _, hr⟩ := rows_own ((hcut.keep hf).own 0 rfl) (fun m hm => by
              obtain ⟨i, hi⟩ := List.getElem?_of_mem (HOk.out.1 m hm)
              exact ((HA2.out _ (hcut.keep hf).frm.below) i m hi).2)
            injection hv with h1 _ _
            rw [h1]
            exact hr)
          have HC := Lib.hid (hcut.sub (List.nil_sublist _))
          have HCk := Lib.hid (show ∀ wx, Below w2.heap.size w2 wx → wx.cell? ⟨b1, o1 + k, none⟩ = some (.slice x.a x.zs.length x.c) from fun wx hb => by
            obtain ⟨b', o', ha, _, hc⟩ := ((HA2.out wx hb) k x HX.out).1
            injection ha with ha
            injection ha with h1 h2 h3
            subst h1 h2
            exact hc)
          have HSx := Lib.hid (show ∀ wx, Below w2.heap.size w2 wx → Sl wx x.a x.zs x.zs.length from fun wx hb => by
            have h := ((HA2.out wx hb) k x HX.out).2
            exact ⟨rfl, h.1, h.2.1, h.2.2⟩)
          have hx5 : x.zs.length ≤ 500 := HSz.out.1 x (List.mem_of_getElem? HX.out)
          have HOl := Lib.hid hOl
          have ck := HCk.out _ HC.out.frm.below
          clear hcut hOl HS7
          go_wp2_with fail
          go_region_held3 (fun wx => wx.cell? ⟨b1, o1 + k, none⟩ = some (.slice x.a x.zs.length x.c)) (first | exact ck | (with_reducible exact HCk.out _ HC3.out.frm.below) | (with_reducible exact HCk.out _ HC2.out.frm.below) | (with_reducible exact HCk.out _ HC1.out.frm.below)) (first | (go_at_call 14; (with_reducible refine (all_s cO (HOr.out _ ((Frm.refl _ _).drew)) HOl.out (by omega)).mono ?_); rintro e w3 ⟨aa, na, ca, rfl, sa, nna, hS3⟩; have HC1 := Lib.hid (HC.out.drew.keep hS3.frm); have Hsa := Lib.hid sa; clear sa nna hS3) | (go_at_call 18; (with_reducible refine (xor_s c2 ca (HF2.out _ HC1.out.frm.below) Hsa.out).mono ?_); rintro e w4 ⟨ax, nx, cx, rfl, sx, nnx, hS4⟩; have HC2 := Lib.hid (HC1.out.keep hS4.frm); have Hsx := Lib.hid (And.intro sx nnx); clear sx nnx hS4) | (go_at_call 23; (with_reducible refine (fit_s cx Hsx.out.2 Hsx.out.1 _ x.zs.length rfl (by omega)).mono ?_); rintro e w5 ⟨af, cf, rfl, sf, hS5⟩; have HC3 := Lib.hid (HC2.out.keep hS5.frm); have Hsf := Lib.hid sf; clear sf hS5))
          have ck3 := HCk.out _ HC3.out.frm.below
          have he := HLb.out
          rw [← HAe.out] at he
          have HE := Lib.hid he
          clear he ck
          go_wp2_with fail
          refine (same_s cf x.c Hsf.out (HSx.out _ HC3.out.frm.below) HE.out).mono ?_
          rintro e w6 ⟨rfl, hf⟩
          have HC4 := Lib.hid (HC3.out.keep hf)
          clear hf
          go_wp2_with fail
          go_ret
          exact ⟨rfl, HBase.out.trans (HC4.out.frm.below.mono HBase.out.size)⟩

set_option maxRecDepth 100000 in
set_option maxHeartbeats 4000000 in
theorem turnsB_w (w : World) (ad : Option Addr) (cap : Nat) (xs : List Bs) (lc : xs.length ≤ cap) (mc : cap ≤ 9223372036854775807) (rd : RdHs w ad xs) (b : Option Addr) (cb m : Nat) (t : Int)
    (h : ¬ ((∀ x ∈ xs, x.zs.length ≤ 500) ∧ xs.length ≤ 30) ∨ 500 < m) :
    Calls Try.prog 5 #[.slice ad xs.length cap, .slice b m cb, .int .i64 t] w fun e w' => e = .returned (.bool true) ∧ Below w.heap.size w w' := by
  have HR := Lib.hid rd
  have HH := Lib.hid h
  clear rd h
  go_enter Try.func5, Try.ntmps5
  go_wp2_with fail
  refine (alive_c _).mono ?_
  rintro e w1 ⟨rfl, hf⟩
  have HF := Lib.hid hf
  clear hf
  go_wp2_with fail
  refine (small_c ad cap xs w1 (HR.out.below HF.out.below) (by omega)).mono ?_
  rintro e w' ⟨rfl, ⟨rfl, h1, h2⟩ | ⟨rfl, hno⟩⟩
  · have hm : 500 < m := by
      rcases HH.out with h | h
      · exact absurd ⟨h1, h2⟩ h
      · exact h
    have d1 : decide (500 < (m : Int)) = true := by rw [decide_eq_true_iff]; omega
    clear h1
    go_wp2_with fail
    go_ret
    exact ⟨rfl, HF.out.below⟩
  · clear hno
    go_wp2_with fail
    go_ret
    exact ⟨rfl, HF.out.below⟩

theorem stripeTurns_w (w : World) (a : Option Addr) (c : Nat) (rs : List IRow) (lc : rs.length ≤ c) (mc : c ≤ maxLen) (nc : a = none → c = 0) (rd : RdV w a (rs.map IRow.val))
    (wf : ∀ r ∈ rs, r.zs.length ≤ r.c ∧ r.c ≤ maxLen ∧ (r.a = none → r.c = 0) ∧ RdI .u8 w r.a r.zs ∧ ∀ x ∈ r.zs, (Lit.int .u8 x).wf = true)
    (b : Option Addr) (cb : Nat) (ys : List Int) (lcb : ys.length ≤ cb) (mcb : cb ≤ maxLen) (ncb : b = none → cb = 0) (rdb : RdI .u8 w b ys) (wsb : ∀ x ∈ ys, (Lit.int .u8 x).wf = true) (t : Int) (wt : (Lit.int .i64 t).wf = true) :
    Calls Try.prog 5 #[.slice a rs.length c, .slice b ys.length cb, .int .i64 t] w fun e w' => e = .returned (.bool true) ∧ Below w.heap.size w w' := by
  unfold maxLen at mc
  have hl : (rs.map IRow.bs).length = rs.length := List.length_map _
  by_cases h : ((∀ x ∈ rs.map IRow.bs, x.zs.length ≤ 500) ∧ (rs.map IRow.bs).length ≤ 30) ∧ ys.length ≤ 500
  · have hb := rows_bs wf
    have hw := turnsA_w w a c (rs.map IRow.bs) (by rw [hl]; exact lc) mc nc (fun wx hbx i x hx => ⟨(rd.bs.below hbx) i x hx, (hb x (List.mem_of_getElem? hx)).1.below hbx, (hb x (List.mem_of_getElem? hx)).2, Nat.le_trans (h.1.1 x (List.mem_of_getElem? hx)) (by omega)⟩) h.1.2 h.1.1 b cb ys ⟨rfl, rdb, fun x hx => u8_wf (wsb x hx), by omega⟩ h.2 t
    rwa [hl] at hw
  · have hw := turnsB_w w a c (rs.map IRow.bs) (by rw [hl]; exact lc) mc rd.bs b cb ys.length t (by
      by_cases h2 : 500 < ys.length
      · exact .inr h2
      · exact .inl (fun h3 => h ⟨h3, by omega⟩))
    rwa [hl] at hw

end Go.Proofs.Ytmdjdhbnigppcaa
