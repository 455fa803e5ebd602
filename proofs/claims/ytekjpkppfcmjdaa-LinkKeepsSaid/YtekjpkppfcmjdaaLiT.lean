/-
  PLAIN: choices that pass or lose all; THE WALK of the law LinkClean. Printed by gen_lit.py.
-/
import Derived.Test.YtekjpkppfcmjdaaLiS
set_option linter.unusedVariables false
set_option linter.unusedSimpArgs false
namespace Go.Proofs.Ytekjpkppfcmjdaa
open Go.RowKit

theorem all_pass {α : Type} (ch : List Int) (xs : List α) : ∀ k, k ≤ xs.length → (∀ i, i < k → wy ch i < 3) → qAt ch xs k = [] ∧ allO ch xs k = xs.take k
  | 0, _, _ => ⟨rfl, by rw [allO, List.take_zero]⟩
  | k + 1, h, hw => by
    obtain ⟨h1, h2⟩ := all_pass ch xs k (by omega) (fun i hi => hw i (by omega))
    have hx : xs[k]? = some xs[k] := List.getElem?_eq_getElem (by omega)
    have hk := hw k (by omega)
    rw [qAt_succ hx, allO, oAt_at hx, h1, h2, List.take_add_one, hx]
    unfold putQ putO
    rw [if_neg (by omega), if_neg (by omega), if_neg (by omega), if_neg (by omega)]
    exact ⟨rfl, rfl⟩
theorem all_lost {α : Type} (ch : List Int) (xs : List α) : ∀ k, k ≤ xs.length → (∀ i, i < k → wy ch i = 3) → qAt ch xs k = [] ∧ allO ch xs k = []
  | 0, _, _ => ⟨rfl, rfl⟩
  | k + 1, h, hw => by
    obtain ⟨h1, h2⟩ := all_lost ch xs k (by omega) (fun i hi => hw i (by omega))
    have hx : xs[k]? = some xs[k] := List.getElem?_eq_getElem (by omega)
    have hk := hw k (by omega)
    rw [qAt_succ hx, allO, oAt_at hx, h1, h2, hk]
    exact ⟨rfl, rfl⟩
theorem wy_rep (n i : Nat) (x : Int) (h : i < n) : wy (List.replicate n x) i = (x % 8).toNat := by
  unfold wy
  rw [List.length_replicate, if_pos h, List.getD_eq_getElem?_getD, List.getElem?_replicate, if_pos h]
  rfl
theorem rep_ints {v : Value} {n : Nat} {x : Int} : ownR 3 1 v n (List.replicate n (Value.int .i64 x)) = intsR v (List.replicate n x) := by
  unfold intsR
  rw [List.length_replicate, List.map_replicate]
theorem put_one {α : Type} (k : Nat) (x : α) (h : k < 8) : putO k x [] ++ (putQ k x []).map Prod.fst = if k = 3 then [] else if k = 4 then [x, x] else [x] := by
  unfold putO putQ
  by_cases h3 : k = 3
  · subst h3; rfl
  by_cases h4 : k = 4
  · subst h4; rfl
  by_cases h5 : 4 < k
  · rw [if_neg h3, if_neg h4, if_pos h5, if_pos h5, if_neg h3, if_neg h4]; rfl
  · rw [if_neg h3, if_neg h4, if_neg h5, if_neg h5, if_neg h3, if_neg h4]; rfl
theorem RdYs.of_blk {w : World} {g : Nat} {bs : List Yt} {t : TypeId} (h : Blk w g t (bs.map Yt.v).toArray) (hg : g < w.heap.size) (hb : ∀ b ∈ bs, Sla .u8 w b.v b.zs) : RdYs w (some ⟨g, 0, none⟩) bs :=
  ⟨fun i x hx => ⟨g, 0, rfl, hg, h.cell _ (by rw [Nat.zero_add]; simpa using hx)⟩, hb⟩

set_option maxRecDepth 100000 in
set_option maxHeartbeats 16000000 in
theorem linkClean_w (w : World) (a : Option Addr) (c : Nat) (bs : List Yt) (rd : RdYs w a bs) (hl : bs.length ≤ 9223372036854775807) (ac : Option Addr) (cc : Nat) (ch : List Int) (rc : RdI .i64 w ac ch) (hc : ac = none → cc = 0) :
    Calls Try.prog 5 #[.slice a bs.length c, .slice ac ch.length cc] w fun e w' => e = .returned (.bool true) ∧ Below w.heap.size w w' := by
  obtain ⟨inf, hi, hz0, hz1, hz2⟩ := info_parts info_ys
  obtain ⟨jnf, ji, jz0, jz1, jz2⟩ := info_parts info_int
  have HR := Lib.hid (fun X (hX : Frm [] w X) => rd.frm hX)
  have HC := Lib.hid (fun X (hX : Frm [] w X) => rc.below (w' := X) hX.below)
  obtain ⟨B, hB⟩ : ∃ B, B = fewY bs 100 100 := ⟨_, rfl⟩
  have HFw := Lib.hid (fun X (hX : Frm [] w X) => few_c a c bs 100 100 X (HR.out X hX) (by decide) (by decide) hl)
  rw [← hB] at HFw
  have HBf := Lib.hid (fun (h : B = true) => few_yes.1 (hB.symm.trans h))
  have HCn := Lib.hid hc
  clear rd rc hB hc
  go_enter Try.func5, Try.ntmps5
  go_wp2_with fail
  refine (alive_c w).mono ?_
  rintro e w1 ⟨rfl, hf⟩
  have HS1 := Lib.hid ((Sep.init w).keep hf)
  clear hf
  go_wp2_with fail
  refine (HFw.out w1 HS1.out.frm).mono ?_
  rintro e w2 ⟨rfl, hw2⟩
  subst hw2
  cases B with
  | false =>
    go_wp2_with fail
    go_ret
    exact ⟨rfl, HS1.out.frm.below⟩
  | true =>
    by_cases h2 : 200 < ch.length
    · have t2 : decide (200 < (ch.length : Int)) = true := decide_eq_true (by omega)
      go_wp2_with fail
      go_ret
      exact ⟨rfl, HS1.out.frm.below⟩
    have t2 : decide (200 < (ch.length : Int)) = false := decide_eq_false (by omega)
    obtain ⟨hN, hz⟩ := HBf.out rfl
    have HZ := Lib.hid (fun b hb => Nat.le_trans (hz b hb) (show 100 ≤ 1000000 by decide))
    obtain ⟨X, hX⟩ : ∃ X, X = bs.map Yt.zs := ⟨_, rfl⟩
    have HXx := Lib.hid hX
    have HXn := Lib.hid (show X.length = bs.length by rw [hX, List.length_map])
    clear HFw HBf hX hz
    have HS2 := Lib.hid (show Sep [] w ((w1.alloc (.cells #[] 3)).alloc (.cells #[] 3)) [ownR 3 1 (.slice (some ⟨w1.heap.size, 0, none⟩) 0 0) 0 (List.replicate 0 (.int .i64 1)), ownR 3 1 (.slice (some ⟨w1.heap.size + 1, 0, none⟩) 0 0) 0 (List.replicate 0 (.int .i64 11))] from by
      have h := (HS1.out.made 3 1 0 #[] (by unfold maxLen; omega) rfl).made 3 1 0 #[] (by unfold maxLen; omega) rfl
      rw [World.size_alloc] at h
      exact Sep.mix (A := [_, _]) (L := []) h [1, 0] (by decide) rfl)
    go_wp2_with fail
    clear t2
    go_loopw [5, 6, 30] (fun vn vg vi wi => ∃ (k : Nat), k ≤ bs.length ∧ vi = .int .i64 (k : Int) ∧ Sep [] w wi [ownR 3 1 vn k (List.replicate k (.int .i64 1)), ownR 3 1 vg k (List.replicate k (.int .i64 11))]) (fun _ _ i _ => bs.length - (intOf i).toNat)
    case atStart => exact ⟨0, Nat.zero_le _, rfl, HS2.out⟩
    case round =>
      obtain ⟨k, hk, rfl, hS⟩ := hrel
      have HT := Lib.hid hS
      clear hS HS2
      by_cases hlt : k < bs.length
      · skip
        have t1 : decide (k < bs.length) = true := decide_eq_true (by omega)
        go_wp2_with (first | (at_builtin; refine wpList_append_sep rfl _ _ 23 rfl 1 3 jnf (.int .i64 0) 8 Try.underlying23 ji jz0 jz1 jz2 rfl _ k (List.replicate k (Value.int .i64 11)) rfl (HSx.out.skip _) rfl _ 1 (.int .i64 11) rfl (World.cell?_alloc_at _ _ _ _ rfl) rfl (by unfold maxLen; omega) (by omega) ?_; intro g4 d4 w4 hHSy; have HSy := Lib.hid hHSy; clear hHSy) | (at_builtin; refine wpList_append_sep rfl _ _ 23 rfl 0 3 jnf (.int .i64 0) 8 Try.underlying23 ji jz0 jz1 jz2 rfl _ k (List.replicate k (Value.int .i64 1)) rfl (HT.out.skip _) rfl _ 1 (.int .i64 1) rfl (World.cell?_alloc_at _ _ _ _ rfl) rfl (by unfold maxLen; omega) (by omega) ?_; intro g3 d3 w3 hHSx; have HSx := Lib.hid hHSx; clear hHSx))
        have HS3 := Lib.hid (show Sep [] w w4 [ownR 3 1 (.slice (some ⟨g3, 0, none⟩) (k + 1) d3) (k + 1) (List.replicate (k + 1) (.int .i64 1)), ownR 3 1 (.slice (some ⟨g4, 0, none⟩) (k + 1) d4) (k + 1) (List.replicate (k + 1) (.int .i64 11))] from by
          rw [List.replicate_succ', List.replicate_succ']
          exact HSy.out)
        clear HSx HSy
        go_roundw
        case rel => exact ⟨k + 1, by omega, by go_num, HS3.out⟩
        case measure => simp [intOf]; omega
      · obtain rfl : k = bs.length := by omega
        have t1 : decide (bs.length < bs.length) = false := decide_eq_false (by omega)
        rw [rep_ints, rep_ints] at HT
        obtain ⟨a5, c5, hv5, r5, n5⟩ := ints_own (HT.out.get 0 rfl)
        obtain ⟨a6, c6, hv6, r6, n6⟩ := ints_own (HT.out.get 1 rfl)
        rw [List.length_replicate] at hv5 hv6
        subst hv5 hv6
        have HF0 := Lib.hid HT.out.frm
        have HX2 := Lib.hid (show bs.length ≤ X.length by rw [HXn.out]; exact Nat.le_refl _)
        have HA1 := Lib.hid (apply_c a c bs wr (HR.out _ HF0.out) HZ.out (by omega) a5 c5 (List.replicate bs.length 1) r5 n5 (by rw [List.length_replicate]; omega))
        have HA2 := Lib.hid (fun Y (hY : Frm [] wr Y) => apply_c a c bs Y (HR.out _ (HF0.out.trans hY)) HZ.out (by omega) a6 c6 (List.replicate bs.length 11) (r6.below hY.below) n6 (by rw [List.length_replicate]; omega))
        have HA3 := Lib.hid (fun Y (hY : Frm [] wr Y) => apply_c a c bs Y (HR.out _ (HF0.out.trans hY)) HZ.out (by omega) none 0 [] (RdI.nil _ _ _) (fun _ => rfl) (Nat.zero_le _))
        rw [← HXx.out, List.length_replicate] at HA1 HA2
        rw [← HXx.out] at HA3
        have HP1 := Lib.hid (all_pass (List.replicate bs.length 1) X bs.length HX2.out (fun i hi => by rw [wy_rep _ _ _ hi]; decide))
        have HP2 := Lib.hid (all_lost (List.replicate bs.length 11) X bs.length HX2.out (fun i hi => by rw [wy_rep _ _ _ hi]; decide))
        have HP3 := Lib.hid (all_pass [] X bs.length HX2.out (fun i hi => by unfold wy; rw [if_neg (by simp)]; decide))
        clear HT r5 r6 n5 n6
        go_wp2_with fail
        refine HA1.out.mono ?_
        rintro e w2 ⟨v2, o2, rfl, ho2, hS2⟩
        obtain ⟨a2, c2, hv2, -, -⟩ := own_shape (hS2.own 0 rfl)
        subst hv2
        have HE2 := Lib.hid (show o2.map Yt.zs = bs.map Yt.zs by
          rw [ho2, HP1.out.1, HP1.out.2, List.map_nil, List.append_nil, List.take_of_length_le (by rw [HXn.out]; exact Nat.le_refl _), HXx.out])
        have HL2 := Lib.hid (show o2.length = bs.length by have h := congrArg List.length HE2.out; rw [List.length_map, List.length_map] at h; exact h)
        have HY2 := Lib.hid (ys_rds (hS2.get 0 rfl) (hS2.get 1 rfl))
        have HF2 := Lib.hid hS2.frm
        clear hS2 ho2 HA1
        rw [HL2.out]
        have HM2 := Lib.hid (by
          have h := sameAll_c a2 a c2 c o2 bs w2 HY2.out (HR.out _ (HF0.out.trans HF2.out)) HE2.out (fun y hy => by
            have h1 : y.zs ∈ bs.map Yt.zs := HE2.out ▸ List.mem_map_of_mem hy
            obtain ⟨z, hz, hze⟩ := List.mem_map.1 h1
            rw [← hze]
            exact HZ.out z hz) (by rw [HL2.out]; omega)
          rw [HL2.out] at h
          exact h : Calls Try.prog 14 #[.slice a2 bs.length c2, .slice a bs.length c] w2 fun e w' => e = .returned (.bool true) ∧ Frm [] w2 w')
        go_wp2_with fail
        refine HM2.out.mono ?_
        rintro e w3 ⟨rfl, hf3⟩
        have HF3 := Lib.hid (HF2.out.trans hf3)
        clear hf3 HM2 HF2
        go_wp2_with fail
        refine (HA2.out _ HF3.out).mono ?_
        rintro e w4 ⟨v4, o4, rfl, ho4, hS4⟩
        obtain ⟨a4, c4, hv4, -, -⟩ := own_shape (hS4.own 0 rfl)
        have hl4 : o4.length = 0 := by have h := congrArg List.length ho4; rw [HP2.out.1, HP2.out.2] at h; simpa using h
        rw [hl4] at hv4
        subst hv4
        have HF4 := Lib.hid (HF3.out.trans hS4.frm)
        clear hS4 ho4 hl4 HA2 HF3
        go_wp2_with fail
        refine (HA3.out _ HF4.out).mono ?_
        rintro e w5 ⟨v5, o5, rfl, ho5, hS5⟩
        obtain ⟨a7, c7, hv5, -, -⟩ := own_shape (hS5.own 0 rfl)
        subst hv5
        have HE5 := Lib.hid (show o5.map Yt.zs = bs.map Yt.zs by
          rw [ho5, HP3.out.1, HP3.out.2, List.map_nil, List.append_nil, List.take_of_length_le (by rw [HXn.out]; exact Nat.le_refl _), HXx.out])
        have HL5 := Lib.hid (show o5.length = bs.length by have h := congrArg List.length HE5.out; rw [List.length_map, List.length_map] at h; exact h)
        have HY5 := Lib.hid (ys_rds (hS5.get 0 rfl) (hS5.get 1 rfl))
        have HF5 := Lib.hid (HF4.out.trans hS5.frm)
        clear hS5 ho5 HA3 HF4
        rw [HL5.out]
        have HM5 := Lib.hid (by
          have h := sameAll_c a7 a c7 c o5 bs w5 HY5.out (HR.out _ (HF0.out.trans HF5.out)) HE5.out (fun y hy => by
            have h1 : y.zs ∈ bs.map Yt.zs := HE5.out ▸ List.mem_map_of_mem hy
            obtain ⟨z, hz, hze⟩ := List.mem_map.1 h1
            rw [← hze]
            exact HZ.out z hz) (by rw [HL5.out]; omega)
          rw [HL5.out] at h
          exact h : Calls Try.prog 14 #[.slice a7 bs.length c7, .slice a bs.length c] w5 fun e w' => e = .returned (.bool true) ∧ Frm [] w5 w')
        go_wp2_with fail
        refine HM5.out.mono ?_
        rintro e w6 ⟨rfl, hf6⟩
        have HF6 := Lib.hid (HF0.out.trans (HF5.out.trans hf6))
        clear hf6 HM5 HF5
        have HNw := Lib.hid (new_c ac cc ch w6 (HC.out _ HF6.out) HCn.out (by omega))
        go_wp2_with fail
        clear t1
        refine HNw.out.mono ?_
        rintro e w7 ⟨p, vc, rfl, hS7⟩
        have HS7 := Lib.hid (show Sep [] w w7 (lkL p vc (.slice none 0 0) ch [] 0 (goneN ch 0) 0 []) from by
          have h0 : Sep [] w w7 [_, _] := ((Sep.init w).keep HF6.out).more hS7
          have h1 := (Sep.gather1 (rs := []) h0).nil 51 2
          exact Sep.mix (A := [_, _, _, _]) (L := []) h1 [2, 3, 0, 1] (by decide) rfl)
        clear hS7 HNw HP1 HP2 HP3 HY2 HY5 HE2 HE5 HL2 HL5 HF0 HF6
        go_wp2_with fail
        go_loopw [63] (fun vi wi => ∃ (k n : Nat) (vw : Value), k ≤ bs.length ∧ n ≤ 2 * k ∧ k ≤ goneN ch k + n ∧ vi = .int .i64 (k : Int) ∧ Sep [] w wi (lkL p vc vw ch [] k (goneN ch k) n [])) (fun i _ => bs.length - (intOf i).toNat)
        case atStart => exact ⟨0, 0, .slice none 0 0, Nat.zero_le _, Nat.zero_le _, Nat.zero_le _, rfl, HS7.out⟩
        case round =>
          obtain ⟨k, n, vw, hk, hn2, hkn, rfl, hS⟩ := hrel
          have HT := Lib.hid hS
          clear hS HS7
          have HGl := Lib.hid (gone_le ch k)
          obtain ⟨G0, hG0⟩ : ∃ G0, G0 = goneN ch k := ⟨_, rfl⟩
          rw [← hG0] at HT HGl hkn
          have HG0 := Lib.hid hG0
          clear hG0
          by_cases hlt : k < bs.length
          · skip
            obtain ⟨b, hb⟩ : ∃ b, bs[k]? = some b := ⟨_, List.getElem?_eq_getElem hlt⟩
            obtain ⟨g, off, q, d, rfl, hcell, hbv, hr, hq, -, -⟩ := (HR.out _ HT.out.frm).at_ hb
            have HBm := Lib.hid (show b ∈ bs from List.mem_of_getElem? hb)
            obtain ⟨zs, hzs⟩ : ∃ zs, zs = b.zs := ⟨_, rfl⟩
            obtain ⟨W, hW⟩ : ∃ W, W = wy ch k := ⟨_, rfl⟩
            obtain ⟨K1, hK1⟩ : ∃ K1, K1 = k + 1 := ⟨_, rfl⟩
            obtain ⟨G1, hG1⟩ : ∃ G1, G1 = goneN ch K1 := ⟨_, rfl⟩
            have HG1 := Lib.hid (show G1 = G0 + (if W = 3 then 1 else 0) from by rw [hG1, hK1, goneN, HG0.out, hW])
            have HGd := Lib.hid hG1
            have HK1 := Lib.hid hK1
            have HWl := Lib.hid (show W < 8 by rw [hW]; exact wy_lt _ _)
            have HBz := Lib.hid (show b.zs.length ≤ 1000000 from HZ.out b HBm.out)
            have HPt := Lib.hid (put_c (S := []) (w0 := w) p vc vw ch [] k G0 n (L := []) HT.out (fun x hx => by cases hx) (fun x hx => by cases hx) (Nat.zero_le _) q d b.zs hr hq HBz.out (by omega) (by have := HGl.out; omega) (by omega))
            unfold PutP at HPt
            rw [← hW, ← HG1.out, ← hK1] at HPt
            have HBv := Lib.hid hbv
            have HRw := Lib.hid (fun Y (hY : Frm [] w Y) => rway_c ac cc ch k Y (HC.out _ hY))
            rw [← hW] at HRw
            have t1 : decide (k < bs.length) = true := decide_eq_true (by omega)
            have i1 : (0 : Int) ≤ (k : Int) := by omega
            have i2 : (k : Int) < (bs.length : Int) := by omega
            rw [← hzs] at HPt HBz hcell hbv HBv
            have HZs := Lib.hid hzs
            clear hr hq hb hbv hzs hG1 hK1 hW
            go_wp2_with fail
            clear hcell
            refine HPt.out.mono ?_
            rintro e w3 ⟨v3, vw3, ws3, os, rfl, ho3, hw3, hS3⟩
            obtain ⟨a3, c3, hv3, -, -⟩ := own_shape (hS3.own 0 rfl)
            subst hv3
            have HO3 := Lib.hid (show os.map Yt.zs = putO W zs [] from ho3)
            have HW3 := Lib.hid (show wsD ws3 = putQ W zs [] from hw3)
            have HS3 := Lib.hid hS3
            have HQs := Lib.hid (show ws3.length ≤ 1 ∧ ∀ x ∈ ws3, x.b.zs.length ≤ 1000000 from by
              have h1 := HW3.out
              unfold putQ at h1
              split at h1
              · refine ⟨by have h := congrArg List.length h1; unfold wsD at h; rw [List.length_map] at h; rw [h]; exact Nat.le_refl _, fun x hx => ?_⟩
                have h2 : (x.b.zs, x.l) ∈ wsD ws3 := List.mem_map_of_mem (f := fun x : Wt => (x.b.zs, x.l)) hx
                rw [h1] at h2
                rcases List.mem_append.1 h2 with h2 | h2
                · cases h2
                · rw [List.mem_singleton] at h2
                  injection h2 with h2 _
                  rw [h2]
                  exact HBz.out
              · have h : ws3 = [] := by
                  have h := congrArg List.length h1
                  unfold wsD at h
                  rw [List.length_map] at h
                  exact List.length_eq_zero_iff.1 h
                rw [h]
                exact ⟨Nat.zero_le _, fun x hx => by cases hx⟩)
            have HOl := Lib.hid (show os.length ≤ 2 by
              have h := congrArg List.length HO3.out
              rw [List.length_map] at h
              rw [h]
              unfold putO
              split
              · exact Nat.zero_le _
              split
              · exact Nat.le_refl _
              split
              · exact Nat.zero_le _
              · exact Nat.le_succ _)
            clear ho3 hw3 hS3 HPt HT
            obtain ⟨n3, hn3⟩ : ∃ n3, n3 = n + os.length := ⟨_, rfl⟩
            rw [← hn3] at HS3
            have HN3 := Lib.hid (And.intro hn3 (show n3 ≤ 1000 by have := HOl.out; omega))
            clear hn3
            have HEm := Lib.hid (empty_c (S := []) (w0 := w) p vc vw3 ch ws3 K1 G1 n3 (L := [ysR (.slice a3 os.length c3) os, bodsR os]) (Sep.mix (A := [_, _, _, _, _, _]) (L := []) HS3.out [2, 3, 4, 5, 0, 1] (by decide) rfl) HQs.out.2 (by have := HQs.out.1; omega) (by have := HN3.out.2; omega))
            unfold EmpP at HEm
            go_wp2_with fail
            refine HEm.out.mono ?_
            rintro e w4 ⟨v4, os4, rfl, ho4, hS4⟩
            obtain ⟨a4, c4, hv4, _, hn4, r4⟩ := ys_rd (hS4.get 0 rfl) (hS4.get 1 rfl)
            subst hv4
            have HS4 := Lib.hid hS4
            have HR4 := Lib.hid r4.row
            have HN4 := Lib.hid hn4
            have HO4 := Lib.hid (show os4.map Yt.zs = (putQ W zs []).map Prod.fst by rw [ho4, HW3.out])
            have HOl4 := Lib.hid (show os4.length ≤ 1 by
              have h := congrArg List.length ho4
              unfold wsD at h
              rw [List.length_map, List.length_map, List.length_map] at h
              rw [h]
              exact HQs.out.1)
            have HV4 := Lib.hid (show ∀ u ∈ os4.map Yt.v, u.oneCell' = true from fun u hu => by
              obtain ⟨y, hy, rfl⟩ := List.mem_map.1 hu
              obtain ⟨q, d, hv, _⟩ := r4.bod y hy
              rw [hv]; rfl)
            clear hS4 r4 hn4 ho4 HEm HS3
            go_wp2_with (at_builtin; refine wpList_append_vals rfl _ _ 22 rfl 6 28 inf (.slice none 0 0) 24 Try.underlying22 hi hz0 hz1 hz2 rfl _ os.length (os.map Yt.v) rfl HS4.out rfl a4 c4 (os4.map Yt.v) (by rw [List.length_map]; rfl) HN4.out HR4.out HV4.out (by have := HOl.out; have := HOl4.out; rw [List.length_map]; unfold maxLen; omega) (by have := HOl.out; have := HOl4.out; rw [List.length_map]; omega) ?_; intro v5 w5 hS5; have HS5 := Lib.hid hS5; clear hS5)
            obtain ⟨os5, hos5⟩ : ∃ os5, os5 = os ++ os4 := ⟨_, rfl⟩
            obtain ⟨n5, hn5⟩ : ∃ n5, n5 = n3 + os4.length := ⟨_, rfl⟩
            have HO5 := Lib.hid (show os5.map Yt.zs = if W = 3 then [] else if W = 4 then [zs, zs] else [zs] by rw [hos5, List.map_append, HO3.out, HO4.out, put_one W zs HWl.out])
            have HN5 := Lib.hid (show n5 = n + os5.length by rw [hos5, List.length_append, hn5, HN3.out.1]; omega)
            have HS6 := Lib.hid (show Sep [] w w5 (ysR v5 os5 :: bodsR os5 :: lkL p vc (.slice none 0 0) ch [] K1 G1 n5 []) from by
              have h := Sep.mix (A := [_, _, _, _, _, _, _, _]) (L := []) HS5.out [7, 1, 6, 2, 3, 4, 5] (by decide) rfl
              have h2 := bods_app h
              have e : ysR v5 (os ++ os4) = ownR 28 1 v5 (os.length + (os4.map Yt.v).length) (os.map Yt.v ++ os4.map Yt.v) := by
                unfold ysR
                rw [List.length_append, List.map_append, List.length_map]
              rw [hos5, e, hn5]
              exact Sep.mix (A := [_, _, _, _, _, _]) (L := []) h2 [1, 0, 2, 3, 4, 5] (by decide) rfl)
            obtain ⟨a5, c5, hv5, -, -⟩ := own_shape (HS6.out.own 0 rfl)
            subst hv5
            clear HS5 HS4 HO3 HO4 hos5 hn5 HR4 HV4 HN4
            have HSl := Lib.hid (fun Y (hY : Frm [] w Y) => (show Sla .u8 Y b.v b.zs from (HR.out Y hY).bod b HBm.out))
            have HSm := Lib.hid (fun Y (hY : Frm [] w5 Y) av cv ds (hd : RdYs Y av ds) (he : os5.map Yt.zs = ds.map Yt.zs) => sameAll_c a5 av c5 cv os5 ds Y ((ys_rds (HS6.out.get 0 rfl) (HS6.out.get 1 rfl)).frm hY) hd he (fun y hy => by
              have h1 : y.zs ∈ os5.map Yt.zs := List.mem_map_of_mem hy
              rw [HO5.out] at h1
              split at h1
              · cases h1
              split at h1
              · simp at h1; rw [h1]; exact HBz.out
              · simp at h1; rw [h1]; exact HBz.out) (by
              have h := congrArg List.length HO5.out
              rw [List.length_map] at h
              rw [h]
              split
              · exact Nat.zero_le _
              split
              · exact (show 2 ≤ 1000000 by omega)
              · exact (show 1 ≤ 1000000 by omega)))
            go_wp2_with fail
            refine (HRw.out _ HS6.out.frm).mono ?_
            rintro e w6 ⟨rfl, hw6⟩
            subst hw6
            have e1 : (k : Int) + 1 = (K1 : Int) := by have := HK1.out; omega
            have e2 : IntKind.i64.wrap (K1 : Int) = (K1 : Int) := IntWalk.i64_in _ (by have := HK1.out; omega)
            by_cases h3 : W = 3
            · have HLq := Lib.hid (show os5.length = 0 by have h := congrArg List.length HO5.out; rw [List.length_map, if_pos h3] at h; exact h)
              have HH3 := Lib.hid h3
              have HFq := Lib.hid (show Frm [] w5 (w5.alloc (.cells #[.slice q zs.length d] 28)) from (Frm.refl _ _).alloc _)
              have HQ := Lib.hid (by
                have h := HSm.out _ HFq.out none 0 [] (RdYs.nil _ _) (by rw [HO5.out, if_pos HH3.out]; rfl)
                exact h : Calls Try.prog 14 #[.slice a5 os5.length c5, .slice none 0 0] (w5.alloc (.cells #[.slice q zs.length d] 28)) fun e w' => e = .returned (.bool true) ∧ Frm [] (w5.alloc (.cells #[.slice q zs.length d] 28)) w')
              have t2 : ((W : Int) == 3) = true := by rw [beq_iff_eq]; omega
              have t3 : ((W : Int) == 4) = false := by rw [Bool.eq_false_iff, Ne, beq_iff_eq]; omega
              clear h3
              go_wp2_with fail
              clear t2 t3
              refine HQ.out.mono ?_
              rintro e w8 ⟨rfl, hf8⟩
              have HS8 := Lib.hid (HS6.out.keep (HFq.out.trans hf8))
              clear hf8 HQ HFq
              have HWt := Lib.hid (waiting_c p vc _ _ _ none 0 0 (Sep.mix (A := [_, _, _, _, _, _]) (L := []) HS8.out [2] (by decide) rfl))
              go_wp2_with fail
              refine HWt.out.mono ?_
              rintro e w9 ⟨rfl, hw9⟩
              subst hw9
              have HS9 := Lib.hid (show Sep [] w w8 (lkL p vc (.slice none 0 0) ch [] K1 (goneN ch K1) n5 []) from by
                rw [← HGd.out]
                exact Sep.mix (A := [_, _, _, _, _, _]) (L := []) HS8.out [2, 3, 4, 5] (by decide) rfl)
              clear HWt HS8
              go_wp2_with fail
              go_roundw
              case rel => exact ⟨K1, n5, _, by have := HK1.out; omega, by have := HK1.out; have := HN5.out; have := HLq.out; omega, by rw [← HGd.out, HG1.out]; have := HK1.out; have := HN5.out; have := HLq.out; rw [if_pos HH3.out]; omega, rfl, HS9.out⟩
              case measure => have := HK1.out; simp [intOf]; omega
            by_cases h4 : W = 4
            · skip
              have HH3 := Lib.hid h3
              have HH4 := Lib.hid h4
              have HLq := Lib.hid (show os5.length = 2 by have h := congrArg List.length HO5.out; rw [List.length_map, if_neg HH3.out, if_pos HH4.out] at h; exact h)
              have HFq := Lib.hid (show Frm [] w5 ((w5.alloc (.cells #[.slice q zs.length d] 28)).alloc (.cells #[.slice q zs.length d, .slice q zs.length d] 28)) from ((Frm.refl _ _).alloc _).alloc _)
              have HQ := Lib.hid (by
                have h := HSm.out _ HFq.out (some ⟨w5.heap.size + 1, 0, none⟩) 2 [b, b] (RdYs.of_blk (t := 28) (by
                  show Blk _ _ _ #[b.v, b.v]
                  rw [HBv.out]
                  rw [show w5.heap.size + 1 = (w5.alloc (.cells #[.slice q zs.length d] 28)).heap.size from (World.size_alloc _ _).symm]
                  exact Blk.made _ _ _) (by simp only [World.size_alloc]; omega) (fun y hy => by
                    have e : y = b := by simpa using hy
                    rw [e]
                    exact HSl.out _ (HS6.out.frm.trans HFq.out))) (by rw [HO5.out, if_neg HH3.out, if_pos HH4.out, HZs.out]; rfl)
                exact h : Calls Try.prog 14 #[.slice a5 os5.length c5, .slice (some ⟨w5.heap.size + 1, 0, none⟩) 2 2] ((w5.alloc (.cells #[.slice q zs.length d] 28)).alloc (.cells #[.slice q zs.length d, .slice q zs.length d] 28)) fun e w' => e = .returned (.bool true) ∧ Frm [] ((w5.alloc (.cells #[.slice q zs.length d] 28)).alloc (.cells #[.slice q zs.length d, .slice q zs.length d] 28)) w')
              have t2 : ((W : Int) == 3) = false := by rw [Bool.eq_false_iff, Ne, beq_iff_eq]; omega
              have t3 : ((W : Int) == 4) = true := by rw [beq_iff_eq]; omega
              clear h3 h4
              go_wp2_with fail
              clear t2 t3
              refine HQ.out.mono ?_
              rintro e w8 ⟨rfl, hf8⟩
              have HS8 := Lib.hid (HS6.out.keep (HFq.out.trans hf8))
              clear hf8 HQ HFq
              have HWt := Lib.hid (waiting_c p vc _ _ _ none 0 0 (Sep.mix (A := [_, _, _, _, _, _]) (L := []) HS8.out [2] (by decide) rfl))
              go_wp2_with fail
              refine HWt.out.mono ?_
              rintro e w9 ⟨rfl, hw9⟩
              subst hw9
              have HS9 := Lib.hid (show Sep [] w w8 (lkL p vc (.slice none 0 0) ch [] K1 (goneN ch K1) n5 []) from by
                rw [← HGd.out]
                exact Sep.mix (A := [_, _, _, _, _, _]) (L := []) HS8.out [2, 3, 4, 5] (by decide) rfl)
              clear HWt HS8
              go_wp2_with fail
              go_roundw
              case rel => exact ⟨K1, n5, _, by have := HK1.out; omega, by have := HK1.out; have := HN5.out; have := HLq.out; omega, by rw [← HGd.out, HG1.out]; have := HK1.out; have := HN5.out; have := HLq.out; rw [if_neg HH3.out]; omega, rfl, HS9.out⟩
              case measure => have := HK1.out; simp [intOf]; omega
            · skip
              have HH3 := Lib.hid h3
              have HH4 := Lib.hid h4
              have HLq := Lib.hid (show os5.length = 1 by have h := congrArg List.length HO5.out; rw [List.length_map, if_neg HH3.out, if_neg HH4.out] at h; exact h)
              have HFq := Lib.hid (show Frm [] w5 (w5.alloc (.cells #[.slice q zs.length d] 28)) from (Frm.refl _ _).alloc _)
              have HQ := Lib.hid (by
                have h := HSm.out _ HFq.out (some ⟨w5.heap.size, 0, none⟩) 1 [b] (RdYs.of_blk (t := 28) (by
                  show Blk _ _ _ #[b.v]
                  rw [HBv.out]
                  skip
                  exact Blk.made _ _ _) (by simp only [World.size_alloc]; omega) (fun y hy => by
                    have e : y = b := by simpa using hy
                    rw [e]
                    exact HSl.out _ (HS6.out.frm.trans HFq.out))) (by rw [HO5.out, if_neg HH3.out, if_neg HH4.out, HZs.out]; rfl)
                exact h : Calls Try.prog 14 #[.slice a5 os5.length c5, .slice (some ⟨w5.heap.size, 0, none⟩) 1 1] (w5.alloc (.cells #[.slice q zs.length d] 28)) fun e w' => e = .returned (.bool true) ∧ Frm [] (w5.alloc (.cells #[.slice q zs.length d] 28)) w')
              have t2 : ((W : Int) == 3) = false := by rw [Bool.eq_false_iff, Ne, beq_iff_eq]; omega
              have t3 : ((W : Int) == 4) = false := by rw [Bool.eq_false_iff, Ne, beq_iff_eq]; omega
              clear h3 h4
              go_wp2_with fail
              clear t2 t3
              refine HQ.out.mono ?_
              rintro e w8 ⟨rfl, hf8⟩
              have HS8 := Lib.hid (HS6.out.keep (HFq.out.trans hf8))
              clear hf8 HQ HFq
              have HWt := Lib.hid (waiting_c p vc _ _ _ none 0 0 (Sep.mix (A := [_, _, _, _, _, _]) (L := []) HS8.out [2] (by decide) rfl))
              go_wp2_with fail
              refine HWt.out.mono ?_
              rintro e w9 ⟨rfl, hw9⟩
              subst hw9
              have HS9 := Lib.hid (show Sep [] w w8 (lkL p vc (.slice none 0 0) ch [] K1 (goneN ch K1) n5 []) from by
                rw [← HGd.out]
                exact Sep.mix (A := [_, _, _, _, _, _]) (L := []) HS8.out [2, 3, 4, 5] (by decide) rfl)
              clear HWt HS8
              go_wp2_with fail
              go_roundw
              case rel => exact ⟨K1, n5, _, by have := HK1.out; omega, by have := HK1.out; have := HN5.out; have := HLq.out; omega, by rw [← HGd.out, HG1.out]; have := HK1.out; have := HN5.out; have := HLq.out; rw [if_neg HH3.out]; omega, rfl, HS9.out⟩
              case measure => have := HK1.out; simp [intOf]; omega
          · obtain rfl : k = bs.length := by omega
            have t1 : decide (bs.length < bs.length) = false := decide_eq_false (by omega)
            have HCo := Lib.hid (counts_c p vc vw _ _ _ HT.out)
            obtain ⟨T, hT⟩ : ∃ T, T = G0 + n := ⟨_, rfl⟩
            have e5 : (G0 : Int) + (n : Int) = (T : Int) := by omega
            have e6 : IntKind.i64.wrap (T : Int) = (T : Int) := IntWalk.i64_in _ (by have := HGl.out; omega)
            have e7 : ((bs.length : Int) == (bs.length : Int)) = true := by simp
            have e8 : decide (bs.length ≤ T) = true := decide_eq_true (by omega)
            have HF := Lib.hid HT.out.frm
            clear hT HT hkn
            go_wp2_with fail
            refine HCo.out.mono ?_
            rintro e w9 ⟨rfl, hf9⟩
            go_wp2_with fail
            go_ret
            exact ⟨rfl, (HF.out.trans hf9).below⟩
theorem linkClean_f {w : World} (a : Option Addr) (c : Nat) (rs : List IRow) (lc : rs.length ≤ c) (mc : c ≤ maxLen) (nc : a = none → c = 0) (rd : RdV w a (rs.map IRow.val)) (wf : ∀ r ∈ rs, r.zs.length ≤ r.c ∧ r.c ≤ maxLen ∧ (r.a = none → r.c = 0) ∧ RdI .u8 w r.a r.zs ∧ ∀ x ∈ r.zs, (Lit.int .u8 x).wf = true)
    (ac : Option Addr) (cc : Nat) (ch : List Int) (lcc : ch.length ≤ cc) (mcc : cc ≤ maxLen) (ncc : ac = none → cc = 0) (rc : RdI .i64 w ac ch) (wc : ∀ x ∈ ch, (Lit.int .i64 x).wf = true) :
    Calls Try.prog 5 #[.slice a rs.length c, .slice ac ch.length cc] w fun e w' => e = .returned (.bool true) ∧ Below w.heap.size w w' := by
  have h := linkClean_w w a c (rs.map ytOf) (ys_of rd wf) (by rw [List.length_map]; unfold maxLen at mc; omega) ac cc ch rc ncc
  rw [List.length_map] at h
  exact h

end Go.Proofs.Ytekjpkppfcmjdaa
