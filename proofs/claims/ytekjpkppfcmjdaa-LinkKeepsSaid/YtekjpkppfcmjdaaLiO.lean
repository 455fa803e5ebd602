/-
  PLAIN: what the reference tells is what comes out and what waits; THE WALK of the reference's Apply.
-/
import Derived.Test.YtekjpkppfcmjdaaLiN
set_option linter.unusedVariables false
set_option linter.unusedSimpArgs false
namespace Go.Proofs.Ytekjpkppfcmjdaa
open Go.RowKit

section
variable {α : Type}
theorem qAt_ref (d : α) (ch : List Int) (xs : List α) : ∀ n, n ≤ xs.length → qAt ch xs n = (rWait ch n).map (fun i => (xs.getD i d, i + wy ch i - 3 - n))
  | 0, _ => rfl
  | n + 1, hn => by
    have ih := qAt_ref d ch xs n (by omega)
    have hx : xs[n]? = some (xs.getD n d) := by rw [List.getD_eq_getElem?_getD, List.getElem?_eq_getElem (show n < xs.length by omega)]; rfl
    have hr : restP (qAt ch xs n) = ((List.range n).filter (isWait ch (n + 1))).map (fun i => (xs.getD i d, i + wy ch i - 3 - (n + 1))) := by
      rw [ih]
      unfold restP rWait
      rw [List.map_map, List.filter_map, List.filter_filter]
      have e : (List.range n).filter (fun a => ((fun x : α × Nat => !decide (x.2 = 0)) ∘ (fun x : α × Nat => (x.1, x.2 - 1)) ∘ fun i => (xs.getD i d, i + wy ch i - 3 - n)) a && isWait ch n a) = (List.range n).filter (isWait ch (n + 1)) := by
        refine List.filter_congr fun i hi => ?_
        have := List.mem_range.1 hi
        simp only [Function.comp, isWait]
        rw [Bool.eq_iff_iff, Bool.and_eq_true, Bool.not_eq_true', decide_eq_false_iff_not, decide_eq_true_eq, decide_eq_true_eq]
        omega
      rw [e]
      refine List.map_congr_left fun i hi => ?_
      simp only [Function.comp]
      congr 1
    rw [qAt_succ hx]
    unfold putQ
    rw [hr, rWait, filter_succ]
    by_cases h4 : 4 < wy ch n
    · rw [if_pos h4, if_pos (show isWait ch (n + 1) n = true from decide_eq_true ⟨h4, by omega⟩), List.map_append]
      congr 1
      simp
      omega
    · rw [if_neg h4, if_neg (show ¬ isWait ch (n + 1) n = true by unfold isWait; simp only [decide_eq_true_eq]; omega), List.append_nil]
theorem oAt_ref (d : α) (ch : List Int) (xs : List α) (n : Nat) (hn : n < xs.length) : oAt ch xs n = (rPut ch n).map (fun i => xs.getD i d) := by
  have hx : xs[n]? = some (xs.getD n d) := by rw [List.getD_eq_getElem?_getD, List.getElem?_eq_getElem hn]; rfl
  have hd : dueP (qAt ch xs n) = ((List.range n).filter (isDue ch n)).map (fun i => xs.getD i d) := by
    rw [qAt_ref d ch xs n (by omega)]
    unfold dueP rWait
    rw [List.filter_map, List.map_map, List.filter_filter]
    have e : (List.range n).filter (fun a => ((fun x : α × Nat => decide (x.2 = 1)) ∘ fun i => (xs.getD i d, i + wy ch i - 3 - n)) a && isWait ch n a) = (List.range n).filter (isDue ch n) := by
      refine List.filter_congr fun i hi => ?_
      have := List.mem_range.1 hi
      simp only [Function.comp, isWait, isDue]
      rw [Bool.eq_iff_iff, Bool.and_eq_true, decide_eq_true_eq, decide_eq_true_eq, decide_eq_true_eq]
      omega
    rw [e]
    rfl
  rw [oAt_at hx]
  unfold putO rPut pre1 pre2
  rw [List.map_append, List.map_append, hd]
  have h8 := wy_lt ch n
  by_cases h3 : wy ch n = 3
  · rw [if_pos h3, if_neg (by omega), if_neg (by omega)]; rfl
  by_cases h4 : wy ch n = 4
  · rw [if_neg h3, if_pos h4, if_pos (by omega), if_pos h4]; rfl
  by_cases h5 : 4 < wy ch n
  · rw [if_neg h3, if_neg h4, if_pos h5, if_neg (by omega), if_neg h4]; rfl
  · rw [if_neg h3, if_neg h4, if_neg h5, if_pos (by omega), if_neg h4]; rfl
theorem qAt_fst (d : α) (ch : List Int) (xs : List α) (n : Nat) (hn : n ≤ xs.length) : (qAt ch xs n).map Prod.fst = (rWait ch n).map (fun i => xs.getD i d) := by
  rw [qAt_ref d ch xs n hn, List.map_map]
  rfl
def rAll (ch : List Int) : Nat → List Nat
  | 0 => []
  | n + 1 => rAll ch n ++ rPut ch n
theorem all_ref (d : α) (ch : List Int) (xs : List α) : ∀ n, n ≤ xs.length → allO ch xs n = (rAll ch n).map (fun i => xs.getD i d)
  | 0, _ => rfl
  | n + 1, hn => by rw [allO, rAll, List.map_append, all_ref d ch xs n (by omega), oAt_ref d ch xs n (by omega)]
end
theorem rPut_mem {ch : List Int} {n i : Nat} (h : i ∈ rPut ch n) : i ≤ n := by
  unfold rPut pre1 pre2 at h
  rcases List.mem_append.1 h with h | h
  · rcases List.mem_append.1 h with h | h
    · split at h
      · simp at h; omega
      · cases h
    · split at h
      · simp at h; omega
      · cases h
  · have := List.mem_range.1 (List.mem_filter.1 h).1
    omega
theorem rAll_mem {ch : List Int} : ∀ {n i : Nat}, i ∈ rAll ch n → i < n
  | n + 1, i, h => by
    rw [rAll] at h
    rcases List.mem_append.1 h with h | h
    · have := rAll_mem h; omega
    · have := rPut_mem h; omega
theorem rWait_mem {ch : List Int} {n i : Nat} (h : i ∈ rWait ch n) : i < n := List.mem_range.1 (List.mem_filter.1 h).1
theorem rPut_len (ch : List Int) (n : Nat) : (rPut ch n).length ≤ n + 2 := by
  unfold rPut pre1 pre2
  have := List.length_filter_le (isDue ch n) (List.range n)
  rw [List.length_range] at this
  rw [List.length_append, List.length_append]
  split <;> split <;> simp <;> omega
theorem rAll_len (ch : List Int) : ∀ n, (rAll ch n).length ≤ n * (n + 2)
  | 0 => Nat.le_refl _
  | n + 1 => by
    have h1 := rAll_len ch n
    have h2 := rPut_len ch n
    have h3 : n * (n + 2) ≤ n * (n + 1 + 2) := Nat.mul_le_mul_left _ (by omega)
    rw [rAll, List.length_append, Nat.succ_mul]
    omega
theorem rWait_len (ch : List Int) (n : Nat) : (rWait ch n).length ≤ n := by
  have := List.length_filter_le (isWait ch n) (List.range n)
  rw [List.length_range] at this
  exact this

theorem ints_own {w : World} {v : Value} {xs : List Int} (h : (intsR v xs).P w) : ∃ a c, v = .slice a xs.length c ∧ RdI .i64 w a xs ∧ (a = none → c = 0) := by
  obtain ⟨a, c, h1, h2⟩ := ints_rd h
  obtain ⟨a', c', h3, _, h4⟩ := own_shape (show w.ownsRow 0 _ 1 v xs.length (xs.map (Value.int .i64)) from h)
  have h5 := h1.symm.trans h3
  injection h5 with h5 _ h6
  exact ⟨a, c, h1, h2, by rw [h5, h6]; exact h4⟩
set_option maxRecDepth 100000 in
set_option maxHeartbeats 16000000 in
theorem rapply_c (a : Option Addr) (c : Nat) (bs : List Yt) (w : World) (rd : RdYs w a bs) (hz : ∀ b ∈ bs, b.zs.length ≤ 1000000) (hn : bs.length ≤ 800) (ac : Option Addr) (cc : Nat) (ch : List Int) (rc : RdI .i64 w ac ch) :
    Calls Try.prog 19 #[.slice a bs.length c, .slice ac ch.length cc] w fun e w' => ∃ (v : Value) (os : List Yt), e = .returned v ∧
      os.map Yt.zs = (rAll ch bs.length ++ rWait ch bs.length).map (fun i => (bs.map Yt.zs).getD i []) ∧ Sep [] w w' [ysR v os, bodsR os] := by
  obtain ⟨inf, hi, hz0, hz1, hz2⟩ := info_parts info_ys
  obtain ⟨jnf, ji, jz0, jz1, jz2⟩ := info_parts info_int
  have HP := Lib.hid (fun X (hX : Frm [] w X) (n : Nat) (N : Int) (hN : N = (n : Int) + 1) (h : n ≤ 1000) => rput_c n N hN ac cc ch X (rc.below hX.below) h)
  have HW := Lib.hid (fun X (hX : Frm [] w X) n (h : n ≤ 1000) => rwait_c n ac cc ch X (rc.below hX.below) h)
  have HR := Lib.hid (fun Y (hY : Frm [] w Y) => rd.frm hY)
  have HZ := Lib.hid hz
  have HS0 := Lib.hid ((Sep.init w).made 3 1 0 #[] (by unfold maxLen; omega) rfl)
  clear rd rc hz
  go_enter Try.func19, Try.ntmps19
  go_wp2_with fail
  go_loopw [5, 6] (fun v i wi => ∃ (k : Nat), k ≤ bs.length ∧ i = .int .i64 ((k : Int) + 1) ∧ Sep [] w wi [intsR v (toI (rAll ch k))]) (fun _ i _ => bs.length + 1 - (intOf i).toNat)
  case atStart => exact ⟨0, Nat.zero_le _, by go_num, HS0.out⟩
  case round =>
    obtain ⟨k, hk, rfl, hS⟩ := hrel
    have HT := Lib.hid hS
    clear hS HS0
    have hlen : (toI (rAll ch k)).length ≤ 642000 := by
      unfold toI
      rw [List.length_map]
      have := rAll_len ch k
      have h3 : k * (k + 2) ≤ 800 * 802 := Nat.mul_le_mul (by omega) (by omega)
      omega
    have HLe := Lib.hid hlen
    clear hlen
    by_cases hlt : k < bs.length
    · have t1 : decide ((k : Int) + 1 ≤ (bs.length : Int)) = true := decide_eq_true (by omega)
      go_wp2_with fail
      refine (HP.out _ HT.out.frm k _ rfl (by omega)).mono ?_
      rintro e w3 ⟨v3, rfl, hS3⟩
      obtain ⟨a3, c3, hv3, r3, n3⟩ := ints_own (hS3.get 0 rfl)
      subst hv3
      have HS3 := Lib.hid (HT.out.more hS3)
      have HR3 := Lib.hid r3
      have HN3 := Lib.hid n3
      have hl3 : (toI (rPut ch k)).length ≤ 802 := by unfold toI; rw [List.length_map]; have := rPut_len ch k; omega
      have HL3 := Lib.hid hl3
      clear hS3 r3 n3 HT hl3
      go_wp2_with (at_builtin; refine wpList_append_ints rfl _ _ 23 rfl 1 3 jnf (.int .i64 0) 8 Try.underlying23 ji jz0 jz1 jz2 rfl .i64 _ (toI (rAll ch k)).length ((toI (rAll ch k)).map (Value.int .i64)) rfl HS3.out rfl a3 c3 (toI (rPut ch k)) rfl HN3.out HR3.out (by have := HLe.out; have := HL3.out; unfold maxLen; omega) (by have := HLe.out; have := HL3.out; omega) ?_; intro v4 w4 hS4; have HS4 := Lib.hid hS4; clear hS4)
      have HS5 := Lib.hid (show Sep [] w w4 [intsR v4 (toI (rAll ch (k + 1)))] from by
        have h := (Sep.mix (A := [_, _]) (L := []) HS4.out [1] (by decide) rfl)
        rw [rAll, toI_app]
        unfold intsR
        rw [List.length_append, List.map_append]
        exact h)
      clear HS4 HS3
      have e1 : IntKind.i64.wrap ((k : Int) + 1 + 1) = ((k + 1 : Nat) : Int) + 1 := by rw [IntWalk.i64_in _ (by omega)]; omega
      go_wp2_with fail
      go_roundw
      case rel => exact ⟨k + 1, by omega, by go_num, HS5.out⟩
      case measure => simp [intOf]; omega
    · obtain rfl : k = bs.length := by omega
      have t1 : decide ((bs.length : Int) + 1 ≤ (bs.length : Int)) = false := decide_eq_false (by omega)
      go_wp2_with fail
      refine (HW.out _ HT.out.frm bs.length (by omega)).mono ?_
      rintro e w3 ⟨v3, rfl, hS3⟩
      obtain ⟨a3, c3, hv3, r3, n3⟩ := ints_own (hS3.get 0 rfl)
      subst hv3
      have HS3 := Lib.hid (HT.out.more hS3)
      have HR3 := Lib.hid r3
      have HN3 := Lib.hid n3
      have hl3 : (toI (rWait ch bs.length)).length ≤ 802 := by unfold toI; rw [List.length_map]; have := rWait_len ch bs.length; omega
      have HL3 := Lib.hid hl3
      clear hS3 r3 n3 HT hl3
      go_upto_region 7 with (at_builtin; refine wpList_append_ints rfl _ _ 23 rfl 1 3 jnf (.int .i64 0) 8 Try.underlying23 ji jz0 jz1 jz2 rfl .i64 _ (toI (rAll ch bs.length)).length ((toI (rAll ch bs.length)).map (Value.int .i64)) rfl HS3.out rfl a3 c3 (toI (rWait ch bs.length)) rfl HN3.out HR3.out (by have := HLe.out; have := HL3.out; unfold maxLen; omega) (by have := HLe.out; have := HL3.out; omega) ?_; intro v4 w4 hS4; have HS4 := Lib.hid hS4; clear hS4)
      obtain ⟨O, hO⟩ : ∃ O, O = rAll ch bs.length ++ rWait ch bs.length := ⟨_, rfl⟩
      have HS5 := Lib.hid (show Sep [] w w4 [intsR v4 (toI O)] from by
        have h := (Sep.mix (A := [_, _]) (L := []) HS4.out [1] (by decide) rfl)
        rw [hO, toI_app]
        unfold intsR
        rw [List.length_append, List.map_append]
        exact h)
      have HOm := Lib.hid (show ∀ i ∈ O, i < bs.length from fun i hi => by
        rw [hO] at hi
        rcases List.mem_append.1 hi with h | h
        · exact rAll_mem h
        · exact rWait_mem h)
      have HOl := Lib.hid (show O.length ≤ 643000 by
        rw [hO, List.length_append]
        have h1 := HLe.out
        have h2 := HL3.out
        unfold toI at h1 h2
        rw [List.length_map] at h1 h2
        omega)
      have HOo := Lib.hid hO
      obtain ⟨a4, c4, hv4, -, -⟩ := own_shape (HS5.out.own 0 rfl)
      subst hv4
      have htl : (toI O).length = O.length := by unfold toI; rw [List.length_map]
      rw [htl] at HS5 ⊢
      clear HS4 HS3 hO htl
      have HS6 := Lib.hid (show Sep [] w (w4.alloc (.cells #[] 28)) [ysR (.slice (some ⟨w4.heap.size, 0, none⟩) 0 0) [], bodsR [], intsR (.slice a4 O.length c4) (toI O)] from by
        have h1 := HS5.out.made 28 1 0 #[] (by unfold maxLen; omega) rfl
        have h2 := Sep.gather1 (rs := []) h1
        exact Sep.mix (A := [_, _, _]) (L := []) h2 [1, 0, 2] (by decide) rfl)
      clear HS5
      go_wp2_with fail
      go_loopw [7, 8] (fun v i wi => ∃ (j : Nat) (os : List Yt), j ≤ O.length ∧ i = .int .i64 (j : Int) ∧ os.map Yt.zs = (O.take j).map (fun i => (bs.map Yt.zs).getD i []) ∧ Sep [] w wi [ysR v os, bodsR os, intsR (.slice a4 O.length c4) (toI O)]) (fun _ i _ => O.length - (intOf i).toNat)
      case atStart => exact ⟨0, [], Nat.zero_le _, rfl, rfl, HS6.out⟩
      case round =>
        obtain ⟨j, os, hj, rfl, hos, hS⟩ := hrel
        have HT := Lib.hid hS
        have HO := Lib.hid hos
        have hol : os.length = j := by have h := congrArg List.length hos; rw [List.length_map, List.length_map, List.length_take] at h; omega
        have HOs := Lib.hid hol
        clear hS hos HS6 hol
        by_cases hlt : j < O.length
        · obtain ⟨i, hij⟩ : ∃ i, O[j]? = some i := ⟨_, List.getElem?_eq_getElem hlt⟩
          have hib := HOm.out i (List.mem_of_getElem? hij)
          obtain ⟨b, hb⟩ : ∃ b, bs[i]? = some b := ⟨_, List.getElem?_eq_getElem hib⟩
          obtain ⟨g, off, q, d, rfl, hc, -, hr, hq, -, -⟩ := (HR.out _ HT.out.frm).at_ hb
          have hij2 : (toI O)[j]? = some (i : Int) := by unfold toI; rw [List.getElem?_map, hij]; rfl
          obtain ⟨a5, c5, hv5, r5⟩ := ints_rd (HT.out.get 2 rfl)
          injection hv5 with hv5 hx1 hx2
          clear hx1 hx2
          subst hv5
          obtain ⟨g5, off5, rfl, _, hc5⟩ := r5 j _ hij2
          have HC := Lib.hid (bcopy_c q d b.zs _ hr (HZ.out b (List.mem_of_getElem? hb)))
          have t1 : decide (j < O.length) = true := decide_eq_true hlt
          have i1 : (0 : Int) ≤ (j : Int) := by omega
          have i2 : (j : Int) < (O.length : Int) := by omega
          have i3 : (0 : Int) ≤ (i : Int) := by omega
          have i4 : (i : Int) < (bs.length : Int) := by omega
          have hob : O.length ≤ 643000 := HOl.out
          have HBi := Lib.hid (show (bs.map Yt.zs).getD i [] = b.zs by rw [List.getD_eq_getElem?_getD, List.getElem?_map, hb]; rfl)
          have HIj := Lib.hid hij
          clear hr hq hb r5 hij hij2
          go_wp2_with fail
          refine HC.out.mono ?_
          rintro e w7 ⟨g7, c7, rfl, hS7⟩
          have HS7 := Lib.hid (HT.out.more hS7)
          clear hS7 HC HT
          go_wp2_with (at_builtin; refine wpList_append_sep rfl _ _ 22 rfl 1 28 inf (.slice none 0 0) 24 Try.underlying22 hi hz0 hz1 hz2 rfl _ os.length (os.map Yt.v) rfl (HS7.out.skip _) rfl _ 1 (.slice (some ⟨g7, 0, none⟩) b.zs.length c7) rfl (World.cell?_alloc_at _ _ _ _ rfl) rfl (by have := HOs.out; have := HOl.out; unfold maxLen; omega) (by have := HOs.out; have := HOl.out; omega) ?_; intro g8 c8 w8 hS8; have HS8 := Lib.hid hS8; clear hS8)
          have HS9 := Lib.hid (show Sep [] w w8 [ysR (.slice (some ⟨g8, 0, none⟩) (os.length + 1) c8) (os ++ [⟨.slice (some ⟨g7, 0, none⟩) b.zs.length c7, b.zs⟩]), bodsR (os ++ [⟨.slice (some ⟨g7, 0, none⟩) b.zs.length c7, b.zs⟩]), intsR (.slice (some ⟨g5, off5, none⟩) O.length c4) (toI O)] from by
            have h := Sep.mix (A := [_, _, _, _]) (L := []) HS8.out [1, 0, 2, 3] (by decide) rfl
            exact Sep.snocY (b := ⟨.slice (some ⟨g7, 0, none⟩) b.zs.length c7, b.zs⟩) h)
          have HO9 := Lib.hid (show (os ++ [(⟨.slice (some ⟨g7, 0, none⟩) b.zs.length c7, b.zs⟩ : Yt)]).map Yt.zs = (O.take (j + 1)).map (fun i => (bs.map Yt.zs).getD i []) by
            rw [List.map_append, HO.out, List.take_add_one, HIj.out, List.map_append]
            show _ = _ ++ [(bs.map Yt.zs).getD i []]
            rw [HBi.out]
            rfl)
          clear HS8 HS7
          go_wp2_with fail
          go_roundw
          case rel => exact ⟨j + 1, _, by omega, by go_num, HO9.out, HS9.out⟩
          case measure => simp [intOf]; omega
        · obtain rfl : j = O.length := by omega
          have t1 : decide (O.length < O.length) = false := decide_eq_false (by omega)
          go_wp2_with fail
          go_ret
          refine ⟨_, os, rfl, ?_, Sep.mix (A := [_, _, _]) (L := []) HT.out [0, 1] (by decide) rfl⟩
          rw [HO.out, List.take_length, HOo.out]

end Go.Proofs.Ytekjpkppfcmjdaa
