/-
  THE WALKS of the reference: List, Down, Text; of SameInts.
-/
import Derived.Test.YtlkhjffbhcjdfaaDoorMaY
import Derived.Test.YtlkhjffbhcjdfaaDoorMaU
import Derived.Deep.QuietTactic
import Derived.BigQuiet
set_option linter.unusedVariables false
set_option linter.unusedSimpArgs false
namespace Go.Proofs.YtlkhjffbhcjdfaaDoor
open Go.RowKit

def liB (bs : List Bool) (k : Nat) : List Nat := (List.range k).filter fun i => bs.getD i false
theorem liB_succ (bs : List Bool) (k : Nat) : liB bs (k + 1) = liB bs k ++ if bs.getD k false then [k] else [] := by
  unfold liB
  rw [List.range_succ, List.filter_append]
  congr 1
  rw [List.filter_cons, List.filter_nil]
theorem liB_all (h l : Nat) : liB (bools h l) 128 = bitsOf h l := by
  unfold liB bitsOf
  exact List.filter_congr fun i hi => bools_getD (List.mem_range.1 hi)
theorem liB_len (bs : List Bool) (k : Nat) : (liB bs k).length ≤ k := by unfold liB; exact Nat.le_trans (List.length_filter_le _ _) (by simp)

set_option maxRecDepth 100000 in
set_option maxHeartbeats 4000000 in
theorem rlist_c (a : Option Addr) (c : Nat) (bs : List Bool) (w : World) (h : RdB w a bs) (hl : bs.length = 128) :
    Calls Tryd.prog 10 #[.slice a 128 c] w fun e w' => ∃ a c, e = .returned (.slice a (liB bs 128).length c) ∧ (a = none → c = 0) ∧ RdZ w' a (fwL (liB bs 128)) ∧ Frm [] w w' := by
  obtain ⟨i0, hi, hz0, hz1, hz2⟩ := info_parts info_int
  have HS0 := Lib.hid ((Sep.init w).made 3 1 0 #[] (Nat.zero_le _) rfl)
  have HR := Lib.hid h
  have HL := Lib.hid hl
  clear h hl
  go_enter Tryd.func10, Tryd.ntmps10
  go_wp2_with fail
  go_loopw [3, 4] (fun v i wr => ∃ j : Nat, j ≤ 128 ∧ i = .int .i64 (j : Int) ∧ Sep [] w wr [ownR 3 1 v (liB bs j).length ((liB bs j).map encI)]) (fun _ i _ => 128 - (intOf i).toNat)
  case atStart => exact ⟨0, by omega, rfl, HS0.out⟩
  case round =>
    obtain ⟨j, hj, rfl, hS⟩ := hrel
    have hrw := HR.out.below hS.frm.below
    have HS := Lib.hid hS
    clear hS
    by_cases hlt : j < 128
    · obtain ⟨b, off, x, hx, rfl, hb, hc⟩ := hrw.at_ (j := j) (by rw [HL.out]; exact hlt)
      have i0' : (0 : Int) ≤ (j : Int) := by omega
      have i1 : (j : Int) < 128 := by omega
      have hst := liB_succ bs j
      rw [show bs.getD j false = x from by rw [List.getD_eq_getElem?_getD, List.getElem?_eq_getElem (by rw [HL.out]; exact hlt), hx]; rfl] at hst
      have hle := liB_len bs j
      have HSt := Lib.hid hst
      clear hx hb hrw hst
      obtain ⟨Y, hY⟩ : ∃ Y, Y = liB bs j := ⟨_, rfl⟩
      rw [← hY] at HS HSt hle
      obtain ⟨n, hn⟩ : ∃ n, n = Y.length := ⟨_, rfl⟩
      rw [← hn] at HS hle
      have HN := Lib.hid hn
      clear hY hn
      cases x
      · go_wp2_with fail
        go_roundw
        case rel => exact ⟨j + 1, by omega, by go_num, by rw [HSt.out, if_neg (by simp), List.append_nil, ← HN.out]; exact HS.out⟩
        case measure => simp [intOf]; omega
      · go_wp2_with (at_builtin; refine wpList_append_sep rfl _ _ 23 rfl 0 3 i0 (.int .i64 0) 8 Tryd.underlying23 hi hz0 hz1 hz2 rfl _ _ _ rfl (HS.out.skip _) rfl _ 1 (.int .i64 (j : Int)) rfl (World.cell?_alloc_at _ _ _ _ rfl) rfl (by unfold maxLen; omega) (by omega) ?_; intro g4 c4 w4 hS4; have HS4 := Lib.hid hS4; clear hS4)
        go_roundw
        case rel => exact ⟨j + 1, by omega, by go_num, by rw [HSt.out, if_pos rfl, List.length_append, List.map_append, ← HN.out]; exact HS4.out⟩
        case measure => simp [intOf]; omega
    · obtain rfl : j = 128 := by omega
      obtain ⟨a5, c5, he, hq1, hac, hz⟩ := rdZ_own (HS.out.own 0 rfl)
      subst he
      clear hq1
      have HZ := Lib.hid hz
      have HA := Lib.hid hac
      clear hz hac hrw
      go_wp2_with fail
      go_ret
      exact ⟨a5, c5, rfl, HA.out, HZ.out, HS.out.frm⟩

/-- Moved: the truths. -/
def dnB (bs : List Bool) (n : Int) (k : Nat) : List Bool := (List.range k).map fun i : Nat => hasB bs ((i : Int) - n)
theorem dnB_succ (bs : List Bool) (n : Int) (k : Nat) : dnB bs n (k + 1) = dnB bs n k ++ [hasB bs ((k : Int) - n)] := by unfold dnB; rw [List.range_succ, List.map_append]; rfl
theorem dnB_all {h l : Nat} (h0 : h < 18446744073709551616) (h1 : l < 18446744073709551616) (n : Int) : dnB (bools h l) (held n (-200) 200) 128 = bools (dwH h l n) (dwL h l n) := by
  have hg : held n (-200) 200 = n ∨ (held n (-200) 200 = -200 ∧ n < -200) ∨ (held n (-200) 200 = 200 ∧ 200 < n) := by
    unfold held
    by_cases c1 : n < -200
    · rw [if_pos c1]; right; left; exact ⟨rfl, c1⟩
    · by_cases c2 : 200 < n
      · rw [if_neg c1, if_pos c2]; right; right; exact ⟨rfl, c2⟩
      · rw [if_neg c1, if_neg c2]; left; rfl
  unfold dnB
  rw [show bools (dwH h l n) (dwL h l n) = (List.range 128).map (bt (dwH h l n) (dwL h l n)) from rfl]
  refine List.map_congr_left fun i hi => ?_
  have hi := List.mem_range.1 hi
  rw [bt_down h0 h1 n i hi, hasB_bools]
  rcases hg with e | ⟨e, e'⟩ | ⟨e, e'⟩
  · rw [e]
    by_cases hc : 0 ≤ (i : Int) - n ∧ (i : Int) - n < 128
    · rw [decide_eq_true hc, if_pos hc, Bool.true_and]
    · rw [decide_eq_false hc, if_neg hc, Bool.false_and]
  · rw [e, decide_eq_false (by omega), if_neg (by omega), Bool.false_and]
  · rw [e, decide_eq_false (by omega), if_neg (by omega), Bool.false_and]

set_option maxRecDepth 100000 in
set_option maxHeartbeats 4000000 in
theorem rdown_c (a : Option Addr) (c : Nat) (bs : List Bool) (n : Int) (w : World) (h : RdB w a bs) (hl : bs.length = 128) (hn : -200 ≤ n ∧ n ≤ 200) :
    Calls Tryd.prog 23 #[.slice a 128 c, .int .i64 n] w fun e w' => ∃ a c, e = .returned (.slice a 128 c) ∧ RdB w' a (dnB bs n 128) ∧ Frm [] w w' := by
  obtain ⟨i0, hi, hz0, hz1, hz2⟩ := info_parts info_bool
  have HS0 := Lib.hid ((Sep.init w).made 4 1 0 #[] (Nat.zero_le _) rfl)
  have HHas := Lib.hid (fun i X (hf : Frm [] w X) => rhas_c a c bs i X (h.below hf.below) hl)
  clear h hl
  go_enter Tryd.func23, Tryd.ntmps23
  go_wp2_with fail
  go_loopw [5, 6] (fun v i wr => ∃ j : Nat, j ≤ 128 ∧ i = .int .i64 (j : Int) ∧ Sep [] w wr [ownR 4 1 v j ((dnB bs n j).map Value.bool)]) (fun _ i _ => 128 - (intOf i).toNat)
  case atStart => exact ⟨0, by omega, rfl, HS0.out⟩
  case round =>
    obtain ⟨j, hj, rfl, hS⟩ := hrel
    have HS := Lib.hid hS
    clear hS
    by_cases hlt : j < 128
    · have i1 : (j : Int) < 128 := by omega
      have m5 : IntKind.i64.wrap ((j : Int) - n) = (j : Int) - n := IntWalk.i64_in _ (by omega)
      have hst := dnB_succ bs n j
      have hh := HHas.out ((j : Int) - n) _ HS.out.frm
      obtain ⟨x, hx⟩ : ∃ x, x = hasB bs ((j : Int) - n) := ⟨_, rfl⟩
      rw [← hx] at hst hh
      have HSt := Lib.hid hst
      have HH := Lib.hid hh
      clear hx hst hh HHas
      go_wp2_with fail
      refine HH.out.mono ?_
      rintro e w' ⟨rfl, rfl⟩
      go_wp2_with (at_builtin; refine wpList_append_sep rfl _ _ 27 rfl 0 4 i0 (.bool false) 1 Tryd.underlying27 hi hz0 hz1 hz2 rfl _ _ _ rfl (HS.out.skip _) rfl _ 1 (.bool x) rfl (World.cell?_alloc_at _ _ _ _ rfl) rfl (by unfold maxLen; omega) (by omega) ?_; intro g4 c4 w4 hS4; have HS4 := Lib.hid hS4; clear hS4)
      go_roundw
      case rel => exact ⟨j + 1, by omega, by go_num, by rw [HSt.out, List.map_append]; exact HS4.out⟩
      case measure => simp [intOf]; omega
    · obtain rfl : j = 128 := by omega
      have hln : (dnB bs n 128).length = 128 := by simp [dnB]
      obtain ⟨a5, c5, he, hq1, hq2, hz⟩ := rdB_own (HS.out.own 0 rfl)
      rw [hln] at he
      subst he
      have HZ := Lib.hid hz
      clear hz hln hq1 hq2
      go_wp2_with fail
      go_ret
      exact ⟨a5, c5, rfl, HZ.out, HS.out.frm⟩

set_option maxHeartbeats 2000000 in
theorem sameInts_t (a : Option Addr) (c : Nat) (b : Option Addr) (d : Nat) (xs : List Int) (w : World) (hx : RdZ w a xs) (hy : RdZ w b xs) (hl : xs.length ≤ 1000000) :
    Calls Tryd.prog 20 #[.slice a xs.length c, .slice b xs.length d] w fun e w' => e = .returned (.bool true) ∧ Frm [] w w' := by
  have HX := Lib.hid hx
  have HY := Lib.hid hy
  clear hx hy
  have b0 : ((xs.length : Int) != (xs.length : Int)) = false := by simp
  go_enter Tryd.func20, Tryd.ntmps20
  go_wp2_with fail
  go_loopw [5] (fun i wr => ∃ j : Nat, j ≤ xs.length ∧ i = .int .i64 j ∧ ∃ m, wr = w.drewN m) (fun i _ => xs.length - (intOf i).toNat)
  case atStart => exact ⟨0, Nat.zero_le _, rfl, 0, rfl⟩
  case round =>
    obtain ⟨j, hj, rfl, m, rfl⟩ := hrel
    by_cases hlt : j < xs.length
    · obtain ⟨g, off, x, hx, rfl, hg, hc⟩ := HX.out.at_ hlt
      obtain ⟨g2, off2, y, hy, rfl, hg2, hc2⟩ := HY.out.at_ hlt
      have he : x = y := hx.trans hy.symm
      have HE := Lib.hid he
      have i0 : (0 : Int) ≤ (j : Int) := by omega
      have i1 : (j : Int) < (xs.length : Int) := by omega
      have b1 : (x != y) = false := by simp [he]
      clear hx hy hg hg2 HX HY he
      go_wp2_with fail
      go_quiet (fail)
      go_wp2_with fail
      go_roundw
      case rel => exact ⟨j + 1, by omega, by go_num, m + nq, by simp⟩
      case measure => simp [intOf]; omega
    · obtain rfl : j = xs.length := by omega
      go_wp2_with fail
      go_ret
      exact ⟨rfl, (Frm.refl _ _).drewN m⟩

theorem txL_snoc' (xs : List Nat) (y : Nat) : txL (xs ++ [y]) = txL xs ++ (if xs = [] then [] else [44]) ++ Lib.itoa (y : Int) := by
  unfold txL
  cases xs with
  | nil => rw [List.nil_append, List.map_cons, List.map_nil, Lib.join_one]; rfl
  | cons x xs =>
    rw [List.cons_append, List.map_cons, Lib.join_cons, List.map_cons, Lib.join_cons, if_neg (by simp)]
    simp [Lib.joinTail, List.append_assoc]

theorem str_add {P : Program} (a b : ByteArray) (h : a.size + b.size ≤ 9223372036854775807) (w : World) : (Op.stringOp .add a b).run P w = .ok (.string (a ++ b)) w := by
  have h2 : ¬ (((a.size + b.size : Nat) : Int) > IntKind.i64.max) := by show ¬ (((a.size + b.size : Nat) : Int) > 9223372036854775807); omega
  simp only [Op.stringOp, if_neg h2]
  rfl
theorem txB_size (xs : List Nat) (h : xs.length ≤ 128) (h2 : ∀ x ∈ xs, x < 128) : (txB xs).size ≤ 10000 := by
  have := txL_len xs h h2
  unfold txB
  simpa [ByteArray.size] using this
theorem itB_size (y : Nat) (h : y < 128) : (itB (y : Int)).size ≤ 21 := by
  have := Lib.itoa_length_le (y : Int) (by omega) (by omega)
  unfold itB
  simpa [ByteArray.size] using this
theorem txB_next {xs : List Nat} (y : Nat) (h : xs ≠ []) : (txB xs ++ ⟨#[44]⟩) ++ itB (y : Int) = txB (xs ++ [y]) := by
  apply ByteArray.ext
  rw [ByteArray.data_append, ByteArray.data_append]
  unfold txB itB
  rw [txL_snoc', if_neg h]
  simp
theorem txB_first (y : Nat) : txB [] ++ itB (y : Int) = txB ([] ++ [y]) := by
  apply ByteArray.ext
  rw [ByteArray.data_append]
  unfold txB itB
  rw [txL_snoc', if_pos rfl]
  simp [txL, Lib.join_nil]
set_option maxRecDepth 100000 in
set_option maxHeartbeats 4000000 in
theorem rtext_c (a : Option Addr) (c : Nat) (bs : List Bool) (w : World) (h : RdB w a bs) (hl : bs.length = 128) (hT : PowTab w) :
    Calls Tryd.prog 28 #[.slice a 128 c] w fun e w' => e = .returned (.string (txB (liB bs 128))) ∧ Frm [] w w' := by
  have HLi := Lib.hid (rlist_c a c bs w h hl)
  have hle := liB_len bs 128
  have hm : ∀ x ∈ liB bs 128, x < 128 := fun x hx => List.mem_range.1 (List.mem_filter.1 hx).1
  obtain ⟨R, hR⟩ : ∃ R, R = liB bs 128 := ⟨_, rfl⟩
  rw [← hR] at HLi hle hm ⊢
  have HM := Lib.hid hm
  have HT := Lib.hid hT
  clear hR h hl hm hT
  go_enter Tryd.func28, Tryd.ntmps28
  go_wp2_with fail
  refine HLi.out.mono ?_
  rintro e w1 ⟨a1, c1, rfl, _, hz, hf⟩
  have HZ := Lib.hid hz
  have HF := Lib.hid hf
  obtain ⟨N, hN⟩ : ∃ N, N = R.length := ⟨_, rfl⟩
  have HN := Lib.hid hN
  rw [← hN] at hle ⊢
  clear hz hf HLi hN
  go_wp2_with fail
  go_loopw [3, 5] (fun s i wr => ∃ j : Nat, j ≤ N ∧ i = .int .i64 (j : Int) ∧ s = .string (txB (R.take j)) ∧ Frm [] w1 wr) (fun _ i _ => N - (intOf i).toNat)
  case atStart => exact ⟨0, by omega, rfl, rfl, Frm.refl _ _⟩
  case round =>
    obtain ⟨j, hj, rfl, rfl, hfr⟩ := hrel
    by_cases hlt : j < N
    · have hlt' : j < R.length := by rw [← HN.out]; exact hlt
      obtain ⟨b, off, x, hx, rfl, hb, hc⟩ := (HZ.out.below hfr.below).at_ (j := j) (by unfold fwL; rw [List.length_map]; exact hlt')
      obtain ⟨y, hy⟩ : ∃ y, y = R[j] := ⟨_, rfl⟩
      have hxy : x = (y : Int) := by rw [hx, hy]; simp [fwL]
      subst hxy
      have hyl : y < 128 := HM.out y (hy ▸ List.getElem_mem hlt')
      have htk : R.take (j + 1) = R.take j ++ [y] := by rw [List.take_succ_eq_append_getElem hlt', hy]
      have hsz := txB_size (R.take j) (by rw [List.length_take]; omega) (fun z hz => HM.out z (List.mem_of_mem_take hz))
      have hyz := itB_size y hyl
      have i0 : (0 : Int) ≤ (j : Int) := by omega
      have i1 : (j : Int) < (N : Int) := by omega
      have HI := Lib.hid (fun X (hf : Frm [] w1 X) => itoa_c (y : Int) X (by omega) (by omega) ((HT.out.below (HF.out.trans hf).below)))
      have HFr := Lib.hid hfr
      have HTk := Lib.hid htk
      have HNe := Lib.hid (show 0 < j → R.take j ≠ [] from fun h e => by have h9 := congrArg List.length e; rw [List.length_take] at h9; change min j R.length = 0 at h9; omega)
      clear hx hb hy htk hfr HZ HM
      by_cases h0 : j = 0
      · subst h0
        have hc0 : wr.cell? ⟨b, off, none⟩ = some (.int .i64 (y : Int)) := hc
        rw [List.take_zero] at hsz
        have s1 := fun W => str_add (P := Tryd.prog) (txB []) (itB (y : Int)) (by omega) W
        clear i0 i1 hc hsz hyz
        go_wp2_with fail
        refine (HI.out _ HFr.out).mono ?_
        rintro e w2 ⟨rfl, hf2⟩
        have HF2 := Lib.hid (HFr.out.trans hf2)
        clear hf2
        go_wp2_with fail
        go_roundw
        case rel =>
          refine ⟨0 + 1, by omega, by go_num, ?_, HF2.out⟩
          rw [HTk.out, List.take_zero]
          exact congrArg Value.string (txB_first y)
        case measure => simp [intOf]; omega
      · have b1 : decide ((j : Int) > 0) = true := decide_eq_true (by omega)
        have b2 : decide ((0 : Int) < (j : Int)) = true := decide_eq_true (by omega)
        have b3 : decide (0 < j) = true := decide_eq_true (by omega)
        have HJ := Lib.hid h0
        have hk : (⟨#[44]⟩ : ByteArray).size = 1 := rfl
        have s1 := fun W => str_add (P := Tryd.prog) (txB (R.take j)) ⟨#[44]⟩ (by omega) W
        have s2 := fun W => str_add (P := Tryd.prog) (txB (R.take j) ++ ⟨#[44]⟩) (itB (y : Int)) (by rw [ByteArray.size_append]; omega) W
        have HE := Lib.hid (txB_next y (HNe.out (by omega)))
        obtain ⟨S1, hS1⟩ : ∃ S1, S1 = txB (R.take j) ++ ⟨#[44]⟩ := ⟨_, rfl⟩
        rw [← hS1] at HE
        simp only [← hS1] at s1 s2
        clear h0 hk hsz hyz hS1
        go_wp2_with fail
        refine (HI.out _ HFr.out).mono ?_
        rintro e w2 ⟨rfl, hf2⟩
        have HF2 := Lib.hid (HFr.out.trans hf2)
        clear hf2
        go_wp2_with fail
        go_roundw
        case rel =>
          refine ⟨j + 1, by omega, by go_num, ?_, HF2.out⟩
          rw [HTk.out, ← HE.out]
        case measure => simp [intOf]; omega
    · obtain rfl : N = j := by omega
      have he : R.take N = R := by rw [HN.out, List.take_length]
      rw [he]
      have HFr := Lib.hid hfr
      clear hfr he
      go_wp2_with fail
      go_ret
      exact ⟨rfl, HF.out.trans HFr.out⟩

end Go.Proofs.YtlkhjffbhcjdfaaDoor
