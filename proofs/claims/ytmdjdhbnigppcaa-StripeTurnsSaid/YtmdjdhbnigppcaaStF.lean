/-
  THE WALKS of the reference of stripe: Xor, All, Fit, Gap.
-/
import Derived.Test.YtmdjdhbnigppcaaStE
set_option linter.unusedVariables false
set_option linter.unusedSimpArgs false
namespace Go.Proofs.Ytmdjdhbnigppcaa
open Go.RowKit

theorem xo_take_snoc {xs ys : List Int} (hx : Byt xs) (hy : Byt ys) (k : Nat) (hk : k < max xs.length ys.length) : (xo xs ys).take (k + 1) = (xo xs ys).take k ++ [bx (xs.getD k 0) (ys.getD k 0)] := by
  have hl : k < (xo xs ys).length := by rw [xo_length]; exact hk
  have h := xo_get hx hy k
  rw [List.getD_eq_getElem?_getD, List.getElem?_eq_getElem hl] at h
  rw [List.take_add_one, List.getElem?_eq_getElem hl]
  have h2 : (xo xs ys)[k] = bx (xs.getD k 0) (ys.getD k 0) := h
  show (xo xs ys).take k ++ [(xo xs ys)[k]] = _
  rw [h2]

set_option maxRecDepth 100000 in
set_option maxHeartbeats 8000000 in
theorem rxor_c (x y : Bs) (w : World) (hx : x.ok w) (hy : y.ok w) :
    Calls Try.prog 19 #[x.val, y.val] w fun e w' => ∃ v, e = .returned v ∧ Sep [] w w' [sumR v (xo x.zs y.zs)] := by
  obtain ⟨i0, hi, hz0, hz1, hz2⟩ := info_parts info_u8
  obtain ⟨a, ca, xs⟩ := x
  obtain ⟨b, cb, ys⟩ := y
  unfold Bs.val
  have HX := Lib.hid hx.1
  have HY := Lib.hid hy.1
  have HBx := Lib.hid hx.2.1
  have HBy := Lib.hid hy.2.1
  have lx : xs.length ≤ 1000000 := hx.2.2
  have ly : ys.length ≤ 1000000 := hy.2.2
  have hlen := xo_length xs ys
  have HLen := Lib.hid hlen
  clear hx hy hlen
  have HS := Lib.hid ((Sep.init w).made 5 1 0 #[] (by unfold maxLen; omega) rfl)
  dsimp only at HX HY HBx HBy ⊢
  go_enter Try.func19, Try.ntmps19
  go_wp2_with fail
  go_loopw [5, 6] (fun v i wr => ∃ (k g c : Nat), k ≤ max xs.length ys.length ∧ v = .slice (some ⟨g, 0, none⟩) k c ∧ i = .int .i64 k ∧ Sep [] w wr [ownR 5 1 (.slice (some ⟨g, 0, none⟩) k c) k (((xo xs ys).take k).map (Value.int .u8))]) (fun _ i _ => max xs.length ys.length - (intOf i).toNat)
  case atStart => exact ⟨0, _, 0, Nat.zero_le _, rfl, rfl, HS.out⟩
  case round =>
    obtain ⟨k, g, c, hk, rfl, rfl, hS⟩ := hrel
    have HS2 := Lib.hid hS
    clear hS
    by_cases hlt : k < max xs.length ys.length
    · have HSn := Lib.hid (xo_take_snoc HBx.out HBy.out k hlt)
      have bu := HBx.out.get k
      have bv := HBy.out.get k
      have HAt1 := Lib.hid (rat_c a ca xs k wr (HX.out.below HS2.out.frm.below))
      have HAt2 := Lib.hid (rat_c b cb ys k wr (HY.out.below HS2.out.frm.below))
      obtain ⟨u, hu⟩ : ∃ u, u = xs.getD k 0 := ⟨_, rfl⟩
      obtain ⟨v, hv⟩ : ∃ v, v = ys.getD k 0 := ⟨_, rfl⟩
      rw [← hu] at bu HAt1 HSn
      rw [← hv] at bv HAt2 HSn
      obtain ⟨u0, u1⟩ := bu
      obtain ⟨v0, v1⟩ := bv
      clear hu hv
      by_cases hlx : k < xs.length
      · have d1 : decide ((k : Int) < (xs.length : Int)) = true := by rw [decide_eq_true_eq]; omega
        go_wp2_with fail
        refine HAt1.out.mono ?_
        rintro e w' ⟨rfl, rfl⟩
        go_wp2_with fail
        refine HAt2.out.mono ?_
        rintro e w' ⟨rfl, rfl⟩
        go_wp2_with fail
        refine (one_c u v _ u0 u1 v0 v1).mono ?_
        rintro e w2 ⟨rfl, m, rfl⟩
        go_wp2_with (at_builtin; refine wpList_append_sep rfl _ _ 25 rfl 0 5 i0 (.int .u8 0) 1 Try.underlying25 hi hz0 hz1 hz2 rfl _ _ _ rfl ((HS2.out.drewN m).skip _) rfl _ 1 (.int .u8 (bx u v)) rfl (World.cell?_alloc_at _ _ _ _ rfl) rfl (by unfold maxLen; omega) (by omega) ?_; intro g4 c4 w4 hS4; have HS4 := Lib.hid hS4; clear hS4)
        go_roundw
        case rel => exact ⟨k + 1, g4, c4, by omega, rfl, by go_num, by rw [HSn.out]; simpa using HS4.out⟩
        case measure => simp [intOf]; omega
      · have d1 : decide ((k : Int) < (xs.length : Int)) = false := by rw [decide_eq_false_iff_not]; omega
        have d2 : decide ((k : Int) < (ys.length : Int)) = true := by rw [decide_eq_true_eq]; omega
        go_wp2_with fail
        refine HAt1.out.mono ?_
        rintro e w' ⟨rfl, rfl⟩
        go_wp2_with fail
        refine HAt2.out.mono ?_
        rintro e w' ⟨rfl, rfl⟩
        go_wp2_with fail
        refine (one_c u v _ u0 u1 v0 v1).mono ?_
        rintro e w2 ⟨rfl, m, rfl⟩
        go_wp2_with (at_builtin; refine wpList_append_sep rfl _ _ 25 rfl 0 5 i0 (.int .u8 0) 1 Try.underlying25 hi hz0 hz1 hz2 rfl _ _ _ rfl ((HS2.out.drewN m).skip _) rfl _ 1 (.int .u8 (bx u v)) rfl (World.cell?_alloc_at _ _ _ _ rfl) rfl (by unfold maxLen; omega) (by omega) ?_; intro g4 c4 w4 hS4; have HS4 := Lib.hid hS4; clear hS4)
        go_roundw
        case rel => exact ⟨k + 1, g4, c4, by omega, rfl, by go_num, by rw [HSn.out]; simpa using HS4.out⟩
        case measure => simp [intOf]; omega
    · have d1 : decide ((k : Int) < (xs.length : Int)) = false := by rw [decide_eq_false_iff_not]; omega
      have d2 : decide ((k : Int) < (ys.length : Int)) = false := by rw [decide_eq_false_iff_not]; omega
      go_wp2_with fail
      go_ret
      refine ⟨_, rfl, ?_⟩
      have hs := HS2.out
      have hl := HLen.out
      rw [List.take_of_length_le (by omega)] at hs
      unfold sumR
      rw [show (xo xs ys).length = k from by omega]
      exact hs

set_option maxRecDepth 100000 in
set_option maxHeartbeats 4000000 in
theorem rall_c (ad : Option Addr) (c : Nat) (xs : List Bs) (w : World) (hr : RdRows w ad xs) (hlen : xs.length ≤ 1000) :
    Calls Try.prog 9 #[.slice ad xs.length c] w fun e w' => ∃ v, e = .returned v ∧ Sep [] w w' [sumR v (xoAll (xs.map Bs.zs))] := by
  have HR := Lib.hid hr
  have hfit : ∀ x ∈ xs, x.fit := fun x hx => by
    obtain ⟨i, hi⟩ := List.getElem?_of_mem hx
    exact (hr i x hi).2.2
  have HFit := Lib.hid hfit
  have HS := Lib.hid ((Sep.init w).made 5 1 0 #[] (by unfold maxLen; omega) rfl)
  clear hr hfit
  go_enter Try.func9, Try.ntmps9
  go_wp2_with fail
  go_loopw [3, 4] (fun v i wr => ∃ (k : Nat), k ≤ xs.length ∧ i = .int .i64 k ∧ Sep [] w wr [sumR v (xoAll ((xs.take k).map Bs.zs))]) (fun _ i _ => xs.length - (intOf i).toNat)
  case atStart => exact ⟨0, Nat.zero_le _, rfl, HS.out⟩
  case round =>
    obtain ⟨k, hk, rfl, hS⟩ := hrel
    by_cases hlt : k < xs.length
    · obtain ⟨x, hx⟩ : ∃ x, xs[k]? = some x := ⟨_, List.getElem?_eq_getElem hlt⟩
      obtain ⟨⟨b, off, rfl, hb2, hb3⟩, hok⟩ := (HR.out.below hS.frm.below) k x hx
      have hft := fit_all (xs := xs.take k) (fun y hy => HFit.out y (List.mem_of_mem_take hy))
      obtain ⟨oa, oc, rfl, _, hord⟩ := RdI.of_own (hS.own 0 rfl)
      have htk : xoAll ((xs.take (k + 1)).map Bs.zs) = xo (xoAll ((xs.take k).map Bs.zs)) x.zs := by rw [List.take_add_one, hx]; simp [xoAll_snoc]
      obtain ⟨A, hA⟩ : ∃ A, A = xoAll ((xs.take k).map Bs.zs) := ⟨_, rfl⟩
      rw [← hA] at hft hord htk hS ⊢
      have HX := Lib.hid (rxor_c ⟨oa, oc, A⟩ x wr ⟨hord, hft⟩ hok)
      have HTk := Lib.hid htk
      have HS2 := Lib.hid hS
      have i0 : (0 : Int) ≤ (k : Int) := by omega
      have i1 : (k : Int) < (xs.length : Int) := by omega
      unfold Bs.val at HX hb3
      clear hx hok hft hord htk hA hS hb2
      dsimp only at HX
      go_wp2_with fail
      refine HX.out.mono ?_
      rintro e w2 ⟨v2, rfl, hS2⟩
      have HS3 := Lib.hid ((HS2.out.gains hS2).only 0 rfl)
      clear hS2
      go_wp2_with fail
      go_roundw
      case rel => exact ⟨k + 1, by omega, by go_num, by rw [HTk.out]; exact HS3.out⟩
      case measure => simp [intOf]; omega
    · obtain rfl : k = xs.length := by omega
      rw [List.take_length] at hS
      have HS2 := Lib.hid hS
      clear hS
      go_wp2_with fail
      go_ret
      exact ⟨_, rfl, HS2.out⟩

/-- The first n bytes, zeros behind. -/
def fitL (zs : List Int) (n : Nat) : List Int := (List.range n).map fun i => zs.getD i 0
theorem fitL_length (zs : List Int) (n : Nat) : (fitL zs n).length = n := by simp [fitL]
theorem fitL_succ (zs : List Int) (n : Nat) : fitL zs (n + 1) = fitL zs n ++ [zs.getD n 0] := by simp [fitL, List.range_succ]
theorem fitL_get (zs : List Int) (n i : Nat) : (fitL zs n).getD i 0 = if i < n then zs.getD i 0 else 0 := by
  unfold fitL
  rw [List.getD_eq_getElem?_getD, List.getElem?_map]
  by_cases h : i < n
  · rw [List.getElem?_range h, if_pos h]; rfl
  · rw [List.getElem?_eq_none (by simp; omega), if_neg h]; rfl

set_option maxRecDepth 100000 in
set_option maxHeartbeats 4000000 in
theorem rfit_c (a : Option Addr) (cap : Nat) (zs : List Int) (n : Nat) (w : World) (rd : RdI .u8 w a zs) (hn : n ≤ 1000000) :
    Calls Try.prog 24 #[.slice a zs.length cap, .int .i64 n] w fun e w' => ∃ v, e = .returned v ∧ Sep [] w w' [sumR v (fitL zs n)] := by
  obtain ⟨i0, hi, hz0, hz1, hz2⟩ := info_parts info_u8
  have HR := Lib.hid rd
  have HS := Lib.hid ((Sep.init w).made 5 1 0 #[] (by unfold maxLen; omega) rfl)
  clear rd
  go_enter Try.func24, Try.ntmps24
  go_wp2_with fail
  go_loopw [5, 6] (fun v i wr => ∃ (k g c : Nat), k ≤ n ∧ v = .slice (some ⟨g, 0, none⟩) k c ∧ i = .int .i64 k ∧ Sep [] w wr [ownR 5 1 (.slice (some ⟨g, 0, none⟩) k c) k ((fitL zs k).map (Value.int .u8))]) (fun _ i _ => n - (intOf i).toNat)
  case atStart => exact ⟨0, _, 0, Nat.zero_le _, rfl, rfl, HS.out⟩
  case round =>
    obtain ⟨k, g, c, hk, rfl, rfl, hS⟩ := hrel
    have HS2 := Lib.hid hS
    clear hS
    by_cases hlt : k < n
    · have HAt1 := Lib.hid (rat_c a cap zs k wr (HR.out.below HS2.out.frm.below))
      have HSn := Lib.hid (fitL_succ zs k)
      obtain ⟨u, hu⟩ : ∃ u, u = zs.getD k 0 := ⟨_, rfl⟩
      rw [← hu] at HAt1 HSn
      clear hu
      have d1 : decide ((k : Int) < (n : Int)) = true := by rw [decide_eq_true_eq]; omega
      go_wp2_with fail
      refine HAt1.out.mono ?_
      rintro e w' ⟨rfl, rfl⟩
      go_wp2_with (at_builtin; refine wpList_append_sep rfl _ _ 25 rfl 0 5 i0 (.int .u8 0) 1 Try.underlying25 hi hz0 hz1 hz2 rfl _ _ _ rfl (HS2.out.skip _) rfl _ 1 (.int .u8 u) rfl (World.cell?_alloc_at _ _ _ _ rfl) rfl (by unfold maxLen; omega) (by omega) ?_; intro g4 c4 w4 hS4; have HS4 := Lib.hid hS4; clear hS4)
      go_roundw
      case rel => exact ⟨k + 1, g4, c4, by omega, rfl, by go_num, by rw [HSn.out]; simpa using HS4.out⟩
      case measure => simp [intOf]; omega
    · obtain rfl : k = n := by omega
      go_wp2_with fail
      go_ret
      refine ⟨_, rfl, ?_⟩
      have hs := HS2.out
      unfold sumR
      rw [fitL_length]
      exact hs

/-- The first place with another byte than 0, from k on. -/
def fz : List Int → Nat → Int
  | [], _ => -1
  | z :: zs, k => if z = 0 then fz zs (k + 1) else k
theorem fz_step (L : List Int) (k : Nat) (h : k < L.length) : fz (L.drop k) k = if L.getD k 0 = 0 then fz (L.drop (k + 1)) (k + 1) else k := by
  rw [List.drop_eq_getElem_cons h, List.getD_eq_getElem?_getD, List.getElem?_eq_getElem h]
  rfl
theorem fz_end (L : List Int) (k : Nat) (h : L.length ≤ k) : fz (L.drop k) k = -1 := by
  rw [List.drop_eq_nil_of_le h]; rfl
def gapOf (xs ys : List Int) : Int := fz (xo xs ys) 0

set_option maxRecDepth 100000 in
set_option maxHeartbeats 4000000 in
theorem rgap_c (x y : Bs) (w : World) (hx : x.ok w) (hy : y.ok w) :
    Calls Try.prog 21 #[x.val, y.val] w fun e w' => e = .returned (.int .i64 (gapOf x.zs y.zs)) ∧ w = w' := by
  obtain ⟨a, ca, xs⟩ := x
  obtain ⟨b, cb, ys⟩ := y
  unfold Bs.val gapOf
  have HX := Lib.hid hx.1
  have HY := Lib.hid hy.1
  have HBx := Lib.hid hx.2.1
  have HBy := Lib.hid hy.2.1
  have lx : xs.length ≤ 1000000 := hx.2.2
  have ly : ys.length ≤ 1000000 := hy.2.2
  have hlen := xo_length xs ys
  have HLen := Lib.hid hlen
  clear hx hy hlen
  dsimp only at HX HY HBx HBy ⊢
  obtain ⟨G, hG⟩ : ∃ G, G = fz (xo xs ys) 0 := ⟨_, rfl⟩
  rw [← hG]
  have HG := Lib.hid hG
  clear hG
  go_enter Try.func21, Try.ntmps21
  go_wp2_with fail
  go_loopw [5] (fun i wr => ∃ (k : Nat), k ≤ max xs.length ys.length ∧ i = .int .i64 k ∧ w = wr ∧ G = fz ((xo xs ys).drop k) k) (fun i _ => max xs.length ys.length - (intOf i).toNat)
  case atStart => exact ⟨0, Nat.zero_le _, rfl, rfl, HG.out⟩
  case round =>
    obtain ⟨k, hk, rfl, rfl, hg⟩ := hrel
    by_cases hlt : k < max xs.length ys.length
    · have HAt1 := Lib.hid (rat_c a ca xs k w HX.out)
      have HAt2 := Lib.hid (rat_c b cb ys k w HY.out)
      have bu := HBx.out.get k
      have bv := HBy.out.get k
      rw [fz_step _ _ (by have := HLen.out; omega), xo_get HBx.out HBy.out] at hg
      have hbz := bx_eq_zero bu.1 bv.1
      obtain ⟨u, hu⟩ : ∃ u, u = xs.getD k 0 := ⟨_, rfl⟩
      obtain ⟨v, hv⟩ : ∃ v, v = ys.getD k 0 := ⟨_, rfl⟩
      rw [← hu] at bu HAt1 hg hbz
      rw [← hv] at bv HAt2 hg hbz
      clear hu hv
      have HG2 := Lib.hid hg
      have HBz := Lib.hid hbz
      clear hg hbz
      have hd : (k < xs.length ∧ decide ((k : Int) < (xs.length : Int)) = true) ∨ (¬ k < xs.length ∧ decide ((k : Int) < (xs.length : Int)) = false ∧ decide ((k : Int) < (ys.length : Int)) = true) := by
        by_cases h : k < xs.length
        · exact .inl ⟨h, by rw [decide_eq_true_eq]; omega⟩
        · exact .inr ⟨h, by rw [decide_eq_false_iff_not]; omega, by rw [decide_eq_true_eq]; omega⟩
      by_cases huv : u = v
      · have g1 : (u != v) = false := by simp [huv]
        have hnext : G = fz ((xo xs ys).drop (k + 1)) (k + 1) := by rw [HG2.out, if_pos (HBz.out.2 huv)]
        have HNx := Lib.hid hnext
        clear hnext huv
        rcases hd with ⟨d0, d1⟩ | ⟨d0, d1, d2⟩
        all_goals
          go_wp2_with fail
          refine HAt1.out.mono ?_
          rintro e w' ⟨rfl, rfl⟩
          go_wp2_with fail
          refine HAt2.out.mono ?_
          rintro e w' ⟨rfl, rfl⟩
          go_wp2_with fail
          go_roundw
          case rel => exact ⟨k + 1, by omega, by go_num, by first | rfl | trivial, HNx.out⟩
          case measure => simp [intOf]; omega
      · have g1 : (u != v) = true := by simp [huv]
        have hnext : G = k := by rw [HG2.out, if_neg (fun h => huv (HBz.out.1 h))]
        have HNx := Lib.hid hnext
        clear hnext huv
        rcases hd with ⟨d0, d1⟩ | ⟨d0, d1, d2⟩
        all_goals
          go_wp2_with fail
          refine HAt1.out.mono ?_
          rintro e w' ⟨rfl, rfl⟩
          go_wp2_with fail
          refine HAt2.out.mono ?_
          rintro e w' ⟨rfl, rfl⟩
          go_wp2_with fail
          go_ret
          exact ⟨by rw [HNx.out]; rfl, rfl⟩
    · have d1 : decide ((k : Int) < (xs.length : Int)) = false := by rw [decide_eq_false_iff_not]; omega
      have d2 : decide ((k : Int) < (ys.length : Int)) = false := by rw [decide_eq_false_iff_not]; omega
      rw [fz_end _ _ (by have := HLen.out; omega)] at hg
      have HNx := Lib.hid hg
      clear hg
      go_wp2_with fail
      go_ret
      exact ⟨by rw [HNx.out]; rfl, rfl⟩

end Go.Proofs.Ytmdjdhbnigppcaa
