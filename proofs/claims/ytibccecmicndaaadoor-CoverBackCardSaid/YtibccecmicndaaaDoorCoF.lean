/-
  THE WALKS of cover's reference: Seqs, Needs, In, Missing, From, Of.
-/
import Derived.Test.YtibccecmicndaaaDoorCoE
set_option linter.unusedVariables false
set_option linter.unusedSimpArgs false
namespace Go.Proofs.YtibccecmicndaaaDoor
open Go.RowKit

theorem add_ad (b x : Nat) : add16 (b : Int) (x : Int) = (adN b x : Int) := by unfold add16 adN; omega
theorem adN_lt (b x : Nat) : adN b x < 65536 := Nat.mod_lt _ (by decide)

set_option maxRecDepth 100000 in
set_option maxHeartbeats 4000000 in
theorem rseqs_c (b h l : Nat) (w : World) (hb : b < 65536) (h0 : h < 18446744073709551616) (h1 : l < 18446744073709551616) :
    Calls Tryd.prog 8 #[.int .u16 (b : Int), .int .u64 (h : Int), .int .u64 (l : Int)] w fun e w' => ∃ v, e = .returned v ∧ Sep [] w w' [ownR 22 1 v (bitsOf h l).length ((bitsOf h l).map (encU b))] := by
  obtain ⟨i0, hi, hz0, hz1, hz2⟩ := info_parts info_u16
  have HO := Lib.hid (fun W => rof_c h l W h0 h1)
  have HLi := Lib.hid (fun a c W hW => rlist_c a c (bools h l) W hW (bools_len128 _ _))
  rw [liB_all] at HLi
  have hlt := (show ∀ x ∈ bitsOf h l, x < 128 from fun x hx => bitsOf_lt hx)
  have hle := (show (bitsOf h l).length ≤ 128 from by unfold bitsOf; exact Nat.le_trans (List.length_filter_le _ _) (by simp))
  obtain ⟨BB, hBB⟩ : ∃ BB, BB = bools h l := ⟨_, rfl⟩
  have hbl : BB.length = 128 := hBB ▸ bools_len128 _ _
  rw [← hBB] at HO HLi
  obtain ⟨R, hR⟩ : ∃ R, R = bitsOf h l := ⟨_, rfl⟩
  rw [← hR] at HLi hlt hle ⊢
  obtain ⟨N, hN⟩ : ∃ N, N = R.length := ⟨_, rfl⟩
  rw [← hN] at HLi hle ⊢
  have HN := Lib.hid hN
  have HLt := Lib.hid hlt
  have HBl := Lib.hid hbl
  have HS0 := Lib.hid ((Sep.init w).made 22 1 0 #[] (Nat.zero_le _) rfl)
  clear hBB hR h0 h1 hlt hN hbl
  go_enter Tryd.func8, Tryd.ntmps8
  go_wp2_with fail
  refine (HO.out _).mono ?_
  rintro e w2 ⟨a, c, rfl, hS⟩
  obtain ⟨a', c', e1, hj1, hj2, hrd⟩ := rdB_own (hS.own 0 rfl)
  clear hj1 hj2
  injection e1 with e1 e2 e3
  subst e1
  have HRd := Lib.hid hrd
  have HS2 := Lib.hid (HS0.out.keep hS.frm)
  clear hS e2 e3 hrd
  go_wp2_with fail
  refine (HLi.out a c _ HRd.out).mono ?_
  rintro e w3 ⟨a3, c3, rfl, hj1, hj2, hS⟩
  clear hj1 hj2
  have HS3 := Lib.hid (HS2.out.more hS).swap2
  clear hS
  obtain ⟨g0, hg0⟩ : ∃ g0, g0 = w.heap.size := ⟨_, rfl⟩
  rw [← hg0] at HS3 ⊢
  clear hg0 HS2 HS0 HRd
  go_wp2_with fail
  go_loopw [7, 9] (fun v i wr => ∃ j : Nat, j ≤ N ∧ i = .int .i64 (j : Int) ∧ Sep [] w wr [ownR 22 1 v j ((R.take j).map (encU b)), ownR 3 1 (.slice a3 N c3) N (R.map encI)]) (fun _ i _ => N - (intOf i).toNat)
  case atStart => exact ⟨0, by omega, rfl, HS3.out⟩
  case round =>
    obtain ⟨j, hj, rfl, hS⟩ := hrel
    have HS := Lib.hid hS
    clear hS
    by_cases hlt : j < N
    · obtain ⟨g, rfl⟩ := own_addr2 (HS.out.own 1 rfl) (by omega)
      obtain ⟨x, hx⟩ : ∃ x, R[j]? = some x := ⟨_, List.getElem?_eq_getElem (by rw [← HN.out]; exact hlt)⟩
      have hxl := HLt.out x (List.mem_of_getElem? hx)
      have cx : _ = some (encI x) := own_cell2 (HS.out.own 1 rfl) (j := j) (by rw [List.getElem?_map, hx]; rfl)
      have htk : (R.take (j + 1)).map (encU b) = (R.take j).map (encU b) ++ [encU b x] := by rw [List.take_add_one, hx, List.map_append]; rfl
      unfold encI at cx
      have HTk := Lib.hid htk
      have HA := Lib.hid (fun W => radd_c (b : Int) (x : Int) W (by omega) (by omega))
      rw [add_ad] at HA
      have i0' : (0 : Int) ≤ (j : Int) := by omega
      have i1 : (j : Int) < (N : Int) := by omega
      clear hx htk hxl
      go_wp2_with fail
      refine (HA.out _).mono ?_
      rintro e w5 ⟨rfl, rfl⟩
      clear cx
      go_wp2_with (at_builtin; refine wpList_append_sep rfl _ _ 24 rfl 0 22 i0 (.int .u16 0) 2 Tryd.underlying24 hi hz0 hz1 hz2 rfl _ _ _ rfl (HS.out.skip _) rfl _ 1 (.int .u16 (adN b x : Int)) rfl (World.cell?_alloc_at _ _ _ _ rfl) rfl (by unfold maxLen; omega) (by omega) ?_; intro g4 c4 w4 hS4; have HS4 := Lib.hid hS4; clear hS4)
      go_roundw
      case rel => exact ⟨j + 1, by omega, by go_num, by rw [HTk.out]; exact HS4.out⟩
      case measure => simp [intOf]; omega
    · obtain rfl : j = N := by omega
      have htk : R.take j = R := by rw [HN.out]; exact List.take_length
      rw [htk] at HS
      obtain ⟨a5, c5, hv, _⟩ := own_cases (HS.out.own 0 rfl)
      subst hv
      clear htk
      go_wp2_with fail
      go_ret
      exact ⟨_, rfl, HS.out.only 0 rfl⟩

/-- How many bits a form must have, case by case. -/
theorem ndN_if (L : Int) : ndN L = if L < 0 then 0 else if L < 15 then 15 else if L < 16 then 16 else if L < 46 then 46 else if L < 48 then 48 else if L < 109 then 109 else 128 := by
  unfold ndN ndL
  by_cases h0 : L < 0
  · rw [if_pos h0, if_pos h0]
  · rw [if_neg h0, if_neg h0]
    simp only [List.find?_cons, List.find?_nil]
    by_cases h1 : L < 15
    · rw [decide_eq_true h1, if_pos h1]
    rw [decide_eq_false h1, if_neg h1]
    by_cases h1 : L < 16
    · rw [decide_eq_true h1, if_pos h1]
    rw [decide_eq_false h1, if_neg h1]
    by_cases h1 : L < 46
    · rw [decide_eq_true h1, if_pos h1]
    rw [decide_eq_false h1, if_neg h1]
    by_cases h1 : L < 48
    · rw [decide_eq_true h1, if_pos h1]
    rw [decide_eq_false h1, if_neg h1]
    by_cases h1 : L < 109
    · rw [decide_eq_true h1, if_pos h1]
    rw [decide_eq_false h1, if_neg h1]
def nd6 : List Int := [15, 16, 46, 48, 109, 128]
theorem nd6_is {L : Int} {j : Nat} (h0 : 0 ≤ L) (hj : j < 6) (hp : ∀ k, k < j → nd6.getD k 0 ≤ L) (hv : L < nd6.getD j 0) : ndN L = nd6.getD j 0 := by
  rw [ndN_if]
  rcases (show j = 0 ∨ j = 1 ∨ j = 2 ∨ j = 3 ∨ j = 4 ∨ j = 5 by omega) with rfl | rfl | rfl | rfl | rfl | rfl
  · have v : L < 15 := hv
    rw [if_neg (by omega), if_pos v]; rfl
  · have v : L < 16 := hv
    have p0 : 15 ≤ L := hp 0 (by decide)
    rw [if_neg (by omega), if_neg (by omega), if_pos v]; rfl
  · have v : L < 46 := hv
    have p0 : 16 ≤ L := hp 1 (by decide)
    rw [if_neg (by omega), if_neg (by omega), if_neg (by omega), if_pos v]; rfl
  · have v : L < 48 := hv
    have p0 : 46 ≤ L := hp 2 (by decide)
    rw [if_neg (by omega), if_neg (by omega), if_neg (by omega), if_neg (by omega), if_pos v]; rfl
  · have v : L < 109 := hv
    have p0 : 48 ≤ L := hp 3 (by decide)
    rw [if_neg (by omega), if_neg (by omega), if_neg (by omega), if_neg (by omega), if_neg (by omega), if_pos v]; rfl
  · have v : L < 128 := hv
    have p0 : 109 ≤ L := hp 4 (by decide)
    rw [if_neg (by omega), if_neg (by omega), if_neg (by omega), if_neg (by omega), if_neg (by omega), if_neg (by omega)]; rfl

set_option maxRecDepth 100000 in
set_option maxHeartbeats 4000000 in
theorem rneeds_c (h l : Nat) (w : World) (h0 : h < 18446744073709551616) (h1 : l < 18446744073709551616) :
    Calls Tryd.prog 18 #[.int .u64 (h : Int), .int .u64 (l : Int)] w fun e w' => e = .returned (.int .i64 (ndN (lastOf (bitsOf h l)))) ∧ Frm [] w w' := by
  have HO := Lib.hid (fun W => rof_c h l W h0 h1)
  have HLi := Lib.hid (fun a c W hW => rlist_c a c (bools h l) W hW (bools_len128 _ _))
  rw [liB_all] at HLi
  have hle := (show (bitsOf h l).length ≤ 128 from by unfold bitsOf; exact Nat.le_trans (List.length_filter_le _ _) (by simp))
  have hlt := (show ∀ x ∈ bitsOf h l, x < 128 from fun x hx => bitsOf_lt hx)
  have hla := lastOf_cases (bitsOf h l)
  obtain ⟨BB, hBB⟩ : ∃ BB, BB = bools h l := ⟨_, rfl⟩
  rw [← hBB] at HO HLi
  obtain ⟨R, hR⟩ : ∃ R, R = bitsOf h l := ⟨_, rfl⟩
  rw [← hR] at HLi hlt hle hla ⊢
  have hcell : ∀ k : Nat, k + 1 = R.length → R[k]? = some (lastOf R).toNat ∧ 0 ≤ lastOf R ∧ lastOf R < 128 := fun k hk => by
    obtain ⟨x, hx⟩ : ∃ x, R[k]? = some x := ⟨_, List.getElem?_eq_getElem (by omega)⟩
    have hl : R.getLast? = some x := by rw [List.getLast?_eq_getElem?, show R.length - 1 = k by omega]; exact hx
    have h2 : lastOf R = (x : Int) := by unfold lastOf; rw [hl]
    have h3 := hlt x (List.mem_of_getElem? hx)
    rw [h2]
    exact ⟨by rw [Int.toNat_natCast]; exact hx, by omega, by omega⟩
  have hnil : R.length = 0 → ndN (lastOf R) = 0 := fun h => by
    rw [List.length_eq_zero_iff.1 h]; rfl
  obtain ⟨L, hL⟩ : ∃ L, L = lastOf R := ⟨_, rfl⟩
  rw [← hL] at hcell hnil ⊢
  obtain ⟨N, hN⟩ : ∃ N, N = R.length := ⟨_, rfl⟩
  rw [← hN] at HLi hle hcell hnil
  have HC := Lib.hid hcell
  have HNil := Lib.hid hnil
  have HN := Lib.hid hN
  clear hBB hR h0 h1 hlt hN hla hL hcell hnil
  go_enter Tryd.func18, Tryd.ntmps18
  go_wp2_with fail
  refine (HO.out _).mono ?_
  rintro e w2 ⟨a, c, rfl, hS⟩
  obtain ⟨a', c', e1, hj1, hj2, hrd⟩ := rdB_own (hS.own 0 rfl)
  clear hj1 hj2
  injection e1 with e1 e2 e3
  subst e1
  have HRd := Lib.hid hrd
  have HF2 := Lib.hid hS.frm
  clear hS e2 e3 hrd
  go_wp2_with fail
  refine (HLi.out a c _ HRd.out).mono ?_
  rintro e w3 ⟨a3, c3, rfl, hj1, hj2, hS⟩
  clear hj1 hj2
  have HS3 := Lib.hid (sep_rebase HF2.out hS)
  clear hS
  by_cases hz : N = 0
  · have b1 : ((N : Int) == 0) = true := beq_iff_eq.2 (by omega)
    have HE := Lib.hid (HNil.out hz)
    clear hz
    go_wp2_with fail
    go_ret
    exact ⟨by rw [HE.out]; rfl, HS3.out.frm⟩
  · have b1 : ((N : Int) == 0) = false := beq_eq_false_iff_ne.2 (by omega)
    obtain ⟨k, rfl⟩ : ∃ k, N = k + 1 := ⟨N - 1, by omega⟩
    obtain ⟨hck, hl0, hl1⟩ := HC.out k rfl
    obtain ⟨g, rfl⟩ := own_addr2 (HS3.out.own 0 rfl) (by omega)
    have cx : _ = some (encI L.toNat) := own_cell2 (HS3.out.own 0 rfl) (j := k) (by rw [List.getElem?_map, hck]; rfl)
    unfold encI at cx
    rw [show ((L.toNat : Nat) : Int) = L by omega] at cx
    have hgl : g < w3.heap.size := ((HS3.out.own 0 rfl).lt g rfl).2
    have e1 : IntKind.i64.wrap (((k + 1 : Nat) : Int) - 1) = (k : Int) := by rw [show ((k + 1 : Nat) : Int) - 1 = (k : Int) by omega]; exact IntWalk.i64_in _ (by omega)
    have k0 : (0 : Int) ≤ (k : Int) := by omega
    have k1 : (k : Int) < ((k + 1 : Nat) : Int) := by omega
    have HB := Lib.hid (Blk.made w3 3 #[.int .i64 15, .int .i64 16, .int .i64 46, .int .i64 48, .int .i64 109, .int .i64 128])
    have HF2 := Lib.hid (HS3.out.frm.alloc (.cells #[.int .i64 15, .int .i64 16, .int .i64 46, .int .i64 48, .int .i64 109, .int .i64 128] 3))
    have HC2 := Lib.hid (show (w3.alloc (.cells #[.int .i64 15, .int .i64 16, .int .i64 46, .int .i64 48, .int .i64 109, .int .i64 128] 3)).cell? ⟨g, k, none⟩ = some (.int .i64 L) from by rw [((Frm.refl [] w3).alloc (.cells #[.int .i64 15, .int .i64 16, .int .i64 46, .int .i64 48, .int .i64 109, .int .i64 128] 3)).cell hgl (by simp)]; exact cx)
    clear hz hck cx hgl HC HNil HN
    go_upto_region 5 with fail
    obtain ⟨w4, hw4⟩ : ∃ w4, w4 = w3.alloc (.cells #[.int .i64 15, .int .i64 16, .int .i64 46, .int .i64 48, .int .i64 109, .int .i64 128] 3) := ⟨_, rfl⟩
    rw [← hw4] at HB HF2 HC2
    rw [← hw4]
    obtain ⟨q, hq⟩ : ∃ q, q = w3.heap.size := ⟨_, rfl⟩
    rw [← hq] at HB
    rw [← hq]
    clear hw4 hq b1
    go_wp2_with fail
    go_loopw [7] (fun i wr => ∃ j m : Nat, j ≤ 6 ∧ i = .int .i64 (j : Int) ∧ (∀ n : Nat, n < j → nd6.getD n 0 ≤ L) ∧ wr = w4.drewN m) (fun i _ => 6 - (intOf i).toNat)
    case atStart => exact ⟨0, 0, by omega, rfl, fun n hn => by omega, rfl⟩
    case round =>
      obtain ⟨j, m, hj, rfl, hp, rfl⟩ := hrel
      have HP := Lib.hid hp
      clear hp
      by_cases hjl : j < 6
      · have c1 := HC2.out
        obtain ⟨y, hy⟩ : ∃ y, y = nd6.getD j 0 := ⟨_, rfl⟩
        have c2 : w4.cell? ⟨q, j, none⟩ = some (.int .i64 y) := HB.out.cell j (by
          rw [hy]
          rcases (show j = 0 ∨ j = 1 ∨ j = 2 ∨ j = 3 ∨ j = 4 ∨ j = 5 by omega) with rfl | rfl | rfl | rfl | rfl | rfl <;> rfl)
        have hfin := fun hv : L < nd6.getD j 0 => nd6_is hl0 hjl HP.out hv
        have hnx := fun hv : ¬ L < nd6.getD j 0 => (show ∀ n : Nat, n < j + 1 → nd6.getD n 0 ≤ L from fun n hn => by
          rcases Nat.lt_succ_iff_lt_or_eq.1 hn with h | h
          · exact HP.out n h
          · subst h; omega)
        rw [← hy] at hfin hnx
        have HFin := Lib.hid hfin
        have HNx := Lib.hid hnx
        have j0 : (0 : Int) ≤ (j : Int) := by omega
        have j1 : (j : Int) < 6 := by omega
        clear hfin hnx hy HP
        by_cases hv : L < y
        · have b1 : decide (L < y) = true := decide_eq_true hv
          have HE := Lib.hid (HFin.out hv)
          clear hv HFin HNx
          go_wp2_with fail
          go_quiet (fail)
          go_wp2_with fail
          go_ret
          exact ⟨by rw [HE.out]; rfl, HF2.out.drewN _⟩
        · have b1 : decide (L < y) = false := decide_eq_false hv
          have HE := Lib.hid (HNx.out hv)
          clear hv HFin HNx
          go_wp2_with fail
          go_quiet (fail)
          go_wp2_with fail
          go_roundw
          case rel => exact ⟨j + 1, _, by omega, by go_num, HE.out, rfl⟩
          case measure => simp [intOf]; omega
      · obtain rfl : j = 6 := by omega
        have h128 := HP.out 5 (by decide)
        exact absurd h128 (by show ¬ (128 : Int) ≤ L; omega)

end Go.Proofs.YtibccecmicndaaaDoor
