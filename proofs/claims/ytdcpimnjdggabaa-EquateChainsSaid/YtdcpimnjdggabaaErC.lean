/-
  THE WALK of the reference's Peel.
-/
import Derived.Test.YtdcpimnjdggabaaErB
import Derived.Test.YtdcpimnjdggabaaArr
import Derived.Test.YtdcpimnjdggabaaRow
import Derived.Deep.LoopGhost
set_option linter.unusedVariables false
set_option linter.unusedSimpArgs false
namespace Go.Proofs.Ytdcpimnjdggabaa
open Go.RowKit

theorem info_told : (Try.prog.info? 32).map (fun i => (i.zero, i.size, i.bytes)) = some (some (.agg #[.int .i64 0, .int .i64 0]), 2, 16) := by kernel_rfl
/-- The cells of what was told. -/
def tCells (out : List (Int × Nat)) : List Value := out.flatMap fun x => [.int .i64 x.1, .int .i64 x.2]
theorem own_form {w : World} {base e size : Nat} {v : Value} {n : Nat} {xs : List Value} (h : w.ownsRow base e size v n xs) : ∃ a c, v = .slice a n c := by
  rcases h.2 with ⟨rfl, h0⟩ | ⟨g, cap, cur, rfl, _⟩
  · exact ⟨none, 0, by rw [h0]⟩
  · exact ⟨_, _, rfl⟩
theorem tCells_snoc (out : List (Int × Nat)) (x : Int) (i : Nat) : tCells (out ++ [(x, i)]) = tCells out ++ [.int .i64 x, .int .i64 i] := by simp [tCells]

set_option maxRecDepth 100000 in
set_option maxHeartbeats 8000000 in
theorem rpeel_c (ak : Option Addr) (ck : Nat) (ks : List Int) (a : Option Addr) (c : Nat) (rs : List (Row Int)) (w : World) (hck : ak = none → ck = 0) (hk : RdZ w ak ks) (hr : RdRows (Value.int .i64) w a rs)
    (hkl : ks.length ≤ 1000) (hl : rs.length ≤ 1000) (hrr : ∀ r ∈ rs, r.xs.length ≤ 1000) (hsum : (rs.map (·.xs)).flatten.length ≤ 50000) :
    Calls Try.prog 9 #[.slice ak ks.length ck, .slice a rs.length c] w fun e w' => ∃ v, e = .returned v ∧ Sep [] w w' [ownR 32 2 v (peel ks (rs.map (·.xs))).length (tCells (peel ks (rs.map (·.xs))))] := by
  obtain ⟨i0, hi, hz0, hz1, hz2⟩ := info_parts info_int
  obtain ⟨i1, ji, jz0, jz1, jz2⟩ := info_parts info_told
  obtain ⟨E, hE⟩ : ∃ E, E = rs.map (·.xs) := ⟨_, rfl⟩
  rw [← hE] at hsum ⊢
  have HE := Lib.hid hE
  obtain ⟨NN, hNN⟩ : ∃ NN, NN = E.flatten.length := ⟨_, rfl⟩
  rw [← hNN] at hsum
  have HNN := Lib.hid hNN
  have HK := Lib.hid hk
  have HR := Lib.hid hr
  have HRr := Lib.hid hrr
  have HS := Lib.hid ((Sep.init w).made 3 1 0 #[] (Nat.zero_le _) rfl)
  clear hE hNN hk hr hrr
  go_enter Try.func9, Try.ntmps9
  go_upto_region 3 with (at_builtin; refine wpList_append_ints rfl _ _ 22 rfl 0 3 i0 (.int .i64 0) 8 Try.underlying22 hi hz0 hz1 hz2 rfl .i64 _ 0 [] rfl HS.out rfl ak ck ks rfl hck (HK.out.below HS.out.frm.below).ints (by unfold maxLen; omega) (by omega) ?_; intro v1 w1 hS1; have HS1 := Lib.hid hS1; clear hS1)
  have HS2 := Lib.hid (HS1.out.made 32 2 0 #[] (Nat.zero_le _) rfl)
  go_wp2_with fail
  go_loopg [6, 5] NN (fun gk vo va wr => ∃ (k : Nat), gk = NN - (its ks E k).length ∧ Sep [] w wr [ownR 32 2 vo (its ks E k).length (tCells (its ks E k)), ownR 3 1 va (ks ++ (its ks E k).map (·.1)).length ((ks ++ (its ks E k).map (·.1)).map (Value.int .i64))])
  case atStart =>
    refine ⟨0, by simp [its], ?_⟩
    have h := HS2.out
    simp only [Nat.zero_add, List.nil_append] at h
    simpa [its, tCells] using h
  case round =>
    obtain ⟨k, hgk, hS⟩ := hrel
    obtain ⟨wo, hwo⟩ : ∃ wo : World, wo = wr := ⟨_, rfl⟩
    subst hwo
    have hkb := told_len (told_its (base := ks) (eqs := E) k)
    obtain ⟨o, ho⟩ : ∃ o, o = its ks E k := ⟨_, rfl⟩
    rw [← ho] at hS hgk hkb
    rw [← HNN.out] at hkb
    obtain ⟨ao, co, rfl⟩ := own_form (hS.own 0 rfl)
    have HS3 := Lib.hid hS
    have HO := Lib.hid ho
    have HGk := Lib.hid hgk
    clear hS ho hgk HS HS1 HS2
    go_wp2_with fail
    go_loopw [8, 6, 5] (fun i vo va wr => ∃ (j : Nat), j ≤ rs.length ∧ i = .int .i64 j ∧ Sep [] w wr [ownR 32 2 vo (rnd ks E j o).length (tCells (rnd ks E j o)), ownR 3 1 va (ks ++ (rnd ks E j o).map (·.1)).length ((ks ++ (rnd ks E j o).map (·.1)).map (Value.int .i64))]) (fun i _ _ _ => rs.length - (intOf i).toNat)
    case atStart => exact ⟨0, Nat.zero_le _, rfl, HS3.out⟩
    case round =>
      obtain ⟨j, hj, rfl, hS⟩ := hrel
      have hq := told_len (told_rnd (base := ks) (eqs := E) j (out := o) (HO.out ▸ told_its k))
      rw [← HNN.out] at hq
      obtain ⟨q, hqe⟩ : ∃ q, q = rnd ks E j o := ⟨_, rfl⟩
      rw [← hqe] at hS hq
      have HQ := Lib.hid hqe
      clear hqe
      by_cases hlt : j < rs.length
      · have hwb := hS.frm.below
        obtain ⟨b, off, r, hre, hrm, hts, rfl, hb, hc, hrd⟩ := rows_at (HR.out.below hwb) hlt
        obtain ⟨ra, rc, xs⟩ := r
        dsimp only at hc hrd
        have hxl := HRr.out _ hrm
        dsimp only at hxl
        have hEj : E.getD j [] = xs := by rw [HE.out, List.getD_eq_getElem?_getD, List.getElem?_map, hre]; rfl
        have hstep : rnd ks E (j + 1) o = rstep ks j xs q := by rw [← hEj, HQ.out]; rfl
        have hcs := rstep_cases ks j xs q
        obtain ⟨av, cv, rfl, hvl, _, hvn, hrv⟩ := own_Z (hS.own 1 rfl)
        have hal : (ks ++ q.map (·.1)).length ≤ 100000 := by simp; omega
        have HOpen := Lib.hid (ropen_c av cv (ks ++ q.map (·.1)) ra rc xs wr hrv hrd hal (by omega))
        have HSt := Lib.hid hstep
        obtain ⟨ao2, co2, rfl⟩ := own_form (hS.own 0 rfl)
        have HS4 := Lib.hid hS
        have ij : (j : Int) < (rs.length : Int) := by omega
        obtain ⟨al, hale⟩ : ∃ al, al = ks ++ q.map (·.1) := ⟨_, rfl⟩
        rw [← hale] at HOpen HS4 hcs hal ⊢
        have HAl := Lib.hid hale
        clear hS hwb hre hrm hts hb hrd hEj hstep hvl hvn hrv hale
        rcases hcs with ⟨hne, hrs⟩ | ⟨x, hone, hrs⟩
        · obtain ⟨N, hN⟩ : ∃ N, N = (opn al xs).length := ⟨_, rfl⟩
          rw [← hN] at HOpen hne
          have hNl : N ≤ 1000 := by have := opn_len al xs; omega
          have b1 : ((N : Int) == 1) = false := by rw [beq_eq_false_iff_ne]; omega
          have HRs := Lib.hid hrs
          clear hN hrs hne
          go_wp2_with fail
          refine HOpen.out.mono ?_
          rintro e w5 ⟨v, rfl, hS5⟩
          obtain ⟨a5, c5, rfl⟩ := own_form (hS5.own 0 rfl)
          have HS5 := Lib.hid (HS4.out.keep hS5.frm)
          clear hS5 hc
          go_wp2_with fail
          go_roundw
          case rel => exact ⟨j + 1, by omega, by go_num, by rw [HSt.out, HRs.out, ← HAl.out]; exact HS5.out⟩
          case measure => simp [intOf]; omega
        · rw [hone] at HOpen
          have HRs := Lib.hid hrs
          clear hone hrs
          go_wp2_with fail
          refine HOpen.out.mono ?_
          rintro e w5 ⟨v, rfl, hS5⟩
          obtain ⟨a5, c5, rfl, _, _, _, hr5⟩ := own_Z (zs := [x]) (hS5.own 0 rfl)
          obtain ⟨g, o5, y, hy, rfl, _, hc5⟩ := hr5.at_ (j := 0) (by simp)
          obtain rfl : y = x := hy
          rw [Nat.add_zero] at hc5
          have HS5 := Lib.hid (HS4.out.gains hS5)
          clear hS5 hc hr5 HOpen
          go_upto_region 11 with (first | (refine wpList_build_one rfl 26 32 (.tmp 37) rfl #[.int .i64 y, .int .i64 j] rfl i1 _ 2 Try.underlying26 ji jz0 jz1 (by omega) (by omega) rfl ?_) | (at_builtin; refine wpList_append_arr rfl (.tmp 32) (.tmp 38) 26 rfl 1 32 i1 _ 2 16 Try.underlying26 ji jz0 jz1 jz2 rfl (by omega) _ q.length _ rfl (HS5.out.skip _) rfl _ #[.int .i64 y, .int .i64 j] rfl rfl (Blk.made _ _ _) (fun u hu => by simp at hu; rcases hu with rfl | rfl <;> rfl) (by unfold maxLen; omega) (by omega) ?_; intro v6 w6 hS6; have HS6 := Lib.hid hS6; clear hS6))
          have hx6 := own_Z (zs := [y]) (HS6.out.own 0 rfl)
          obtain ⟨a6, c6, hv6, _, _, _, hr6⟩ := hx6
          cases hv6
          obtain ⟨g6, o6, y6, hy6, hg6, _, hc6⟩ := hr6.at_ (j := 0) (by simp)
          cases hg6
          obtain rfl : y6 = y := hy6
          rw [Nat.add_zero] at hc6
          clear hr6 hc5
          go_wp2_with (at_builtin; refine wpList_append_sep rfl _ _ 22 rfl 2 3 i0 (.int .i64 0) 8 Try.underlying22 hi hz0 hz1 hz2 rfl _ _ _ rfl (HS6.out.skip _) rfl _ 1 (.int .i64 y6) rfl (World.cell?_alloc_at _ _ _ _ rfl) rfl (by unfold maxLen; omega) (by omega) ?_; intro g7 c7 w7 hS7; have HS7 := Lib.hid hS7; clear hS7)
          go_roundw
          case rel =>
            refine ⟨j + 1, by omega, by go_num, ?_⟩
            have h := HS7.out.tail
            rw [HSt.out, HRs.out, tCells_snoc, List.length_append, List.map_append, ← List.append_assoc, ← HAl.out, List.length_append, List.map_append]
            exact h
          case measure => simp [intOf]; omega
      · obtain rfl : j = rs.length := by omega
        have hEl : rs.length = E.length := by rw [HE.out, List.length_map]
        have hits : rnd ks E rs.length o = its ks E (k + 1) := by rw [hEl, HO.out]; rfl
        have hgrow := (its_step (base := ks) (eqs := E) k).length_le
        have hqi : q = its ks E (k + 1) := HQ.out.trans hits
        obtain ⟨ao2, co2, rfl⟩ := own_form (hS.own 0 rfl)
        rw [← hqi, ← HO.out] at hgrow
        have HS8 := Lib.hid hS
        have HQi := Lib.hid hqi
        clear hS hEl hits hqi
        by_cases he : q.length = o.length
        · have b1 : ((q.length : Int) == (o.length : Int)) = true := by rw [beq_iff_eq]; omega
          have hfix : its ks E (k + 1) = its ks E k := by
            have h := its_step (base := ks) (eqs := E) k
            rw [← HQi.out, ← HO.out] at h ⊢
            exact (pre_eq h (by omega)).symm
          have hpe : q = peel ks E := by rw [HQi.out, hfix]; exact peel_of_fix hfix
          have HP := Lib.hid hpe
          clear he hfix hpe
          go_wp2_with fail
          go_ret
          exact ⟨_, rfl, by rw [← HP.out]; exact HS8.out.only 0 rfl⟩
        · have b1 : ((q.length : Int) == (o.length : Int)) = false := by rw [beq_eq_false_iff_ne]; omega
          go_wp2_with fail
          go_roundg (NN - q.length)
          case rel => exact ⟨k + 1, by rw [← HQi.out], by rw [← HQi.out]; exact HS8.out⟩
          case measure =>
            have := HGk.out
            omega

end Go.Proofs.Ytdcpimnjdggabaa
