/-
  THE WALKS of the reference's Closure and Peelable.
-/
import Derived.Test.YtdcpimnjdggabaaErC
set_option linter.unusedVariables false
set_option linter.unusedSimpArgs false
namespace Go.Proofs.Ytdcpimnjdggabaa
open Go.RowKit

def tRows (out : List (Int × Nat)) : List (List Value) := out.map fun x => [.int .i64 x.1, .int .i64 x.2]
theorem tRows_flat (out : List (Int × Nat)) : (tRows out).flatten = tCells out := by
  induction out with
  | nil => rfl
  | cons x r ih => simp [tRows, tCells] at ih ⊢; exact ih
theorem tRows_len (out : List (Int × Nat)) : ∀ r ∈ tRows out, r.length = 2 := fun r hr => by
  obtain ⟨x, _, rfl⟩ := List.mem_map.1 hr
  rfl
/-- What was told, read. -/
theorem told_at {w : World} {v : Value} {n : Nat} {R : List (Int × Nat)} (h : w.ownsRow 0 32 2 v n (tCells R)) (hn : n = R.length) : ∃ a c, v = .slice a R.length c ∧ R.length ≤ c ∧
    ∀ i x, R[i]? = some x → ∃ b off, a = some ⟨b, off, none⟩ ∧ b < w.heap.size ∧ w.cell? ⟨b, off + i * 2, none⟩ = some (.int .i64 x.1) ∧ w.cell? ⟨b, off + i * 2 + 1, none⟩ = some (.int .i64 x.2) := by
  rw [← tRows_flat] at h
  have hl : (tRows R).length = R.length := List.length_map _
  obtain ⟨a, c, hv, hc, _, _, hrd, hb⟩ := RdS.of_own h (tRows_len R) (by decide) (hn.trans hl.symm)
  rw [hl] at hv hc
  refine ⟨a, c, hv, hc, fun i x hx => ?_⟩
  obtain ⟨b, off, ha, hbl, hcell⟩ := hrd i [.int .i64 x.1, .int .i64 x.2] (by unfold tRows; rw [List.getElem?_map, hx]; rfl)
  exact ⟨b, off, ha, hbl, hcell 0 _ rfl, hcell 1 _ rfl⟩

set_option maxRecDepth 100000 in
set_option maxHeartbeats 4000000 in
theorem rclosure_c (ak : Option Addr) (ck : Nat) (ks : List Int) (a : Option Addr) (c : Nat) (rs : List (Row Int)) (w : World) (hck : ak = none → ck = 0) (hk : RdZ w ak ks) (hr : RdRows (Value.int .i64) w a rs)
    (hkl : ks.length ≤ 1000) (hl : rs.length ≤ 1000) (hrr : ∀ r ∈ rs, r.xs.length ≤ 1000) (hsum : (rs.map (·.xs)).flatten.length ≤ 50000) :
    Calls Try.prog 13 #[.slice ak ks.length ck, .slice a rs.length c] w fun e w' => ∃ v, e = .returned v ∧ Sep [] w w' [ownR 3 1 v (clo ks (rs.map (·.xs))).length ((clo ks (rs.map (·.xs))).map (Value.int .i64))] := by
  obtain ⟨i0, hi, hz0, hz1, hz2⟩ := info_parts info_int
  have hpl := peel_len (base := ks) (eqs := rs.map (·.xs))
  have hpeel := fun w1 (h : Below w.heap.size w w1) => rpeel_c ak ck ks a c rs w1 hck (hk.below h) (hr.below h) hkl hl hrr hsum
  obtain ⟨CL, hCL⟩ : ∃ CL, CL = clo ks (rs.map (·.xs)) := ⟨_, rfl⟩
  rw [← hCL]
  unfold clo at hCL
  obtain ⟨R, hR⟩ : ∃ R, R = peel ks (rs.map (·.xs)) := ⟨_, rfl⟩
  rw [← hR] at hpl hpeel hCL
  have HCL := Lib.hid hCL
  clear hCL
  have hRl : R.length ≤ 50000 := by omega
  have HPe := Lib.hid hpeel
  have HK := Lib.hid hk
  have HS := Lib.hid ((Sep.init w).made 3 1 0 #[] (Nat.zero_le _) rfl)
  clear hpl hpeel hk hr hrr hsum hR
  go_enter Try.func13, Try.ntmps13
  go_upto_region 3 with (at_builtin; refine wpList_append_ints rfl _ _ 22 rfl 0 3 i0 (.int .i64 0) 8 Try.underlying22 hi hz0 hz1 hz2 rfl .i64 _ 0 [] rfl HS.out rfl ak ck ks rfl hck (HK.out.below HS.out.frm.below).ints (by unfold maxLen; omega) (by omega) ?_; intro v1 w1 hS1; have HS1 := Lib.hid hS1; clear hS1)
  go_wp2_with fail
  refine (HPe.out w1 HS1.out.frm.below).mono ?_
  rintro e w2 ⟨v2, rfl, hS2⟩
  have HS2 := Lib.hid (HS1.out.gains hS2)
  obtain ⟨at_, ct, rfl, _, _⟩ := told_at (hS2.own 0 rfl) rfl
  clear hS2
  go_wp2_with fail
  go_loopw [7, 5] (fun i v wr => ∃ n : Nat, n ≤ R.length ∧ i = .int .i64 n ∧ Sep [] w wr [ownR 32 2 (.slice at_ R.length ct) R.length (tCells R), ownR 3 1 v (ks ++ (R.take n).map (·.1)).length ((ks ++ (R.take n).map (·.1)).map (Value.int .i64))]) (fun i _ _ => R.length - (intOf i).toNat)
  case atStart =>
    refine ⟨0, Nat.zero_le _, rfl, ?_⟩
    have h := HS2.out
    simp only [Nat.zero_add, List.nil_append] at h
    simpa using h
  case round =>
    obtain ⟨n, hn, rfl, hS⟩ := hrel
    by_cases hlt : n < R.length
    · obtain ⟨a2, c2, hv2, _, hcells⟩ := told_at (hS.own 0 rfl) rfl
      cases hv2
      obtain ⟨b, off, rfl, _, hc, _⟩ := hcells n R[n] (List.getElem?_eq_getElem hlt)
      have hts : R.take (n + 1) = R.take n ++ [R[n]] := List.take_succ_eq_append_getElem hlt
      obtain ⟨x, hx⟩ : ∃ x, x = R[n].1 := ⟨_, rfl⟩
      rw [← hx] at hc
      have hq : (R.take n).length ≤ 50000 := by rw [List.length_take]; omega
      obtain ⟨q, hqe⟩ : ∃ q, q = ks ++ (R.take n).map (·.1) := ⟨_, rfl⟩
      have hql : q.length ≤ 51000 := by rw [hqe]; simp only [List.length_append, List.length_map]; omega
      have hnext : ks ++ (R.take (n + 1)).map (·.1) = q ++ [x] := by rw [hts, List.map_append, ← List.append_assoc, ← hqe, hx]; rfl
      rw [← hqe] at hS
      have HS3 := Lib.hid hS
      have HNx := Lib.hid hnext
      have i1 : (n : Int) < (R.length : Int) := by omega
      clear hS hcells hts hx hq hqe hnext
      go_wp2_with (at_builtin; refine wpList_append_sep rfl _ _ 22 rfl 1 3 i0 (.int .i64 0) 8 Try.underlying22 hi hz0 hz1 hz2 rfl _ _ _ rfl (HS3.out.skip _) rfl _ 1 (.int .i64 x) rfl (World.cell?_alloc_at _ _ _ _ rfl) rfl (by unfold maxLen; omega) (by omega) ?_; intro g4 c4 w4 hS4; have HS4 := Lib.hid hS4; clear hS4)
      go_roundw
      case rel => exact ⟨n + 1, by omega, by go_num, by rw [HNx.out, List.length_append, List.map_append]; exact HS4.out⟩
      case measure => simp [intOf]; omega
    · obtain rfl : n = R.length := by omega
      rw [List.take_length, ← HCL.out] at hS
      have HS3 := Lib.hid hS
      clear hS
      go_wp2_with fail
      go_ret
      exact ⟨u5, rfl, HS3.out.only 1 rfl⟩

/-- The known ones that were not lost. -/
def restL (lost ks : List Int) : List Int := ks.filter fun x => !isIn lost x
theorem restL_snoc (lost ks : List Int) (x : Int) : restL lost (ks ++ [x]) = if isIn lost x = true then restL lost ks else restL lost ks ++ [x] := by
  unfold restL
  rw [List.filter_append]
  cases h : isIn lost x <;> simp [h]
theorem restL_len (lost ks : List Int) : (restL lost ks).length ≤ ks.length := List.length_filter_le _ _
/-- Can all lost ones be told? -/
def plb (lost ks : List Int) (E : List (List Int)) : Bool := lost.all fun x => isIn (clo (restL lost ks) E) x
theorem plb_no {lost ks : List Int} {E : List (List Int)} (x : Int) (hx : x ∈ lost) (h : isIn (clo (restL lost ks) E) x = false) : plb lost ks E = false := by
  unfold plb
  rw [List.all_eq_false]
  exact ⟨x, hx, by simp [h]⟩
theorem plb_yes {lost ks : List Int} {E : List (List Int)} (h : ∀ x ∈ lost, isIn (clo (restL lost ks) E) x = true) : plb lost ks E = true := by
  unfold plb
  rw [List.all_eq_true]
  exact h

set_option maxRecDepth 100000 in
set_option maxHeartbeats 4000000 in
theorem rpeelable_c (al : Option Addr) (cl : Nat) (ls : List Int) (ak : Option Addr) (ck : Nat) (ks : List Int) (a : Option Addr) (c : Nat) (rs : List (Row Int)) (w : World) (hls : RdZ w al ls) (hk : RdZ w ak ks) (hr : RdRows (Value.int .i64) w a rs)
    (hll : ls.length ≤ 1000) (hkl : ks.length ≤ 1000) (hl : rs.length ≤ 1000) (hrr : ∀ r ∈ rs, r.xs.length ≤ 1000) (hsum : (rs.map (·.xs)).flatten.length ≤ 50000) :
    Calls Try.prog 18 #[.slice al ls.length cl, .slice ak ks.length ck, .slice a rs.length c] w fun e w' => e = .returned (.bool (plb ls ks (rs.map (·.xs)))) ∧ Frm [] w w' := by
  obtain ⟨i0, hi, hz0, hz1, hz2⟩ := info_parts info_int
  have hclo := fun (ar : Option Addr) (cr : Nat) (w1 : World) (h : Below w.heap.size w w1) (h1 : ar = none → cr = 0) (h2 : RdZ w1 ar (restL ls ks)) => rclosure_c ar cr (restL ls ks) a c rs w1 h1 h2 (hr.below h) (by have := restL_len ls ks; omega) hl hrr hsum
  have hq := peel_len (base := restL ls ks) (eqs := rs.map (·.xs))
  have hcl : (clo (restL ls ks) (rs.map (·.xs))).length ≤ 100000 := by have := restL_len ls ks; unfold clo; simp only [List.length_append, List.length_map]; omega
  have hno := @plb_no ls ks (rs.map (·.xs))
  have hyes := @plb_yes ls ks (rs.map (·.xs))
  obtain ⟨C, hC⟩ : ∃ C, C = clo (restL ls ks) (rs.map (·.xs)) := ⟨_, rfl⟩
  obtain ⟨B, hB⟩ : ∃ B, B = plb ls ks (rs.map (·.xs)) := ⟨_, rfl⟩
  rw [← hC] at hclo hcl
  rw [← hC, ← hB] at hno hyes
  rw [← hB]
  have HClo := Lib.hid hclo
  have HNo := Lib.hid hno
  have HYes := Lib.hid hyes
  have HK := Lib.hid hk
  have HL := Lib.hid hls
  have HS := Lib.hid ((Sep.init w).made 3 1 0 #[] (Nat.zero_le _) rfl)
  clear hclo hno hyes hk hls hC hB hr hrr hsum hq
  go_enter Try.func18, Try.ntmps18
  go_wp2_with fail
  go_loopw [8, 7] (fun i v wr => ∃ n : Nat, n ≤ ks.length ∧ i = .int .i64 n ∧ Sep [] w wr [ownR 3 1 v (restL ls (ks.take n)).length ((restL ls (ks.take n)).map (Value.int .i64))]) (fun i _ _ => ks.length - (intOf i).toNat)
  case atStart => exact ⟨0, Nat.zero_le _, rfl, HS.out⟩
  case round =>
    obtain ⟨n, hn, rfl, hS⟩ := hrel
    by_cases hlt : n < ks.length
    · obtain ⟨b, off, x, hx, rfl, hb, hc⟩ := (HK.out.below hS.frm.below).at_ hlt
      have i1 : (n : Int) < (ks.length : Int) := by omega
      have hsn := restL_snoc ls (ks.take n) x
      rw [hx, ← List.take_succ_eq_append_getElem hlt, ← hx] at hsn
      have hql := restL_len ls (ks.take n)
      have hql2 : (ks.take n).length ≤ n := List.length_take_le _ _
      obtain ⟨q, hqe⟩ : ∃ q, q = restL ls (ks.take n) := ⟨_, rfl⟩
      rw [← hqe] at hS hsn hql
      have HS2 := Lib.hid hS
      have HSn := Lib.hid hsn
      have HIn := Lib.hid (in_c al cl ls x wr (HL.out.below hS.frm.below) (by omega))
      clear hS hsn hqe hx hb
      cases hin : isIn ls x
      · rw [hin] at HIn HSn
        clear hin
        go_wp2_with fail
        refine HIn.out.mono ?_
        rintro e w' ⟨rfl, rfl⟩
        go_wp2_with (at_builtin; refine wpList_append_sep rfl _ _ 22 rfl 0 3 i0 (.int .i64 0) 8 Try.underlying22 hi hz0 hz1 hz2 rfl _ _ _ rfl (HS2.out.skip _) rfl _ 1 (.int .i64 x) rfl (World.cell?_alloc_at _ _ _ _ rfl) rfl (by unfold maxLen; omega) (by omega) ?_; intro g4 c4 w4 hS4; have HS4 := Lib.hid hS4; clear hS4)
        go_roundw
        case rel => exact ⟨n + 1, by omega, by go_num, by rw [HSn.out, if_neg (by decide), List.length_append, List.map_append]; exact HS4.out⟩
        case measure => simp [intOf]; omega
      · rw [hin] at HIn HSn
        clear hin
        go_wp2_with fail
        refine HIn.out.mono ?_
        rintro e w' ⟨rfl, rfl⟩
        go_wp2_with fail
        go_roundw
        case rel => exact ⟨n + 1, by omega, by go_num, by rw [HSn.out]; simp only [if_true]; exact HS2.out⟩
        case measure => simp [intOf]; omega
    · obtain rfl : n = ks.length := by omega
      rw [List.take_length] at hS
      obtain ⟨ar, cr, rfl, _, _, hcr, hrd⟩ := own_Z (hS.own 0 rfl)
      have HCl := Lib.hid (HClo.out ar cr wr hS.frm.below hcr hrd)
      have HF := Lib.hid hS.frm
      clear hS hcr hrd
      go_wp2_with fail
      refine HCl.out.mono ?_
      rintro e w3 ⟨v3, rfl, hS3⟩
      obtain ⟨a3, c3, rfl, _, _, _, hr3⟩ := own_Z (hS3.own 0 rfl)
      have HF3 := Lib.hid (HF.out.trans hS3.frm)
      have HC3 := Lib.hid hr3
      clear hS3 hr3 HCl
      go_wp2_with fail
      go_loop [10] (fun i => ∃ n : Nat, n ≤ ls.length ∧ i = .int .i64 n ∧ ∀ x ∈ ls.take n, isIn C x = true) (fun i => ls.length - (intOf i).toNat)
      case atStart => exact ⟨0, Nat.zero_le _, rfl, by simp⟩
      case round =>
        obtain ⟨n, hn, rfl, hall⟩ := hrel
        have HAll := Lib.hid hall
        clear hall
        by_cases hlt : n < ls.length
        · obtain ⟨b, off, x, hx, rfl, hb, hc⟩ := (HL.out.below HF3.out.below).at_ hlt
          have i1 : (n : Int) < (ls.length : Int) := by omega
          have HIn := Lib.hid (in_c a3 c3 C x w3 HC3.out (by omega))
          have HX := Lib.hid hx
          clear hx hb
          cases hin : isIn C x
          · rw [hin] at HIn
            have HHin := Lib.hid hin
            clear hin
            go_wp2_with fail
            refine HIn.out.mono ?_
            rintro e w' ⟨rfl, rfl⟩
            go_wp2_with fail
            go_ret
            exact ⟨ret_bool (HNo.out x (by rw [HX.out]; exact List.getElem_mem hlt) HHin.out).symm, HF3.out⟩
          · rw [hin] at HIn
            have HHin := Lib.hid hin
            clear hin
            go_wp2_with fail
            refine HIn.out.mono ?_
            rintro e w' ⟨rfl, rfl⟩
            go_wp2_with fail
            go_round
            case rel =>
              refine ⟨n + 1, by omega, by go_num, ?_⟩
              rw [List.take_succ_eq_append_getElem hlt]
              intro y hy
              rcases List.mem_append.1 hy with hy | hy
              · exact HAll.out y hy
              · simp at hy; rw [hy, ← HX.out]; exact HHin.out
            case measure => simp [intOf]; omega
        · obtain rfl : n = ls.length := by omega
          rw [List.take_length] at HAll
          go_wp2_with fail
          go_ret
          exact ⟨ret_bool (HYes.out HAll.out).symm, HF3.out⟩

end Go.Proofs.Ytdcpimnjdggabaa
