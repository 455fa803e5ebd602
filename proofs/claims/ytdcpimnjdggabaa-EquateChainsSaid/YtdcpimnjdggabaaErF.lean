/-
  THE WALK of equate's Stuck.
-/
import Derived.Test.YtdcpimnjdggabaaErE
set_option linter.unusedVariables false
set_option linter.unusedSimpArgs false
namespace Go.Proofs.Ytdcpimnjdggabaa
open Go.RowKit Go.Maps

/-- What cannot be told, equation by equation. -/
def stk (K : List Int) (E : List (List Int)) : List (List Int) := (E.map (opn K)).filter fun l => decide (0 < l.length)
theorem stk_snoc (K : List Int) (E : List (List Int)) (e : List Int) : stk K (E ++ [e]) = if 0 < (opn K e).length then stk K E ++ [opn K e] else stk K E := by
  unfold stk
  rw [List.map_append, List.filter_append]
  by_cases h : 0 < (opn K e).length
  · rw [if_pos h]; simp [h]
  · rw [if_neg h]; simp [h]
theorem stk_len (K : List Int) (E : List (List Int)) : (stk K E).length ≤ E.length := by
  unfold stk
  have := List.length_filter_le (fun l : List Int => decide (0 < l.length)) (E.map (opn K))
  simpa using this
/-- A row of the call's own. -/
def rowO (r : Row Int) : Res := ownR 3 1 r.val r.xs.length (r.xs.map (Value.int .i64))
theorem rowO_rd {w : World} {r : Row Int} (h : (rowO r).P w) : RdZ w r.a r.xs := by
  obtain ⟨a, c, hv, _, _, _, hr⟩ := own_Z (w := w) (zs := r.xs) h
  cases hv
  exact hr
theorem info_row : (Try.prog.info? 22).map (fun i => (i.zero, i.size, i.bytes)) = some (some (.slice none 0 0), 1, 24) := by kernel_rfl
/-- What Stuck hands back. -/
def StuckPost (w : World) (L : List (List Int)) (e : Ending) (w' : World) : Prop :=
  ∃ (a : Option Addr) (c : Nat) (rows : List (Row Int)), e = .returned (.slice a rows.length c) ∧ rows.map (·.xs) = L ∧ RdRows (Value.int .i64) w' a rows ∧ Frm [] w w'

set_option maxRecDepth 100000 in
set_option maxHeartbeats 4000000 in
theorem stuck_c (ak : Option Addr) (ck : Nat) (ks : List Int) (a : Option Addr) (c : Nat) (rs : List (Row Int)) (w : World) (hk : RdZ w ak ks) (hr : RdRows (Value.int .i64) w a rs)
    (hkl : ks.length ≤ 1000) (hl : rs.length ≤ 1000) (hok : ∀ r ∈ rs, r.xs.length ≤ 1000 ∧ ∀ x ∈ r.xs, okI x) (hko : ∀ x ∈ ks, okI x) (hsum : (rs.map (·.xs)).flatten.length ≤ 50000) :
    Calls Try.prog 14 #[.slice ak ks.length ck, .slice a rs.length c] w (StuckPost w (stk (clo ks (rs.map (·.xs))) (rs.map (·.xs)))) := by
  obtain ⟨i0, hi, hz0, hz1, hz2⟩ := info_parts info_row
  have hclo := closureI_c ak ck ks a c rs w hk hr hl hok (by omega) hko (by omega)
  obtain ⟨KS, hKS⟩ : ∃ KS, KS = keysI ks (peel ks (rs.map (·.xs))) := ⟨_, rfl⟩
  have hop : ∀ xs, opn (clo ks (rs.map (·.xs))) xs = opn KS xs := fun xs => by rw [hKS]; exact (opn_congr (keys_clo ks _) xs).symm
  have hst : stk (clo ks (rs.map (·.xs))) (rs.map (·.xs)) = stk KS (rs.map (·.xs)) := by
    unfold stk
    rw [show opn (clo ks (rs.map (·.xs))) = opn KS from funext hop]
  rw [hst]
  rw [← hKS] at hclo
  have HClo := Lib.hid hclo
  have HR := Lib.hid hr
  have HOk := Lib.hid hok
  clear hclo hk hr hok hko hsum hKS hop hst
  go_enter Try.func14, Try.ntmps14
  go_wp2_with fail
  refine HClo.out.mono ?_
  rintro e w1 ⟨m, rfl, hS⟩
  have HS1 := Lib.hid (hS.none.nil 22 1)
  clear hS HClo
  go_wp2_with fail
  go_loopw [15, 6] (fun i v wr => ∃ (n : Nat) (rows : List (Row Int)), n ≤ rs.length ∧ i = .int .i64 n ∧ rows.map (·.xs) = stk KS ((rs.take n).map (·.xs)) ∧ rows.length ≤ 1000 ∧
    Sep [] w wr [ownR 22 1 v rows.length (rows.map Row.val), manyR (rows.map rowO), mapR Try.prog 3 m (setKv (Value.int .i64) KS)]) (fun i _ _ => rs.length - (intOf i).toNat)
  case atStart => exact ⟨0, [], Nat.zero_le _, rfl, rfl, by simp, HS1.out⟩
  case round =>
    obtain ⟨n, rows, hn, rfl, hrows, hrl, hS⟩ := hrel
    by_cases hlt : n < rs.length
    · obtain ⟨b, off, r, hre, hrm, hts, rfl, hb, hc, hrd⟩ := rows_at (HR.out.below hS.frm.below) hlt
      obtain ⟨hxl, hxo⟩ := HOk.out r hrm
      have hopen := openI_c m KS r.a r.c r.xs wr (hS.get 2 rfl) hrd (by omega) hxo
      have hol := opn_len KS r.xs
      have hsn := stk_snoc KS ((rs.take n).map (·.xs)) r.xs
      rw [show (rs.take n).map (·.xs) ++ [r.xs] = (rs.take (n + 1)).map (·.xs) from by rw [hts, List.map_append]; rfl, ← hrows] at hsn
      obtain ⟨op, hop⟩ : ∃ op, op = opn KS r.xs := ⟨_, rfl⟩
      rw [← hop] at hopen hol hsn
      have HOpen := Lib.hid hopen
      have HSn := Lib.hid hsn
      have HRw := Lib.hid hrows
      have HS2 := Lib.hid hS
      have hlen1 : rows.length ≤ n := by
        have := stk_len KS ((rs.take n).map (·.xs))
        rw [← hrows] at this
        simp only [List.length_map, List.length_take] at this
        omega
      have ij : (n : Int) < (rs.length : Int) := by omega
      clear hopen hsn hrows hS hre hrm hts hb hrd hxo hop
      by_cases hpos : 0 < op.length
      · have b1 : decide (0 < op.length) = true := by simpa using hpos
        go_wp2_with fail
        refine HOpen.out.mono ?_
        rintro e w3 ⟨v, rfl, hS3⟩
        obtain ⟨a3, c3, rfl, _, _, _, _⟩ := own_Z (hS3.own 0 rfl)
        have HS3 := Lib.hid (HS2.out.gains hS3)
        clear hS3 HOpen
        go_wp2_with (at_builtin; refine wpList_append_sep rfl (.tmp 25) (.tmp 27) 23 rfl 1 22 i0 (.slice none 0 0) 24 Try.underlying23 hi hz0 hz1 hz2 rfl _ _ _ rfl (HS3.out.skip _) rfl _ 1 (.slice a3 op.length c3) rfl (World.cell?_alloc_at _ _ _ _ rfl) rfl (by unfold maxLen; omega) (by omega) ?_; intro g4 c4 w4 hS4; have HS4 := Lib.hid hS4; clear hS4)
        go_roundw
        case rel =>
          refine ⟨n + 1, rows ++ [⟨a3, c3, op⟩], by omega, by go_num, ?_, by simp; omega, ?_⟩
          · rw [HSn.out, if_pos hpos, List.map_append]; rfl
          · rw [List.length_append, List.map_append, List.map_append]
            exact Sep.into (r := rowO ⟨a3, c3, op⟩) HS4.out
        case measure => simp [intOf]; omega
      · have b1 : decide (0 < op.length) = false := by simpa using hpos
        go_wp2_with fail
        refine HOpen.out.mono ?_
        rintro e w3 ⟨v, rfl, hS3⟩
        obtain ⟨a3, c3, rfl, _, _, _, _⟩ := own_Z (hS3.own 0 rfl)
        have HS3 := Lib.hid (HS2.out.keep hS3.frm)
        clear hS3 HOpen
        go_wp2_with fail
        go_roundw
        case rel => exact ⟨n + 1, rows, by omega, by go_num, by rw [HSn.out, if_neg hpos], hrl, HS3.out⟩
        case measure => simp [intOf]; omega
    · obtain rfl : n = rs.length := by omega
      rw [List.take_length] at hrows
      obtain ⟨ao, co, rfl, hnn, hnm, hno, hrd⟩ := RdV.of_own (hS.own 0 rfl)
      rw [List.length_map]
      have HRd := Lib.hid (show RdRows (Value.int .i64) wr ao rows from ⟨hrd, fun r hr => rowO_rd (hS.get 1 rfl _ (List.mem_map.2 ⟨r, hr, rfl⟩))⟩)
      have HRw := Lib.hid hrows
      have HF := Lib.hid hS.frm
      clear hrows hS hrd hnn hnm hno
      go_wp2_with fail
      go_ret
      exact ⟨ao, co, rows, rfl, HRw.out, HRd.out, HF.out⟩

end Go.Proofs.Ytdcpimnjdggabaa
