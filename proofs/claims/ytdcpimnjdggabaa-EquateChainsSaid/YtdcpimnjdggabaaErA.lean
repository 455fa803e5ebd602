/-
  THE WALKS of the reference's In, Open, Few; of SameInts.
-/
import Derived.Test.YtdcpimnjdggabaaEqO
import Derived.Test.YtdcpimnjdggabaaApp
import Derived.Deep.QuietTactic
import Derived.BigQuiet
import Derived.Deep.DeepCutAuto
set_option linter.unusedVariables false
set_option linter.unusedSimpArgs false
namespace Go.Proofs.Ytdcpimnjdggabaa
open Go.RowKit

/-- A slice of ints. -/
def RdZ (w : World) (a : Option Addr) (zs : List Int) : Prop := RdV w a (zs.map (Value.int .i64))
theorem RdZ.at_ {w : World} {a : Option Addr} {zs : List Int} (h : RdZ w a zs) {j : Nat} (hj : j < zs.length) : ∃ b off x, x = zs[j] ∧ a = some ⟨b, off, none⟩ ∧ b < w.heap.size ∧ w.cell? ⟨b, off + j, none⟩ = some (.int .i64 x) := by
  obtain ⟨b, off, ha, hb, hc⟩ := h j (.int .i64 zs[j]) (by rw [List.getElem?_map, List.getElem?_eq_getElem hj]; rfl)
  exact ⟨b, off, _, rfl, ha, hb, hc⟩
theorem RdZ.below {w w' : World} {a : Option Addr} {zs : List Int} (h : RdZ w a zs) (hb : Below w.heap.size w w') : RdZ w' a zs := RdV.below h hb
theorem RdZ.drewN {w : World} {a : Option Addr} {zs : List Int} (h : RdZ w a zs) (n : Nat) : RdZ (w.drewN n) a zs := h

set_option maxHeartbeats 1000000 in
theorem in_c (a : Option Addr) (c : Nat) (zs : List Int) (x : Int) (w : World) (h : RdZ w a zs) (hl : zs.length ≤ 1000000) :
    Calls Try.prog 23 #[.slice a zs.length c, .int .i64 x] w fun e w' => e = .returned (.bool (isIn zs x)) ∧ w = w' := by
  have HR := Lib.hid h
  clear h
  go_enter Try.func23, Try.ntmps23
  go_wp2_with fail
  go_loop [5] (fun i => ∃ j : Nat, j ≤ zs.length ∧ i = .int .i64 j ∧ x ∉ zs.take j) (fun i => zs.length - (intOf i).toNat)
  case atStart => exact ⟨0, Nat.zero_le _, rfl, by simp⟩
  case round =>
    obtain ⟨j, hj, rfl, hx⟩ := hrel
    have HX := Lib.hid hx
    clear hx
    by_cases hlt : j < zs.length
    · obtain ⟨b, off, y, hy, rfl, hb, hc⟩ := HR.out.at_ hlt
      have i1 : (j : Int) < (zs.length : Int) := by omega
      have HY := Lib.hid hy
      clear hy hb HR
      by_cases he : y = x
      · have b1 : (y == x) = true := by simp [he]
        have HE := Lib.hid he
        clear he
        go_wp2_with fail
        go_ret
        exact ⟨ret_bool (isIn_yes.2 (by rw [← HE.out, HY.out]; exact List.getElem_mem hlt)).symm, rfl⟩
      · have b1 : (y == x) = false := by simp [he]
        have HE := Lib.hid he
        clear he
        go_wp2_with fail
        go_round
        case rel =>
          refine ⟨j + 1, by omega, by go_num, ?_⟩
          rw [List.take_succ_eq_append_getElem hlt, List.mem_append]
          rintro (h | h)
          · exact HX.out h
          · simp at h; exact HE.out (HY.out.trans h.symm)
        case measure => simp [intOf]; omega
    · obtain rfl : j = zs.length := by omega
      go_wp2_with fail
      go_ret
      exact ⟨ret_bool (isIn_no.2 (by have := HX.out; rwa [List.take_length] at this)).symm, rfl⟩

theorem info_int : (Try.prog.info? 3).map (fun i => (i.zero, i.size, i.bytes)) = some (some (.int .i64 0), 1, 8) := by kernel_rfl
theorem own_Z {w : World} {v : Value} {n : Nat} {zs : List Int} (h : w.ownsRow 0 3 1 v n (zs.map (Value.int .i64))) : ∃ a c, v = .slice a zs.length c ∧ n = zs.length ∧ zs.length ≤ c ∧ (a = none → c = 0) ∧ RdZ w a zs := by
  obtain ⟨a, c, hv, h1, h2, h3, h4⟩ := RdV.of_own h
  rw [List.length_map] at hv h1 h2
  exact ⟨a, c, hv, h2, h1, h3, h4⟩

set_option maxRecDepth 100000 in
set_option maxHeartbeats 4000000 in
theorem ropen_c (ak : Option Addr) (ck : Nat) (ks : List Int) (a : Option Addr) (c : Nat) (xs : List Int) (w : World) (hk : RdZ w ak ks) (hr : RdZ w a xs) (hkl : ks.length ≤ 100000) (hl : xs.length ≤ 100000) :
    Calls Try.prog 15 #[.slice ak ks.length ck, .slice a xs.length c] w fun e w' => ∃ v, e = .returned v ∧ Sep [] w w' [ownR 3 1 v (opn ks xs).length ((opn ks xs).map (Value.int .i64))] := by
  obtain ⟨i0, hi, hz0, hz1, hz2⟩ := info_parts info_int
  have HS := Lib.hid ((Sep.init w).made 3 1 0 #[] (Nat.zero_le _) rfl)
  have HK := Lib.hid hk
  have HR := Lib.hid hr
  clear hk hr
  go_enter Try.func15, Try.ntmps15
  go_wp2_with fail
  go_loopw [6, 5] (fun i v wr => ∃ n : Nat, n ≤ xs.length ∧ i = .int .i64 n ∧ Sep [] w wr [ownR 3 1 v (opn ks (xs.take n)).length ((opn ks (xs.take n)).map (Value.int .i64))]) (fun i _ _ => xs.length - (intOf i).toNat)
  case atStart => exact ⟨0, Nat.zero_le _, rfl, HS.out⟩
  case round =>
    obtain ⟨n, hn, rfl, hS⟩ := hrel
    obtain ⟨ys, hys⟩ : ∃ ys, ys = xs.take n := ⟨_, rfl⟩
    rw [← hys] at hS
    have hyl := opn_len ks ys
    have hyl2 : ys.length ≤ n := hys ▸ List.length_take_le _ _
    obtain ⟨ov, cv, rfl, _, hcv, hnv, hrv⟩ := own_Z (hS.own 0 rfl)
    have HS2 := Lib.hid hS
    have HV := Lib.hid hrv
    have HY := Lib.hid hys
    clear hS hrv hys
    by_cases hlt : n < xs.length
    · obtain ⟨b, off, x, hx, rfl, hb, hc⟩ := (HR.out.below HS2.out.frm.below).at_ hlt
      have i1 : (n : Int) < (xs.length : Int) := by omega
      have hts : xs.take (n + 1) = ys ++ [x] := by rw [List.take_succ_eq_append_getElem hlt, HY.out, hx]
      have hsn := opn_snoc ks ys x
      have HT := Lib.hid hts
      have HSn := Lib.hid hsn
      have HIk := Lib.hid (in_c ak ck ks x wr (HK.out.below HS2.out.frm.below) (by omega))
      have HIo := Lib.hid (in_c ov cv (opn ks ys) x wr HV.out (by omega))
      clear hts hsn hx hb HR
      by_cases hin : x ∈ ks ∨ x ∈ opn ks ys
      · have hcase : isIn ks x = true ∨ (isIn ks x = false ∧ isIn (opn ks ys) x = true) := by
          by_cases h1 : x ∈ ks
          · exact .inl (isIn_yes.2 h1)
          · exact .inr ⟨isIn_no.2 h1, isIn_yes.2 (hin.resolve_left h1)⟩
        have HIn := Lib.hid hin
        clear hin
        rcases hcase with h1 | ⟨h1, h2⟩
        · rw [h1] at HIk
          clear h1
          go_wp2_with fail
          refine HIk.out.mono ?_
          rintro e w' ⟨rfl, rfl⟩
          go_wp2_with fail
          go_roundw
          case rel => exact ⟨n + 1, by omega, by go_num, by rw [HT.out, HSn.out, if_pos HIn.out]; exact HS2.out⟩
          case measure => simp [intOf]; omega
        · rw [h1] at HIk
          rw [h2] at HIo
          clear h1 h2
          go_wp2_with fail
          refine HIk.out.mono ?_
          rintro e w' ⟨rfl, rfl⟩
          go_wp2_with fail
          refine HIo.out.mono ?_
          rintro e w' ⟨rfl, rfl⟩
          go_wp2_with fail
          go_roundw
          case rel => exact ⟨n + 1, by omega, by go_num, by rw [HT.out, HSn.out, if_pos HIn.out]; exact HS2.out⟩
          case measure => simp [intOf]; omega
      · have h1 : isIn ks x = false := isIn_no.2 fun h => hin (.inl h)
        have h2 : isIn (opn ks ys) x = false := isIn_no.2 fun h => hin (.inr h)
        rw [h1] at HIk
        rw [h2] at HIo
        have HIn := Lib.hid hin
        clear h1 h2 hin
        go_wp2_with fail
        refine HIk.out.mono ?_
        rintro e w' ⟨rfl, rfl⟩
        go_wp2_with fail
        refine HIo.out.mono ?_
        rintro e w' ⟨rfl, rfl⟩
        go_wp2_with (at_builtin; refine wpList_append_sep rfl _ _ 22 rfl 0 3 i0 (.int .i64 0) 8 Try.underlying22 hi hz0 hz1 hz2 rfl _ _ _ rfl (HS2.out.skip _) rfl _ 1 (.int .i64 x) rfl (World.cell?_alloc_at _ _ _ _ rfl) rfl (by unfold maxLen; omega) (by omega) ?_; intro g4 c4 w4 hS4; have HS4 := Lib.hid hS4; clear hS4)
        go_roundw
        case rel =>
          refine ⟨n + 1, by omega, by go_num, ?_⟩
          rw [HT.out, HSn.out, if_neg HIn.out, List.length_append, List.map_append]
          exact HS4.out
        case measure => simp [intOf]; omega
    · obtain rfl : n = xs.length := by omega
      have hye : ys = xs := HY.out.trans List.take_length
      subst hye
      go_wp2_with fail
      go_ret
      exact ⟨_, rfl, HS2.out⟩

/-- The same ints? -/
def sameZ (xs ys : List Int) : Bool := xs == ys

set_option maxHeartbeats 2000000 in
theorem sameInts_c (a : Option Addr) (c : Nat) (xs : List Int) (b : Option Addr) (d : Nat) (ys : List Int) (w : World) (hx : RdZ w a xs) (hy : RdZ w b ys) (hl : xs.length ≤ 1000000) :
    Calls Try.prog 16 #[.slice a xs.length c, .slice b ys.length d] w fun e w' => e = .returned (.bool (sameZ xs ys)) ∧ Frm [] w w' := by
  have HX := Lib.hid hx
  have HY := Lib.hid hy
  clear hx hy
  by_cases hlen : xs.length = ys.length
  · have b0 : ((xs.length : Int) != (ys.length : Int)) = false := by simp [hlen]
    have HL := Lib.hid hlen
    have hl2 : xs.length ≤ ys.length := by omega
    clear hlen
    go_enter Try.func16, Try.ntmps16
    go_wp2_with fail
    go_loopw [5] (fun i wr => ∃ j : Nat, j ≤ xs.length ∧ i = .int .i64 j ∧ xs.take j = ys.take j ∧ ∃ m, wr = w.drewN m) (fun i _ => xs.length - (intOf i).toNat)
    case atStart => exact ⟨0, Nat.zero_le _, rfl, by simp, 0, rfl⟩
    case round =>
      obtain ⟨j, hj, rfl, ht, m, rfl⟩ := hrel
      have HT := Lib.hid ht
      clear ht
      by_cases hlt : j < xs.length
      · obtain ⟨g, off, x, hx, rfl, hg, hc⟩ := HX.out.at_ hlt
        obtain ⟨g2, off2, y, hy, rfl, hg2, hc2⟩ := HY.out.at_ (show j < ys.length by omega)
        have i0 : (0 : Int) ≤ (j : Int) := by omega
        have i1 : (j : Int) < (xs.length : Int) := by omega
        have i2 : (j : Int) < (ys.length : Int) := by omega
        have HXx := Lib.hid hx
        have HYy := Lib.hid hy
        clear hx hy hg hg2 HX HY
        by_cases he : x = y
        · have b1 : (x != y) = false := by simp [he]
          have HE := Lib.hid he
          clear he
          go_wp2_with fail
          go_quiet (fail)
          go_wp2_with fail
          go_roundw
          case rel =>
            refine ⟨j + 1, by omega, by go_num, ?_, m + nq, by simp⟩
            rw [List.take_succ_eq_append_getElem hlt, List.take_succ_eq_append_getElem (show j < ys.length by omega), HT.out, ← HXx.out, ← HYy.out, HE.out]
          case measure => simp [intOf]; omega
        · have b1 : (x != y) = true := by simp [he]
          have HE := Lib.hid he
          clear he
          go_wp2_with fail
          go_quiet (fail)
          go_wp2_with fail
          go_ret
          refine ⟨ret_bool ?_, ((Frm.refl _ _).drewN m).drewN nq⟩
          unfold sameZ
          symm
          rw [beq_eq_false_iff_ne]
          intro h
          subst h
          exact HE.out (HXx.out.trans HYy.out.symm)
      · obtain rfl : j = xs.length := by omega
        go_wp2_with fail
        go_ret
        refine ⟨ret_bool ?_, (Frm.refl _ _).drewN m⟩
        have h := HT.out
        rw [List.take_length, HL.out, List.take_length] at h
        unfold sameZ
        rw [h]
        simp
  · have b0 : ((xs.length : Int) != (ys.length : Int)) = true := by rw [bne_iff_ne]; omega
    have HL := Lib.hid hlen
    clear hlen
    go_enter Try.func16, Try.ntmps16
    go_wp2_with fail
    go_ret
    refine ⟨ret_bool ?_, Frm.refl _ _⟩
    unfold sameZ
    symm
    rw [beq_eq_false_iff_ne]
    intro h
    exact HL.out (by rw [h])

end Go.Proofs.Ytdcpimnjdggabaa
