/-
  THE WALKS of equate's Peelable and Stuck.
-/
import Derived.Test.YtdcpimnjdggabaaErD
import Derived.Test.YtdcpimnjdggabaaEqID
import Derived.Test.YtdcpimnjdggabaaMany
set_option linter.unusedVariables false
set_option linter.unusedSimpArgs false
namespace Go.Proofs.Ytdcpimnjdggabaa
open Go.RowKit Go.Maps

theorem isIn_congr {α : Type} [DecidableEq α] {ks ks' : List α} (h : ∀ x, x ∈ ks ↔ x ∈ ks') (x : α) : isIn ks x = isIn ks' x := by
  cases h2 : isIn ks' x
  · exact isIn_no.2 fun hm => (isIn_no.1 h2) ((h x).1 hm)
  · exact isIn_yes.2 ((h x).2 (isIn_yes.1 h2))
theorem isIn_addAll (ls : List Int) (x : Int) : isIn (addAll [] ls) x = isIn ls x := isIn_congr (fun y => by rw [addAll_mem]; simp) x
theorem keys_clo (ks : List Int) (E : List (List Int)) (x : Int) : x ∈ keysI ks (peel ks E) ↔ x ∈ clo ks E := by
  unfold keysI clo
  rw [List.mem_append, List.mem_append, addAll_mem]
  simp
theorem isIn_keys (ks : List Int) (E : List (List Int)) (x : Int) : isIn (keysI ks (peel ks E)) x = isIn (clo ks E) x := isIn_congr (keys_clo ks E) x

set_option maxRecDepth 100000 in
set_option maxHeartbeats 4000000 in
theorem peelable_c (al : Option Addr) (cl : Nat) (ls : List Int) (ak : Option Addr) (ck : Nat) (ks : List Int) (a : Option Addr) (c : Nat) (rs : List (Row Int)) (w : World) (hls : RdZ w al ls) (hk : RdZ w ak ks) (hr : RdRows (Value.int .i64) w a rs)
    (hll : ls.length ≤ 1000) (hkl : ks.length ≤ 1000) (hl : rs.length ≤ 1000) (hok : ∀ r ∈ rs, r.xs.length ≤ 1000 ∧ ∀ x ∈ r.xs, okI x) (hlo : ∀ x ∈ ls, okI x) (hko : ∀ x ∈ ks, okI x) (hsum : (rs.map (·.xs)).flatten.length ≤ 50000) :
    Calls Try.prog 17 #[.slice al ls.length cl, .slice ak ks.length ck, .slice a rs.length c] w fun e w' => e = .returned (.bool (plb ls ks (rs.map (·.xs)))) ∧ Frm [] w w' := by
  obtain ⟨i0, hi, hz0, hz1, hz2⟩ := info_parts info_int
  have hnot : ∀ (x : Bool) (w : World), (Op.unary .not (.bool x)).run Try.prog w = .ok (.bool (!x)) w := fun _ _ => rfl
  have hrl := restL_len ls ks
  have hclo := fun (ar : Option Addr) (cr : Nat) (w1 : World) (h : Below w.heap.size w w1) (h2 : RdZ w1 ar (restL ls ks)) => closureI_c ar cr (restL ls ks) a c rs w1 h2 (hr.below h) hl hok (by omega) (fun x hx => hko x (List.mem_filter.1 hx).1) (by omega)
  have hset := setI_c al cl ls w hls (by omega) hlo
  have hno := plb_no (lost := ls) (ks := ks) (E := rs.map (·.xs))
  have hyes := plb_yes (lost := ls) (ks := ks) (E := rs.map (·.xs))
  have hkk := isIn_keys (restL ls ks) (rs.map (·.xs))
  obtain ⟨C, hC⟩ : ∃ C, C = clo (restL ls ks) (rs.map (·.xs)) := ⟨_, rfl⟩
  obtain ⟨KS, hKS⟩ : ∃ KS, KS = keysI (restL ls ks) (peel (restL ls ks) (rs.map (·.xs))) := ⟨_, rfl⟩
  obtain ⟨B, hB⟩ : ∃ B, B = plb ls ks (rs.map (·.xs)) := ⟨_, rfl⟩
  rw [← hKS] at hclo hkk
  rw [← hC] at hkk
  rw [← hC, ← hB] at hno hyes
  rw [← hB]
  have HClo := Lib.hid hclo
  have HSet := Lib.hid hset
  have HNo := Lib.hid hno
  have HYes := Lib.hid hyes
  have HKk := Lib.hid hkk
  have HK := Lib.hid hk
  have HL := Lib.hid hls
  have HLo := Lib.hid hlo
  have HKo := Lib.hid hko
  clear hclo hset hno hyes hkk hk hls hC hKS hB hr hok hlo hko hsum hrl
  go_enter Try.func17, Try.ntmps17
  go_wp2_with fail
  refine HSet.out.mono ?_
  rintro e w1 ⟨rfl, hS⟩
  obtain ⟨g, hg⟩ : ∃ g, g = w.heap.size := ⟨_, rfl⟩
  rw [← hg] at hS ⊢
  have HS1 := Lib.hid (hS.nil 3 1)
  clear hg hS HSet
  go_wp2_with fail
  go_loopw [18, 8] (fun i v wr => ∃ n : Nat, n ≤ ks.length ∧ i = .int .i64 n ∧ Sep [] w wr [ownR 3 1 v (restL ls (ks.take n)).length ((restL ls (ks.take n)).map (Value.int .i64)), mapR Try.prog 3 g (setKv (Value.int .i64) (addAll [] ls))]) (fun i _ _ => ks.length - (intOf i).toNat)
  case atStart => exact ⟨0, Nat.zero_le _, rfl, HS1.out⟩
  case round =>
    obtain ⟨n, hn, rfl, hS⟩ := hrel
    by_cases hlt : n < ks.length
    · obtain ⟨b, off, x, hx, rfl, hb, hc⟩ := (HK.out.below hS.frm.below).at_ hlt
      have i1 : (n : Int) < (ks.length : Int) := by omega
      have hsn := restL_snoc ls (ks.take n) x
      rw [hx, ← List.take_succ_eq_append_getElem hlt, ← hx] at hsn
      have hql := restL_len ls (ks.take n)
      have hql2 : (ks.take n).length ≤ n := List.length_take_le _ _
      obtain ⟨kl, hkl2⟩ := keyI (HKo.out x (hx ▸ List.getElem_mem hlt))
      have hlk := set_look (hS.get 1 rfl) injI keyedI Try.underlying34 (zeroBI _) x hkl2
      rw [isIn_addAll] at hlk
      obtain ⟨q, hqe⟩ : ∃ q, q = restL ls (ks.take n) := ⟨_, rfl⟩
      rw [← hqe] at hS hsn hql
      have HS2 := Lib.hid hS
      have HSn := Lib.hid hsn
      clear hS hsn hqe hx hb hkl2
      cases hin : isIn ls x
      · rw [hin] at hlk HSn
        clear hin
        go_wp2_with (at_builtin; refine wpList_append_sep rfl _ _ 22 rfl 0 3 i0 (.int .i64 0) 8 Try.underlying22 hi hz0 hz1 hz2 rfl _ _ _ rfl (HS2.out.skip _) rfl _ 1 (.int .i64 x) rfl (World.cell?_alloc_at _ _ _ _ rfl) rfl (by unfold maxLen; omega) (by omega) ?_; intro g4 c4 w4 hS4; have HS4 := Lib.hid hS4; clear hS4)
        go_roundw
        case rel => exact ⟨n + 1, by omega, by go_num, by rw [HSn.out, if_neg (by decide), List.length_append, List.map_append]; exact HS4.out⟩
        case measure => simp [intOf]; omega
      · rw [hin] at hlk HSn
        clear hin
        go_wp2_with fail
        go_roundw
        case rel => exact ⟨n + 1, by omega, by go_num, by rw [HSn.out]; simp only [if_true]; exact HS2.out⟩
        case measure => simp [intOf]; omega
    · obtain rfl : n = ks.length := by omega
      rw [List.take_length] at hS
      obtain ⟨ar, cr, rfl, _, _, hcr, hrd⟩ := own_Z (hS.own 0 rfl)
      have HCl := Lib.hid (HClo.out ar cr wr hS.frm.below hrd)
      have HF := Lib.hid hS.frm
      clear hS hcr hrd
      go_wp2_with fail
      refine HCl.out.mono ?_
      rintro e w3 ⟨m, rfl, hS3⟩
      have HF3 := Lib.hid (HF.out.trans hS3.frm)
      have HM3 := Lib.hid (hS3.get 0 rfl)
      clear hS3 HCl
      go_wp2_with fail
      go_loop [36] (fun i => ∃ n : Nat, n ≤ ls.length ∧ i = .int .i64 n ∧ ∀ x ∈ ls.take n, isIn C x = true) (fun i => ls.length - (intOf i).toNat)
      case atStart => exact ⟨0, Nat.zero_le _, rfl, by simp⟩
      case round =>
        obtain ⟨n, hn, rfl, hall⟩ := hrel
        have HAll := Lib.hid hall
        clear hall
        by_cases hlt : n < ls.length
        · obtain ⟨b, off, x, hx, rfl, hb, hc⟩ := (HL.out.below HF3.out.below).at_ hlt
          have i1 : (n : Int) < (ls.length : Int) := by omega
          obtain ⟨kl, hkl2⟩ := keyI (HLo.out x (hx ▸ List.getElem_mem hlt))
          have hlk := set_look HM3.out injI keyedI Try.underlying34 (zeroBI _) x hkl2
          rw [HKk.out] at hlk
          have HX := Lib.hid hx
          clear hx hb hkl2
          cases hin : isIn C x
          · rw [hin] at hlk
            have HHin := Lib.hid hin
            clear hin
            go_wp2_with fail
            go_ret
            exact ⟨ret_bool (HNo.out x (by rw [HX.out]; exact List.getElem_mem hlt) HHin.out).symm, HF3.out⟩
          · rw [hin] at hlk
            have HHin := Lib.hid hin
            clear hin
            go_wp2_with fail
            go_round
            case rel =>
              refine ⟨n + 1, by omega, by go_num, ?_⟩
              rw [List.take_succ_eq_append_getElem hlt]
              intro y hy
              rcases List.mem_append.1 hy with hy | hy
              · exact HAll.out y hy
              · simp at hy; rw [hy, ← HX.out]; exact HHin.out
            case measure => simp [intOf]; omega
        · obtain rfl : n = ls.length := by omega
          rw [List.take_length] at HAll
          go_wp2_with fail
          go_ret
          exact ⟨ret_bool (HYes.out HAll.out).symm, HF3.out⟩

end Go.Proofs.Ytdcpimnjdggabaa
