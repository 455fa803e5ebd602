/-
  THE WALKS of confluxref01.Number and confluxref03.Run.
-/
import Derived.Test.YtdkbibfgebfeaaaWiB
import Derived.Deep.QuietTactic
import Derived.BigQuiet
set_option linter.unusedVariables false
set_option linter.unusedSimpArgs false
namespace Go.Proofs.Ytdkbibfgebfeaaa
open Go.RowKit

set_option maxHeartbeats 2000000 in
theorem rnumber_c (a : Option Addr) (cap m : Nat) (zs : List Int) (hm : zs.length = m) (w : World) (rd : RdI .u8 w a zs) (hb : Byt zs) (hl : m ≤ 8) :
    Calls Try.prog 46 #[.slice a m cap] w fun e w' => e = .returned (.int .u64 (bigN zs)) ∧ w = w' := by
  subst hm
  have HR := Lib.hid rd
  have HB := Lib.hid hb
  clear rd hb
  go_enter Try.func46, Try.ntmps46
  go_wp2_with fail
  go_loop [3, 4] (fun v i => ∃ j : Nat, j ≤ zs.length ∧ i = .int .i64 j ∧ v = .int .u64 (bigN (zs.take j))) (fun _ i => zs.length - (intOf i).toNat)
  case atStart => exact ⟨0, Nat.zero_le _, rfl, rfl⟩
  case round =>
    obtain ⟨j, hj, rfl, rfl⟩ := hrel
    by_cases hlt : j < zs.length
    · obtain ⟨b, off, x, hx, rfl, hb, hc⟩ := HR.out.at_ j hlt
      have hb1 := HB.out x (List.mem_of_getElem? hx)
      have hsn : bigN (zs.take (j + 1)) = bigN (zs.take j) * 256 + x := by rw [List.take_add_one, hx]; exact bigN_snoc _ _
      obtain ⟨v0, v1⟩ := bigN_small (HB.out.take j) (k := 7) (by rw [List.length_take]; omega) (Nat.le_refl _)
      obtain ⟨v, hv⟩ : ∃ v, v = bigN (zs.take j) := ⟨_, rfl⟩
      rw [← hv] at hsn v0 v1 ⊢
      have e1 : IntKind.u64.wrap (v * 256) = v * 256 := wrapU64 (by omega) (by omega)
      have e2 : IntKind.u64.wrap (v * 256 + x) = v * 256 + x := wrapU64 (by omega) (by omega)
      have e3 : IntKind.u64.wrap x = x := wrapU64 (by omega) (by omega)
      have i1 : (0 : Int) ≤ (j : Int) := by omega
      have i2 : (j : Int) < (zs.length : Int) := by omega
      have HS := Lib.hid hsn
      clear hx hsn hv v0 v1 hb1
      go_wp2_with fail
      exact ⟨⟨j + 1, by omega, by go_num, by rw [HS.out]⟩, by simp [intOf]; omega⟩
    · obtain rfl : j = zs.length := by omega
      rw [List.take_length]
      go_wp2_with fail
      go_ret
      exact ⟨rfl, rfl⟩

/-- What Run gives. -/
def RunOk (w : World) (zs : List Int) (ss : List Stp) (x : Ending) (w' : World) : Prop :=
  (∃ e, runL zs ss = .error e ∧ x = .returned (.tuple #[.slice none 0 0, .int .i64 0, .int .i64 e]) ∧ Frm [] w w') ∨
  (∃ (v : Value) (gs : List GtV) (n : Nat), runL zs ss = .ok (gs.map GtV.gt, n) ∧ n ≤ zs.length ∧ x = .returned (.tuple #[v, .int .i64 (n : Int), .int .i64 0]) ∧ Sep [] w w' [bodR gs, gotsR v gs])
theorem runL_at {zs : List Int} {ss : List Stp} {k : Nat} {s : Stp} (hs : ss[k]? = some s) {o : List Gt} {at_ : Nat} (hk : runL zs (ss.take k) = .ok (o, at_)) {N : Gt} {m : Nat} (ho : oneL zs at_ s = .ok (N, m)) : runL zs (ss.take (k + 1)) = .ok (o ++ [N], m) := by
  obtain ⟨hlt, rfl⟩ := List.getElem?_eq_some_iff.1 hs
  have h1 := runL_take zs ss k hlt
  rw [hk] at h1
  rw [h1]; simp [stpL, ho]
theorem runL_end {zs : List Int} {ss : List Stp} {k : Nat} {s : Stp} (hs : ss[k]? = some s) {o : List Gt} {at_ : Nat} (hk : runL zs (ss.take k) = .ok (o, at_)) {e : Int} (ho : oneL zs at_ s = .error e) : runL zs ss = .error e := by
  obtain ⟨hlt, rfl⟩ := List.getElem?_eq_some_iff.1 hs
  have h1 := runL_take zs ss k hlt
  rw [hk] at h1
  exact runL_error (n := k + 1) (by rw [h1]; simp [stpL, ho])
set_option maxRecDepth 100000 in
set_option maxHeartbeats 40000000 in
theorem rrun_c (w : World) (ab : Option Addr) (cb : Nat) (zs : List Int) (rd : RdI .u8 w ab zs) (hby : Byt zs) (hcb : zs.length ≤ cb) (hcm : cb ≤ 9223372036854775807) (hnb : ab = none → cb = 0) (hzl : zs.length ≤ 1000000)
    (ad : Option Addr) (cs : Nat) (ss : List Stp) (hr : RdS 2 w ad (ss.map Stp.row)) (hn : ss.length ≤ 100) (hsn : ∀ s ∈ ss, -9223372036854775808 ≤ s.n ∧ s.n ≤ 9223372036854775807) :
    Calls Try.prog 20 #[.slice ab zs.length cb, .slice ad ss.length cs] w (RunOk w zs ss) := by
  obtain ⟨i0, hi, hz0, hz1, hz2⟩ := info_parts info_got
  have HB := Lib.hid (fun X (hX : Frm [] w X) => rd.below hX.below)
  have HRd := Lib.hid (fun X (hX : Frm [] w X) => hr.low hX (by simp))
  have HBy := Lib.hid hby
  have HN := Lib.hid hnb
  have HSn := Lib.hid hsn
  have HS := Lib.hid (((Sep.init w).made 28 2 0 #[] (by unfold maxLen; omega) rfl).none)
  obtain ⟨zl, hzl2⟩ : ∃ zl, zl = zs.length := ⟨_, rfl⟩
  rw [← hzl2] at hcb hzl ⊢
  have HZ := Lib.hid hzl2
  have z1 : zl ≤ zs.length := by omega
  have z2 : zs.length ≤ zl := by omega
  clear rd hby hnb hr hsn hzl2
  go_enter Try.func20, Try.ntmps20
  go_wp2_with fail
  go_loopw [7, 8, 9] (fun v a i wr => ∃ (k : Nat) (gs : List GtV) (at_ : Nat) (o : Value), k ≤ ss.length ∧ o = v ∧ a = .int .i64 (at_ : Int) ∧ i = .int .i64 k ∧ runL zs (ss.take k) = .ok (gs.map GtV.gt, at_) ∧ Sep [] w wr [bodR gs, gotsR o gs]) (fun _ _ i _ => ss.length - (intOf i).toNat)
  case atStart => exact ⟨0, [], 0, _, Nat.zero_le _, rfl, rfl, rfl, rfl, HS.out⟩
  case round =>
    obtain ⟨k, gs, at_, v, hk, rfl, rfl, rfl, hrun, hS⟩ := hrel
    obtain ⟨hle, hgl⟩ := runL_le _ hrun
    rw [List.length_map, List.length_take] at hgl
    rw [← HZ.out] at hle
    have HS2 := Lib.hid hS
    have HRun := Lib.hid hrun
    clear hS hrun
    obtain ⟨wi, hwi⟩ : ∃ wi : World, wi = wr := ⟨_, rfl⟩
    rw [← hwi] at HS2 ⊢
    clear hwi
    by_cases hlt : k < ss.length
    · obtain ⟨s, hs⟩ : ∃ s, ss[k]? = some s := ⟨_, List.getElem?_eq_getElem hlt⟩
      obtain ⟨sb, so, rfl, _, hc⟩ := HRd.out wi HS2.out.frm k s.row (by rw [List.getElem?_map, hs]; rfl)
      have hsn := HSn.out s (List.mem_of_getElem? hs)
      obtain ⟨kk, n⟩ := s
      obtain ⟨n0, n1⟩ := hsn
      simp only at n0 n1
      have d0 : wi.cell? ⟨sb, so + k * 2, none⟩ = some (.int .i64 kk) := hc 0 _ rfl
      have d1 : wi.cell? ⟨sb, so + k * 2 + 1, none⟩ = some (.int .i64 n) := hc 1 _ rfl
      have HSt := Lib.hid hs
      have i1 : (0 : Int) ≤ (k : Int) := by omega
      have i2 : (k : Int) < (ss.length : Int) := by omega
      have hgl3 : gs.length ≤ 100 := by omega
      clear hs hc hgl
      go_wp2_with fail
      go_quiet (fail)
      have HS3 := Lib.hid (HS2.out.drewN nq)
      obtain ⟨wq, hwq⟩ : ∃ wq, wq = wi.drewN nq := ⟨_, rfl⟩
      rw [← hwq] at HS3 ⊢
      clear d0 d1 hwq HS2
      by_cases c1 : kk = 1
      · have hkk := c1
        subst hkk
        by_cases hsh : zl < at_ + 1
        · have HO : Hid (oneL zs at_ ⟨1, n⟩ = .error 20) := Lib.hid (by unfold oneL; rw [if_pos (by rfl)]; rw [if_pos (by simp; omega)])
          have t1 : (zl : Int) - (at_ : Int) < 1 := by omega
          clear hsh
          go_wp2_with fail
          refine bodyPost_ret (v := .tuple #[.slice none 0 0, .int .i64 0, .int .i64 (20)]) ?_ rfl (.inl ⟨20, runL_end HSt.out HRun.out HO.out, rfl, HS3.out.frm⟩)
          simp [results, Try.results20]
        · have HO : Hid (oneL zs at_ ⟨1, n⟩ = .ok (⟨bigN (cut zs at_ 1), []⟩, at_ + 1)) := Lib.hid (by unfold oneL; rw [if_pos (by rfl)]; rw [if_neg (by simp; omega)]; rfl)
          obtain ⟨bb, bo, _, _, rfl, _, _⟩ := (HB.out _ HS3.out.frm).at_ 0 (by omega)
          have HC := Lib.hid (rnumber_c (some ⟨bb, bo + at_, none⟩) (cb - at_) 1 (cut zs at_ 1) (cut_len (by omega)) wq (((HB.out _ HS3.out.frm).offs at_).firsts 1) (HBy.out.cut _ _) (by omega))
          have t1 : ¬ (zl : Int) - (at_ : Int) < 1 := by omega
          have t2 : (at_ : Int) + 1 ≤ (zl : Int) := by omega
          have t3 : (zl : Int) ≤ (cb : Int) := by omega
          clear hsh
          go_wp2_with fail
          refine HC.out.mono ?_
          rintro e w1 ⟨rfl, rfl⟩
          obtain ⟨N, hN⟩ : ∃ N, N = bigN (cut zs at_ 1) := ⟨_, rfl⟩
          rw [← hN] at HO ⊢
          clear hN HC
          go_wp2_with (at_builtin; go_must (refine wpList_append_arr rfl _ _ 23 rfl 2 28 i0 (.agg #[.int .u64 0, .slice none 0 0]) 2 32 Try.underlying23 hi hz0 hz1 hz2 rfl (by decide) v gs.length _ rfl (HS3.out.alloc #[.int .u64 (N), .slice none 0 0] 28) rfl _ #[.int .u64 (N), .slice none 0 0] rfl rfl (Blk.made _ _ _) (by simp [Value.oneCell']) (by unfold maxLen; omega) (by omega) ?_); intro v4 w4 hS4; have HS4 := Lib.hid hS4; clear hS4)
          go_roundw
          case rel =>
            refine ⟨k + 1, gs ++ [⟨N, .slice none 0 0, []⟩], at_ + 1, v4, by omega, rfl, by go_num, by go_num, by rw [runL_at HSt.out HRun.out HO.out, List.map_append]; rfl, ?_⟩
            have h := (HS4.out.rest.nil 5 1).into1
            have e := gotsR_snoc v4 gs ⟨N, .slice none 0 0, []⟩
            unfold bodR
            rw [← e, List.map_append]
            exact h
          case measure => simp [intOf]; omega
      by_cases c2 : kk = 2
      · have hkk := c2
        subst hkk
        by_cases hsh : zl < at_ + 2
        · have HO : Hid (oneL zs at_ ⟨2, n⟩ = .error 20) := Lib.hid (by unfold oneL; rw [if_pos (by rfl)]; rw [if_pos (by simp; omega)])
          have t1 : (zl : Int) - (at_ : Int) < 2 := by omega
          clear hsh
          go_wp2_with fail
          refine bodyPost_ret (v := .tuple #[.slice none 0 0, .int .i64 0, .int .i64 (20)]) ?_ rfl (.inl ⟨20, runL_end HSt.out HRun.out HO.out, rfl, HS3.out.frm⟩)
          simp [results, Try.results20]
        · have HO : Hid (oneL zs at_ ⟨2, n⟩ = .ok (⟨bigN (cut zs at_ 2), []⟩, at_ + 2)) := Lib.hid (by unfold oneL; rw [if_pos (by rfl)]; rw [if_neg (by simp; omega)]; rfl)
          obtain ⟨bb, bo, _, _, rfl, _, _⟩ := (HB.out _ HS3.out.frm).at_ 0 (by omega)
          have HC := Lib.hid (rnumber_c (some ⟨bb, bo + at_, none⟩) (cb - at_) 2 (cut zs at_ 2) (cut_len (by omega)) wq (((HB.out _ HS3.out.frm).offs at_).firsts 2) (HBy.out.cut _ _) (by omega))
          have t1 : ¬ (zl : Int) - (at_ : Int) < 2 := by omega
          have t2 : (at_ : Int) + 2 ≤ (zl : Int) := by omega
          have t3 : (zl : Int) ≤ (cb : Int) := by omega
          clear hsh
          go_wp2_with fail
          refine HC.out.mono ?_
          rintro e w1 ⟨rfl, rfl⟩
          obtain ⟨N, hN⟩ : ∃ N, N = bigN (cut zs at_ 2) := ⟨_, rfl⟩
          rw [← hN] at HO ⊢
          clear hN HC
          go_wp2_with (at_builtin; go_must (refine wpList_append_arr rfl _ _ 23 rfl 2 28 i0 (.agg #[.int .u64 0, .slice none 0 0]) 2 32 Try.underlying23 hi hz0 hz1 hz2 rfl (by decide) v gs.length _ rfl (HS3.out.alloc #[.int .u64 (N), .slice none 0 0] 28) rfl _ #[.int .u64 (N), .slice none 0 0] rfl rfl (Blk.made _ _ _) (by simp [Value.oneCell']) (by unfold maxLen; omega) (by omega) ?_); intro v4 w4 hS4; have HS4 := Lib.hid hS4; clear hS4)
          go_roundw
          case rel =>
            refine ⟨k + 1, gs ++ [⟨N, .slice none 0 0, []⟩], at_ + 2, v4, by omega, rfl, by go_num, by go_num, by rw [runL_at HSt.out HRun.out HO.out, List.map_append]; rfl, ?_⟩
            have h := (HS4.out.rest.nil 5 1).into1
            have e := gotsR_snoc v4 gs ⟨N, .slice none 0 0, []⟩
            unfold bodR
            rw [← e, List.map_append]
            exact h
          case measure => simp [intOf]; omega
      by_cases c4 : kk = 4
      · have hkk := c4
        subst hkk
        by_cases hsh : zl < at_ + 4
        · have HO : Hid (oneL zs at_ ⟨4, n⟩ = .error 20) := Lib.hid (by unfold oneL; rw [if_pos (by rfl)]; rw [if_pos (by simp; omega)])
          have t1 : (zl : Int) - (at_ : Int) < 4 := by omega
          clear hsh
          go_wp2_with fail
          refine bodyPost_ret (v := .tuple #[.slice none 0 0, .int .i64 0, .int .i64 (20)]) ?_ rfl (.inl ⟨20, runL_end HSt.out HRun.out HO.out, rfl, HS3.out.frm⟩)
          simp [results, Try.results20]
        · have HO : Hid (oneL zs at_ ⟨4, n⟩ = .ok (⟨bigN (cut zs at_ 4), []⟩, at_ + 4)) := Lib.hid (by unfold oneL; rw [if_pos (by rfl)]; rw [if_neg (by simp; omega)]; rfl)
          obtain ⟨bb, bo, _, _, rfl, _, _⟩ := (HB.out _ HS3.out.frm).at_ 0 (by omega)
          have HC := Lib.hid (rnumber_c (some ⟨bb, bo + at_, none⟩) (cb - at_) 4 (cut zs at_ 4) (cut_len (by omega)) wq (((HB.out _ HS3.out.frm).offs at_).firsts 4) (HBy.out.cut _ _) (by omega))
          have t1 : ¬ (zl : Int) - (at_ : Int) < 4 := by omega
          have t2 : (at_ : Int) + 4 ≤ (zl : Int) := by omega
          have t3 : (zl : Int) ≤ (cb : Int) := by omega
          clear hsh
          go_wp2_with fail
          refine HC.out.mono ?_
          rintro e w1 ⟨rfl, rfl⟩
          obtain ⟨N, hN⟩ : ∃ N, N = bigN (cut zs at_ 4) := ⟨_, rfl⟩
          rw [← hN] at HO ⊢
          clear hN HC
          go_wp2_with (at_builtin; go_must (refine wpList_append_arr rfl _ _ 23 rfl 2 28 i0 (.agg #[.int .u64 0, .slice none 0 0]) 2 32 Try.underlying23 hi hz0 hz1 hz2 rfl (by decide) v gs.length _ rfl (HS3.out.alloc #[.int .u64 (N), .slice none 0 0] 28) rfl _ #[.int .u64 (N), .slice none 0 0] rfl rfl (Blk.made _ _ _) (by simp [Value.oneCell']) (by unfold maxLen; omega) (by omega) ?_); intro v4 w4 hS4; have HS4 := Lib.hid hS4; clear hS4)
          go_roundw
          case rel =>
            refine ⟨k + 1, gs ++ [⟨N, .slice none 0 0, []⟩], at_ + 4, v4, by omega, rfl, by go_num, by go_num, by rw [runL_at HSt.out HRun.out HO.out, List.map_append]; rfl, ?_⟩
            have h := (HS4.out.rest.nil 5 1).into1
            have e := gotsR_snoc v4 gs ⟨N, .slice none 0 0, []⟩
            unfold bodR
            rw [← e, List.map_append]
            exact h
          case measure => simp [intOf]; omega
      by_cases c8 : kk = 8
      · have hkk := c8
        subst hkk
        by_cases hsh : zl < at_ + 8
        · have HO : Hid (oneL zs at_ ⟨8, n⟩ = .error 20) := Lib.hid (by unfold oneL; rw [if_pos (by rfl)]; rw [if_pos (by simp; omega)])
          have t1 : (zl : Int) - (at_ : Int) < 8 := by omega
          clear hsh
          go_wp2_with fail
          refine bodyPost_ret (v := .tuple #[.slice none 0 0, .int .i64 0, .int .i64 (20)]) ?_ rfl (.inl ⟨20, runL_end HSt.out HRun.out HO.out, rfl, HS3.out.frm⟩)
          simp [results, Try.results20]
        · have HO : Hid (oneL zs at_ ⟨8, n⟩ = .ok (⟨bigN (cut zs at_ 8), []⟩, at_ + 8)) := Lib.hid (by unfold oneL; rw [if_pos (by rfl)]; rw [if_neg (by simp; omega)]; rfl)
          obtain ⟨bb, bo, _, _, rfl, _, _⟩ := (HB.out _ HS3.out.frm).at_ 0 (by omega)
          have HC := Lib.hid (rnumber_c (some ⟨bb, bo + at_, none⟩) (cb - at_) 8 (cut zs at_ 8) (cut_len (by omega)) wq (((HB.out _ HS3.out.frm).offs at_).firsts 8) (HBy.out.cut _ _) (by omega))
          have t1 : ¬ (zl : Int) - (at_ : Int) < 8 := by omega
          have t2 : (at_ : Int) + 8 ≤ (zl : Int) := by omega
          have t3 : (zl : Int) ≤ (cb : Int) := by omega
          clear hsh
          go_wp2_with fail
          refine HC.out.mono ?_
          rintro e w1 ⟨rfl, rfl⟩
          obtain ⟨N, hN⟩ : ∃ N, N = bigN (cut zs at_ 8) := ⟨_, rfl⟩
          rw [← hN] at HO ⊢
          clear hN HC
          go_wp2_with (at_builtin; go_must (refine wpList_append_arr rfl _ _ 23 rfl 2 28 i0 (.agg #[.int .u64 0, .slice none 0 0]) 2 32 Try.underlying23 hi hz0 hz1 hz2 rfl (by decide) v gs.length _ rfl (HS3.out.alloc #[.int .u64 (N), .slice none 0 0] 28) rfl _ #[.int .u64 (N), .slice none 0 0] rfl rfl (Blk.made _ _ _) (by simp [Value.oneCell']) (by unfold maxLen; omega) (by omega) ?_); intro v4 w4 hS4; have HS4 := Lib.hid hS4; clear hS4)
          go_roundw
          case rel =>
            refine ⟨k + 1, gs ++ [⟨N, .slice none 0 0, []⟩], at_ + 8, v4, by omega, rfl, by go_num, by go_num, by rw [runL_at HSt.out HRun.out HO.out, List.map_append]; rfl, ?_⟩
            have h := (HS4.out.rest.nil 5 1).into1
            have e := gotsR_snoc v4 gs ⟨N, .slice none 0 0, []⟩
            unfold bodR
            rw [← e, List.map_append]
            exact h
          case measure => simp [intOf]; omega
      by_cases c0 : kk = 0
      · have hkk := c0
        subst hkk
        obtain ⟨m, hm⟩ : ∃ m : Nat, m = n.toNat := ⟨_, rfl⟩
        by_cases hsh : zl < at_ + m
        · have HO : Hid (oneL zs at_ ⟨0, n⟩ = .error 20) := Lib.hid (by unfold oneL; rw [if_neg (by simp [numK])]; simp only [if_true]; rw [if_pos (by omega)])
          by_cases hneg : n < 0
          · exfalso; omega
          · obtain rfl : n = (m : Int) := by omega
            have t1 : (zl : Int) - (at_ : Int) < (m : Int) := by omega
            clear hsh hm
            go_wp2_with fail
            refine bodyPost_ret (v := .tuple #[.slice none 0 0, .int .i64 0, .int .i64 (20)]) ?_ rfl (.inl ⟨20, runL_end HSt.out HRun.out HO.out, rfl, HS3.out.frm⟩)
            simp [results, Try.results20]
        · have HO : Hid (oneL zs at_ ⟨0, n⟩ = .ok (⟨0, cut zs at_ m⟩, at_ + m)) := Lib.hid (by unfold oneL; rw [if_neg (by simp [numK])]; simp only [if_true]; rw [if_neg (by omega), hm])
          have HL := Lib.hid (cut_len (zs := zs) (at_ := at_) (m := m) (by omega))
          have t1 : ¬ (zl : Int) - (at_ : Int) < (m : Int) := by omega
          have t2 : (at_ : Int) + (m : Int) ≤ (zl : Int) := by omega
          have t3 : (zl : Int) ≤ (cb : Int) := by omega
          have t4 : (at_ : Int) ≤ (cb : Int) := by omega
          by_cases hneg : n < 0
          · obtain rfl : m = 0 := by omega
            clear hsh hm t1
            cases ab with
            | none =>
              obtain rfl : cb = 0 := HN.out rfl
              obtain rfl : zl = 0 := by omega
              obtain rfl : at_ = 0 := by omega
              have HE : Hid (cut zs 0 0 = []) := Lib.hid (List.eq_nil_of_length_eq_zero (by rw [HL.out]))
              have HC := Lib.hid (bcopy_c (none) (0) (cut zs 0 0) wq (by rw [HE.out]; exact RdI.nil _ _ _) (by rw [HL.out]; omega))
              rw [HL.out] at HC
              go_wp2_with fail
              refine HC.out.mono ?_
              rintro e w1 ⟨g1, c1, rfl, hS⟩
              have HS5 := Lib.hid (HS3.out.gains hS)
              clear hS HC
              go_wp2_with (at_builtin; go_must (refine wpList_append_arr rfl _ _ 23 rfl 3 28 i0 (.agg #[.int .u64 0, .slice none 0 0]) 2 32 Try.underlying23 hi hz0 hz1 hz2 rfl (by decide) v gs.length _ rfl (HS5.out.alloc #[.int .u64 (0), .slice (some ⟨g1, 0, none⟩) (0) c1] 28) rfl _ #[.int .u64 (0), .slice (some ⟨g1, 0, none⟩) (0) c1] rfl rfl (Blk.made _ _ _) (by simp [Value.oneCell']) (by unfold maxLen; omega) (by omega) ?_); intro v4 w4 hS4; have HS4 := Lib.hid hS4; clear hS4)
              go_roundw
              case rel =>
                refine ⟨k + 1, gs ++ [⟨0, .slice (some ⟨g1, 0, none⟩) (0) c1, cut zs 0 0⟩], 0 + 0, v4, by omega, rfl, by go_num, by go_num, by rw [runL_at HSt.out HRun.out HO.out, List.map_append]; rfl, ?_⟩
                have h := (HS4.out.rest).into1
                have e := gotsR_snoc v4 gs ⟨0, .slice (some ⟨g1, 0, none⟩) (0) c1, cut zs 0 0⟩
                unfold bodR
                rw [← e, List.map_append]
                exact h
              case measure => simp [intOf]; omega
            | some p =>
              by_cases hq : cb = at_
              · obtain rfl : zl = cb := by omega
                subst hq
                have HE : Hid (cut zs zl 0 = []) := Lib.hid rfl
                have HC := Lib.hid (bcopy_c (some p) (0) (cut zs zl 0) wq (by rw [HE.out]; exact RdI.nil _ _ _) (by rw [HL.out]; omega))
                rw [HL.out] at HC
                go_wp2_with fail
                refine HC.out.mono ?_
                rintro e w1 ⟨g1, c1, rfl, hS⟩
                have HS5 := Lib.hid (HS3.out.gains hS)
                clear hS HC
                go_wp2_with (at_builtin; go_must (refine wpList_append_arr rfl _ _ 23 rfl 3 28 i0 (.agg #[.int .u64 0, .slice none 0 0]) 2 32 Try.underlying23 hi hz0 hz1 hz2 rfl (by decide) v gs.length _ rfl (HS5.out.alloc #[.int .u64 (0), .slice (some ⟨g1, 0, none⟩) (0) c1] 28) rfl _ #[.int .u64 (0), .slice (some ⟨g1, 0, none⟩) (0) c1] rfl rfl (Blk.made _ _ _) (by simp [Value.oneCell']) (by unfold maxLen; omega) (by omega) ?_); intro v4 w4 hS4; have HS4 := Lib.hid hS4; clear hS4)
                go_roundw
                case rel =>
                  refine ⟨k + 1, gs ++ [⟨0, .slice (some ⟨g1, 0, none⟩) (0) c1, cut zs zl 0⟩], zl + 0, v4, by omega, rfl, by go_num, by go_num, by rw [runL_at HSt.out HRun.out HO.out, List.map_append]; rfl, ?_⟩
                  have h := (HS4.out.rest).into1
                  have e := gotsR_snoc v4 gs ⟨0, .slice (some ⟨g1, 0, none⟩) (0) c1, cut zs zl 0⟩
                  unfold bodR
                  rw [← e, List.map_append]
                  exact h
                case measure => simp [intOf]; omega
              · have HRd2 := Lib.hid (((HB.out _ HS3.out.frm).cut (c := cb) (at_ := at_) (m := 0) (by omega) (by omega)))
                rw [if_neg hq] at HRd2
                have HC := Lib.hid (bcopy_c (some (p.add at_)) (cb - at_) (cut zs at_ 0) wq (HRd2.out) (by rw [HL.out]; omega))
                rw [HL.out] at HC
                go_wp2_with fail
                refine HC.out.mono ?_
                rintro e w1 ⟨g1, c1, rfl, hS⟩
                have HS5 := Lib.hid (HS3.out.gains hS)
                clear hS HC
                go_wp2_with (at_builtin; go_must (refine wpList_append_arr rfl _ _ 23 rfl 3 28 i0 (.agg #[.int .u64 0, .slice none 0 0]) 2 32 Try.underlying23 hi hz0 hz1 hz2 rfl (by decide) v gs.length _ rfl (HS5.out.alloc #[.int .u64 (0), .slice (some ⟨g1, 0, none⟩) (0) c1] 28) rfl _ #[.int .u64 (0), .slice (some ⟨g1, 0, none⟩) (0) c1] rfl rfl (Blk.made _ _ _) (by simp [Value.oneCell']) (by unfold maxLen; omega) (by omega) ?_); intro v4 w4 hS4; have HS4 := Lib.hid hS4; clear hS4)
                go_roundw
                case rel =>
                  refine ⟨k + 1, gs ++ [⟨0, .slice (some ⟨g1, 0, none⟩) (0) c1, cut zs at_ 0⟩], at_ + 0, v4, by omega, rfl, by go_num, by go_num, by rw [runL_at HSt.out HRun.out HO.out, List.map_append]; rfl, ?_⟩
                  have h := (HS4.out.rest).into1
                  have e := gotsR_snoc v4 gs ⟨0, .slice (some ⟨g1, 0, none⟩) (0) c1, cut zs at_ 0⟩
                  unfold bodR
                  rw [← e, List.map_append]
                  exact h
                case measure => simp [intOf]; omega
          · obtain rfl : n = (m : Int) := by omega
            clear hsh hm hneg
            cases ab with
            | none =>
              obtain rfl : cb = 0 := HN.out rfl
              obtain rfl : zl = 0 := by omega
              obtain rfl : at_ = 0 := by omega
              obtain rfl : m = 0 := by omega
              have HE : Hid (cut zs 0 0 = []) := Lib.hid (List.eq_nil_of_length_eq_zero (by rw [HL.out]))
              have HC := Lib.hid (bcopy_c (none) (0) (cut zs 0 0) wq (by rw [HE.out]; exact RdI.nil _ _ _) (by rw [HL.out]; omega))
              rw [HL.out] at HC
              go_wp2_with fail
              refine HC.out.mono ?_
              rintro e w1 ⟨g1, c1, rfl, hS⟩
              have HS5 := Lib.hid (HS3.out.gains hS)
              clear hS HC
              go_wp2_with (at_builtin; go_must (refine wpList_append_arr rfl _ _ 23 rfl 3 28 i0 (.agg #[.int .u64 0, .slice none 0 0]) 2 32 Try.underlying23 hi hz0 hz1 hz2 rfl (by decide) v gs.length _ rfl (HS5.out.alloc #[.int .u64 (0), .slice (some ⟨g1, 0, none⟩) (0) c1] 28) rfl _ #[.int .u64 (0), .slice (some ⟨g1, 0, none⟩) (0) c1] rfl rfl (Blk.made _ _ _) (by simp [Value.oneCell']) (by unfold maxLen; omega) (by omega) ?_); intro v4 w4 hS4; have HS4 := Lib.hid hS4; clear hS4)
              go_roundw
              case rel =>
                refine ⟨k + 1, gs ++ [⟨0, .slice (some ⟨g1, 0, none⟩) (0) c1, cut zs 0 0⟩], 0 + 0, v4, by omega, rfl, by go_num, by go_num, by rw [runL_at HSt.out HRun.out HO.out, List.map_append]; rfl, ?_⟩
                have h := (HS4.out.rest).into1
                have e := gotsR_snoc v4 gs ⟨0, .slice (some ⟨g1, 0, none⟩) (0) c1, cut zs 0 0⟩
                unfold bodR
                rw [← e, List.map_append]
                exact h
              case measure => simp [intOf]; omega
            | some p =>
              by_cases hq : cb = at_
              · obtain rfl : zl = cb := by omega
                subst hq
                obtain rfl : m = 0 := by omega
                have HE : Hid (cut zs zl 0 = []) := Lib.hid rfl
                have HC := Lib.hid (bcopy_c (some p) (0) (cut zs zl 0) wq (by rw [HE.out]; exact RdI.nil _ _ _) (by rw [HL.out]; omega))
                rw [HL.out] at HC
                go_wp2_with fail
                refine HC.out.mono ?_
                rintro e w1 ⟨g1, c1, rfl, hS⟩
                have HS5 := Lib.hid (HS3.out.gains hS)
                clear hS HC
                go_wp2_with (at_builtin; go_must (refine wpList_append_arr rfl _ _ 23 rfl 3 28 i0 (.agg #[.int .u64 0, .slice none 0 0]) 2 32 Try.underlying23 hi hz0 hz1 hz2 rfl (by decide) v gs.length _ rfl (HS5.out.alloc #[.int .u64 (0), .slice (some ⟨g1, 0, none⟩) (0) c1] 28) rfl _ #[.int .u64 (0), .slice (some ⟨g1, 0, none⟩) (0) c1] rfl rfl (Blk.made _ _ _) (by simp [Value.oneCell']) (by unfold maxLen; omega) (by omega) ?_); intro v4 w4 hS4; have HS4 := Lib.hid hS4; clear hS4)
                go_roundw
                case rel =>
                  refine ⟨k + 1, gs ++ [⟨0, .slice (some ⟨g1, 0, none⟩) (0) c1, cut zs zl 0⟩], zl + 0, v4, by omega, rfl, by go_num, by go_num, by rw [runL_at HSt.out HRun.out HO.out, List.map_append]; rfl, ?_⟩
                  have h := (HS4.out.rest).into1
                  have e := gotsR_snoc v4 gs ⟨0, .slice (some ⟨g1, 0, none⟩) (0) c1, cut zs zl 0⟩
                  unfold bodR
                  rw [← e, List.map_append]
                  exact h
                case measure => simp [intOf]; omega
              · have HRd2 := Lib.hid (((HB.out _ HS3.out.frm).cut (c := cb) (at_ := at_) (m := m) (by omega) (by omega)))
                rw [if_neg hq] at HRd2
                have HC := Lib.hid (bcopy_c (some (p.add at_)) (cb - at_) (cut zs at_ m) wq (HRd2.out) (by rw [HL.out]; omega))
                rw [HL.out] at HC
                go_wp2_with fail
                refine HC.out.mono ?_
                rintro e w1 ⟨g1, c1, rfl, hS⟩
                have HS5 := Lib.hid (HS3.out.gains hS)
                clear hS HC
                go_wp2_with (at_builtin; go_must (refine wpList_append_arr rfl _ _ 23 rfl 3 28 i0 (.agg #[.int .u64 0, .slice none 0 0]) 2 32 Try.underlying23 hi hz0 hz1 hz2 rfl (by decide) v gs.length _ rfl (HS5.out.alloc #[.int .u64 (0), .slice (some ⟨g1, 0, none⟩) (m) c1] 28) rfl _ #[.int .u64 (0), .slice (some ⟨g1, 0, none⟩) (m) c1] rfl rfl (Blk.made _ _ _) (by simp [Value.oneCell']) (by unfold maxLen; omega) (by omega) ?_); intro v4 w4 hS4; have HS4 := Lib.hid hS4; clear hS4)
                go_roundw
                case rel =>
                  refine ⟨k + 1, gs ++ [⟨0, .slice (some ⟨g1, 0, none⟩) (m) c1, cut zs at_ m⟩], at_ + m, v4, by omega, rfl, by go_num, by go_num, by rw [runL_at HSt.out HRun.out HO.out, List.map_append]; rfl, ?_⟩
                  have h := (HS4.out.rest).into1
                  have e := gotsR_snoc v4 gs ⟨0, .slice (some ⟨g1, 0, none⟩) (m) c1, cut zs at_ m⟩
                  unfold bodR
                  rw [← e, List.map_append]
                  exact h
                case measure => simp [intOf]; omega
      by_cases cm : kk = -1
      · have hkk := cm
        subst hkk
        have hce : cut zs at_ (zl - at_) = zs.drop at_ := by unfold cut; exact List.take_of_length_le (by rw [List.length_drop]; omega)
        have HO : Hid (oneL zs at_ ⟨-1, n⟩ = .ok (⟨0, cut zs at_ (zl - at_)⟩, zl)) := Lib.hid (by unfold oneL; rw [if_neg (by simp [numK]), if_neg (by simp), if_pos rfl, ← HZ.out, hce])
        have HL := Lib.hid (cut_len (zs := zs) (at_ := at_) (m := zl - at_) (by omega))
        have t3 : (zl : Int) ≤ (cb : Int) := by omega
        have t4 : (at_ : Int) ≤ (zl : Int) := by omega
        clear hce
        cases ab with
        | none =>
          obtain rfl : cb = 0 := HN.out rfl
          obtain rfl : zl = 0 := by omega
          obtain rfl : at_ = 0 := by omega
          have HL := Lib.hid (show (cut zs 0 0).length = 0 from HL.out)
          have HO := Lib.hid (show oneL zs 0 ⟨-1, n⟩ = .ok (⟨0, cut zs 0 0⟩, 0) from HO.out)
          have HE : Hid (cut zs 0 0 = []) := Lib.hid (List.eq_nil_of_length_eq_zero (by rw [HL.out]))
          have HC := Lib.hid (bcopy_c (none) (0) (cut zs 0 0) wq (by rw [HE.out]; exact RdI.nil _ _ _) (by rw [HL.out]; omega))
          rw [HL.out] at HC
          go_wp2_with fail
          refine HC.out.mono ?_
          rintro e w1 ⟨g1, c1, rfl, hS⟩
          have HS5 := Lib.hid (HS3.out.gains hS)
          clear hS HC
          go_wp2_with (at_builtin; go_must (refine wpList_append_arr rfl _ _ 23 rfl 3 28 i0 (.agg #[.int .u64 0, .slice none 0 0]) 2 32 Try.underlying23 hi hz0 hz1 hz2 rfl (by decide) v gs.length _ rfl (HS5.out.alloc #[.int .u64 (0), .slice (some ⟨g1, 0, none⟩) (0) c1] 28) rfl _ #[.int .u64 (0), .slice (some ⟨g1, 0, none⟩) (0) c1] rfl rfl (Blk.made _ _ _) (by simp [Value.oneCell']) (by unfold maxLen; omega) (by omega) ?_); intro v4 w4 hS4; have HS4 := Lib.hid hS4; clear hS4)
          go_roundw
          case rel =>
            refine ⟨k + 1, gs ++ [⟨0, .slice (some ⟨g1, 0, none⟩) (0) c1, cut zs 0 0⟩], 0, v4, by omega, rfl, by go_num, by go_num, by rw [runL_at HSt.out HRun.out HO.out, List.map_append]; rfl, ?_⟩
            have h := (HS4.out.rest).into1
            have e := gotsR_snoc v4 gs ⟨0, .slice (some ⟨g1, 0, none⟩) (0) c1, cut zs 0 0⟩
            unfold bodR
            rw [← e, List.map_append]
            exact h
          case measure => simp [intOf]; omega
        | some p =>
          by_cases hq : cb = at_
          · obtain rfl : zl = cb := by omega
            subst hq
            rw [Nat.sub_self] at HL HO
            have HE : Hid (cut zs zl 0 = []) := Lib.hid rfl
            have HC := Lib.hid (bcopy_c (some p) (0) (cut zs zl 0) wq (by rw [HE.out]; exact RdI.nil _ _ _) (by rw [HL.out]; omega))
            rw [HL.out] at HC
            go_wp2_with fail
            refine HC.out.mono ?_
            rintro e w1 ⟨g1, c1, rfl, hS⟩
            have HS5 := Lib.hid (HS3.out.gains hS)
            clear hS HC
            go_wp2_with (at_builtin; go_must (refine wpList_append_arr rfl _ _ 23 rfl 3 28 i0 (.agg #[.int .u64 0, .slice none 0 0]) 2 32 Try.underlying23 hi hz0 hz1 hz2 rfl (by decide) v gs.length _ rfl (HS5.out.alloc #[.int .u64 (0), .slice (some ⟨g1, 0, none⟩) (0) c1] 28) rfl _ #[.int .u64 (0), .slice (some ⟨g1, 0, none⟩) (0) c1] rfl rfl (Blk.made _ _ _) (by simp [Value.oneCell']) (by unfold maxLen; omega) (by omega) ?_); intro v4 w4 hS4; have HS4 := Lib.hid hS4; clear hS4)
            go_roundw
            case rel =>
              refine ⟨k + 1, gs ++ [⟨0, .slice (some ⟨g1, 0, none⟩) (0) c1, cut zs zl 0⟩], zl, v4, by omega, rfl, by go_num, by go_num, by rw [runL_at HSt.out HRun.out HO.out, List.map_append]; rfl, ?_⟩
              have h := (HS4.out.rest).into1
              have e := gotsR_snoc v4 gs ⟨0, .slice (some ⟨g1, 0, none⟩) (0) c1, cut zs zl 0⟩
              unfold bodR
              rw [← e, List.map_append]
              exact h
            case measure => simp [intOf]; omega
          · have HRd2 := Lib.hid (((HB.out _ HS3.out.frm).cut (c := cb) (at_ := at_) (m := zl - at_) (by omega) (by omega)))
            rw [if_neg hq] at HRd2
            have HC := Lib.hid (bcopy_c (some (p.add at_)) (cb - at_) (cut zs at_ (zl - at_)) wq (HRd2.out) (by rw [HL.out]; omega))
            rw [HL.out] at HC
            go_wp2_with fail
            refine HC.out.mono ?_
            rintro e w1 ⟨g1, c1, rfl, hS⟩
            have HS5 := Lib.hid (HS3.out.gains hS)
            clear hS HC
            go_wp2_with (at_builtin; go_must (refine wpList_append_arr rfl _ _ 23 rfl 3 28 i0 (.agg #[.int .u64 0, .slice none 0 0]) 2 32 Try.underlying23 hi hz0 hz1 hz2 rfl (by decide) v gs.length _ rfl (HS5.out.alloc #[.int .u64 (0), .slice (some ⟨g1, 0, none⟩) (zl - at_) c1] 28) rfl _ #[.int .u64 (0), .slice (some ⟨g1, 0, none⟩) (zl - at_) c1] rfl rfl (Blk.made _ _ _) (by simp [Value.oneCell']) (by unfold maxLen; omega) (by omega) ?_); intro v4 w4 hS4; have HS4 := Lib.hid hS4; clear hS4)
            go_roundw
            case rel =>
              refine ⟨k + 1, gs ++ [⟨0, .slice (some ⟨g1, 0, none⟩) (zl - at_) c1, cut zs at_ (zl - at_)⟩], zl, v4, by omega, rfl, by go_num, by go_num, by rw [runL_at HSt.out HRun.out HO.out, List.map_append]; rfl, ?_⟩
              have h := (HS4.out.rest).into1
              have e := gotsR_snoc v4 gs ⟨0, .slice (some ⟨g1, 0, none⟩) (zl - at_) c1, cut zs at_ (zl - at_)⟩
              unfold bodR
              rw [← e, List.map_append]
              exact h
            case measure => simp [intOf]; omega
      by_cases cf : kk = -2
      · have hkk := cf
        subst hkk
        by_cases hn0 : n = 0
        · subst hn0
          have HO : Hid (oneL zs at_ ⟨-2, 0⟩ = .error 21) := Lib.hid rfl
          go_wp2_with fail
          refine bodyPost_ret (v := .tuple #[.slice none 0 0, .int .i64 0, .int .i64 (21)]) ?_ rfl (.inl ⟨21, runL_end HSt.out HRun.out HO.out, rfl, HS3.out.frm⟩)
          simp [results, Try.results20]
        · have HO : Hid (oneL zs at_ ⟨-2, n⟩ = .error n) := Lib.hid (by unfold oneL; rw [if_neg (by simp [numK]), if_neg (by simp), if_neg (by simp), if_pos rfl]; simp only; rw [if_neg hn0])
          have t1 : (n == 0) = false := by rw [beq_eq_false_iff_ne]; exact hn0
          clear hn0
          go_wp2_with fail
          refine bodyPost_ret (v := .tuple #[.slice none 0 0, .int .i64 0, .int .i64 (n)]) ?_ rfl (.inl ⟨n, runL_end HSt.out HRun.out HO.out, rfl, HS3.out.frm⟩)
          simp [results, Try.results20]
      have HO : Hid (oneL zs at_ ⟨kk, n⟩ = .ok (⟨((zl - at_ : Nat) : Int), []⟩, at_)) := Lib.hid (by
        unfold oneL
        rw [if_neg (by simp only [numK, decide_eq_true_eq, not_or]; exact ⟨c1, c2, c4, c8⟩), if_neg c0, if_neg cm, if_neg cf, ← HZ.out])
      have k1 : (kk == 1) = false := by rw [beq_eq_false_iff_ne]; exact c1
      have k2 : (kk == 2) = false := by rw [beq_eq_false_iff_ne]; exact c2
      have k4 : (kk == 4) = false := by rw [beq_eq_false_iff_ne]; exact c4
      have k8 : (kk == 8) = false := by rw [beq_eq_false_iff_ne]; exact c8
      have k0 : (kk == 0) = false := by rw [beq_eq_false_iff_ne]; exact c0
      have km : (kk == -1) = false := by rw [beq_eq_false_iff_ne]; exact cm
      have kf : (kk == -2) = false := by rw [beq_eq_false_iff_ne]; exact cf
      obtain ⟨N, hN⟩ : ∃ N : Nat, N = zl - at_ := ⟨_, rfl⟩
      rw [← hN] at HO
      have e0 : (zl : Int) - (at_ : Int) = (N : Int) := by omega
      have e1 : IntKind.u64.wrap (N : Int) = (N : Int) := wrapU64 (by omega) (by omega)
      have e2 : IntKind.i64.wrap ((zl : Int) - (at_ : Int)) = (N : Int) := by rw [e0]; exact IntWalk.i64_in _ (by omega)
      clear c1 c2 c4 c8 c0 cm cf hN
      go_wp2_with (at_builtin; go_must (refine wpList_append_arr rfl _ _ 23 rfl 2 28 i0 (.agg #[.int .u64 0, .slice none 0 0]) 2 32 Try.underlying23 hi hz0 hz1 hz2 rfl (by decide) v gs.length _ rfl (HS3.out.alloc #[.int .u64 ((N : Int)), .slice none 0 0] 28) rfl _ #[.int .u64 ((N : Int)), .slice none 0 0] rfl rfl (Blk.made _ _ _) (by simp [Value.oneCell']) (by unfold maxLen; omega) (by omega) ?_); intro v4 w4 hS4; have HS4 := Lib.hid hS4; clear hS4)
      go_roundw
      case rel =>
        refine ⟨k + 1, gs ++ [⟨(N : Int), .slice none 0 0, []⟩], at_, v4, by omega, rfl, by go_num, by go_num, by rw [runL_at HSt.out HRun.out HO.out, List.map_append]; rfl, ?_⟩
        have h := (HS4.out.rest.nil 5 1).into1
        have e := gotsR_snoc v4 gs ⟨(N : Int), .slice none 0 0, []⟩
        unfold bodR
        rw [← e, List.map_append]
        exact h
      case measure => simp [intOf]; omega

    · obtain rfl : k = ss.length := by omega
      go_wp2_with fail
      refine bodyPost_ret (v := .tuple #[v, .int .i64 (at_ : Int), .int .i64 0]) ?_ rfl (.inr ⟨v, gs, at_, ?_, by rw [← HZ.out]; exact hle, rfl, HS2.out⟩)
      · simp [results, Try.results20]
      · have h1 := HRun.out
        rwa [List.take_length] at h1

end Go.Proofs.Ytdkbibfgebfeaaa
