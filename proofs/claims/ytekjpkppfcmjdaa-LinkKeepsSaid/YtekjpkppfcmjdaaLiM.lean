/-
  THE WALKS of link.Lost, confluxref01.SameAll.
-/
import Derived.Test.YtekjpkppfcmjdaaLiL
set_option linter.unusedVariables false
set_option linter.unusedSimpArgs false
namespace Go.Proofs.Ytekjpkppfcmjdaa
open Go.RowKit

theorem info_bool : (Try.prog.info? 4).map (fun i => (i.zero, i.size, i.bytes)) = some (some (.bool false), 1, 1) := by kernel_rfl
def lostV (ch : List Int) (k : Nat) : List Value := (List.range k).map fun i => Value.bool (decide (wy ch i = 3))
theorem lostV_succ (ch : List Int) (k : Nat) : lostV ch (k + 1) = lostV ch k ++ [.bool (decide (wy ch k = 3))] := by unfold lostV; rw [List.range_succ, List.map_append]; rfl
theorem lostV_len (ch : List Int) (k : Nat) : (lostV ch k).length = k := by simp [lostV]
def lostN (n : Int) : Nat := (min (max n 0) 4096).toNat
set_option maxRecDepth 100000 in
set_option maxHeartbeats 8000000 in
theorem lost_c (n : Int) (ac : Option Addr) (cc : Nat) (ch : List Int) (w : World) (rc : RdI .i64 w ac ch) :
    Calls Try.prog 20 #[.int .i64 n, .slice ac ch.length cc] w fun e w' => ∃ v, e = .returned v ∧ Sep [] w w' [ownR 4 1 v (lostN n) (lostV ch (lostN n))] := by
  obtain ⟨inf, hi, hz0, hz1, hz2⟩ := info_parts info_bool
  obtain ⟨N, hN⟩ : ∃ N, N = lostN n := ⟨_, rfl⟩
  rw [← hN]
  have hN4 : N ≤ 4096 := by rw [hN]; unfold lostN; omega
  have HC := Lib.hid (fun X (hX : Frm [] w X) i => way_c ac cc ch i X (rc.below hX.below))
  have HS0 := Lib.hid ((Sep.init w).nil 4 1)
  obtain ⟨M, hM⟩ : ∃ M : Int, max n 0 = M := ⟨_, rfl⟩
  have hMN : min M 4096 = (N : Int) := by rw [← hM, hN]; unfold lostN; omega
  clear rc hN
  go_enter Try.func20, Try.ntmps20
  go_wp2_with fail
  go_loopw [5, 10] (fun v i wi => ∃ (k : Nat), k ≤ N ∧ i = .int .i64 (k : Int) ∧ Sep [] w wi [ownR 4 1 v k (lostV ch k)]) (fun _ i _ => N - (intOf i).toNat)
  case atStart => exact ⟨0, Nat.zero_le _, rfl, HS0.out⟩
  case round =>
    obtain ⟨k, hk, rfl, hS⟩ := hrel
    have HT := Lib.hid hS
    clear hS HS0
    by_cases hlt : k < N
    · have t1 : decide (k < N) = true := decide_eq_true hlt
      obtain ⟨D, hD⟩ : ∃ D, D = decide (wy ch k = 3) := ⟨_, rfl⟩
      have t2 : ((wy ch k : Int) == 3) = D := by rw [hD, Bool.eq_iff_iff, beq_iff_eq, decide_eq_true_eq]; omega
      have HD := Lib.hid hD
      clear hD
      go_wp2_with fail
      refine (HC.out _ HT.out.frm k).mono ?_
      rintro e w3 ⟨rfl, rfl⟩
      go_wp2_with (at_builtin; refine wpList_append_sep rfl _ _ 40 rfl 0 4 inf (.bool false) 1 Try.underlying40 hi hz0 hz1 hz2 rfl _ k (lostV ch k) rfl (HT.out.skip _) rfl _ 1 (.bool D) rfl (World.cell?_alloc_at _ _ _ _ rfl) rfl (by unfold maxLen; omega) (by omega) ?_; intro g4 d4 w4 hS4; have HS5 := Lib.hid hS4; clear hS4)
      go_roundw
      case rel => exact ⟨k + 1, by omega, by go_num, by rw [lostV_succ, ← HD.out]; exact HS5.out⟩
      case measure => simp [intOf]; omega
    · obtain rfl : k = N := by omega
      have t1 : decide (k < k) = false := decide_eq_false (by omega)
      go_wp2_with fail
      go_ret
      exact ⟨_, rfl, HT.out⟩
/-- SameAll of two rows of the same byte strings. -/
theorem sameAll_c (a a' : Option Addr) (c c' : Nat) (bs ds : List Yt) (w : World) (rb : RdYs w a bs) (rd : RdYs w a' ds) (he : bs.map Yt.zs = ds.map Yt.zs) (hz : ∀ b ∈ bs, b.zs.length ≤ 1000000) (hn : bs.length ≤ 1000000) :
    Calls Try.prog 14 #[.slice a bs.length c, .slice a' ds.length c'] w fun e w' => e = .returned (.bool true) ∧ Frm [] w w' := by
  have hl : ds.length = bs.length := by have h := congrArg List.length he; rw [List.length_map, List.length_map] at h; exact h.symm
  rw [hl]
  have HB := Lib.hid (fun X (hX : Frm [] w X) => rb.frm hX)
  have HD := Lib.hid (fun X (hX : Frm [] w X) => rd.frm hX)
  have HE := Lib.hid he
  have HL := Lib.hid hl
  have HZ := Lib.hid hz
  have HF := Lib.hid (Frm.refl [] w)
  have t0 : ((bs.length : Int) != (bs.length : Int)) = false := by simp
  clear rb rd he hl hz
  go_enter Try.func14, Try.ntmps14
  go_wp2_with fail
  go_loopw [5] (fun i wi => ∃ (k : Nat), k ≤ bs.length ∧ i = .int .i64 (k : Int) ∧ Frm [] w wi) (fun i _ => bs.length - (intOf i).toNat)
  case atStart => exact ⟨0, Nat.zero_le _, rfl, HF.out⟩
  case round =>
    obtain ⟨k, hk, rfl, hF⟩ := hrel
    have HG := Lib.hid hF
    clear hF HF
    by_cases hlt : k < bs.length
    · obtain ⟨b, hb⟩ : ∃ b, bs[k]? = some b := ⟨_, List.getElem?_eq_getElem hlt⟩
      obtain ⟨d, hd⟩ : ∃ d, ds[k]? = some d := ⟨_, List.getElem?_eq_getElem (by rw [HL.out]; exact hlt)⟩
      have hbd : b.zs = d.zs := by
        have h := congrArg (fun l => l[k]?) HE.out
        simp only [List.getElem?_map, hb, hd, Option.map_some, Option.some.injEq] at h
        exact h
      obtain ⟨g, off, q, e, rfl, hc, -, hr, -, -, -⟩ := (HB.out _ HG.out).at_ hb
      obtain ⟨g', off', q', e', rfl, hc', -, hr', -, -, -⟩ := (HD.out _ HG.out).at_ hd
      have hs := HZ.out b (List.mem_of_getElem? hb)
      rw [← hbd] at hc' hr'
      have HC := Lib.hid (fun m => (by
        have h := bsame_c q q' e e' b.zs b.zs (wr.drewN m) hr hr' hs hs
        rw [decide_eq_true rfl] at h
        exact h : Calls Try.prog 26 #[.slice q b.zs.length e, .slice q' b.zs.length e'] (wr.drewN m) fun e w' => e = .returned (.bool true) ∧ ∃ m', w' = (wr.drewN m).drewN m'))
      have t1 : decide (k < bs.length) = true := decide_eq_true hlt
      have i1 : (0 : Int) ≤ (k : Int) := by omega
      have i2 : (k : Int) < (bs.length : Int) := by omega
      have HGi := Lib.hid HG.out
      obtain ⟨wi, hwi⟩ : ∃ wi : World, wi = wr := ⟨_, rfl⟩
      rw [← hwi] at HC HGi hc hc' ⊢
      clear hwi hb hd hbd hr hr' hs HG
      go_wp2_with fail
      go_quiet ((go_at_call 26; exact Calls.quiet_of (HC.out _)))
      go_wp2_with fail
      go_roundw
      case rel => exact ⟨k + 1, by omega, by go_num, HGi.out.drewN nq⟩
      case measure => simp [intOf]; omega
    · obtain rfl : k = bs.length := by omega
      have t1 : decide (bs.length < bs.length) = false := decide_eq_false (by omega)
      go_wp2_with fail
      go_ret
      exact ⟨rfl, HG.out⟩

end Go.Proofs.Ytekjpkppfcmjdaa
