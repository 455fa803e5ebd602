/-
  THE WALKS: Held; stripe: IndexFunc, Gap, Zero, Fit.
-/
import Derived.Test.YtmdjdhbnigppcaaStG
import Derived.Deep.DeepMust
import Derived.Deep.DeepCutAuto
set_option linter.unusedVariables false
set_option linter.unusedSimpArgs false
namespace Go.Proofs.Ytmdjdhbnigppcaa
open Go.RowKit

def held (n lo hi : Int) : Int := if n < lo then lo else if hi < n then hi else n
set_option maxHeartbeats 1000000 in
theorem held_c (n lo hi : Int) (w : World) :
    Calls Try.prog 25 #[.int .i64 n, .int .i64 lo, .int .i64 hi] w fun e w' => e = .returned (.int .i64 (held n lo hi)) ∧ w = w' := by
  unfold held
  by_cases h1 : n < lo
  · rw [if_pos h1]
    go_enter Try.func25, Try.ntmps25
    go_wp2_with fail
    go_ret
    exact ⟨rfl, rfl⟩
  · rw [if_neg h1]
    by_cases h2 : hi < n
    · rw [if_pos h2]
      go_enter Try.func25, Try.ntmps25
      go_wp2_with fail
      go_ret
      exact ⟨rfl, rfl⟩
    · rw [if_neg h2]
      go_enter Try.func25, Try.ntmps25
      go_wp2_with fail
      go_ret
      exact ⟨rfl, rfl⟩

set_option maxHeartbeats 1000000 in
theorem nonzero_c (x : Int) (w : World) :
    Calls Try.prog 33 #[.int .u8 x] w fun e w' => e = .returned (.bool (x != 0)) ∧ w = w' := by
  go_enter Try.func33, Try.ntmps33
  go_wp2_with fail
  go_ret
  exact ⟨rfl, rfl⟩

set_option maxRecDepth 100000 in
set_option maxHeartbeats 4000000 in
theorem index_c (a : Option Addr) (cap : Nat) (zs : List Int) (w : World) (rd : RdI .u8 w a zs) (hn : zs.length ≤ 1000000) :
    Calls Try.prog 32 #[.slice a zs.length cap, .func (.func 33) #[] #[]] w fun e w' => e = .returned (.int .i64 (fz zs 0)) ∧ w = w' := by
  have HR := Lib.hid rd
  clear rd
  obtain ⟨G, hG⟩ : ∃ G, G = fz zs 0 := ⟨_, rfl⟩
  rw [← hG]
  have HG := Lib.hid hG
  clear hG
  go_enter Try.func32, Try.ntmps32
  go_wp2_with fail
  go_loopw [8] (fun i wr => ∃ (k : Nat), k ≤ zs.length ∧ i = .int .i64 k ∧ w = wr ∧ G = fz (zs.drop k) k) (fun i _ => zs.length - (intOf i).toNat)
  case atStart => exact ⟨0, Nat.zero_le _, rfl, rfl, HG.out⟩
  case round =>
    obtain ⟨k, hk, rfl, rfl, hg⟩ := hrel
    by_cases hlt : k < zs.length
    · obtain ⟨b, off, x, hx, rfl, _, cx⟩ := HR.out.at_ k hlt
      rw [fz_step _ _ hlt, List.getD_eq_getElem?_getD, hx] at hg
      have hg2 : G = if x = 0 then fz (zs.drop (k + 1)) (k + 1) else (k : Int) := hg
      have i1 : (0 : Int) ≤ (k : Int) := by omega
      have i2 : (k : Int) < (zs.length : Int) := by omega
      clear hx hg
      by_cases hz : x = 0
      · rw [if_pos hz] at hg2
        have HG2 := Lib.hid hg2
        have g : (x != 0) = false := by simp [hz]
        clear hg2 hz
        go_wp2_with fail
        refine (nonzero_c x _).mono ?_
        rintro e w' ⟨rfl, rfl⟩
        rw [g]
        go_wp2_with fail
        go_roundw
        case rel => exact ⟨k + 1, by omega, by go_num, by first | rfl | trivial, HG2.out⟩
        case measure => simp [intOf]; omega
      · rw [if_neg hz] at hg2
        have HG2 := Lib.hid hg2
        have g : (x != 0) = true := by simp [hz]
        clear hg2 hz
        go_wp2_with fail
        refine (nonzero_c x _).mono ?_
        rintro e w' ⟨rfl, rfl⟩
        rw [g]
        go_wp2_with fail
        go_ret
        exact ⟨by rw [HG2.out]; rfl, rfl⟩
    · rw [fz_end _ _ (by omega)] at hg
      have HG2 := Lib.hid hg
      clear hg
      go_wp2_with fail
      go_ret
      exact ⟨by rw [HG2.out]; rfl, rfl⟩

set_option maxHeartbeats 2000000 in
theorem gap_c (x y : Bs) (w : World) (hx : x.ok w) (hy : y.ok w) :
    Calls Try.prog 20 #[x.val, y.val] w fun e w' => e = .returned (.int .i64 (gapOf x.zs y.zs)) ∧ Frm [] w w' := by
  have HX := Lib.hid (xor_c x y w hx hy)
  have hlen : (xo x.zs y.zs).length ≤ 1000000 := by rw [xo_length]; have := hx.2.2; have := hy.2.2; omega
  clear hx hy
  obtain ⟨a, ca, xs⟩ := x
  obtain ⟨b, cb, ys⟩ := y
  unfold Bs.val gapOf at *
  dsimp only at HX hlen ⊢
  go_enter Try.func20, Try.ntmps20
  go_wp2_with fail
  refine HX.out.mono ?_
  rintro e w1 ⟨v, rfl, hS⟩
  obtain ⟨oa, oc, rfl, _, hord⟩ := RdI.of_own (hS.own 0 rfl)
  have HI := Lib.hid (index_c oa oc (xo xs ys) w1 hord hlen)
  have HF := Lib.hid hS.frm
  clear hS hord
  go_wp2_with fail
  refine HI.out.mono ?_
  rintro e w2 ⟨rfl, rfl⟩
  go_wp2_with fail
  go_ret
  exact ⟨rfl, HF.out⟩

set_option maxHeartbeats 2000000 in
theorem zero_c (x : Bs) (w : World) (hx : x.ok w) :
    Calls Try.prog 22 #[x.val] w fun e w' => e = .returned (.bool (decide (gapOf x.zs [] < 0))) ∧ Frm [] w w' := by
  have HG := Lib.hid (gap_c x ⟨none, 0, []⟩ w hx ⟨RdI.nil _ _ _, Byt.nil, by simp⟩)
  clear hx
  obtain ⟨a, ca, xs⟩ := x
  unfold Bs.val at *
  dsimp only at HG ⊢
  go_enter Try.func22, Try.ntmps22
  go_wp2_with fail
  refine HG.out.mono ?_
  rintro e w1 ⟨rfl, hf⟩
  have HF := Lib.hid hf
  clear hf
  go_wp2_with fail
  go_ret
  exact ⟨rfl, HF.out⟩

theorem fitL_eq (zs : List Int) (n : Nat) : fitL zs n = zs.take (min zs.length n) ++ List.replicate (n - min zs.length n) 0 := by
  refine rows_ext (by rw [fitL_length, List.length_append, List.length_take, List.length_replicate]; omega) fun i hi => ?_
  rw [fitL_length] at hi
  rw [fitL_get, if_pos hi, getD_pad, getD_take]
  by_cases h : i < zs.length
  · rw [if_pos (by omega)]
  · rw [if_neg (by omega), getD_out (by omega)]

set_option maxRecDepth 100000 in
set_option maxHeartbeats 4000000 in
theorem fit_c (a : Option Addr) (cap : Nat) (zs : List Int) (n : Int) (w : World) (rd : RdI .u8 w a zs) (hl : zs.length ≤ 1000000) (hc : a = none → cap = 0) :
    Calls Try.prog 23 #[.slice a zs.length cap, .int .i64 n] w fun e w' => ∃ v, e = .returned v ∧ Sep [] w w' [sumR v (fitL zs (held n 0 65536).toNat)] := by
  obtain ⟨i0, hi, hz0, hz1, hz2⟩ := info_parts info_u8
  have HR := Lib.hid rd
  clear rd
  obtain ⟨m, hm⟩ : ∃ m : Nat, m = (held n 0 65536).toNat := ⟨_, rfl⟩
  have hmm : min (max n 0) 65536 = (m : Int) := by rw [hm]; unfold held; split <;> (try split) <;> omega
  have hm2 : m ≤ 65536 := by omega
  rw [← hm]
  clear hm
  go_enter Try.func23, Try.ntmps23
  obtain ⟨ds, hds⟩ : ∃ ds, ds = List.replicate m (0 : Int) := ⟨_, rfl⟩
  have HC : Hid (∀ (w1 : World), w1.ownsRow 0 5 1 (.slice (some ⟨w.heap.size, 0, none⟩) m m) m (madeCells (Value.int .u8 0).cells (m * 1)).toList → w.grownBy w1 none → Sep [] w w1 [ownR 5 1 (.slice (some ⟨w.heap.size, 0, none⟩) m m) m (ds.map (Value.int .u8))]) := Lib.hid fun w1 h1 h2 => by
    refine (Sep.init w).add (Frm.of_grown_opt h2) ?_ (fun k hk => by simp [ownR, Value.ownBlock] at hk; omega)
    rw [show (Value.int .u8 0).cells = #[.int .u8 0] from rfl, madeCells_one] at h1
    show w1.ownsRow _ _ _ _ _ _
    rw [hds, List.map_replicate]
    exact h1
  have HDs := Lib.hid hds
  clear hds
  go_upto_region 2 with (at_make; refine wpList_make_full _ rfl _ _ 25 rfl 0 5 i0 (.int .u8 0) 1 Try.underlying25 hi hz0 hz1 .i64 .i64 _ _ m rfl rfl (by omega) (by omega) (by rw [hz2]; omega) (by unfold maxLen; omega) (Nat.zero_le _) ?_; intro w1 ho1 hg1; have HS1 := Lib.hid (HC.out w1 ho1 hg1); clear ho1 hg1)
  all_goals
    go_wp2_with (refine wpList_copy_sep rfl _ _ 25 25 rfl 5 Try.underlying25 (by rw [hi]; exact congrArg some hz1) .u8 _ m m ds 0 HS1.out rfl a zs.length cap zs rfl rfl rfl (HR.out.below HS1.out.frm.below) ?_; intro w2 hS2; have HS2 := Lib.hid hS2; clear hS2)
  all_goals
    go_ret
    refine ⟨_, rfl, ?_⟩
    have h := HS2.out
    unfold sumR
    rw [fitL_length, fitL_eq]
    rw [HDs.out, List.drop_replicate] at h
    exact h

end Go.Proofs.Ytmdjdhbnigppcaa
