/-
  THE WALKS of link's pass, New, Waiting, Counts.
-/
import Derived.Test.YtekjpkppfcmjdaaLiA
import Derived.Test.YtekjpkppfcmjdaaBeq
import Derived.BigQuiet
set_option linter.unusedVariables false
set_option linter.unusedSimpArgs false
namespace Go.Proofs.Ytekjpkppfcmjdaa
open Go.RowKit

set_option maxRecDepth 100000 in
set_option maxHeartbeats 4000000 in
theorem pass_c {S : List Nat} {w0 w : World} {L : List Res} (p : Nat) (c0 c1 c2 c3 : Value) (out : Nat) (hS : Sep S w0 w (blkR p 47 #[c0, c1, c2, c3, .int .i64 (out : Int)] :: L)) (a : Option Addr) (c : Nat) (bs : List Yt) (rd : RdYs w a bs)
    (hn : bs.length ≤ 1000) (hb : ∀ b ∈ bs, b.zs.length ≤ 1000000) (ho : out ≤ 1000000000) :
    Calls Try.prog 24 #[.pointer (some ⟨p, 0, none⟩), .slice a bs.length c] w fun e w' => ∃ (v : Value) (os : List Yt), e = .returned v ∧ os.map Yt.zs = bs.map Yt.zs ∧
      Sep S w0 w' (ysR v os :: bodsR os :: blkR p 47 #[c0, c1, c2, c3, .int .i64 ((out + bs.length : Nat) : Int)] :: L) := by
  obtain ⟨inf, hi, hz0, hz1, hz2⟩ := info_parts info_ys
  obtain ⟨N, hN⟩ : ∃ N, N = out + bs.length := ⟨_, rfl⟩
  rw [← hN]
  have HN := Lib.hid hN
  clear hN
  have HR := Lib.hid (fun X (hX : Frm [] w X) => rd.frm hX)
  have HB := Lib.hid hb
  have hlen : bs.length ≤ 9223372036854775807 := by omega
  clear rd hb
  have HP := Lib.hid hS
  have HS0 := Lib.hid (show Sep [] w w [ysR (.slice none 0 0) [], bodsR []] from (Sep.gather1 (rs := []) (Sep.init w)).nil _ 1)
  clear hS
  go_enter Try.func24, Try.ntmps24
  go_wp2_with fail
  go_loopw [5, 10] (fun v i wi => ∃ (k : Nat) (os : List Yt), k ≤ bs.length ∧ os.map Yt.zs = (bs.take k).map Yt.zs ∧ i = .int .i64 (k : Int) ∧ Sep [] w wi [ysR v os, bodsR os]) (fun _ i _ => bs.length - (intOf i).toNat)
  case atStart => exact ⟨0, [], Nat.zero_le _, rfl, rfl, HS0.out⟩
  case round =>
    obtain ⟨k, os, hk, hos, rfl, hS⟩ := hrel
    have HT := Lib.hid hS
    have HO := Lib.hid hos
    have hol : os.length = k := by have := congrArg List.length hos; simp at this; omega
    have HOl := Lib.hid hol
    clear hS hos HS0 hol
    by_cases hlt : k < bs.length
    · obtain ⟨b, hb⟩ : ∃ b, bs[k]? = some b := ⟨_, List.getElem?_eq_getElem hlt⟩
      obtain ⟨g, off, q, d, rfl, hc, -, hr, hq, -, -⟩ := (HR.out _ HT.out.frm).at_ hb
      have HC := Lib.hid (bclone_c q d b.zs _ hr hq (HB.out b (List.mem_of_getElem? hb)))
      have HBb := Lib.hid hb
      have t1 : decide (k < bs.length) = true := decide_eq_true (by omega)
      have i1 : (0 : Int) ≤ (k : Int) := by omega
      have i2 : (k : Int) < (bs.length : Int) := by omega
      clear hr hq hb
      go_wp2_with fail
      refine HC.out.mono ?_
      rintro e w3 ⟨v3, rfl, hS3⟩
      obtain ⟨a3, c3', hv3, -, -⟩ := own_shape (hS3.own 0 rfl)
      have HS4 := Lib.hid (HT.out.more hS3)
      clear hS3 HC HT
      subst hv3
      go_wp2_with (at_builtin; refine wpList_append_sep rfl _ _ 22 rfl 1 28 inf (.slice none 0 0) 24 Try.underlying22 hi hz0 hz1 hz2 rfl _ os.length (os.map Yt.v) rfl (HS4.out.skip _) rfl _ 1 (.slice a3 b.zs.length c3') rfl (World.cell?_alloc_at _ _ _ _ rfl) rfl (by have := HOl.out; unfold maxLen; omega) (by have := HOl.out; omega) ?_; intro g4 c4 w4 hS4; have HS5 := Lib.hid hS4; clear hS4)
      have HS6 := Lib.hid ((show Sep [] w w4 (ownR 28 1 (.slice (some ⟨g4, 0, none⟩) (os.length + 1) c4) (os.length + 1) (os.map Yt.v ++ [(⟨.slice a3 b.zs.length c3', b.zs⟩ : Yt).v]) :: (⟨.slice a3 b.zs.length c3', b.zs⟩ : Yt).res :: bodsR os :: []) from HS5.out.shuffle (List.Perm.swap _ _ _)).snocY)
      have HO6 := Lib.hid (show (os ++ [(⟨.slice a3 b.zs.length c3', b.zs⟩ : Yt)]).map Yt.zs = (bs.take (k + 1)).map Yt.zs by
        rw [List.map_append, HO.out, List.take_add_one, HBb.out, List.map_append]
        rfl)
      clear HS5 HS4
      go_wp2_with fail
      go_roundw
      case rel => exact ⟨k + 1, _, by omega, HO6.out, by go_num, HS6.out⟩
      case measure => simp [intOf]; omega
    · obtain rfl : k = bs.length := by omega
      have t1 : decide (bs.length < bs.length) = false := decide_eq_false (by omega)
      have HS7 := Lib.hid (show Sep S w0 _ (ysR _ os :: bodsR os :: blkR p 47 #[c0, c1, c2, c3, .int .i64 (out : Int)] :: L) from HP.out.more HT.out)
      obtain ⟨va, vc, hv, -, -⟩ := own_shape (HT.out.own 0 rfl)
      have k4 := (HS7.out.blk 2 rfl).cell 4 rfl
      have f4 := (HS7.out.blk 2 rfl).free 4
      have HO7 := Lib.hid (show os.map Yt.zs = bs.map Yt.zs by rw [HO.out, List.take_length])
      rw [HOl.out] at hv
      have e1 : (out : Int) + (bs.length : Int) = (N : Int) := by have := HN.out; omega
      have e2 : IntKind.i64.wrap (N : Int) = (N : Int) := IntWalk.i64_in _ (by have := HN.out; omega)
      clear HT HP HO
      subst hv
      go_wp2_with fail
      go_ret
      refine ⟨_, os, rfl, HO7.out, ?_⟩
      have h := HS7.out.put 2 rfl 4 (.int .i64 (N : Int))
      exact h

theorem waiting_c {S : List Nat} {w0 w : World} {L : List Res} (p : Nat) (c0 c2 c3 c4 : Value) (a : Option Addr) (n c : Nat) (hS : Sep S w0 w (blkR p 47 #[c0, .slice a n c, c2, c3, c4] :: L)) :
    Calls Try.prog 15 #[.pointer (some ⟨p, 0, none⟩)] w fun e w' => e = .returned (.int .i64 (n : Int)) ∧ w = w' := by
  have k1 := (hS.blk 0 rfl).cell 1 rfl
  clear hS
  go_enter Try.func15, Try.ntmps15
  go_wp2_with fail
  go_ret
  exact ⟨rfl, rfl⟩
theorem counts_c {S : List Nat} {w0 w : World} {L : List Res} (p : Nat) (c0 c1 : Value) (x y z : Int) (hS : Sep S w0 w (blkR p 47 #[c0, c1, .int .i64 x, .int .i64 y, .int .i64 z] :: L)) :
    Calls Try.prog 13 #[.pointer (some ⟨p, 0, none⟩)] w fun e w' => e = .returned (.tuple #[.int .i64 x, .int .i64 y, .int .i64 z]) ∧ Frm [] w w' := by
  have k2 := (hS.blk 0 rfl).cell 2 rfl
  have k3 := (hS.blk 0 rfl).cell 3 rfl
  have k4 := (hS.blk 0 rfl).cell 4 rfl
  clear hS
  go_enter Try.func13, Try.ntmps13
  go_wp2_with fail
  go_quiet (fail)
  go_wp2_with fail
  refine bodyPost_ret (v := .tuple #[.int .i64 x, .int .i64 y, .int .i64 z]) ?_ rfl ⟨rfl, (Frm.refl _ _).drewN nq⟩
  simp [results, Try.results13, go_sem]

end Go.Proofs.Ytekjpkppfcmjdaa
