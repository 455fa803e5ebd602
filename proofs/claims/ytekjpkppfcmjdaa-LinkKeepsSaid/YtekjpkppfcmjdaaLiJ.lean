/-
  THE WALKS of link's Empty, Lost; confluxref01.SameAll.
-/
import Derived.Test.YtekjpkppfcmjdaaLiI
set_option linter.unusedVariables false
set_option linter.unusedSimpArgs false
namespace Go.Proofs.Ytekjpkppfcmjdaa
open Go.RowKit

theorem bodW_ys (ws : List Wt) : bodW ws = bodsR (ws.map Wt.b) := by unfold bodW bodsR; rw [List.map_map]; rfl
/-- What Empty gives. -/
def EmpP (S : List Nat) (w0 : World) (L : List Res) (p : Nat) (vc : Value) (ch : List Int) (ws : List Wt) (put gone out : Nat) (e : Ending) (w' : World) : Prop :=
  ∃ (v : Value) (os : List Yt), e = .returned v ∧ os.map Yt.zs = (wsD ws).map Prod.fst ∧
      Sep S w0 w' (ysR v os :: bodsR os :: blkR p 47 #[vc, .slice none 0 0, .int .i64 (put : Int), .int .i64 (gone : Int), .int .i64 ((out + os.length : Nat) : Int)] :: intsR vc ch :: wtR (.slice none 0 0) [] :: bodW [] :: L)
set_option maxRecDepth 100000 in
set_option maxHeartbeats 8000000 in
theorem empty_c {S : List Nat} {w0 w : World} {L : List Res} (p : Nat) (vc vw : Value) (ch : List Int) (ws : List Wt) (put gone out : Nat)
    (hS : Sep S w0 w (blkR p 47 #[vc, vw, .int .i64 (put : Int), .int .i64 (gone : Int), .int .i64 (out : Int)] :: intsR vc ch :: wtR vw ws :: bodW ws :: L))
    (hz : ∀ x ∈ ws, x.b.zs.length ≤ 1000000) (hn : ws.length ≤ 900) (hout : out ≤ 1000000) :
    Calls Try.prog 17 #[.pointer (some ⟨p, 0, none⟩)] w (EmpP S w0 L p vc ch ws put gone out) := by
  obtain ⟨inf, hi, hz0, hz1, hz2⟩ := info_parts info_ys
  obtain ⟨a, c, hv, hnc, -⟩ := own_shape (hS.own 2 rfl)
  subst hv
  have HHz := Lib.hid hz
  have HS0 := Lib.hid (hS.nil 28 1)
  have HSl := Lib.hid (fun x (hx : x ∈ ws) => (show IsS x.b.v from by
    have h := (hS.get 3 rfl).1 x.b.res (List.mem_map_of_mem hx)
    obtain ⟨q, d, hv, _, _⟩ := own_shape (show World.ownsRow _ 0 _ 1 x.b.v x.b.zs.length _ from h)
    exact ⟨q, _, d, hv⟩))
  clear hS hz
  have k1 := (HS0.out.blk 1 rfl).cell 1 rfl
  go_enter Try.func17, Try.ntmps17
  go_wp2_with fail
  clear k1
  go_loopw [3, 11] (fun v i wi => ∃ (k : Nat), k ≤ ws.length ∧ i = .int .i64 (k : Int) ∧ Sep S w0 wi (ownR 28 1 v k ((ws.take k).map fun x => x.b.v) :: blkR p 47 #[vc, .slice a ws.length c, .int .i64 (put : Int), .int .i64 (gone : Int), .int .i64 (out : Int)] :: intsR vc ch :: wtR (.slice a ws.length c) ws :: bodW ws :: L)) (fun _ i _ => ws.length - (intOf i).toNat)
  case atStart => exact ⟨0, Nat.zero_le _, rfl, HS0.out⟩
  case round =>
    obtain ⟨k, hk, rfl, hS⟩ := hrel
    have HT := Lib.hid hS
    clear hS HS0
    by_cases hlt : k < ws.length
    · obtain ⟨x, hx⟩ : ∃ x, ws[k]? = some x := ⟨_, List.getElem?_eq_getElem hlt⟩
      obtain ⟨xp, xn, xc, hxv⟩ := HSl.out x (List.mem_of_getElem? hx)
      obtain ⟨g, c', hv⟩ := ownk_some_addr (HT.out.own 3 rfl) (by omega)
      injection hv with hv1 hv2 hv3
      clear hv2
      subst hv1 hv3
      have q0 := ownk_cell (HT.out.own 3 rfl) (rowsW_at hx).1
      have q1 := ownk_cell (HT.out.own 3 rfl) (rowsW_at hx).2
      rw [hxv] at q0
      have HX := Lib.hid hx
      have HXv := Lib.hid hxv
      have t1 : decide (k < ws.length) = true := decide_eq_true (by omega)
      have i1 : (0 : Int) ≤ (k : Int) := by omega
      have i2 : (k : Int) < (ws.length : Int) := by omega
      clear hx hxv
      go_upto_region 5 with fail
      have HS2 := Lib.hid (HT.out.alloc #[.slice xp xn xc, .int .i64 (x.l : Int)] 51)
      obtain ⟨w2, hw2⟩ : ∃ y, y = wr.alloc (.cells #[.slice xp xn xc, .int .i64 (x.l : Int)] 51) := ⟨_, rfl⟩
      obtain ⟨nb, hnb⟩ : ∃ y, y = wr.heap.size := ⟨_, rfl⟩
      rw [← hw2, ← hnb] at HS2
      rw [← hw2, ← hnb]
      clear hw2 hnb q0 q1 HT
      have b0 := (HS2.out.blk 0 rfl).cell 0 rfl
      go_wp2_with (at_builtin; refine wpList_append_sep rfl _ _ 22 rfl 1 28 inf (.slice none 0 0) 24 Try.underlying22 hi hz0 hz1 hz2 rfl _ k ((ws.take k).map fun x => x.b.v) rfl (HS2.out.skip _) rfl _ 1 (.slice xp xn xc) rfl (World.cell?_alloc_at _ _ _ _ rfl) rfl (by unfold maxLen; omega) (by omega) ?_; intro g4 d4 w4 hS4; have HS5 := Lib.hid hS4; clear hS4)
      have HS6 := Lib.hid (show Sep S w0 w4 (ownR 28 1 (.slice (some ⟨g4, 0, none⟩) (k + 1) d4) (k + 1) ((ws.take (k + 1)).map fun x => x.b.v) :: blkR p 47 #[vc, .slice (some ⟨g, 0, none⟩) ws.length c, .int .i64 (put : Int), .int .i64 (gone : Int), .int .i64 (out : Int)] :: intsR vc ch :: wtR (.slice (some ⟨g, 0, none⟩) ws.length c) ws :: bodW ws :: L) from by
        rw [List.take_add_one, HX.out, List.map_append, show (some x).toList.map (fun x : Wt => x.b.v) = [.slice xp xn xc] by rw [← HXv.out]; rfl]
        exact Sep.mix (A := [_, _, _, _, _, _]) (L := L) HS5.out [1, 2, 3, 4, 5] (by decide) rfl)
      clear HS5 b0 HS2
      go_wp2_with fail
      go_roundw
      case rel => exact ⟨k + 1, by omega, by go_num, HS6.out⟩
      case measure => simp [intOf]; omega
    · obtain rfl : k = ws.length := by omega
      have t1 : decide (ws.length < ws.length) = false := decide_eq_false (by omega)
      have k1 := (HT.out.blk 1 rfl).cell 1 rfl
      have f1 := (HT.out.blk 1 rfl).free 1
      obtain ⟨va, vd, hv, -, -⟩ := own_shape (HT.out.own 0 rfl)
      subst hv
      have HS7 := Lib.hid (show Sep S w0 (wr.setCell ⟨p, 1, none⟩ (.slice none 0 0)) (blkR p 47 #[vc, .slice none 0 0, .int .i64 (put : Int), .int .i64 (gone : Int), .int .i64 (out : Int)] :: ysR (.slice va ws.length vd) (ws.map Wt.b) :: bodsR (ws.map Wt.b) :: intsR vc ch :: L) from by
        have h := HT.out.put 1 rfl 1 (.slice none 0 0)
        have e : ysR (.slice va ws.length vd) (ws.map Wt.b) = ownR 28 1 (.slice va ws.length vd) ws.length ((ws.take ws.length).map fun x => x.b.v) := by
          unfold ysR
          rw [List.length_map, List.map_map, List.take_length]
          rfl
        rw [e, ← bodW_ys]
        exact Sep.mix (A := [_, _, _, _, _]) (L := L) h [1, 0, 4, 2] (by decide) rfl)
      clear HT
      go_upto_region 8 with fail
      obtain ⟨w7, hw7⟩ : ∃ y, y = wr.setCell ⟨p, 1, none⟩ (.slice none 0 0) := ⟨_, rfl⟩
      rw [← hw7] at HS7 ⊢
      clear hw7 k1 f1
      have HPs := Lib.hid (pass_c p _ _ _ _ out HS7.out va vd (ws.map Wt.b) (ys_rds (HS7.out.get 1 rfl) (HS7.out.get 2 rfl)) (by rw [List.length_map]; omega) (fun b hb => by obtain ⟨x, hx, rfl⟩ := List.mem_map.1 hb; exact HHz.out x hx) (by omega))
      rw [List.length_map] at HPs
      go_wp2_with fail
      refine HPs.out.mono ?_
      rintro e w8 ⟨v8, os, rfl, hos, hS8⟩
      have HO := Lib.hid hos
      have HSF := Lib.hid hS8
      clear hS8 hos HPs
      go_wp2_with fail
      go_ret
      refine ⟨_, os, rfl, ?_, ?_⟩
      · rw [HO.out]; unfold wsD; rw [List.map_map, List.map_map]; rfl
      · have hol : os.length = ws.length := by have h := congrArg List.length HO.out; rw [List.length_map, List.length_map, List.length_map] at h; exact h
        rw [hol]
        have h := (Sep.mix (A := [_, _, _, _, _, _]) (L := L) HSF.out [0, 1, 2, 5] (by decide) rfl)
        have h2 := (Sep.gather1 (rs := []) h).nil 51 2
        exact Sep.mix (A := [_, _, _, _, _, _]) (L := L) h2 [2, 3, 4, 5, 0, 1] (by decide) rfl

end Go.Proofs.Ytekjpkppfcmjdaa
