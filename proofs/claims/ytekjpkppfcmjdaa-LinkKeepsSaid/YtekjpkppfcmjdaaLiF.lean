/-
  THE WALK of link's over.
-/
import Derived.Test.YtekjpkppfcmjdaaLiE
set_option linter.unusedVariables false
set_option linter.unusedSimpArgs false
namespace Go.Proofs.Ytekjpkppfcmjdaa
open Go.RowKit

def decW (x : Wt) : Wt := ⟨x.b, x.l - 1⟩
def dueW (ws : List Wt) : List Yt := (ws.filter fun x => decide (x.l = 1)).map Wt.b
def restW (ws : List Wt) : List Wt := kept (ws.map decW)
theorem dueW_succ {ws : List Wt} {k : Nat} {x : Wt} (h : ws[k]? = some x) : dueW (ws.take (k + 1)) = if x.l = 1 then dueW (ws.take k) ++ [x.b] else dueW (ws.take k) := by
  unfold dueW
  rw [List.take_add_one, h, List.filter_append, List.map_append]
  by_cases hl : x.l = 1
  · simp [hl]
  · simp [hl]
/-- The rows when the first k are turned. -/
def mixW (ws : List Wt) (k : Nat) : List Wt := (ws.take k).map decW ++ ws.drop k
theorem mixW_len (ws : List Wt) (k : Nat) (hk : k ≤ ws.length) : (mixW ws k).length = ws.length := by
  unfold mixW
  rw [List.length_append, List.length_map, List.length_take, List.length_drop]
  omega
theorem mixW_at {ws : List Wt} {k : Nat} {x : Wt} (h : ws[k]? = some x) : (mixW ws k)[k]? = some x := by
  have hl := (List.getElem?_eq_some_iff.1 h).1
  have hlen : ((ws.take k).map decW).length = k := by rw [List.length_map, List.length_take]; omega
  unfold mixW
  rw [List.getElem?_append_right (by omega), hlen, Nat.sub_self, List.getElem?_drop, Nat.add_zero]
  exact h
theorem mixW_set {ws : List Wt} {k : Nat} {x : Wt} (h : ws[k]? = some x) : (mixW ws k).set k (decW x) = mixW ws (k + 1) := by
  have hl := (List.getElem?_eq_some_iff.1 h).1
  have hlen : ((ws.take k).map decW).length = k := by rw [List.length_map, List.length_take]; omega
  unfold mixW
  have e : ws.drop k = ws[k] :: ws.drop (k + 1) := List.drop_eq_getElem_cons hl
  rw [List.set_append_right _ _ (by omega), hlen, Nat.sub_self, List.take_add_one, h, List.map_append, e, List.append_assoc]
  rfl
theorem mixW_all (ws : List Wt) : mixW ws ws.length = ws.map decW := by
  unfold mixW
  rw [List.take_length, List.drop_length, List.append_nil]
set_option maxRecDepth 100000 in
set_option maxHeartbeats 8000000 in
theorem over_c {S : List Nat} {w0 w : World} {L : List Res} (p : Nat) (c0 vw c2 c3 c4 : Value) (ws : List Wt) (hS : Sep S w0 w (blkR p 47 #[c0, vw, c2, c3, c4] :: wtR vw ws :: L))
    (h1 : ∀ x ∈ ws, IsS x.b.v ∧ 1 ≤ x.l ∧ x.l ≤ 1000) (hn : ws.length ≤ 1000) :
    Calls Try.prog 23 #[.pointer (some ⟨p, 0, none⟩)] w fun e w' => ∃ v vw', e = .returned v ∧
      Sep S w0 w' (ownR 28 1 v (dueW ws).length ((dueW ws).map Yt.v) :: blkR p 47 #[c0, vw', c2, c3, c4] :: wtR vw' (restW ws) :: L) := by
  obtain ⟨inf, hi, hz0, hz1, hz2⟩ := info_parts info_ys
  obtain ⟨a, c, hv, hnc, -⟩ := own_shape (hS.own 1 rfl)
  subst hv
  have H1 := Lib.hid h1
  have HS0 := Lib.hid (hS.nil 28 1)
  clear hS h1
  have k1 := (HS0.out.blk 1 rfl).cell 1 rfl
  go_enter Try.func23, Try.ntmps23
  go_wp2_with fail
  clear k1
  go_loopw [3, 10] (fun v i wi => ∃ (k : Nat), k ≤ ws.length ∧ i = .int .i64 (k : Int) ∧ Sep S w0 wi (ownR 28 1 v (dueW (ws.take k)).length ((dueW (ws.take k)).map Yt.v) :: blkR p 47 #[c0, .slice a ws.length c, c2, c3, c4] :: ownR 51 2 (.slice a ws.length c) ws.length (rowsW (mixW ws k)) :: L)) (fun _ i _ => ws.length - (intOf i).toNat)
  case atStart => exact ⟨0, Nat.zero_le _, rfl, HS0.out⟩
  case round =>
    obtain ⟨k, hk, rfl, hS⟩ := hrel
    have HT := Lib.hid hS
    clear hS HS0
    by_cases hlt : k < ws.length
    · obtain ⟨x, hx⟩ : ∃ x, ws[k]? = some x := ⟨_, List.getElem?_eq_getElem hlt⟩
      obtain ⟨⟨xp, xn, xc, hxv⟩, hl1, hl2⟩ := H1.out x (List.mem_of_getElem? hx)
      obtain ⟨g, c', hv⟩ := ownk_some_addr (HT.out.own 2 rfl) (by omega)
      injection hv with hv1 hv2 hv3
      clear hv2
      subst hv1 hv3
      obtain ⟨m, hm⟩ : ∃ m, m = x.l - 1 := ⟨_, rfl⟩
      have HX := Lib.hid hx
      have HXv := Lib.hid hxv
      have k1 := (HT.out.blk 1 rfl).cell 1 rfl
      have q1 := ownk_cell (HT.out.own 2 rfl) (rowsW_at (mixW_at hx)).2
      have f1 := ownk_free (HT.out.own 2 rfl) (k * 2 + 1)
      have t1 : decide (k < ws.length) = true := decide_eq_true (by omega)
      have i1 : (0 : Int) ≤ (k : Int) := by omega
      have i2 : (k : Int) < (ws.length : Int) := by omega
      have e1 : (x.l : Int) - 1 = (m : Int) := by omega
      have e2 : IntKind.i64.wrap (m : Int) = (m : Int) := IntWalk.i64_in _ (by omega)
      have HS2 := Lib.hid (show Sep S w0 (wr.setCell ⟨g, k * 2 + 1, none⟩ (.int .i64 (m : Int))) (ownR 28 1 _ (dueW (ws.take k)).length ((dueW (ws.take k)).map Yt.v) :: blkR p 47 #[c0, .slice (some ⟨g, 0, none⟩) ws.length c, c2, c3, c4] :: ownR 51 2 (.slice (some ⟨g, 0, none⟩) ws.length c) ws.length (rowsW (mixW ws (k + 1))) :: L) from by
        have h := HT.out.setOwn 2 rfl (k * 2 + 1) (.int .i64 (m : Int))
        have e := rowsW_setl (mixW_at hx) m
        have e3 : (⟨x.b, m⟩ : Wt) = decW x := by rw [hm]; rfl
        rw [e3, mixW_set hx] at e
        rw [← e]
        exact h)
      have HM := Lib.hid hm
      have HL := Lib.hid (And.intro hl1 hl2)
      clear hx hxv hm hl1 hl2
      go_upto_region 6 with fail
      obtain ⟨w2, hw2⟩ : ∃ y, y = wr.setCell ⟨g, k * 2 + 1, none⟩ (.int .i64 (m : Int)) := ⟨_, rfl⟩
      rw [← hw2] at HS2
      rw [← hw2]
      clear hw2 HT k1 q1 f1 e1 e2
      have k1 := (HS2.out.blk 1 rfl).cell 1 rfl
      have hmx : (mixW ws (k + 1))[k]? = some (decW x) := by
        rw [← mixW_set HX.out, List.getElem?_set_self]
        have := mixW_len ws k (by omega)
        omega
      have q0 := ownk_cell (HS2.out.own 2 rfl) (rowsW_at hmx).1
      have q1 := ownk_cell (HS2.out.own 2 rfl) (rowsW_at hmx).2
      rw [show (decW x).b.v = .slice xp xn xc from HXv.out] at q0
      rw [show (decW x).l = m from HM.out.symm] at q1
      clear hmx
      by_cases hm0 : m = 0
      · have hl : x.l = 1 := by have := HM.out; have := HL.out; omega
        have HD := Lib.hid (show dueW (ws.take (k + 1)) = dueW (ws.take k) ++ [x.b] by rw [dueW_succ HX.out, if_pos hl])
        have HDl := Lib.hid (show (dueW (ws.take k)).length ≤ 1000 by
          unfold dueW
          rw [List.length_map]
          have := List.length_filter_le (fun x : Wt => decide (x.l = 1)) (ws.take k)
          rw [List.length_take] at this
          omega)
        subst hm0
        clear hl
        go_wp2_with (at_builtin; refine wpList_append_sep rfl _ _ 22 rfl 0 28 inf (.slice none 0 0) 24 Try.underlying22 hi hz0 hz1 hz2 rfl _ (dueW (ws.take k)).length ((dueW (ws.take k)).map Yt.v) rfl (HS2.out.skip _) rfl _ 1 (.slice xp xn xc) rfl (World.cell?_alloc_at _ _ _ _ rfl) rfl (by have := HDl.out; unfold maxLen; omega) (by have := HDl.out; omega) ?_; intro g4 d4 w4 hS4; have HS5 := Lib.hid hS4; clear hS4)
        have HS6 := Lib.hid (show Sep S w0 w4 (ownR 28 1 (.slice (some ⟨g4, 0, none⟩) ((dueW (ws.take k)).length + 1) d4) (dueW (ws.take (k + 1))).length ((dueW (ws.take (k + 1))).map Yt.v) :: blkR p 47 #[c0, .slice (some ⟨g, 0, none⟩) ws.length c, c2, c3, c4] :: ownR 51 2 (.slice (some ⟨g, 0, none⟩) ws.length c) ws.length (rowsW (mixW ws (k + 1))) :: L) from by
          rw [HD.out, List.length_append, List.map_append, show [x.b].map Yt.v = [.slice xp xn xc] by rw [← HXv.out]; rfl]
          exact HS5.out)
        clear HS5
        go_wp2_with fail
        go_roundw
        case rel => exact ⟨k + 1, by omega, by go_num, HS6.out⟩
        case measure => simp [intOf]; omega
      · have hl : x.l ≠ 1 := by have := HM.out; have := HL.out; omega
        have HD := Lib.hid (show dueW (ws.take (k + 1)) = dueW (ws.take k) by rw [dueW_succ HX.out, if_neg hl])
        have t2 : ((m : Int) == 0) = false := by rw [beq_eq_false_iff_ne]; omega
        clear hl hm0
        go_wp2_with fail
        go_roundw
        case rel => exact ⟨k + 1, by omega, by go_num, by rw [HD.out]; exact HS2.out⟩
        case measure => simp [intOf]; omega
    · obtain rfl : k = ws.length := by omega
      have t1 : decide (ws.length < ws.length) = false := decide_eq_false (by omega)
      have k1 := (HT.out.blk 1 rfl).cell 1 rfl
      rw [mixW_all, List.take_length] at HT
      have HD := Lib.hid (ldel_c (S := S) (w0 := w0) (.slice a ws.length c) (ws.map decW) (by
          have h := HT.out.shuffle (L' := wtR (.slice a ws.length c) (ws.map decW) :: ownR 28 1 _ (dueW ws).length ((dueW ws).map Yt.v) :: blkR p 47 #[c0, .slice a ws.length c, c2, c3, c4] :: L) (by
            unfold wtR
            rw [List.length_map]
            exact ((List.Perm.swap _ _ _).cons _).trans (List.Perm.swap _ _ _))
          exact h) (fun x hx => by
        obtain ⟨y, hy, rfl⟩ := List.mem_map.1 hx
        exact (H1.out y hy).1) (by rw [List.length_map]; exact hn))
      obtain ⟨va, vc, hv, -, -⟩ := own_shape (HT.out.own 0 rfl)
      subst hv
      clear HT
      go_wp2_with fail
      refine HD.out.mono ?_
      rintro e w3 ⟨v3, rfl, hS3⟩
      have HS4 := Lib.hid (hS3.shuffle (L' := ownR 28 1 (.slice va (dueW ws).length vc) (dueW ws).length ((dueW ws).map Yt.v) :: blkR p 47 #[c0, .slice a ws.length c, c2, c3, c4] :: wtR v3 (restW ws) :: L) ((List.Perm.swap _ _ _).trans ((List.Perm.swap _ _ _).cons _)))
      obtain ⟨a3, d3, hv, -, -⟩ := own_shape (hS3.own 0 rfl)
      subst hv
      clear hS3 HD k1
      have k1 := (HS4.out.blk 1 rfl).cell 1 rfl
      have f1 := (HS4.out.blk 1 rfl).free 1
      go_wp2_with fail
      go_ret
      exact ⟨_, _, rfl, HS4.out.put 1 rfl 1 _⟩

end Go.Proofs.Ytekjpkppfcmjdaa
