/-
  A LINK BEHIND n DATAGRAMS: Put, Empty as steps of the plain model; THE WALK of link.Apply.
-/
import Derived.Test.YtekjpkppfcmjdaaLiK
set_option linter.unusedVariables false
set_option linter.unusedSimpArgs false
namespace Go.Proofs.Ytekjpkppfcmjdaa
open Go.RowKit

/-- A link in memory behind n of the datagrams. -/
def lkL (p : Nat) (vc vw : Value) (ch : List Int) (ws : List Wt) (put gone out : Nat) (L : List Res) : List Res :=
  blkR p 47 #[vc, vw, .int .i64 (put : Int), .int .i64 (gone : Int), .int .i64 (out : Int)] :: intsR vc ch :: wtR vw ws :: bodW ws :: L
def lkN (p : Nat) (vc vw : Value) (ch : List Int) (X : List (List Int)) (n : Nat) (ws : List Wt) (L : List Res) : List Res := lkL p vc vw ch ws n (goneN ch n) (allO ch X n).length L
theorem ws_ok {ch : List Int} {X : List (List Int)} {n : Nat} {ws : List Wt} (h : wsD ws = qAt ch X n) (hX : ∀ z ∈ X, z.length ≤ 1000000) :
    (∀ x ∈ ws, 1 ≤ x.l ∧ x.l ≤ 1000) ∧ (∀ x ∈ ws, x.b.zs.length ≤ 1000000) ∧ ws.length ≤ n := by
  have ho := qAt_ok ch X n
  rw [← h] at ho
  refine ⟨fun x hx => ?_, fun x hx => ?_, ?_⟩
  · have := ho.l (x.b.zs, x.l) (List.mem_map_of_mem (f := fun x : Wt => (x.b.zs, x.l)) hx)
    simp only at this
    omega
  · exact hX _ (ho.l (x.b.zs, x.l) (List.mem_map_of_mem (f := fun x : Wt => (x.b.zs, x.l)) hx)).2.2
  · have := ho.n
    unfold wsD at this
    rw [List.length_map] at this
    exact this
theorem gone_le (ch : List Int) : ∀ n, goneN ch n ≤ n
  | 0 => Nat.le_refl _
  | n + 1 => by
    have := gone_le ch n
    rw [goneN]
    split <;> omega
/-- What the next Put gives. -/
def StP (S : List Nat) (w0 : World) (L : List Res) (p : Nat) (vc : Value) (ch : List Int) (X : List (List Int)) (n : Nat) (e : Ending) (w' : World) : Prop :=
  ∃ (v vw' : Value) (ws' : List Wt) (os : List Yt), e = .returned v ∧ os.map Yt.zs = oAt ch X n ∧ wsD ws' = qAt ch X (n + 1) ∧ Sep S w0 w' (ysR v os :: bodsR os :: lkN p vc vw' ch X (n + 1) ws' L)
theorem step_c {S : List Nat} {w0 w : World} {L : List Res} (p : Nat) (vc vw : Value) (ch : List Int) (X : List (List Int)) (n : Nat) (ws : List Wt) (hS : Sep S w0 w (lkN p vc vw ch X n ws L)) (hw : wsD ws = qAt ch X n)
    (hX : ∀ z ∈ X, z.length ≤ 1000000) (hn : n ≤ 800) (a : Option Addr) (c : Nat) (zs : List Int) (hx : X[n]? = some zs) (rd : RdI .u8 w a zs) (ha : a = none → c = 0) :
    Calls Try.prog 10 #[.pointer (some ⟨p, 0, none⟩), .slice a zs.length c] w (StP S w0 L p vc ch X n) := by
  obtain ⟨h1, h2, h3⟩ := ws_ok hw hX
  have hal := all_len ch X n
  have hgl := gone_le ch n
  refine (put_c p vc vw ch ws n (goneN ch n) (allO ch X n).length hS h1 h2 (by omega) a c zs rd ha (hX zs (List.mem_of_getElem? hx)) (by omega) (by omega) (by omega)).mono ?_
  rintro e w' ⟨v, vw', ws', os, rfl, ho, hq, hS'⟩
  rw [hw, ← oAt_at hx] at ho
  rw [hw, ← qAt_succ hx] at hq
  refine ⟨v, vw', ws', os, rfl, ho, hq, ?_⟩
  unfold lkN lkL
  rw [goneN, allO, List.length_append, ← ho, List.length_map]
  exact hS'
/-- What Empty gives. -/
def EmP (S : List Nat) (w0 : World) (L : List Res) (p : Nat) (vc : Value) (ch : List Int) (X : List (List Int)) (n : Nat) (e : Ending) (w' : World) : Prop :=
  ∃ (v : Value) (os : List Yt), e = .returned v ∧ os.map Yt.zs = (qAt ch X n).map Prod.fst ∧ Sep S w0 w' (ysR v os :: bodsR os :: lkL p vc (.slice none 0 0) ch [] n (goneN ch n) ((allO ch X n).length + (qAt ch X n).length) L)
theorem emp_c {S : List Nat} {w0 w : World} {L : List Res} (p : Nat) (vc vw : Value) (ch : List Int) (X : List (List Int)) (n : Nat) (ws : List Wt) (hS : Sep S w0 w (lkN p vc vw ch X n ws L)) (hw : wsD ws = qAt ch X n)
    (hX : ∀ z ∈ X, z.length ≤ 1000000) (hn : n ≤ 800) :
    Calls Try.prog 17 #[.pointer (some ⟨p, 0, none⟩)] w (EmP S w0 L p vc ch X n) := by
  obtain ⟨h1, h2, h3⟩ := ws_ok hw hX
  have hal := all_len ch X n
  refine (empty_c p vc vw ch ws n (goneN ch n) (allO ch X n).length hS h2 (by omega) (by omega)).mono ?_
  rintro e w' ⟨v, os, rfl, ho, hS'⟩
  rw [hw] at ho
  refine ⟨v, os, rfl, ho, ?_⟩
  have hl : os.length = (qAt ch X n).length := by have h := congrArg List.length ho; rwa [List.length_map, List.length_map] at h
  unfold lkL
  rw [← hl]
  exact hS'
theorem bods_app {S : List Nat} {w0 w : World} {a b : List Yt} {L : List Res} (h : Sep S w0 w (bodsR a :: bodsR b :: L)) : Sep S w0 w (bodsR (a ++ b) :: L) := by
  have h1 : Sep S w0 w (a.map Yt.res ++ bodsR b :: L) := h.explode
  have h2 : Sep S w0 w (bodsR b :: (a.map Yt.res ++ L)) := h1.shuffle List.perm_middle
  have h3 : Sep S w0 w (b.map Yt.res ++ (a.map Yt.res ++ L)) := h2.explode
  have h4 : Sep S w0 w (a.map Yt.res ++ b.map Yt.res ++ L) := h3.shuffle (by
    rw [← List.append_assoc]
    exact List.perm_append_comm.append_right L)
  unfold bodsR
  rw [List.map_append]
  exact Sep.gather1 h4
theorem oAt_len (ch : List Int) (X : List (List Int)) (n : Nat) : (oAt ch X n).length ≤ 2 * (n + 1) := by
  have := all_len ch X (n + 1)
  rw [allO, List.length_append] at this
  omega
set_option maxRecDepth 100000 in
set_option maxHeartbeats 16000000 in
theorem apply_c (a : Option Addr) (c : Nat) (bs : List Yt) (w : World) (rd : RdYs w a bs) (hz : ∀ b ∈ bs, b.zs.length ≤ 1000000) (hn : bs.length ≤ 800) (ac : Option Addr) (cc : Nat) (ch : List Int) (rc : RdI .i64 w ac ch) (hc : ac = none → cc = 0) (hcl : ch.length ≤ 1000000) :
    Calls Try.prog 18 #[.slice a bs.length c, .slice ac ch.length cc] w fun e w' => ∃ (v : Value) (os : List Yt), e = .returned v ∧
      os.map Yt.zs = allO ch (bs.map Yt.zs) bs.length ++ (qAt ch (bs.map Yt.zs) bs.length).map Prod.fst ∧ Sep [] w w' [ysR v os, bodsR os] := by
  obtain ⟨inf, hi, hz0, hz1, hz2⟩ := info_parts info_ys
  obtain ⟨X, hX⟩ : ∃ X, X = bs.map Yt.zs := ⟨_, rfl⟩
  rw [← hX]
  have HXx := Lib.hid hX
  have HXl := Lib.hid (show ∀ z ∈ X, z.length ≤ 1000000 from fun z h => by
    rw [hX] at h
    obtain ⟨b, hb, rfl⟩ := List.mem_map.1 h
    exact hz b hb)
  have HN := Lib.hid (new_c ac cc ch w rc hc hcl)
  have HR := Lib.hid (fun Y (hY : Frm [] w Y) => rd.frm hY)
  clear rd rc hc hz hX
  go_enter Try.func18, Try.ntmps18
  go_wp2_with fail
  refine HN.out.mono ?_
  rintro e w1 ⟨p, vc, rfl, hS1⟩
  have HS1 := Lib.hid (show Sep [] w w1 (ysR (.slice none 0 0) [] :: bodsR [] :: lkN p vc (.slice none 0 0) ch X 0 [] []) from by
    have h1 := (Sep.gather1 (rs := []) hS1).nil 51 2
    have h2 : Sep [] w w1 (lkN p vc (.slice none 0 0) ch X 0 [] []) := Sep.mix (A := [_, _, _, _]) (L := []) h1 [2, 3, 0, 1] (by decide) rfl
    exact (Sep.gather1 (rs := []) h2).nil _ 1)
  clear hS1 HN
  go_wp2_with fail
  go_loopw [6, 13] (fun v i wi => ∃ (k : Nat) (vw : Value) (ws : List Wt) (os : List Yt), k ≤ bs.length ∧ i = .int .i64 (k : Int) ∧ wsD ws = qAt ch X k ∧ os.map Yt.zs = allO ch X k ∧ Sep [] w wi (ysR v os :: bodsR os :: lkN p vc vw ch X k ws [])) (fun _ i _ => bs.length - (intOf i).toNat)
  case atStart => exact ⟨0, .slice none 0 0, [], [], Nat.zero_le _, rfl, rfl, rfl, HS1.out⟩
  case round =>
    obtain ⟨k, vw, ws, os, hk, rfl, hw, hos, hS⟩ := hrel
    have HT := Lib.hid hS
    have HW := Lib.hid hw
    have HO := Lib.hid hos
    have hol : os.length ≤ 2 * k := by
      have h := congrArg List.length hos
      rw [List.length_map] at h
      have := all_len ch X k
      omega
    have HOl := Lib.hid hol
    clear hS hw hos HS1 hol
    by_cases hlt : k < bs.length
    · obtain ⟨b, hb⟩ : ∃ b, bs[k]? = some b := ⟨_, List.getElem?_eq_getElem hlt⟩
      obtain ⟨g, off, q, d, rfl, hcell, -, hr, hq, -, -⟩ := (HR.out _ HT.out.frm).at_ hb
      have hXk : X[k]? = some b.zs := by rw [HXx.out, List.getElem?_map, hb]; rfl
      have HP := Lib.hid (step_c (S := []) (w0 := w) p vc vw ch X k ws (L := [ysR _ os, bodsR os]) (Sep.mix (A := [_, _, _, _, _, _]) (L := []) HT.out [2, 3, 4, 5, 0, 1] (by decide) rfl) HW.out HXl.out (by omega) q d b.zs hXk hr hq)
      have t1 : decide (k < bs.length) = true := decide_eq_true (by omega)
      have i1 : (0 : Int) ≤ (k : Int) := by omega
      have i2 : (k : Int) < (bs.length : Int) := by omega
      clear hr hq hb hXk
      go_wp2_with fail
      refine HP.out.mono ?_
      rintro e w3 ⟨v3, vw3, ws3, os3, rfl, ho3, hw3, hS3⟩
      obtain ⟨a3, c3, hv3, _, hn3, r3⟩ := ys_rd (hS3.get 0 rfl) (hS3.get 1 rfl)
      subst hv3
      have HS3 := Lib.hid hS3
      have HR3 := Lib.hid r3.row
      have HN3 := Lib.hid hn3
      have HO3 := Lib.hid ho3
      have HW3 := Lib.hid hw3
      have hol3 : os3.length ≤ 2 * (k + 1) := by
        have h := congrArg List.length ho3
        rw [List.length_map] at h
        have := oAt_len ch X k
        omega
      have HOl3 := Lib.hid hol3
      have HV3 := Lib.hid (show ∀ u ∈ os3.map Yt.v, u.oneCell' = true from fun u hu => by
        obtain ⟨y, hy, rfl⟩ := List.mem_map.1 hu
        obtain ⟨q, d, hv, _⟩ := r3.bod y hy
        rw [hv]; rfl)
      clear hS3 r3 hn3 ho3 hw3 HP HT hol3
      go_wp2_with (at_builtin; refine wpList_append_vals rfl _ _ 22 rfl 6 28 inf (.slice none 0 0) 24 Try.underlying22 hi hz0 hz1 hz2 rfl _ os.length (os.map Yt.v) rfl HS3.out rfl a3 c3 (os3.map Yt.v) (by rw [List.length_map]; rfl) HN3.out HR3.out HV3.out (by have := HOl.out; have := HOl3.out; rw [List.length_map]; unfold maxLen; omega) (by have := HOl.out; have := HOl3.out; rw [List.length_map]; omega) ?_; intro v4 w4 hS4; have HS4 := Lib.hid hS4; clear hS4)
      have HS5 := Lib.hid (show Sep [] w w4 (ysR v4 (os ++ os3) :: bodsR (os ++ os3) :: lkN p vc vw3 ch X (k + 1) ws3 []) from by
        have h := Sep.mix (A := [_, _, _, _, _, _, _, _]) (L := []) HS4.out [7, 1, 6, 2, 3, 4, 5] (by decide) rfl
        have h2 := bods_app h
        have e : ysR v4 (os ++ os3) = ownR 28 1 v4 (os.length + (os3.map Yt.v).length) (os.map Yt.v ++ os3.map Yt.v) := by
          unfold ysR
          rw [List.length_append, List.map_append, List.length_map]
        rw [e]
        exact Sep.mix (A := [_, _, _, _, _, _]) (L := []) h2 [1, 0, 2, 3, 4, 5] (by decide) rfl)
      have HO5 := Lib.hid (show (os ++ os3).map Yt.zs = allO ch X (k + 1) by rw [List.map_append, HO.out, HO3.out, allO])
      clear HS4 HS3
      go_wp2_with fail
      go_roundw
      case rel => exact ⟨k + 1, vw3, ws3, os ++ os3, by omega, by go_num, HW3.out, HO5.out, HS5.out⟩
      case measure => simp [intOf]; omega
    · obtain rfl : k = bs.length := by omega
      have t1 : decide (bs.length < bs.length) = false := decide_eq_false (by omega)
      have HP := Lib.hid (emp_c (S := []) (w0 := w) p vc vw ch X bs.length ws (L := [ysR _ os, bodsR os]) (Sep.mix (A := [_, _, _, _, _, _]) (L := []) HT.out [2, 3, 4, 5, 0, 1] (by decide) rfl) HW.out HXl.out (by omega))
      clear HT
      go_wp2_with fail
      refine HP.out.mono ?_
      rintro e w3 ⟨v3, os3, rfl, ho3, hS3⟩
      obtain ⟨a3, c3, hv3, _, hn3, r3⟩ := ys_rd (hS3.get 0 rfl) (hS3.get 1 rfl)
      subst hv3
      have HS3 := Lib.hid hS3
      have HR3 := Lib.hid r3.row
      have HN3 := Lib.hid hn3
      have HO3 := Lib.hid ho3
      have hol3 : os3.length ≤ 2 * bs.length := by
        have h := congrArg List.length ho3
        rw [List.length_map, List.length_map] at h
        have := all_len ch X bs.length
        omega
      have HOl3 := Lib.hid hol3
      have HV3 := Lib.hid (show ∀ u ∈ os3.map Yt.v, u.oneCell' = true from fun u hu => by
        obtain ⟨y, hy, rfl⟩ := List.mem_map.1 hu
        obtain ⟨q, d, hv, _⟩ := r3.bod y hy
        rw [hv]; rfl)
      clear hS3 r3 hn3 ho3 HP hol3
      go_wp2_with (at_builtin; refine wpList_append_vals rfl _ _ 22 rfl 6 28 inf (.slice none 0 0) 24 Try.underlying22 hi hz0 hz1 hz2 rfl _ os.length (os.map Yt.v) rfl HS3.out rfl a3 c3 (os3.map Yt.v) (by rw [List.length_map]; rfl) HN3.out HR3.out HV3.out (by have := HOl.out; have := HOl3.out; rw [List.length_map]; unfold maxLen; omega) (by have := HOl.out; have := HOl3.out; rw [List.length_map]; omega) ?_; intro v4 w4 hS4; have HS4 := Lib.hid hS4; clear hS4)
      go_ret
      refine ⟨_, os ++ os3, rfl, ?_, ?_⟩
      · rw [List.map_append, HO.out, HO3.out]
      · have h := Sep.mix (A := [_, _, _, _, _, _, _, _]) (L := []) HS4.out [7, 1, 6] (by decide) rfl
        have h2 := bods_app h
        have e : ysR v4 (os ++ os3) = ownR 28 1 v4 (os.length + (os3.map Yt.v).length) (os.map Yt.v ++ os3.map Yt.v) := by
          unfold ysR
          rw [List.length_append, List.map_append, List.length_map]
        have h3 : Sep [] w w4 [ysR v4 (os ++ os3), bodsR (os ++ os3)] := by
          rw [e]
          exact Sep.mix (A := [_, _]) (L := []) h2 [1, 0] (by decide) rfl
        exact h3

end Go.Proofs.Ytekjpkppfcmjdaa
