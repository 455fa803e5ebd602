/-
  THE WALK of link's Put.
-/
import Derived.Test.YtekjpkppfcmjdaaLiH
import Derived.Test.YtekjpkppfcmjdaaArr
import Derived.Test.YtekjpkppfcmjdaaPic
import Derived.BigQuiet
set_option linter.unusedVariables false
set_option linter.unusedSimpArgs false
namespace Go.Proofs.Ytekjpkppfcmjdaa
open Go.RowKit

section
variable {α : Type}
def dueP (q : List (α × Nat)) : List α := (q.filter fun x => decide (x.2 = 1)).map Prod.fst
def restP (q : List (α × Nat)) : List (α × Nat) := (q.map fun x => (x.1, x.2 - 1)).filter fun x => !decide (x.2 = 0)
/-- What comes out behind a datagram; what waits then. -/
def putO (k : Nat) (x : α) (q : List (α × Nat)) : List α := if k = 3 then dueP q else if k = 4 then x :: x :: dueP q else if 4 < k then dueP q else x :: dueP q
def putQ (k : Nat) (x : α) (q : List (α × Nat)) : List (α × Nat) := if 4 < k then restP q ++ [(x, k - 4)] else restP q
end
def wsD (ws : List Wt) : List (List Int × Nat) := ws.map fun x => (x.b.zs, x.l)
theorem dueW_zs (ws : List Wt) : (dueW ws).map Yt.zs = dueP (wsD ws) := by
  unfold dueW dueP wsD
  rw [List.map_map, List.filter_map, List.map_map]
  rfl
theorem restW_zs (ws : List Wt) : wsD (restW ws) = restP (wsD ws) := by
  unfold restW restP wsD kept
  rw [List.map_map, List.filter_map, List.filter_map, List.map_map]
  rfl
def bodW (ws : List Wt) : Res := eachR (ws.map fun x => x.b.res)
theorem perm_split {α β : Type} (p : α → Bool) (f : α → β) (L : List α) : (L.map f).Perm ((L.filter p).map f ++ (L.filter fun x => !p x).map f) := by
  rw [← List.map_append]
  exact (List.filter_append_perm p L).symm.map f
theorem Sep.splitW {S : List Nat} {w0 w : World} {ws : List Wt} {L : List Res} (h : Sep S w0 w (bodW ws :: L)) (h1 : ∀ x ∈ ws, 1 ≤ x.l) : Sep S w0 w (bodsR (dueW ws) :: bodW (restW ws) :: L) := by
  have e1 : (ws.filter fun x => decide (x.l = 1)).map (fun x => x.b.res) = (dueW ws).map Yt.res := by unfold dueW; rw [List.map_map]; rfl
  have e2 : (ws.filter fun x => !decide (x.l = 1)).map (fun x => x.b.res) = (restW ws).map (fun x => x.b.res) := by
    unfold restW kept
    rw [List.filter_map, List.map_map]
    refine congrArg _ (List.filter_congr fun x hx => ?_)
    have := h1 x hx
    show (!decide (x.l = 1)) = !decide (x.l - 1 = 0)
    congr 1
    exact decide_eq_decide.2 (by omega)
  have h2 : Sep S w0 w (ws.map (fun x => x.b.res) ++ L) := h.explode
  have h3 := h2.shuffle ((perm_split (fun x : Wt => decide (x.l = 1)) (fun x => x.b.res) ws).append_right L)
  rw [e1, e2, List.append_assoc] at h3
  have h4 := (Sep.gather1 (rs := (dueW ws).map Yt.res) h3)
  have h5 : Sep S w0 w ((restW ws).map (fun x => x.b.res) ++ bodsR (dueW ws) :: L) := h4.shuffle (List.perm_middle).symm
  exact (Sep.gather1 h5).shuffle (List.Perm.swap _ _ _)
theorem ints_rd {w : World} {v : Value} {xs : List Int} (h : (intsR v xs).P w) : ∃ a c, v = .slice a xs.length c ∧ RdI .i64 w a xs := by
  obtain ⟨a, c, h1, _, h2⟩ := RdI.of_own (show w.ownsRow 0 _ 1 v xs.length (xs.map (Value.int .i64)) from h)
  exact ⟨a, c, h1, h2⟩
theorem sum_sla {w : World} {v : Value} {xs : List Int} (h : (sumR v xs).P w) : Sla .u8 w v xs := Sla.of_own (show w.ownsRow 0 _ 1 v xs.length (xs.map (Value.int .u8)) from h)

theorem ys_rds {w : World} {a : Option Addr} {n c : Nat} {bs : List Yt} (h : (ysR (.slice a n c) bs).P w) (hb : (bodsR bs).P w) : RdYs w a bs := by
  obtain ⟨a7, c7, hv, _, _, r7⟩ := ys_rd h hb
  injection hv with hv _ _
  subst hv
  exact r7
/-- A row of byte strings, each among the row's own or the one beside. -/
theorem ys_more {S : List Nat} {w0 w : World} {A : List Res} {a : Option Addr} {n c : Nat} {bs ds : List Yt} {v : Value} {zs : List Int} (h : Sep S w0 w A) (i j k : Nat) (hi : A[i]? = some (ysR (.slice a n c) bs)) (hj : A[j]? = some (bodsR ds)) (hk : A[k]? = some (sumR v zs))
    (hb : ∀ b ∈ bs, b = ⟨v, zs⟩ ∨ b ∈ ds) : RdYs w a bs := by
  obtain ⟨a7, c7, hv, _, _, _, r7⟩ := own_vals (show w.ownsRow 0 _ 1 (.slice a n c) bs.length (bs.map Yt.v) from h.get i hi)
  injection hv with hv _ _
  subst hv
  refine ⟨r7, fun b hm => ?_⟩
  rcases hb b hm with rfl | hd
  · exact sum_sla (h.get k hk)
  · exact sum_sla ((h.get j hj).1 b.res (List.mem_map_of_mem hd))
theorem info_late : (Try.prog.info? 51).map (fun i => (i.zero, i.size, i.bytes)) = some (some (.agg #[.slice none 0 0, .int .i64 0]), 2, 32) := by kernel_rfl
/-- What Put gives. -/
def PutP (S : List Nat) (w0 : World) (L : List Res) (p : Nat) (vc : Value) (ch : List Int) (ws : List Wt) (k : Nat) (zs : List Int) (P1 gone out : Nat) (e : Ending) (w' : World) : Prop :=
  ∃ (v vw' : Value) (ws' : List Wt) (os : List Yt), e = .returned v ∧ os.map Yt.zs = putO k zs (wsD ws) ∧ wsD ws' = putQ k zs (wsD ws) ∧
      Sep S w0 w' (ysR v os :: bodsR os :: blkR p 47 #[vc, vw', .int .i64 (P1 : Int), .int .i64 ((gone + if k = 3 then 1 else 0 : Nat) : Int), .int .i64 ((out + os.length : Nat) : Int)] :: intsR vc ch :: wtR vw' ws' :: bodW ws' :: L)
theorem put_ret {S : List Nat} {w0 w : World} {A B C : List Res} (h : Sep S w0 w A) (hs : B.Sublist A) : Sep S w0 w B := h.sub hs
set_option maxRecDepth 100000 in
set_option maxHeartbeats 16000000 in
theorem put_c {S : List Nat} {w0 w : World} {L : List Res} (p : Nat) (vc vw : Value) (ch : List Int) (ws : List Wt) (put gone out : Nat)
    (hS : Sep S w0 w (blkR p 47 #[vc, vw, .int .i64 (put : Int), .int .i64 (gone : Int), .int .i64 (out : Int)] :: intsR vc ch :: wtR vw ws :: bodW ws :: L))
    (h1 : ∀ x ∈ ws, 1 ≤ x.l ∧ x.l ≤ 1000) (hz : ∀ x ∈ ws, x.b.zs.length ≤ 1000000) (hn : ws.length ≤ 900) (a : Option Addr) (c : Nat) (zs : List Int) (rd : RdI .u8 w a zs) (ha : a = none → c = 0) (hl : zs.length ≤ 1000000)
    (hput : put ≤ 1000000) (hgone : gone ≤ 1000000) (hout : out ≤ 1000000) :
    Calls Try.prog 10 #[.pointer (some ⟨p, 0, none⟩), .slice a zs.length c] w (PutP S w0 L p vc ch ws (wy ch put) zs (put + 1) gone out) := by
  obtain ⟨i0, hi, hz0, hz1, hz2⟩ := info_parts info_u8
  obtain ⟨ac, cc, hvc, -, -⟩ := own_shape (hS.own 1 rfl)
  have hlt : wy ch put < 8 := wy_lt _ _
  have HWy := Lib.hid (fun (X : World) (A : List Res) (h : Sep S w0 X A) (i : Nat) (hi : A[i]? = some (intsR vc ch)) => (by
    obtain ⟨a2, c2, e2, r2⟩ := ints_rd (h.get i hi)
    have e3 := hvc.symm.trans e2
    injection e3 with e3 _ e4
    subst e3 e4
    exact way_c _ _ ch put X r2 : Calls Try.prog 22 #[.slice ac ch.length cc, .int .i64 (put : Int)] X fun e w' => e = .returned (.int .i64 (wy ch put : Int)) ∧ X = w'))
  obtain ⟨k, hk⟩ : ∃ k, k = wy ch put := ⟨_, rfl⟩
  rw [← hk] at hlt HWy ⊢
  obtain ⟨P1, hP1⟩ : ∃ P1, P1 = put + 1 := ⟨_, rfl⟩
  rw [← hP1]
  have HP1 := Lib.hid hP1
  clear hP1
  have HH1 := Lib.hid h1
  have HHz := Lib.hid hz
  have HR := Lib.hid (rd.alloc (.cells #[] 5))
  have HS0 := Lib.hid (hS.made 5 1 0 #[] (by unfold maxLen; omega) rfl)
  have HA := Lib.hid ha
  subst hvc
  clear hS h1 hz rd ha hk
  go_enter Try.func10, Try.ntmps10
  go_upto_region 2 with (at_builtin; refine wpList_append_said rfl _ _ 28 rfl 0 5 i0 (.int .u8 0) 1 Try.underlying28 hi hz0 hz1 hz2 rfl .u8 _ _ _ rfl HS0.out rfl a c zs.length zs rfl rfl HA.out HR.out zs.length (Nat.zero_add _) (zs.map (Value.int .u8)) rfl (by unfold maxLen; omega) (by omega) ?_; intro v3 w3 hS3; have HS1 := Lib.hid hS3; clear hS3)
  have HS1 := Lib.hid (show Sep S w0 w3 (sumR v3 zs :: blkR p 47 #[.slice ac ch.length cc, vw, .int .i64 (put : Int), .int .i64 (gone : Int), .int .i64 (out : Int)] :: intsR (.slice ac ch.length cc) ch :: wtR vw ws :: bodW ws :: L) from HS1.out)
  obtain ⟨ab, cb, hvb, -, -⟩ := own_shape (HS1.out.own 0 rfl)
  subst hvb
  have k0 := (HS1.out.blk 1 rfl).cell 0 rfl
  have k2 := (HS1.out.blk 1 rfl).cell 2 rfl
  go_quiet ((go_at_call 22; exact Calls.quiet_of_same (same_of (HWy.out _ _ (HS1.out.drewN _) 2 rfl))))
  clear k0 k2
  have HS2 := Lib.hid (HS1.out.drewN nq)
  obtain ⟨w4, hw4⟩ : ∃ y, y = w3.drewN nq := ⟨_, rfl⟩
  rw [← hw4] at HS2 ⊢
  clear hw4 HS1 HWy HS0 HR
  have k2 := (HS2.out.blk 1 rfl).cell 2 rfl
  have f2 := (HS2.out.blk 1 rfl).free 2
  have e1 : (put : Int) + 1 = (P1 : Int) := by have := HP1.out; omega
  have e2 : IntKind.i64.wrap (P1 : Int) = (P1 : Int) := IntWalk.i64_in _ (by have := HP1.out; omega)
  have HS3 := Lib.hid (show Sep S w0 (w4.setCell ⟨p, 2, none⟩ (.int .i64 (P1 : Int))) (blkR p 47 #[.slice ac ch.length cc, vw, .int .i64 (P1 : Int), .int .i64 (gone : Int), .int .i64 (out : Int)] :: wtR vw ws :: sumR (.slice ab zs.length cb) zs :: intsR (.slice ac ch.length cc) ch :: bodW ws :: L) from by
    have h := HS2.out.put 1 rfl 2 (.int .i64 (P1 : Int))
    exact Sep.mix (A := [_, _, _, _, _]) (L := L) h [1, 3, 0, 2, 4] (by decide) rfl)
  go_upto_region 4 with fail
  obtain ⟨w5, hw5⟩ : ∃ y, y = w4.setCell ⟨p, 2, none⟩ (.int .i64 (P1 : Int)) := ⟨_, rfl⟩
  rw [← hw5] at HS3 ⊢
  clear hw5 k2 f2 e1 e2 HS2
  have HSl := Lib.hid (fun x (hx : x ∈ ws) => (show IsS x.b.v from by
    have h := (HS3.out.get 4 rfl).1 x.b.res (List.mem_map_of_mem hx)
    obtain ⟨q, d, hv, _, _⟩ := own_shape (show World.ownsRow _ 0 _ 1 x.b.v x.b.zs.length _ from h)
    exact ⟨q, _, d, hv⟩))
  have HOv := Lib.hid (over_c p _ vw _ _ _ ws HS3.out (fun x hx => ⟨HSl.out x hx, HH1.out x hx⟩) (by omega))
  clear HSl
  go_wp2_with fail
  refine HOv.out.mono ?_
  rintro e w6 ⟨v6, vw6, rfl, hS6⟩
  have HS6 := Lib.hid (show Sep S w0 w6 (ysR v6 (dueW ws) :: bodsR (dueW ws) :: sumR (.slice ab zs.length cb) zs :: blkR p 47 #[.slice ac ch.length cc, vw6, .int .i64 (P1 : Int), .int .i64 (gone : Int), .int .i64 (out : Int)] :: intsR (.slice ac ch.length cc) ch :: wtR vw6 (restW ws) :: bodW (restW ws) :: L) from by
    have h1 : Sep S w0 w6 (bodW ws :: ysR v6 (dueW ws) :: sumR (.slice ab zs.length cb) zs :: blkR p 47 #[.slice ac ch.length cc, vw6, .int .i64 (P1 : Int), .int .i64 (gone : Int), .int .i64 (out : Int)] :: intsR (.slice ac ch.length cc) ch :: wtR vw6 (restW ws) :: L) := by
      unfold ysR
      exact Sep.mix (A := [_, _, _, _, _, _]) (L := L) hS6 [5, 0, 3, 1, 4, 2] (by decide) rfl
    have h2 := h1.splitW (fun x hx => (HH1.out x hx).1)
    exact Sep.mix (A := [_, _, _, _, _, _, _]) (L := L) h2 [2, 0, 3, 4, 5, 6, 1] (by decide) rfl)
  have hdl : (dueW ws).length ≤ 900 := by
    unfold dueW
    rw [List.length_map]
    have := List.length_filter_le (fun x : Wt => decide (x.l = 1)) ws
    omega
  have HDz := Lib.hid (show ∀ b ∈ dueW ws, b.zs.length ≤ 1000000 from fun b hb => by
    unfold dueW at hb
    obtain ⟨x, hx, rfl⟩ := List.mem_map.1 hb
    exact HHz.out x (List.mem_filter.1 hx).1)
  have HDo := Lib.hid (show ∀ u ∈ (dueW ws).map Yt.v, u.oneCell' = true from fun u hu => by
    obtain ⟨b, hb, rfl⟩ := List.mem_map.1 hu
    obtain ⟨q, d, hv, _, _⟩ := own_shape (show World.ownsRow _ 0 _ 1 b.v b.zs.length _ from (HS6.out.get 1 rfl).1 b.res (List.mem_map_of_mem hb))
    rw [hv]; rfl)
  obtain ⟨a6, c6, hv6, -, -⟩ := own_shape (HS6.out.own 0 rfl)
  subst hv6
  clear hS6 HOv HS3
  by_cases k3 : k = 3
  · subst k3
    obtain ⟨G1, hG1⟩ : ∃ G1, G1 = gone + 1 := ⟨_, rfl⟩
    have HG1 := Lib.hid hG1
    have e3 : (gone : Int) + 1 = (G1 : Int) := by omega
    have e4 : IntKind.i64.wrap (G1 : Int) = (G1 : Int) := IntWalk.i64_in _ (by omega)
    have c3 := (HS6.out.blk 3 rfl).cell 3 rfl
    have f3 := (HS6.out.blk 3 rfl).free 3
    clear hG1
    go_upto_region 7 with fail
    have HS7 := Lib.hid (show Sep S w0 (w6.setCell ⟨p, 3, none⟩ (.int .i64 (G1 : Int))) (blkR p 47 #[.slice ac ch.length cc, vw6, .int .i64 (P1 : Int), .int .i64 (G1 : Int), .int .i64 (out : Int)] :: ysR (.slice a6 (dueW ws).length c6) (dueW ws) :: bodsR (dueW ws) :: sumR (.slice ab zs.length cb) zs :: intsR (.slice ac ch.length cc) ch :: wtR vw6 (restW ws) :: bodW (restW ws) :: L) from Sep.mix (A := [_, _, _, _, _, _, _]) (L := L) (HS6.out.put 3 rfl 3 (.int .i64 (G1 : Int))) [3, 0, 1, 2, 4, 5, 6] (by decide) rfl)
    obtain ⟨w7, hw7⟩ : ∃ y, y = w6.setCell ⟨p, 3, none⟩ (.int .i64 (G1 : Int)) := ⟨_, rfl⟩
    rw [← hw7] at HS7 ⊢
    clear hw7 c3 f3 e3 e4 HS6
    have HPs := Lib.hid (pass_c p _ _ _ _ out HS7.out a6 c6 (dueW ws) (ys_rds (HS7.out.get 1 rfl) (HS7.out.get 2 rfl)) (by omega) HDz.out (by omega))
    go_wp2_with fail
    refine HPs.out.mono ?_
    rintro e w8 ⟨v8, os, rfl, hos, hS8⟩
    have HO := Lib.hid hos
    have HSF := Lib.hid hS8
    clear hS8 hos HPs
    go_wp2_with fail
    go_ret
    refine ⟨_, vw6, restW ws, os, rfl, ?_, ?_, ?_⟩
    · rw [HO.out, dueW_zs]; rfl
    · rw [restW_zs]; rfl
    · have hol : os.length = (dueW ws).length := by have h := congrArg List.length HO.out; rw [List.length_map, List.length_map] at h; exact h
      rw [hol, show (gone + if (3 : Nat) = 3 then 1 else 0) = G1 from by rw [HG1.out]; rfl]
      exact Sep.mix (A := [_, _, _, _, _, _, _, _, _]) (L := L) HSF.out [0, 1, 2, 6, 7, 8] (by decide) rfl
  by_cases k4 : k = 4
  · subst k4
    have HS7 := Lib.hid (HS6.out.alloc #[.slice ab zs.length cb, .slice ab zs.length cb] 28)
    have HS7 := Lib.hid (show Sep S w0 _ (ownR 28 1 (.slice a6 (dueW ws).length c6) (dueW ws).length ((dueW ws).map Yt.v) :: blkR w6.heap.size 28 ([.slice ab zs.length cb, .slice ab zs.length cb] : List Value).toArray :: bodsR (dueW ws) :: sumR (.slice ab zs.length cb) zs :: blkR p 47 #[.slice ac ch.length cc, vw6, .int .i64 (P1 : Int), .int .i64 (gone : Int), .int .i64 (out : Int)] :: intsR (.slice ac ch.length cc) ch :: wtR vw6 (restW ws) :: bodW (restW ws) :: L) from Sep.mix (A := [_, _, _, _, _, _, _, _]) (L := L) HS7.out [1, 0, 2, 3, 4, 5, 6, 7] (by decide) rfl)
    have HIn := Lib.hid (insert_c (.slice a6 (dueW ws).length c6) (dueW ws).length w6.heap.size 2 ((dueW ws).map Yt.v) [.slice ab zs.length cb, .slice ab zs.length cb] HS7.out (Nat.succ_pos _) (HDo.out) (fun u hu => by simp at hu; subst hu; rfl) (by omega) (by simp))
    obtain ⟨w7, hw7⟩ : ∃ y, y = w6.alloc (.cells #[.slice ab zs.length cb, .slice ab zs.length cb] 28) := ⟨_, rfl⟩
    obtain ⟨nb, hnb⟩ : ∃ y, y = w6.heap.size := ⟨_, rfl⟩
    go_wp2_with fail
    refine HIn.out.mono ?_
    rintro e w9 ⟨v9, rfl, hS9⟩
    obtain ⟨a9, c9, hv9, -, -⟩ := own_shape (hS9.own 0 rfl)
    subst hv9
    have HS9 := Lib.hid (show Sep S w0 w9 (blkR p 47 #[.slice ac ch.length cc, vw6, .int .i64 (P1 : Int), .int .i64 (gone : Int), .int .i64 (out : Int)] :: ysR (.slice a9 ((dueW ws).length + 2) c9) (⟨.slice ab zs.length cb, zs⟩ :: ⟨.slice ab zs.length cb, zs⟩ :: dueW ws) :: bodsR (dueW ws) :: sumR (.slice ab zs.length cb) zs :: intsR (.slice ac ch.length cc) ch :: wtR vw6 (restW ws) :: bodW (restW ws) :: L) from Sep.mix (A := [_, _, _, _, _, _, _, _]) (L := L) hS9 [4, 0, 2, 3, 5, 6, 7] (by decide) rfl)
    clear hS9 HIn HS7 HS6
    have HPs := Lib.hid (pass_c p _ _ _ _ out HS9.out a9 c9 (⟨.slice ab zs.length cb, zs⟩ :: ⟨.slice ab zs.length cb, zs⟩ :: dueW ws) (ys_more HS9.out 1 2 3 rfl rfl rfl (fun y hy => by simp at hy; rcases hy with rfl | hy <;> first | exact .inl rfl | exact .inr hy)) (by simp; omega) (fun y hy => by simp at hy; rcases hy with rfl | hy; exact hl; exact HDz.out y hy) (by omega))
    go_wp2_with fail
    refine HPs.out.mono ?_
    rintro e w8 ⟨v8, os, rfl, hos, hS8⟩
    have HO := Lib.hid hos
    have HSF := Lib.hid hS8
    clear hS8 hos HPs
    go_wp2_with fail
    go_ret
    refine ⟨_, vw6, restW ws, os, rfl, ?_, ?_, ?_⟩
    · rw [HO.out]; unfold putO; rw [if_neg (by decide), if_pos rfl, List.map_cons, List.map_cons, dueW_zs]
    · rw [restW_zs]; unfold putQ; rw [if_neg (by omega)]
    · have hol : os.length = (dueW ws).length + 2 := by have h := congrArg List.length HO.out; rw [List.length_map, List.length_map] at h; exact h
      rw [hol, show (gone + if (4 : Nat) = 3 then 1 else 0) = gone from by rw [if_neg (by omega)]; rfl]
      exact Sep.mix (A := [_, _, _, _, _, _, _, _, _]) (L := L) HSF.out [0, 1, 2, 6, 7, 8] (by decide) rfl
  by_cases k5 : 4 < k
  · have t3 : ((k : Int) == 3) = false := by rw [beq_eq_false_iff_ne]; omega
    have t4 : ((k : Int) == 4) = false := by rw [beq_eq_false_iff_ne]; omega
    have t5 : decide (4 < (k : Int)) = true := decide_eq_true (by omega)
    obtain ⟨iL, hLi, hL0, hL1, hL2⟩ := info_parts info_late
    obtain ⟨m, hm⟩ : ∃ m, m = k - 4 := ⟨_, rfl⟩
    have HM := Lib.hid hm
    have e3 : (k : Int) - 4 = (m : Int) := by omega
    have e4 : IntKind.i64.wrap (m : Int) = (m : Int) := IntWalk.i64_in _ (by omega)
    obtain ⟨aw, cw, hvw, -, -⟩ := own_shape (HS6.out.own 5 rfl)
    subst hvw
    have hrl : (restW ws).length ≤ 900 := by
      unfold restW kept
      have := List.length_filter_le (fun x : Wt => !isO x) (ws.map decW)
      rw [List.length_map] at this
      omega
    have HRl := Lib.hid hrl
    have k1 := (HS6.out.blk 3 rfl).cell 1 rfl
    clear hm
    go_upto_region 12 with (at_builtin; (refine wpList_append_arr rfl _ _ 45 rfl 6 51 iL (.agg #[.slice none 0 0, .int .i64 0]) 2 32 Try.underlying45 hLi hL0 hL1 hL2 rfl (by decide) (.slice aw (restW ws).length cw) (restW ws).length _ rfl (HS6.out.alloc #[.slice ab zs.length cb, .int .i64 (m : Int)] 51) rfl w6.heap.size #[.slice ab zs.length cb, .int .i64 (m : Int)] rfl rfl (Blk.made w6 51 #[.slice ab zs.length cb, .int .i64 (m : Int)]) (fun u hu => by simp at hu; rcases hu with rfl | rfl <;> rfl) (by have := HRl.out; unfold maxLen; omega) (by have := HRl.out; omega) ?_); intro v9 w9 hS9; obtain ⟨a9, c9, rfl, x1, x2⟩ := own_shape (hS9.own 6 rfl); have HS9 := Lib.hid hS9; have f1 := (hS9.blk 4 rfl).free 1; have l1 := (hS9.blk 4 rfl).cell 1 rfl; clear hS9 x1 x2 k1)
    have HS10 := Lib.hid (show Sep S w0 (w9.setCell ⟨p, 1, none⟩ (.slice a9 ((restW ws).length + 1) c9)) (blkR p 47 #[.slice ac ch.length cc, .slice a9 ((restW ws).length + 1) c9, .int .i64 (P1 : Int), .int .i64 (gone : Int), .int .i64 (out : Int)] :: ysR (.slice a6 (dueW ws).length c6) (dueW ws) :: bodsR (dueW ws) :: intsR (.slice ac ch.length cc) ch :: wtR (.slice a9 ((restW ws).length + 1) c9) (restW ws ++ [⟨⟨.slice ab zs.length cb, zs⟩, m⟩]) :: bodW (restW ws ++ [⟨⟨.slice ab zs.length cb, zs⟩, m⟩]) :: L) from by
      have h := HS9.out.put 4 rfl 1 (.slice a9 ((restW ws).length + 1) c9)
      have h2 : Sep S w0 (w9.setCell ⟨p, 1, none⟩ (.slice a9 ((restW ws).length + 1) c9)) (sumR (.slice ab zs.length cb) zs :: wtR (.slice a9 ((restW ws).length + 1) c9) (restW ws ++ [⟨⟨.slice ab zs.length cb, zs⟩, m⟩]) :: bodW (restW ws) :: blkR p 47 #[.slice ac ch.length cc, .slice a9 ((restW ws).length + 1) c9, .int .i64 (P1 : Int), .int .i64 (gone : Int), .int .i64 (out : Int)] :: ysR (.slice a6 (dueW ws).length c6) (dueW ws) :: bodsR (dueW ws) :: intsR (.slice ac ch.length cc) ch :: L) := by
        unfold wtR
        rw [List.length_append, rowsW_app]
        exact Sep.mix (A := [_, _, _, _, _, _, _, _]) (L := L) h [3, 6, 7, 4, 1, 2, 5] (by decide) rfl
      have h3 := h2.einto
      have h4 : Sep S w0 (w9.setCell ⟨p, 1, none⟩ (.slice a9 ((restW ws).length + 1) c9)) (wtR (.slice a9 ((restW ws).length + 1) c9) (restW ws ++ [⟨⟨.slice ab zs.length cb, zs⟩, m⟩]) :: bodW (restW ws ++ [⟨⟨.slice ab zs.length cb, zs⟩, m⟩]) :: blkR p 47 #[.slice ac ch.length cc, .slice a9 ((restW ws).length + 1) c9, .int .i64 (P1 : Int), .int .i64 (gone : Int), .int .i64 (out : Int)] :: ysR (.slice a6 (dueW ws).length c6) (dueW ws) :: bodsR (dueW ws) :: intsR (.slice ac ch.length cc) ch :: L) := by
        have e : bodW (restW ws ++ [⟨⟨.slice ab zs.length cb, zs⟩, m⟩]) = eachR ((restW ws).map (fun x => x.b.res) ++ [sumR (.slice ab zs.length cb) zs]) := by unfold bodW; rw [List.map_append]; rfl
        rw [e]
        exact h3
      exact Sep.mix (A := [_, _, _, _, _, _]) (L := L) h4 [2, 3, 4, 5, 0, 1] (by decide) rfl)
    obtain ⟨w10, hw10⟩ : ∃ y, y = w9.setCell ⟨p, 1, none⟩ (.slice a9 ((restW ws).length + 1) c9) := ⟨_, rfl⟩
    rw [← hw10] at HS10 ⊢
    clear hw10 l1 f1 e3 e4 HS9 HS6
    have HPs := Lib.hid (pass_c p _ _ _ _ out HS10.out a6 c6 (dueW ws) (ys_rds (HS10.out.get 1 rfl) (HS10.out.get 2 rfl)) (by omega) HDz.out (by omega))
    go_wp2_with fail
    refine HPs.out.mono ?_
    rintro e w8 ⟨v8, os, rfl, hos, hS8⟩
    have HO := Lib.hid hos
    have HSF := Lib.hid hS8
    clear hS8 hos HPs
    go_wp2_with fail
    go_ret
    refine ⟨_, .slice a9 ((restW ws).length + 1) c9, restW ws ++ [⟨⟨.slice ab zs.length cb, zs⟩, m⟩], os, rfl, ?_, ?_, ?_⟩
    · rw [HO.out]; unfold putO; rw [if_neg k3, if_neg k4, if_pos k5, dueW_zs]
    · unfold putQ; rw [if_pos k5, ← restW_zs, ← HM.out]; unfold wsD; rw [List.map_append]; rfl
    · have hol : os.length = (dueW ws).length := by have h := congrArg List.length HO.out; rw [List.length_map, List.length_map] at h; exact h
      rw [hol, show (gone + if k = 3 then 1 else 0) = gone from by rw [if_neg k3]; rfl]
      exact Sep.mix (A := [_, _, _, _, _, _, _, _]) (L := L) HSF.out [0, 1, 2, 5, 6, 7] (by decide) rfl
  · have t3 : ((k : Int) == 3) = false := by rw [beq_eq_false_iff_ne]; omega
    have t4 : ((k : Int) == 4) = false := by rw [beq_eq_false_iff_ne]; omega
    have t5 : decide (4 < (k : Int)) = false := decide_eq_false (by omega)
    have HS7 := Lib.hid (HS6.out.alloc #[.slice ab zs.length cb] 28)
    have HS7 := Lib.hid (show Sep S w0 _ (ownR 28 1 (.slice a6 (dueW ws).length c6) (dueW ws).length ((dueW ws).map Yt.v) :: blkR w6.heap.size 28 ([.slice ab zs.length cb] : List Value).toArray :: bodsR (dueW ws) :: sumR (.slice ab zs.length cb) zs :: blkR p 47 #[.slice ac ch.length cc, vw6, .int .i64 (P1 : Int), .int .i64 (gone : Int), .int .i64 (out : Int)] :: intsR (.slice ac ch.length cc) ch :: wtR vw6 (restW ws) :: bodW (restW ws) :: L) from Sep.mix (A := [_, _, _, _, _, _, _, _]) (L := L) HS7.out [1, 0, 2, 3, 4, 5, 6, 7] (by decide) rfl)
    have HIn := Lib.hid (insert_c (.slice a6 (dueW ws).length c6) (dueW ws).length w6.heap.size 1 ((dueW ws).map Yt.v) [.slice ab zs.length cb] HS7.out (Nat.succ_pos _) (HDo.out) (fun u hu => by simp at hu; subst hu; rfl) (by omega) (by simp))
    obtain ⟨w7, hw7⟩ : ∃ y, y = w6.alloc (.cells #[.slice ab zs.length cb] 28) := ⟨_, rfl⟩
    obtain ⟨nb, hnb⟩ : ∃ y, y = w6.heap.size := ⟨_, rfl⟩
    go_wp2_with fail
    refine HIn.out.mono ?_
    rintro e w9 ⟨v9, rfl, hS9⟩
    obtain ⟨a9, c9, hv9, -, -⟩ := own_shape (hS9.own 0 rfl)
    subst hv9
    have HS9 := Lib.hid (show Sep S w0 w9 (blkR p 47 #[.slice ac ch.length cc, vw6, .int .i64 (P1 : Int), .int .i64 (gone : Int), .int .i64 (out : Int)] :: ysR (.slice a9 ((dueW ws).length + 1) c9) (⟨.slice ab zs.length cb, zs⟩ :: dueW ws) :: bodsR (dueW ws) :: sumR (.slice ab zs.length cb) zs :: intsR (.slice ac ch.length cc) ch :: wtR vw6 (restW ws) :: bodW (restW ws) :: L) from Sep.mix (A := [_, _, _, _, _, _, _, _]) (L := L) hS9 [4, 0, 2, 3, 5, 6, 7] (by decide) rfl)
    clear hS9 HIn HS7 HS6
    have HPs := Lib.hid (pass_c p _ _ _ _ out HS9.out a9 c9 (⟨.slice ab zs.length cb, zs⟩ :: dueW ws) (ys_more HS9.out 1 2 3 rfl rfl rfl (fun y hy => by simp at hy; rcases hy with rfl | hy <;> first | exact .inl rfl | exact .inr hy)) (by simp; omega) (fun y hy => by simp at hy; rcases hy with rfl | hy; exact hl; exact HDz.out y hy) (by omega))
    go_wp2_with fail
    refine HPs.out.mono ?_
    rintro e w8 ⟨v8, os, rfl, hos, hS8⟩
    have HO := Lib.hid hos
    have HSF := Lib.hid hS8
    clear hS8 hos HPs
    go_wp2_with fail
    go_ret
    refine ⟨_, vw6, restW ws, os, rfl, ?_, ?_, ?_⟩
    · rw [HO.out]; unfold putO; rw [if_neg k3, if_neg k4, if_neg k5, List.map_cons, dueW_zs]
    · rw [restW_zs]; unfold putQ; rw [if_neg (by omega)]
    · have hol : os.length = (dueW ws).length + 1 := by have h := congrArg List.length HO.out; rw [List.length_map, List.length_map] at h; exact h
      rw [hol, show (gone + if k = 3 then 1 else 0) = gone from by rw [if_neg (by omega)]; rfl]
      exact Sep.mix (A := [_, _, _, _, _, _, _, _, _]) (L := L) HSF.out [0, 1, 2, 6, 7, 8] (by decide) rfl

end Go.Proofs.Ytekjpkppfcmjdaa
