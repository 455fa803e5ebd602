/-
  THE WALK of the law UlpWrites. Printed by gen_umb.py.
-/
import Derived.Test.YtjflcijiaennkaaDoorUlV
import Derived.Test.YtjflcijiaennkaaDoorUlY
import Derived.Test.YtjflcijiaennkaaDoorUlT
import Derived.Test.YtjflcijiaennkaaDoorUmP
import Derived.Test.YtjflcijiaennkaaDoorUop
set_option linter.unusedVariables false
set_option linter.unusedSimpArgs false
namespace Go.Proofs.YtjflcijiaennkaaDoor
open Go.RowKit

theorem usameRp_self (x : Rp) : sameRp x x = true := by simp [sameRp]
theorem ucat_le (lg : Bool) : ∀ Ls : List Lv, (catB Ls).length ≤ (Ls.flatMap (lvB lg)).length
  | [] => Nat.le_refl _
  | L :: Ls => by
    have h := ucat_le lg Ls
    unfold catB lvB at *
    simp only [List.flatMap_cons, List.length_append] at *
    omega
theorem ufX_len (x : Ul) : (ufX x).B.length ≤ 1500 := by
  unfold ufX
  split
  · rename_i h
    have hw : uweX x = 0 := by
      unfold ufE at h
      split at h
      · rename_i h2; exact absurd h h2
      · rename_i h2; omega
    have hl := (uwe_zero hw).2.1
    have := ucat_le x.lg x.Ls
    unfold ubyX at hl
    rw [List.length_append] at hl
    show (catB x.Ls).length ≤ 1500
    omega
  · exact Nat.zero_le _
theorem uwoX_le (x : Ul) : (uwoX x).length ≤ 1500 := by
  by_cases h : uweX x = 0
  · rw [(uwe_zero h).2.2]; exact (uwe_zero h).2.1
  · unfold uwoX; rw [if_pos h]; exact Nat.zero_le _
theorem usmall_of {qs : List LvV} (h : usmall qs = true) : qs.length ≤ 4 ∧ ∀ q ∈ qs, q.B.length ≤ 2000 := by
  unfold usmall at h
  simp only [Bool.and_eq_true, List.all_eq_true, decide_eq_true_eq] at h
  exact ⟨h.2, h.1⟩

set_option maxRecDepth 100000 in
set_option maxHeartbeats 16000000 in
theorem ulpWrites_w (w : World) (hT : Tabs w) (x : Ul) (a : Option Addr) (c : Nat) (qs : List LvV) (hqx : qs.map LvV.lv = x.Ls) (hox : x.Ok) (rx : RdLs w a qs) (lx : qs.length ≤ 9223372036854775807)
    (y : Ul) (a' : Option Addr) (c' : Nat) (rs : List LvV) (hqy : rs.map LvV.lv = y.Ls) (hoy : y.Ok) (ry : RdLs w a' rs) (ly : rs.length ≤ 9223372036854775807) :
    Calls Tryd.prog 4 #[x.val (.slice a qs.length c), y.val (.slice a' rs.length c')] w fun e w' => e = .returned (.bool true) ∧ Below w.heap.size w w' := by
  have HT := Lib.hid (fun X (hX : Frm [] w X) => hT.frm hX (by simp))
  have HAl := Lib.hid (fun X (hX : Frm [] w X) => ualive_c X (HT.out X hX))
  have HRx := Lib.hid (fun X (hX : Frm [] w X) => rx.frm hX)
  have HRy := Lib.hid (fun X (hX : Frm [] w X) => ry.frm hX)
  have HSx := Lib.hid (fun X (hX : Frm [] w X) => usmall_c x a c qs X (HRx.out X hX) lx)
  have HSy := Lib.hid (fun X (hX : Frm [] w X) => usmall_c y a' c' rs X (HRy.out X hX) ly)
  obtain ⟨Bx, hBx⟩ : ∃ B, B = usmall qs := ⟨_, rfl⟩
  obtain ⟨By, hBy⟩ : ∃ B, B = usmall rs := ⟨_, rfl⟩
  rw [← hBx] at HSx
  rw [← hBy] at HSy
  have HbX := Lib.hid (fun (h : Bx = true) => usmall_of (hBx.symm.trans h))
  have HbY := Lib.hid (fun (h : By = true) => usmall_of (hBy.symm.trans h))
  clear hBx hBy
  have HW := Lib.hid (fun X (hX : Frm [] w X) (hl : qs.length ≤ 1000000) => uWrite_c x a c qs X hqx hox (HRx.out X hX) (HT.out X hX) hl)
  have HWr := Lib.hid (fun X ad cd (rd : RdLs X ad qs) (hl : qs.length ≤ 1000000) (hb : ∀ q ∈ qs, q.B.length ≤ 1000000) => urwrite_c x ad cd qs X hqx hox rd hl hb)
  have HFl := Lib.hid (fun X (hX : Frm [] w X) (hl : qs.length ≤ 1000000) => uflat_c x a c qs X hqx hox (HRx.out X hX) (HT.out X hX) hl)
  have HFr := Lib.hid (fun X ad cd (rd : RdLs X ad qs) (hl : qs.length ≤ 1000000) (hb : ∀ q ∈ qs, q.B.length ≤ 1000000) => urflat_c x ad cd qs X hqx hox rd hl hb)
  have HAx := Lib.hid (fun X (hX : Frm [] w X) (hl : qs.length ≤ 1000000) => uas_c x a c qs X (HRx.out X hX) hl)
  have HAy := Lib.hid (fun X (hX : Frm [] w X) (hl : rs.length ≤ 1000000) => uas_c y a' c' rs X (HRy.out X hX) hl)
  have HSxy := Lib.hid (fun X (hX : Frm [] w X) (h1 : qs.length ≤ 1000000) (h2 : rs.length ≤ 1000000) (b1 : ∀ q ∈ qs, q.B.length ≤ 1000000) (b2 : ∀ q ∈ rs, q.B.length ≤ 1000000) => usame_c x y a a' c c' qs rs X hqx hqy hox hoy (HRx.out X hX) (HRy.out X hX) h1 h2 b1 b2)
  have HRxy := Lib.hid (fun X a1 c1 a2 c2 (r1 : RdLs X a1 qs) (r2 : RdLs X a2 rs) (h1 : qs.length ≤ 1000000) (h2 : rs.length ≤ 1000000) (b1 : ∀ q ∈ qs, q.B.length ≤ 1000000) (b2 : ∀ q ∈ rs, q.B.length ≤ 1000000) => ursame_c x y a1 a2 c1 c2 qs rs X hqx hqy hox hoy r1 r2 h1 h2 b1 b2)
  have HSxx := Lib.hid (fun X (hX : Frm [] w X) (h1 : qs.length ≤ 1000000) (b1 : ∀ q ∈ qs, q.B.length ≤ 1000000) => (by
    have h := usame_c x x a a c c qs qs X hqx hqx hox hox (HRx.out X hX) (HRx.out X hX) h1 h1 b1 b1
    rw [usame_self] at h
    exact h : Calls Tryd.prog 21 #[x.val (.slice a qs.length c), x.val (.slice a qs.length c)] X fun e w' => e = .returned (.bool true) ∧ Frm [] X w'))
  obtain ⟨S, hS⟩ : ∃ S, S = usame x y := ⟨_, rfl⟩
  rw [← hS] at HSxy HRxy
  obtain ⟨E, hE⟩ : ∃ E, E = uweX x := ⟨_, rfl⟩
  have hol := uwoX_le x
  obtain ⟨O, hO⟩ : ∃ O, O = uwoX x := ⟨_, rfl⟩
  rw [← hE] at HW HWr
  rw [← hO] at HW HWr hol
  obtain ⟨G, hG⟩ : ∃ G, G = ufE x := ⟨_, rfl⟩
  have hul := ufX_len x
  obtain ⟨u, hu⟩ : ∃ u, u = ufX x := ⟨_, rfl⟩
  rw [← hG] at HFl HFr
  rw [← hu] at HFl HFr hul
  have HSm := Lib.hid (fun X a1 c1 a2 c2 (r1 : RdI .u8 X a1 u.B) (r2 : RdI .u8 X a2 u.B) (hl : u.B.length ≤ 1000000) => (by
    have h := sameRp_c u u a1 a2 c1 c2 X r1 r2 hl hl
    rw [usameRp_self] at h
    exact h : Calls Tryd.prog 20 #[u.val (.slice a1 u.B.length c1), u.val (.slice a2 u.B.length c2)] X fun e w' => e = .returned (.bool true) ∧ Frm [] X w'))
  clear hS hE hO hG hu hqx hqy hT hox hoy rx ry HRx HRy
  obtain ⟨xh0, xh1, xh2, xh3, xh4, xh5, xh6, xh7, xb, xlg, xLs⟩ := x
  obtain ⟨yh0, yh1, yh2, yh3, yh4, yh5, yh6, yh7, yb, ylg, yLs⟩ := y
  obtain ⟨uh0, uh1, uh2, uh3, uh4, uh5, uh6, uh7, ub, uh, ul, uB⟩ := u
  simp only [Ul.val, Ul.cells, Rp.val, Rp.cells, UWrP, RprP] at *
  obtain ⟨nX, hnX⟩ : ∃ n, n = qs.length := ⟨_, rfl⟩
  obtain ⟨nY, hnY⟩ : ∃ n, n = rs.length := ⟨_, rfl⟩
  obtain ⟨nU, hnU⟩ : ∃ n, n = uB.length := ⟨_, rfl⟩
  obtain ⟨nO, hnO⟩ : ∃ n, n = O.length := ⟨_, rfl⟩
  rw [← hnX] at HW HWr HFl HFr HAx HSx HSxy HRxy HSxx HbX lx ⊢
  rw [← hnY] at HAy HSy HSxy HRxy HbY ly ⊢
  rw [← hnU] at HSm hul
  rw [← hnO] at hol
  have HnU := Lib.hid hnU
  have HnO := Lib.hid hnO
  have HlU := Lib.hid (show nU ≤ 1000000 by omega)
  have HlO := Lib.hid (show nO ≤ 1000000 by omega)
  clear hnX hnY hnU hnO hol hul lx ly
  have HS0 := Lib.hid (((Sep.init w).alloc #[.int .u8 xh0, .int .u8 xh1, .int .u8 xh2, .int .u8 xh3, .int .u8 xh4, .int .u8 xh5, .int .u8 xh6, .int .u8 xh7, .int .u16 xb, .bool xlg, .slice a nX c] 29).alloc #[.int .u8 yh0, .int .u8 yh1, .int .u8 yh2, .int .u8 yh3, .int .u8 yh4, .int .u8 yh5, .int .u8 yh6, .int .u8 yh7, .int .u16 yb, .bool ylg, .slice a' nY c'] 29)
  simp only [World.size_alloc] at HS0
  go_enter Tryd.func4, Tryd.ntmps4
  go_upto_region 1 with fail
  obtain ⟨w1, hw1⟩ : ∃ w1, w1 = (w.alloc (.cells #[.int .u8 xh0, .int .u8 xh1, .int .u8 xh2, .int .u8 xh3, .int .u8 xh4, .int .u8 xh5, .int .u8 xh6, .int .u8 xh7, .int .u16 xb, .bool xlg, .slice a nX c] 29)).alloc (.cells #[.int .u8 yh0, .int .u8 yh1, .int .u8 yh2, .int .u8 yh3, .int .u8 yh4, .int .u8 yh5, .int .u8 yh6, .int .u8 yh7, .int .u16 yb, .bool ylg, .slice a' nY c'] 29) := ⟨_, rfl⟩
  obtain ⟨o, ho⟩ : ∃ o, o = w.heap.size := ⟨_, rfl⟩
  rw [← hw1, ← ho] at HS0
  rw [← hw1, ← ho]
  clear hw1 ho
  go_wp2_with fail
  refine (HAl.out w1 HS0.out.frm).mono ?_
  rintro e w2 ⟨rfl, hf⟩
  have HS1 := Lib.hid (HS0.out.keep hf)
  clear hf HS0 HAl
  go_upto_region 3 with fail
  have k0 := (HS1.out.blk 1 rfl).cell 0 rfl
  have k1 := (HS1.out.blk 1 rfl).cell 1 rfl
  have k2 := (HS1.out.blk 1 rfl).cell 2 rfl
  have k3 := (HS1.out.blk 1 rfl).cell 3 rfl
  have k4 := (HS1.out.blk 1 rfl).cell 4 rfl
  have k5 := (HS1.out.blk 1 rfl).cell 5 rfl
  have k6 := (HS1.out.blk 1 rfl).cell 6 rfl
  have k7 := (HS1.out.blk 1 rfl).cell 7 rfl
  have k8 := (HS1.out.blk 1 rfl).cell 8 rfl
  have k9 := (HS1.out.blk 1 rfl).cell 9 rfl
  have k10 := (HS1.out.blk 1 rfl).cell 10 rfl
  have j0 := (HS1.out.blk 0 rfl).cell 0 rfl
  have j1 := (HS1.out.blk 0 rfl).cell 1 rfl
  have j2 := (HS1.out.blk 0 rfl).cell 2 rfl
  have j3 := (HS1.out.blk 0 rfl).cell 3 rfl
  have j4 := (HS1.out.blk 0 rfl).cell 4 rfl
  have j5 := (HS1.out.blk 0 rfl).cell 5 rfl
  have j6 := (HS1.out.blk 0 rfl).cell 6 rfl
  have j7 := (HS1.out.blk 0 rfl).cell 7 rfl
  have j8 := (HS1.out.blk 0 rfl).cell 8 rfl
  have j9 := (HS1.out.blk 0 rfl).cell 9 rfl
  have j10 := (HS1.out.blk 0 rfl).cell 10 rfl
  go_wp2_with fail
  clear k0 k1 k2 k3 k4 k5 k6 k7 k8 k9 k10 j0 j1 j2 j3 j4 j5 j6 j7 j8 j9 j10
  refine (HSx.out w2 HS1.out.frm).mono ?_
  rintro e w3 ⟨rfl, hf⟩
  have HS2 := Lib.hid (HS1.out.keep hf)
  clear hf HS1
  cases Bx with
  | false =>
    go_wp2_with fail
    go_ret
    exact ⟨rfl, HS2.out.frm.below⟩
  | true =>
    have j0 := (HS2.out.blk 0 rfl).cell 0 rfl
    have j1 := (HS2.out.blk 0 rfl).cell 1 rfl
    have j2 := (HS2.out.blk 0 rfl).cell 2 rfl
    have j3 := (HS2.out.blk 0 rfl).cell 3 rfl
    have j4 := (HS2.out.blk 0 rfl).cell 4 rfl
    have j5 := (HS2.out.blk 0 rfl).cell 5 rfl
    have j6 := (HS2.out.blk 0 rfl).cell 6 rfl
    have j7 := (HS2.out.blk 0 rfl).cell 7 rfl
    have j8 := (HS2.out.blk 0 rfl).cell 8 rfl
    have j9 := (HS2.out.blk 0 rfl).cell 9 rfl
    have j10 := (HS2.out.blk 0 rfl).cell 10 rfl
    go_wp2_with fail
    clear j0 j1 j2 j3 j4 j5 j6 j7 j8 j9 j10
    refine (HSy.out w3 HS2.out.frm).mono ?_
    rintro e w4 ⟨rfl, hf⟩
    have HS3 := Lib.hid (HS2.out.keep hf)
    clear hf HS2
    cases By with
    | false =>
      go_wp2_with fail
      go_ret
      exact ⟨rfl, HS3.out.frm.below⟩
    | true =>
      have HlX := Lib.hid (show nX ≤ 1000000 from Nat.le_trans (HbX.out (by trivial)).1 (by decide))
      have HlY := Lib.hid (show nY ≤ 1000000 from Nat.le_trans (HbY.out (by trivial)).1 (by decide))
      have HmX := Lib.hid (fun (q : LvV) (hq : q ∈ qs) => show q.B.length ≤ 1000000 from Nat.le_trans ((HbX.out (by trivial)).2 q hq) (by decide))
      have HmY := Lib.hid (fun (q : LvV) (hq : q ∈ rs) => show q.B.length ≤ 1000000 from Nat.le_trans ((HbY.out (by trivial)).2 q hq) (by decide))
      clear HbX HbY
      go_upto_region 5 with fail
      have k0 := (HS3.out.blk 1 rfl).cell 0 rfl
      have k1 := (HS3.out.blk 1 rfl).cell 1 rfl
      have k2 := (HS3.out.blk 1 rfl).cell 2 rfl
      have k3 := (HS3.out.blk 1 rfl).cell 3 rfl
      have k4 := (HS3.out.blk 1 rfl).cell 4 rfl
      have k5 := (HS3.out.blk 1 rfl).cell 5 rfl
      have k6 := (HS3.out.blk 1 rfl).cell 6 rfl
      have k7 := (HS3.out.blk 1 rfl).cell 7 rfl
      have k8 := (HS3.out.blk 1 rfl).cell 8 rfl
      have k9 := (HS3.out.blk 1 rfl).cell 9 rfl
      have k10 := (HS3.out.blk 1 rfl).cell 10 rfl
      go_wp2_with fail
      clear k0 k1 k2 k3 k4 k5 k6 k7 k8 k9 k10
      refine (HW.out w4 HS3.out.frm HlX.out).mono ?_
      rintro e w5 ⟨v3, rfl, hS⟩
      obtain ⟨a3, c3, rfl, rd3, -, -, -⟩ := usl_of (k := .u8) (hS.own 0 rfl)
      have HS4 := Lib.hid (HS3.out.keep hS.frm)
      have HR4 := Lib.hid rd3
      clear hS rd3 HS3 HW
      go_upto_region 6 with fail
      have k0 := (HS4.out.blk 1 rfl).cell 0 rfl
      have k1 := (HS4.out.blk 1 rfl).cell 1 rfl
      have k2 := (HS4.out.blk 1 rfl).cell 2 rfl
      have k3 := (HS4.out.blk 1 rfl).cell 3 rfl
      have k4 := (HS4.out.blk 1 rfl).cell 4 rfl
      have k5 := (HS4.out.blk 1 rfl).cell 5 rfl
      have k6 := (HS4.out.blk 1 rfl).cell 6 rfl
      have k7 := (HS4.out.blk 1 rfl).cell 7 rfl
      have k8 := (HS4.out.blk 1 rfl).cell 8 rfl
      have k9 := (HS4.out.blk 1 rfl).cell 9 rfl
      have k10 := (HS4.out.blk 1 rfl).cell 10 rfl
      go_wp2_with fail
      clear k0 k1 k2 k3 k4 k5 k6 k7 k8 k9 k10
      refine (HAx.out w5 HS4.out.frm HlX.out).mono ?_
      rintro e w6 ⟨ad, cd, rfl, hrd, hf⟩
      have HS5 := Lib.hid (HS4.out.keep hf)
      have HR5 := Lib.hid (HR4.out.frm hf (by simp))
      have HD5 := Lib.hid hrd
      clear hf HS4 HR4 hrd
      go_wp2_with fail
      refine (HWr.out w6 ad cd HD5.out HlX.out HmX.out).mono ?_
      rintro e w7 ⟨v5, rfl, hS⟩
      obtain ⟨a5, c5, rfl, rd5, -, -, -⟩ := usl_of (k := .u8) (hS.own 0 rfl)
      have HS6 := Lib.hid (HS5.out.keep hS.frm)
      have HR6 := Lib.hid (And.intro (HR5.out.frm hS.frm (by simp)) rd5)
      clear hS rd5 HS5 HR5 HWr HD5
      rw [← HnO.out]
      go_upto_region 7 with fail
      have k0 := (HS6.out.blk 1 rfl).cell 0 rfl
      have k1 := (HS6.out.blk 1 rfl).cell 1 rfl
      have k2 := (HS6.out.blk 1 rfl).cell 2 rfl
      have k3 := (HS6.out.blk 1 rfl).cell 3 rfl
      have k4 := (HS6.out.blk 1 rfl).cell 4 rfl
      have k5 := (HS6.out.blk 1 rfl).cell 5 rfl
      have k6 := (HS6.out.blk 1 rfl).cell 6 rfl
      have k7 := (HS6.out.blk 1 rfl).cell 7 rfl
      have k8 := (HS6.out.blk 1 rfl).cell 8 rfl
      have k9 := (HS6.out.blk 1 rfl).cell 9 rfl
      have k10 := (HS6.out.blk 1 rfl).cell 10 rfl
      go_wp2_with fail
      clear k0 k1 k2 k3 k4 k5 k6 k7 k8 k9 k10
      refine (HFl.out w7 HS6.out.frm HlX.out).mono ?_
      rintro e w8 ⟨va, vn, vc, rfl, hS⟩
      obtain rfl : vn = nU := by
        obtain ⟨_, _, hv, _⟩ := own_shape (hS.own 0 rfl)
        injection hv with _ h2 _
        exact h2.trans HnU.out.symm
      have rd3 : RdI .u8 w8 va uB := by
        obtain ⟨_, _, hv, rd, _⟩ := usl_of (k := .u8) (hS.own 0 rfl)
        injection hv with h1 _ _
        subst h1
        exact rd
      have HS7 := Lib.hid (HS6.out.keep hS.frm)
      have HR7 := Lib.hid (And.intro (HR6.out.1.frm hS.frm (by simp)) (And.intro (HR6.out.2.frm hS.frm (by simp)) rd3))
      clear hS rd3 HS6 HR6 HFl
      simp only [Rp.val, Rp.cells]
      go_upto_region 8 with fail
      obtain ⟨w9, hw9⟩ : ∃ x, x = w8.alloc (.cells #[.int .u8 uh0, .int .u8 uh1, .int .u8 uh2, .int .u8 uh3, .int .u8 uh4, .int .u8 uh5, .int .u8 uh6, .int .u8 uh7, .int .u16 ub, .int .u64 (uh : Int), .int .u64 (ul : Int), .slice va vn vc] 53) := ⟨_, rfl⟩
      obtain ⟨g, hg⟩ : ∃ x, x = w8.heap.size := ⟨_, rfl⟩
      have HS8 := Lib.hid (show Sep [] w w9 [blkR g 53 #[.int .u8 uh0, .int .u8 uh1, .int .u8 uh2, .int .u8 uh3, .int .u8 uh4, .int .u8 uh5, .int .u8 uh6, .int .u8 uh7, .int .u16 ub, .int .u64 (uh : Int), .int .u64 (ul : Int), .slice va vn vc], blkR (o + 1) 29 #[.int .u8 yh0, .int .u8 yh1, .int .u8 yh2, .int .u8 yh3, .int .u8 yh4, .int .u8 yh5, .int .u8 yh6, .int .u8 yh7, .int .u16 yb, .bool ylg, .slice a' nY c'], blkR o 29 #[.int .u8 xh0, .int .u8 xh1, .int .u8 xh2, .int .u8 xh3, .int .u8 xh4, .int .u8 xh5, .int .u8 xh6, .int .u8 xh7, .int .u16 xb, .bool xlg, .slice a nX c]] from by rw [hw9, hg]; exact HS7.out.alloc #[.int .u8 uh0, .int .u8 uh1, .int .u8 uh2, .int .u8 uh3, .int .u8 uh4, .int .u8 uh5, .int .u8 uh6, .int .u8 uh7, .int .u16 ub, .int .u64 (uh : Int), .int .u64 (ul : Int), .slice va vn vc] 53)
      have HR8 := Lib.hid (show RdI .u8 w9 a3 O ∧ RdI .u8 w9 a5 O ∧ RdI .u8 w9 va uB from by rw [hw9]; exact ⟨HR7.out.1.alloc _, HR7.out.2.1.alloc _, HR7.out.2.2.alloc _⟩)
      rw [← hw9, ← hg]
      clear hw9 hg HS7 HR7
      have k0 := (HS8.out.blk 2 rfl).cell 0 rfl
      have k1 := (HS8.out.blk 2 rfl).cell 1 rfl
      have k2 := (HS8.out.blk 2 rfl).cell 2 rfl
      have k3 := (HS8.out.blk 2 rfl).cell 3 rfl
      have k4 := (HS8.out.blk 2 rfl).cell 4 rfl
      have k5 := (HS8.out.blk 2 rfl).cell 5 rfl
      have k6 := (HS8.out.blk 2 rfl).cell 6 rfl
      have k7 := (HS8.out.blk 2 rfl).cell 7 rfl
      have k8 := (HS8.out.blk 2 rfl).cell 8 rfl
      have k9 := (HS8.out.blk 2 rfl).cell 9 rfl
      have k10 := (HS8.out.blk 2 rfl).cell 10 rfl
      go_wp2_with fail
      clear k0 k1 k2 k3 k4 k5 k6 k7 k8 k9 k10
      refine (HAx.out w9 HS8.out.frm HlX.out).mono ?_
      rintro e w10 ⟨ae, ce, rfl, hrd, hf⟩
      have HS9 := Lib.hid (HS8.out.keep hf)
      have HD9 := Lib.hid hrd
      have HR9 := Lib.hid (show RdI .u8 w10 a3 O ∧ RdI .u8 w10 a5 O ∧ RdI .u8 w10 va uB from ⟨HR8.out.1.frm hf (by simp), HR8.out.2.1.frm hf (by simp), HR8.out.2.2.frm hf (by simp)⟩)
      clear hf HS8 HR8 hrd
      go_wp2_with fail
      refine (HFr.out w10 ae ce HD9.out HlX.out HmX.out).mono ?_
      rintro e w11 ⟨vb, vm, vd, rfl, hS⟩
      obtain rfl : vm = vn := by
        obtain ⟨_, _, hv, _⟩ := own_shape (hS.own 0 rfl)
        injection hv with _ h2 _
        exact h2.trans HnU.out.symm
      have rd9 : RdI .u8 w11 vb uB := by
        obtain ⟨_, _, hv, rd, _⟩ := usl_of (k := .u8) (hS.own 0 rfl)
        injection hv with h1 _ _
        subst h1
        exact rd
      have HSA := Lib.hid (HS9.out.keep hS.frm)
      have HRA := Lib.hid (show RdI .u8 w11 a3 O ∧ RdI .u8 w11 a5 O ∧ RdI .u8 w11 va uB ∧ RdI .u8 w11 vb uB from ⟨HR9.out.1.frm hS.frm (by simp), HR9.out.2.1.frm hS.frm (by simp), HR9.out.2.2.frm hS.frm (by simp), rd9⟩)
      clear hS rd9 HS9 HR9 HFr HD9
      simp only [Rp.val, Rp.cells]
      go_upto_region 9 with fail
      obtain ⟨w12, hw12⟩ : ∃ x, x = w11.alloc (.cells #[.int .u8 uh0, .int .u8 uh1, .int .u8 uh2, .int .u8 uh3, .int .u8 uh4, .int .u8 uh5, .int .u8 uh6, .int .u8 uh7, .int .u16 ub, .int .u64 (uh : Int), .int .u64 (ul : Int), .slice vb vm vd] 53) := ⟨_, rfl⟩
      obtain ⟨q, hq⟩ : ∃ x, x = w11.heap.size := ⟨_, rfl⟩
      have HSB := Lib.hid (show Sep [] w w12 [blkR q 53 #[.int .u8 uh0, .int .u8 uh1, .int .u8 uh2, .int .u8 uh3, .int .u8 uh4, .int .u8 uh5, .int .u8 uh6, .int .u8 uh7, .int .u16 ub, .int .u64 (uh : Int), .int .u64 (ul : Int), .slice vb vm vd], blkR g 53 #[.int .u8 uh0, .int .u8 uh1, .int .u8 uh2, .int .u8 uh3, .int .u8 uh4, .int .u8 uh5, .int .u8 uh6, .int .u8 uh7, .int .u16 ub, .int .u64 (uh : Int), .int .u64 (ul : Int), .slice va vm vc], blkR (o + 1) 29 #[.int .u8 yh0, .int .u8 yh1, .int .u8 yh2, .int .u8 yh3, .int .u8 yh4, .int .u8 yh5, .int .u8 yh6, .int .u8 yh7, .int .u16 yb, .bool ylg, .slice a' nY c'], blkR o 29 #[.int .u8 xh0, .int .u8 xh1, .int .u8 xh2, .int .u8 xh3, .int .u8 xh4, .int .u8 xh5, .int .u8 xh6, .int .u8 xh7, .int .u16 xb, .bool xlg, .slice a nX c]] from by rw [hw12, hq]; exact HSA.out.alloc #[.int .u8 uh0, .int .u8 uh1, .int .u8 uh2, .int .u8 uh3, .int .u8 uh4, .int .u8 uh5, .int .u8 uh6, .int .u8 uh7, .int .u16 ub, .int .u64 (uh : Int), .int .u64 (ul : Int), .slice vb vm vd] 53)
      have HRB := Lib.hid (show RdI .u8 w12 a3 O ∧ RdI .u8 w12 a5 O ∧ RdI .u8 w12 va uB ∧ RdI .u8 w12 vb uB from by rw [hw12]; exact ⟨HRA.out.1.alloc _, HRA.out.2.1.alloc _, HRA.out.2.2.1.alloc _, HRA.out.2.2.2.alloc _⟩)
      rw [← hw12, ← hq]
      clear hw12 hq HSA HRA
      have HBs := Lib.hid (fun X (hX : Frm [] w12 X) => (by
        have h := bsame_c a3 a5 c3 c5 O O X (HRB.out.1.frm hX (by simp)) (HRB.out.2.1.frm hX (by simp)) (by have := HnO.out; have := HlO.out; omega) (by have := HnO.out; have := HlO.out; omega)
        rw [← HnO.out, decide_eq_true rfl] at h
        exact h.mono (fun e w' ⟨h1, m, h2⟩ => ⟨h1, h2 ▸ (Frm.refl _ _).drewN m⟩) : Calls Tryd.prog 14 #[.slice a3 nO c3, .slice a5 nO c5] X fun e w' => e = .returned (.bool true) ∧ Frm [] X w'))
      have HSr := Lib.hid (fun X (hX : Frm [] w12 X) => HSm.out X va vc vb vd (HRB.out.2.2.1.frm hX (by simp)) (HRB.out.2.2.2.frm hX (by simp)) HlU.out)
      as_aux_lemma =>
        have hee : (E == E) = true := by simp
        have hgg : (G == G) = true := by simp
        have hss : (S == S) = true := by simp
        refine region_segsP (G := []) [0, 1, 2, 3, 4, 5, 6, 7, 8, 9, 10, 11, 12, 13, 14, 15, 16, 17, 18, 19, 20, 22, 24, 21, 23, 25, 26, 27, 28, 29, 30, 31, 32, 33, 34] [6, 9, 6, 0, 0, 0, 5] (by decide) (by kernel_rfl) (by kernel_rfl) (by kernel_rfl) (by kernel_rfl) (by kernel_rfl) (by kernel_rfl) (by kernel_rfl) ?_
        simp only [remOf, List.filterMap_cons, List.filterMap_nil, List.getElem?_cons_zero, List.getElem?_cons_succ]
        have HSC := Lib.hid HSB.out.drew
        obtain ⟨x6, hx6⟩ : ∃ x, x = w12.drew := ⟨_, rfl⟩
        have HF6 := Lib.hid (show Frm [] w12 x6 from hx6 ▸ (Frm.refl _ _).drew)
        rw [← hx6] at HSC
        rw [← hx6]
        clear hx6 HSB HRB HSm
        have n1 : Nonempty (Cls (fun v => Frm [] x6 v)) := ⟨⟨_, Frm.refl _ _⟩⟩
        unfold wpSegs
        simp only [List.take_succ_cons, List.take_zero, List.drop_succ_cons, List.drop_zero]
        repeat (go_big_quiet_step (rfl))
        refine wpQuiet_nil ?_
        refine only_step (fun K' hK => ?_)
        clear n1 
        go_wp2_with fail
        refine (HBs.out _ HF6.out).mono ?_
        rintro e w13 ⟨rfl, hf⟩
        have HFb := Lib.hid (show Frm [] x6 w13 from hf)
        clear hf
        go_wp2_with fail
        refine hK.out _ _ ⟨HFb.out, ?_⟩
        clear hK
        as_aux_lemma =>
          unfold wpSegs
          simp only [List.take_succ_cons, List.take_zero, List.drop_succ_cons, List.drop_zero]
          have n1 : Nonempty (Cls (fun v => Frm [] w13 v)) := ⟨⟨_, Frm.refl _ _⟩⟩
          have q0 := fun x : Cls (fun v => Frm [] w13 v) => ((HFb.out.trans x.ok).blk (HSC.out.blk 1 rfl) (by simp)).cell 0 rfl
          have q1 := fun x : Cls (fun v => Frm [] w13 v) => ((HFb.out.trans x.ok).blk (HSC.out.blk 1 rfl) (by simp)).cell 1 rfl
          have q2 := fun x : Cls (fun v => Frm [] w13 v) => ((HFb.out.trans x.ok).blk (HSC.out.blk 1 rfl) (by simp)).cell 2 rfl
          have q3 := fun x : Cls (fun v => Frm [] w13 v) => ((HFb.out.trans x.ok).blk (HSC.out.blk 1 rfl) (by simp)).cell 3 rfl
          have q4 := fun x : Cls (fun v => Frm [] w13 v) => ((HFb.out.trans x.ok).blk (HSC.out.blk 1 rfl) (by simp)).cell 4 rfl
          have q5 := fun x : Cls (fun v => Frm [] w13 v) => ((HFb.out.trans x.ok).blk (HSC.out.blk 1 rfl) (by simp)).cell 5 rfl
          have q6 := fun x : Cls (fun v => Frm [] w13 v) => ((HFb.out.trans x.ok).blk (HSC.out.blk 1 rfl) (by simp)).cell 6 rfl
          have q7 := fun x : Cls (fun v => Frm [] w13 v) => ((HFb.out.trans x.ok).blk (HSC.out.blk 1 rfl) (by simp)).cell 7 rfl
          have q8 := fun x : Cls (fun v => Frm [] w13 v) => ((HFb.out.trans x.ok).blk (HSC.out.blk 1 rfl) (by simp)).cell 8 rfl
          have q9 := fun x : Cls (fun v => Frm [] w13 v) => ((HFb.out.trans x.ok).blk (HSC.out.blk 1 rfl) (by simp)).cell 9 rfl
          have q10 := fun x : Cls (fun v => Frm [] w13 v) => ((HFb.out.trans x.ok).blk (HSC.out.blk 1 rfl) (by simp)).cell 10 rfl
          have q11 := fun x : Cls (fun v => Frm [] w13 v) => ((HFb.out.trans x.ok).blk (HSC.out.blk 1 rfl) (by simp)).cell 11 rfl
          have j0 := fun x : Cls (fun v => Frm [] w13 v) => ((HFb.out.trans x.ok).blk (HSC.out.blk 0 rfl) (by simp)).cell 0 rfl
          have j1 := fun x : Cls (fun v => Frm [] w13 v) => ((HFb.out.trans x.ok).blk (HSC.out.blk 0 rfl) (by simp)).cell 1 rfl
          have j2 := fun x : Cls (fun v => Frm [] w13 v) => ((HFb.out.trans x.ok).blk (HSC.out.blk 0 rfl) (by simp)).cell 2 rfl
          have j3 := fun x : Cls (fun v => Frm [] w13 v) => ((HFb.out.trans x.ok).blk (HSC.out.blk 0 rfl) (by simp)).cell 3 rfl
          have j4 := fun x : Cls (fun v => Frm [] w13 v) => ((HFb.out.trans x.ok).blk (HSC.out.blk 0 rfl) (by simp)).cell 4 rfl
          have j5 := fun x : Cls (fun v => Frm [] w13 v) => ((HFb.out.trans x.ok).blk (HSC.out.blk 0 rfl) (by simp)).cell 5 rfl
          have j6 := fun x : Cls (fun v => Frm [] w13 v) => ((HFb.out.trans x.ok).blk (HSC.out.blk 0 rfl) (by simp)).cell 6 rfl
          have j7 := fun x : Cls (fun v => Frm [] w13 v) => ((HFb.out.trans x.ok).blk (HSC.out.blk 0 rfl) (by simp)).cell 7 rfl
          have j8 := fun x : Cls (fun v => Frm [] w13 v) => ((HFb.out.trans x.ok).blk (HSC.out.blk 0 rfl) (by simp)).cell 8 rfl
          have j9 := fun x : Cls (fun v => Frm [] w13 v) => ((HFb.out.trans x.ok).blk (HSC.out.blk 0 rfl) (by simp)).cell 9 rfl
          have j10 := fun x : Cls (fun v => Frm [] w13 v) => ((HFb.out.trans x.ok).blk (HSC.out.blk 0 rfl) (by simp)).cell 10 rfl
          have j11 := fun x : Cls (fun v => Frm [] w13 v) => ((HFb.out.trans x.ok).blk (HSC.out.blk 0 rfl) (by simp)).cell 11 rfl
          repeat (go_big_quiet_step (rfl))
          refine wpQuiet_nil ?_
          refine only_step (fun K' hK => ?_)
          clear n1 q0 q1 q2 q3 q4 q5 q6 q7 q8 q9 q10 q11 j0 j1 j2 j3 j4 j5 j6 j7 j8 j9 j10 j11
          go_wp2_with fail
          refine (HSr.out _ (HF6.out.trans HFb.out)).mono ?_
          rintro e w14 ⟨rfl, hf⟩
          have HFc := Lib.hid (HFb.out.trans hf)
          have HFl := Lib.hid hf
          clear hf
          go_wp2_with fail
          refine hK.out _ _ ⟨HFl.out, ?_⟩
          clear hK
          as_aux_lemma =>
            unfold wpSegs
            simp only [List.take_succ_cons, List.take_zero, List.drop_succ_cons, List.drop_zero]
            have n1 : Nonempty (Cls (fun v => Frm [] w14 v)) := ⟨⟨_, Frm.refl _ _⟩⟩
            have q0 := fun x : Cls (fun v => Frm [] w14 v) => ((HFc.out.trans x.ok).blk (HSC.out.blk 3 rfl) (by simp)).cell 0 rfl
            have q1 := fun x : Cls (fun v => Frm [] w14 v) => ((HFc.out.trans x.ok).blk (HSC.out.blk 3 rfl) (by simp)).cell 1 rfl
            have q2 := fun x : Cls (fun v => Frm [] w14 v) => ((HFc.out.trans x.ok).blk (HSC.out.blk 3 rfl) (by simp)).cell 2 rfl
            have q3 := fun x : Cls (fun v => Frm [] w14 v) => ((HFc.out.trans x.ok).blk (HSC.out.blk 3 rfl) (by simp)).cell 3 rfl
            have q4 := fun x : Cls (fun v => Frm [] w14 v) => ((HFc.out.trans x.ok).blk (HSC.out.blk 3 rfl) (by simp)).cell 4 rfl
            have q5 := fun x : Cls (fun v => Frm [] w14 v) => ((HFc.out.trans x.ok).blk (HSC.out.blk 3 rfl) (by simp)).cell 5 rfl
            have q6 := fun x : Cls (fun v => Frm [] w14 v) => ((HFc.out.trans x.ok).blk (HSC.out.blk 3 rfl) (by simp)).cell 6 rfl
            have q7 := fun x : Cls (fun v => Frm [] w14 v) => ((HFc.out.trans x.ok).blk (HSC.out.blk 3 rfl) (by simp)).cell 7 rfl
            have q8 := fun x : Cls (fun v => Frm [] w14 v) => ((HFc.out.trans x.ok).blk (HSC.out.blk 3 rfl) (by simp)).cell 8 rfl
            have q9 := fun x : Cls (fun v => Frm [] w14 v) => ((HFc.out.trans x.ok).blk (HSC.out.blk 3 rfl) (by simp)).cell 9 rfl
            have q10 := fun x : Cls (fun v => Frm [] w14 v) => ((HFc.out.trans x.ok).blk (HSC.out.blk 3 rfl) (by simp)).cell 10 rfl
            have j0 := fun x : Cls (fun v => Frm [] w14 v) => ((HFc.out.trans x.ok).blk (HSC.out.blk 2 rfl) (by simp)).cell 0 rfl
            have j1 := fun x : Cls (fun v => Frm [] w14 v) => ((HFc.out.trans x.ok).blk (HSC.out.blk 2 rfl) (by simp)).cell 1 rfl
            have j2 := fun x : Cls (fun v => Frm [] w14 v) => ((HFc.out.trans x.ok).blk (HSC.out.blk 2 rfl) (by simp)).cell 2 rfl
            have j3 := fun x : Cls (fun v => Frm [] w14 v) => ((HFc.out.trans x.ok).blk (HSC.out.blk 2 rfl) (by simp)).cell 3 rfl
            have j4 := fun x : Cls (fun v => Frm [] w14 v) => ((HFc.out.trans x.ok).blk (HSC.out.blk 2 rfl) (by simp)).cell 4 rfl
            have j5 := fun x : Cls (fun v => Frm [] w14 v) => ((HFc.out.trans x.ok).blk (HSC.out.blk 2 rfl) (by simp)).cell 5 rfl
            have j6 := fun x : Cls (fun v => Frm [] w14 v) => ((HFc.out.trans x.ok).blk (HSC.out.blk 2 rfl) (by simp)).cell 6 rfl
            have j7 := fun x : Cls (fun v => Frm [] w14 v) => ((HFc.out.trans x.ok).blk (HSC.out.blk 2 rfl) (by simp)).cell 7 rfl
            have j8 := fun x : Cls (fun v => Frm [] w14 v) => ((HFc.out.trans x.ok).blk (HSC.out.blk 2 rfl) (by simp)).cell 8 rfl
            have j9 := fun x : Cls (fun v => Frm [] w14 v) => ((HFc.out.trans x.ok).blk (HSC.out.blk 2 rfl) (by simp)).cell 9 rfl
            have j10 := fun x : Cls (fun v => Frm [] w14 v) => ((HFc.out.trans x.ok).blk (HSC.out.blk 2 rfl) (by simp)).cell 10 rfl
            repeat (go_big_quiet_step (rfl))
            refine wpQuiet_nil ?_
            refine only_step (fun K' hK => ?_)
            clear n1 q0 q1 q2 q3 q4 q5 q6 q7 q8 q9 q10 j0 j1 j2 j3 j4 j5 j6 j7 j8 j9 j10
            go_wp2_with fail
            refine (HSxy.out _ (HSC.out.frm.trans HFc.out) HlX.out HlY.out HmX.out HmY.out).mono ?_
            rintro e w15 ⟨rfl, hf⟩
            have HFd := Lib.hid (HFc.out.trans hf)
            clear HFl
            have HFl := Lib.hid hf
            clear hf
            go_wp2_with fail
            refine hK.out _ _ ⟨HFl.out, ?_⟩
            clear hK
            as_aux_lemma =>
              unfold wpSegs
              simp only [List.take_succ_cons, List.take_zero, List.drop_succ_cons, List.drop_zero]
              have n1 : Nonempty (Cls (fun v => Frm [] w15 v)) := ⟨⟨_, Frm.refl _ _⟩⟩
              repeat (go_big_quiet_step (rfl))
              refine wpQuiet_nil ?_
              refine only_step (fun K' hK => ?_)
              clear n1 
              go_wp2_with fail
              refine (HAx.out _ (HSC.out.frm.trans HFd.out) HlX.out).mono ?_
              rintro e w16 ⟨af, cf, rfl, hrd, hf⟩
              have HD1 := Lib.hid hrd
              have HFe := Lib.hid (HFd.out.trans hf)
              clear HFl hrd
              have HFl := Lib.hid hf
              clear hf
              go_wp2_with fail
              refine hK.out _ _ ⟨HFl.out, ?_⟩
              clear hK
              as_aux_lemma =>
                unfold wpSegs
                simp only [List.take_succ_cons, List.take_zero, List.drop_succ_cons, List.drop_zero]
                have n1 : Nonempty (Cls (fun v => Frm [] w16 v)) := ⟨⟨_, Frm.refl _ _⟩⟩
                repeat (go_big_quiet_step (rfl))
                refine wpQuiet_nil ?_
                refine only_step (fun K' hK => ?_)
                clear n1 
                go_wp2_with fail
                refine (HAy.out _ (HSC.out.frm.trans HFe.out) HlY.out).mono ?_
                rintro e w17 ⟨ag, cg, rfl, hrd, hf⟩
                have HD2 := Lib.hid (And.intro (HD1.out.frm hf) hrd)
                have HFf := Lib.hid (HFe.out.trans hf)
                clear HFl hrd HD1
                have HFl := Lib.hid hf
                clear hf
                go_wp2_with fail
                refine hK.out _ _ ⟨HFl.out, ?_⟩
                clear hK
                as_aux_lemma =>
                  unfold wpSegs
                  simp only [List.take_succ_cons, List.take_zero, List.drop_succ_cons, List.drop_zero]
                  have n1 : Nonempty (Cls (fun v => Frm [] w17 v)) := ⟨⟨_, Frm.refl _ _⟩⟩
                  repeat (go_big_quiet_step (rfl))
                  refine wpQuiet_nil ?_
                  refine only_step (fun K' hK => ?_)
                  clear n1 
                  go_wp2_with fail
                  refine (HRxy.out _ af cf ag cg HD2.out.1 HD2.out.2 HlX.out HlY.out HmX.out HmY.out).mono ?_
                  rintro e w18 ⟨rfl, hf⟩
                  have HFg := Lib.hid (HFf.out.trans hf)
                  clear HFl
                  have HFl := Lib.hid hf
                  clear hf
                  go_wp2_with fail
                  refine hK.out _ _ ⟨HFl.out, ?_⟩
                  clear hK
                  as_aux_lemma =>
                    unfold wpSegs
                    simp only [List.take_succ_cons, List.take_zero, List.drop_succ_cons, List.drop_zero]
                    have n1 : Nonempty (Cls (fun v => Frm [] w18 v)) := ⟨⟨_, Frm.refl _ _⟩⟩
                    have q0 := fun x : Cls (fun v => Frm [] w18 v) => ((HFg.out.trans x.ok).blk (HSC.out.blk 3 rfl) (by simp)).cell 0 rfl
                    have q1 := fun x : Cls (fun v => Frm [] w18 v) => ((HFg.out.trans x.ok).blk (HSC.out.blk 3 rfl) (by simp)).cell 1 rfl
                    have q2 := fun x : Cls (fun v => Frm [] w18 v) => ((HFg.out.trans x.ok).blk (HSC.out.blk 3 rfl) (by simp)).cell 2 rfl
                    have q3 := fun x : Cls (fun v => Frm [] w18 v) => ((HFg.out.trans x.ok).blk (HSC.out.blk 3 rfl) (by simp)).cell 3 rfl
                    have q4 := fun x : Cls (fun v => Frm [] w18 v) => ((HFg.out.trans x.ok).blk (HSC.out.blk 3 rfl) (by simp)).cell 4 rfl
                    have q5 := fun x : Cls (fun v => Frm [] w18 v) => ((HFg.out.trans x.ok).blk (HSC.out.blk 3 rfl) (by simp)).cell 5 rfl
                    have q6 := fun x : Cls (fun v => Frm [] w18 v) => ((HFg.out.trans x.ok).blk (HSC.out.blk 3 rfl) (by simp)).cell 6 rfl
                    have q7 := fun x : Cls (fun v => Frm [] w18 v) => ((HFg.out.trans x.ok).blk (HSC.out.blk 3 rfl) (by simp)).cell 7 rfl
                    have q8 := fun x : Cls (fun v => Frm [] w18 v) => ((HFg.out.trans x.ok).blk (HSC.out.blk 3 rfl) (by simp)).cell 8 rfl
                    have q9 := fun x : Cls (fun v => Frm [] w18 v) => ((HFg.out.trans x.ok).blk (HSC.out.blk 3 rfl) (by simp)).cell 9 rfl
                    have q10 := fun x : Cls (fun v => Frm [] w18 v) => ((HFg.out.trans x.ok).blk (HSC.out.blk 3 rfl) (by simp)).cell 10 rfl
                    repeat (go_big_quiet_step (rfl))
                    refine wpQuiet_nil ?_
                    refine only_step (fun K' hK => ?_)
                    clear n1 q0 q1 q2 q3 q4 q5 q6 q7 q8 q9 q10
                    go_wp2_with fail
                    refine (HSxx.out _ (HSC.out.frm.trans HFg.out) HlX.out HmX.out).mono ?_
                    rintro e w19 ⟨rfl, hf⟩
                    have HFh := Lib.hid (HFg.out.trans hf)
                    clear HFl
                    have HFl := Lib.hid hf
                    clear hf
                    go_wp2_with fail
                    refine hK.out _ _ ⟨HFl.out, ?_⟩
                    clear hK
                    as_aux_lemma =>
                      have n1 : Nonempty (Cls (fun v => Frm [] w19 v)) := ⟨⟨_, Frm.refl _ _⟩⟩
                      unfold wpSegs
                      show wpQuiet _ _ _ _ [_, _] _
                      repeat (go_big_quiet_step (rfl))
                      refine wpQuiet_nil ?_
                      clear n1
                      refine NoPanic.normal ?_
                      go_wp2_with fail
                      go_ret
                      exact ⟨rfl, (HSC.out.frm.trans HFh.out).below⟩
theorem ulpWrites_f {w : World} (hT : Tabs w) (x : Ul) (a : Option Addr) (c : Nat) (qs : List LvV) (hqx : qs.map LvV.lv = x.Ls) (hox : x.Ok) (rx : RdLs w a qs) (nx : a = none → c = 0) (lx : qs.length ≤ c) (mx : c ≤ maxLen)
    (y : Ul) (a' : Option Addr) (c' : Nat) (rs : List LvV) (hqy : rs.map LvV.lv = y.Ls) (hoy : y.Ok) (ry : RdLs w a' rs) (ny : a' = none → c' = 0) (ly : rs.length ≤ c') (my : c' ≤ maxLen) :
    Calls Tryd.prog 4 #[x.val (.slice a qs.length c), y.val (.slice a' rs.length c')] w fun e w' => e = .returned (.bool true) ∧ Below w.heap.size w w' :=
  ulpWrites_w w hT x a c qs hqx hox rx (by unfold maxLen at *; omega) y a' c' rs hqy hoy ry (by unfold maxLen at *; omega)

end Go.Proofs.YtjflcijiaennkaaDoor
