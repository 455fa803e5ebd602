/-
  THE WALKS of confluxref09.last, confluxref09.Write. Printed by gen_ulu.py.
-/
import Derived.Test.YtjflcijiaennkaaDoorUlT
import Derived.Test.YtjflcijiaennkaaDoorMsr
import Derived.Test.YtjflcijiaennkaaDoorJon
import Derived.Test.YtjflcijiaennkaaDoorPj
set_option linter.unusedVariables false
set_option linter.unusedSimpArgs false
namespace Go.Proofs.YtjflcijiaennkaaDoor
open Go.RowKit

theorem ula_neg {h l : Nat} (h0 : h < 18446744073709551616) (h1 : l < 18446744073709551616) : decide (laN h l < 0) = (decide (h = 0) && decide (l = 0)) := by
  unfold laN
  by_cases e2 : l = 0
  · by_cases e1 : h = 0
    · simp [e1, e2]
    · have := (czn_spec h0 e1).1
      simp [e1, e2]
      omega
  · have := (czn_spec h1 e2).1
    simp [e2]
    omega
set_option maxRecDepth 100000 in
set_option maxHeartbeats 4000000 in
theorem urlast_c (h l : Nat) (w : World) (h0 : h < 18446744073709551616) (h1 : l < 18446744073709551616) :
    Calls Tryd.prog 34 #[.int .u64 (h : Int), .int .u64 (l : Int)] w fun e w' => e = .returned (.int .i64 (laN h l)) ∧ Frm [] w w' := by
  have hla := laN_eq h0 h1
  obtain ⟨R, hR⟩ : ∃ R, R = laN h l := ⟨_, rfl⟩
  rw [← hR] at hla ⊢
  have HLa := Lib.hid hla
  clear hR hla
  go_enter Tryd.func34, Tryd.ntmps34
  go_wp2_with fail
  refine (rof_c h l w h0 h1).mono ?_
  rintro e w1 ⟨a, c, rfl, hS⟩
  obtain ⟨a', c', hv, -, -, rb⟩ := rdB_own (hS.own 0 rfl)
  simp only [Value.slice.injEq] at hv
  rw [← hv.1] at rb
  have HL := Lib.hid (rlist_c a c (bools h l) w1 rb (bools_len128 _ _))
  have HF := Lib.hid hS.frm
  clear hS hv rb
  go_wp2_with fail
  refine HL.out.mono ?_
  rintro e w2 ⟨a2, c2, rfl, _, rz, hf⟩
  have HF2 := Lib.hid (HF.out.trans hf)
  rw [liB_all] at rz ⊢
  have HZ := Lib.hid rz
  clear rz hf HL
  obtain ⟨L, hL⟩ : ∃ L, L = bitsOf h l := ⟨_, rfl⟩
  rw [← hL] at HLa HZ ⊢
  have hlen : L.length ≤ 128 := by
    rw [hL]
    unfold bitsOf
    exact Nat.le_trans (List.length_filter_le _ _) (by simp)
  clear hL
  obtain ⟨n, hn⟩ : ∃ n, n = L.length := ⟨_, rfl⟩
  have HN := Lib.hid hn
  rw [← hn] at hlen ⊢
  clear hn
  by_cases hz : n = 0
  · have t0 : ((n : Int) == 0) = true := by simp [hz]
    obtain rfl : R = -1 := by
      rw [HLa.out, List.eq_nil_of_length_eq_zero (HN.out.symm.trans hz)]
      rfl
    clear hz
    go_wp2_with fail
    go_ret
    exact ⟨rfl, HF2.out⟩
  · have t0 : ((n : Int) == 0) = false := by simp; exact hz
    obtain ⟨m, rfl⟩ : ∃ m, n = m + 1 := ⟨n - 1, by omega⟩
    have hlt : m < L.length := by rw [← HN.out]; omega
    obtain ⟨b, off, x, hx, rfl, hb, hc⟩ := HZ.out.at_ (j := m) (by simpa [fwL] using hlt)
    have hxx : x = R := by
      have h1 : L.getLast? = some L[m] := by
        rw [List.getLast?_eq_getElem?, ← HN.out, Nat.add_sub_cancel, List.getElem?_eq_getElem hlt]
      have h2 : lastOf L = (L[m] : Int) := by unfold lastOf; rw [h1]
      rw [HLa.out, h2, hx]
      simp [fwL]
    subst hxx
    have i1 : (0 : Int) ≤ (m : Int) := by omega
    have i2 : ((m + 1 : Nat) : Int) - 1 = (m : Int) := by omega
    have i3 : (m : Int) < ((m + 1 : Nat) : Int) := by omega
    have i4 : IntKind.i64.wrap (((m + 1 : Nat) : Int) - 1) = (m : Int) := by rw [i2]; exact IntWalk.i64_in _ (by omega)
    clear hx hlt hz
    go_wp2_with fail
    go_ret
    exact ⟨rfl, HF2.out⟩
theorem join4_c {w : World} {g c1 c2 c3 c4 n1 n2 n3 n4 cap : Nat} {a1 a2 a3 a4 : Option Addr} {z1 z2 z3 z4 : List Int} (hb : Blk w g 22 #[.slice a1 n1 c1, .slice a2 n2 c2, .slice a3 n3 c3, .slice a4 n4 c4]) (r1 : RdI .u8 w a1 z1) (r2 : RdI .u8 w a2 z2) (r3 : RdI .u8 w a3 z3) (r4 : RdI .u8 w a4 z4)
    (h1 : z1.length = n1) (h2 : z2.length = n2) (h3 : z3.length = n3) (h4 : z4.length = n4) (hl : n1 + (n2 + (n3 + n4)) ≤ 1000000) :
    Calls Tryd.prog 32 #[.slice (some ⟨g, 0, none⟩) 4 cap] w fun e w' => ∃ v, e = .returned v ∧ Sep [] w w' [sumR v (z1 ++ (z2 ++ (z3 ++ z4)))] := by
  subst h1 h2 h3 h4
  have h := join_c (some ⟨g, 0, none⟩) cap [⟨a1, c1, z1⟩, ⟨a2, c2, z2⟩, ⟨a3, c3, z3⟩, ⟨a4, c4, z4⟩] w (fun i p hi => by
    match i, hi with
    | 0, hi => simp at hi; subst hi; exact ⟨g, 0, rfl, hb.lt, hb.cell 0 rfl, r1⟩
    | 1, hi => simp at hi; subst hi; exact ⟨g, 0, rfl, hb.lt, hb.cell 1 rfl, r2⟩
    | 2, hi => simp at hi; subst hi; exact ⟨g, 0, rfl, hb.lt, hb.cell 2 rfl, r3⟩
    | 3, hi => simp at hi; subst hi; exact ⟨g, 0, rfl, hb.lt, hb.cell 3 rfl, r4⟩
    | _ + 4, hi => simp at hi) (by simp) (by simp [flatZ]; exact hl)
  simp only [flatZ, List.flatMap_cons, List.flatMap_nil, List.append_nil] at h
  exact h
theorem upart_ref {h l : Nat} (h0 : h < 18446744073709551616) (h1 : l < 18446744073709551616) (lg : Bool) : nb (prL (bools h l) 0 (wid lg)) = ptN h l 0 (wid lg) := by
  have h := part_ref h0 h1 0 (wid lg : Int)
  rw [h, show held 0 (-200) 200 = 0 by decide]
  cases lg <;> rfl
set_option maxRecDepth 100000 in
set_option maxHeartbeats 16000000 in
theorem urwrite_c (x : Ul) (a : Option Addr) (c : Nat) (qs : List LvV) (w : World) (hq : qs.map LvV.lv = x.Ls) (hok : x.Ok) (rd : RdLs w a qs) (hn : qs.length ≤ 1000000) (hbl : ∀ q ∈ qs, q.B.length ≤ 1000000) :
    Calls Tryd.prog 17 #[x.val (.slice a qs.length c)] w (UWrP w (uwoX x) (uweX x)) := by
  have HRd := Lib.hid (fun X (hX : Frm [] w X) => rd.frm hX)
  have hlt : ∀ q ∈ qs, q.h < 18446744073709551616 ∧ q.l < 18446744073709551616 := fun q h => by
    have := hok.rL q.lv (by rw [← hq]; exact List.mem_map.2 ⟨q, h, rfl⟩)
    exact ⟨this.1, this.2.1⟩
  have HLt := Lib.hid hlt
  have HBl := Lib.hid hbl
  have HBd := Lib.hid (@uwe_bad x)
  have HLg := Lib.hid (@uwe_long x)
  have HGd := Lib.hid (@uwe_good x)
  have HE0 := Lib.hid (fun (h : x.Ls.length = 0) => uwr_none h)
  have HE1 := Lib.hid (fun (h : 2 < x.Ls.length) => uwr_many h)
  have HE2 := Lib.hid (fun h0 h1 h => uwr_bits (x := x) h0 h1 h)
  have HE3 := Lib.hid (fun h0 h1 h => uwr_long (x := x) h0 h1 h)
  have hby : ubyX x = uhdB x ++ lvsB x.lg qs qs.length := by
    unfold ubyX lvsB
    rw [← hq, List.take_length, List.flatMap_map]
  rw [← hq] at HE0 HE1 HE2 HE3
  rw [hby] at HLg HGd
  obtain ⟨V, hV⟩ : ∃ V, V = uwrX x := ⟨_, rfl⟩
  obtain ⟨E, hE⟩ : ∃ E, E = uweX x := ⟨_, rfl⟩
  obtain ⟨O, hO⟩ : ∃ O, O = uwoX x := ⟨_, rfl⟩
  rw [← hV] at HE0 HE1 HE2 HE3 HBd HLg HGd
  rw [← hE] at HBd HLg HGd ⊢
  rw [← hO] at HBd HLg HGd ⊢
  obtain ⟨r0, r1, r2, r3, r4, r5, r6, r7, rb, rL⟩ := hok
  clear hV hE hO rd hlt hbl rL hby hq
  obtain ⟨h0, h1, h2, h3, h4, h5, h6, h7, bb, lg, Ls⟩ := x
  simp only [Ul.val, Ul.cells, uhdB, List.length_map] at *
  obtain ⟨n, hn2⟩ : ∃ n, n = qs.length := ⟨_, rfl⟩
  rw [← hn2] at hn HE0 HE1 HE2 HE3 HLg HGd ⊢
  have HN := Lib.hid hn2
  clear hn2
  obtain ⟨f, hf⟩ : ∃ f : Int, f = h0 % 64 + if lg then 64 else 0 := ⟨_, rfl⟩
  have hf0 : 0 ≤ f ∧ f ≤ 255 := by rw [hf]; cases lg <;> simp <;> omega
  have HF := Lib.hid hf
  obtain ⟨pre, hpre⟩ : ∃ pre : List Int, pre = [f, h1] ++ bigL bb 2 ++ [h2, h3, h4, h5, h6, h7] := ⟨_, rfl⟩
  rw [← hf, ← hpre] at HLg HGd
  have hpl : pre.length = 10 := by rw [hpre]; simp [bigL_len]
  have HPre := Lib.hid hpre
  clear hf hpre
  have HS0 := Lib.hid ((Sep.init w).alloc #[.int .u8 h0, .int .u8 h1, .int .u8 h2, .int .u8 h3, .int .u8 h4, .int .u8 h5, .int .u8 h6, .int .u8 h7, .int .u16 bb, .bool lg, .slice a n c] 35)
  go_enter Tryd.func17, Tryd.ntmps17
  go_upto_region 1 with fail
  obtain ⟨w1, hw1⟩ : ∃ w1, w1 = w.alloc (.cells #[.int .u8 h0, .int .u8 h1, .int .u8 h2, .int .u8 h3, .int .u8 h4, .int .u8 h5, .int .u8 h6, .int .u8 h7, .int .u16 bb, .bool lg, .slice a n c] 35) := ⟨_, rfl⟩
  obtain ⟨o, ho⟩ : ∃ o, o = w.heap.size := ⟨_, rfl⟩
  rw [← hw1, ← ho] at HS0
  rw [← hw1, ← ho]
  clear hw1 ho
  have k10 := (HS0.out.blk 0 rfl).cell 10 rfl
  by_cases g0 : n = 0
  case pos =>
    have t0 : ((n : Int) == 0) = true := by simp [g0]
    have hv := HE0.out g0
    clear g0
    obtain ⟨rfl, rfl⟩ := HBd.out (show V ≠ 0 by rw [hv]; decide)
    obtain rfl := hv
    clear HBd HLg HGd HE0 HE1 HE2 HE3
    go_wp2_with fail
    refine bodyPost_ret (v := .tuple #[.slice none 0 0, .int .i64 4]) ?_ rfl ⟨_, rfl, (HS0.out.nil 5 1).at_ [0] (by decide) rfl⟩
    simp [results, Tryd.results17]
  have t0 : ((n : Int) == 0) = false := by simp; exact g0
  by_cases g1 : 2 < n
  case pos =>
    have t1 : decide (2 < (n : Int)) = true := decide_eq_true (by omega)
    have hv := HE1.out g1
    clear g0 g1
    obtain ⟨rfl, rfl⟩ := HBd.out (show V ≠ 0 by rw [hv]; decide)
    obtain rfl := hv
    clear HBd HLg HGd HE0 HE1 HE2 HE3
    go_wp2_with fail
    refine bodyPost_ret (v := .tuple #[.slice none 0 0, .int .i64 3]) ?_ rfl ⟨_, rfl, (HS0.out.nil 5 1).at_ [0] (by decide) rfl⟩
    simp [results, Tryd.results17]
  have t1 : decide (2 < (n : Int)) = false := decide_eq_false (by omega)
  have hn22 : n ≤ 2 := by omega
  go_upto_region 5 with fail
  clear k10 t0 t1
  have n1 := HS0.out.inh
  have q0 := Cls.cell (S := []) (w0 := w) (L := [blkR o 35 #[.int .u8 h0, .int .u8 h1, .int .u8 h2, .int .u8 h3, .int .u8 h4, .int .u8 h5, .int .u8 h6, .int .u8 h7, .int .u16 bb, .bool lg, .slice a n c]]) 0 rfl 0 (v := .int .u8 h0) rfl
  have e1 : Int.tmod h0 64 = h0 % 64 := Int.tmod_eq_emod_of_nonneg r0.1
  refine region_sep HS0.out (by kernel_rfl) (by kernel_rfl) ?_
  repeat (go_big_quiet_step (fail))
  refine wpQuiet_nil ?_
  intro w2 hS2
  have HS2 := Lib.hid hS2
  clear hS2 n1 q0 e1 HS0
  have k9 := (HS2.out.blk 0 rfl).cell 9 rfl
  have e2 : IntKind.i64.wrap (h0 % 64) = h0 % 64 := IntWalk.i64_in _ (by omega)
  have e3 : IntKind.i64.wrap (h0 % 64 + 64) = h0 % 64 + 64 := IntWalk.i64_in _ (by omega)
  go_upto_if 26 with fail
  go_cut [4, 5] (fun s v wx => s = .int .i64 (siz lg : Int) ∧ v = .int .i64 f ∧ wx = w2)
  case first =>
    cases lg with
    | true =>
      go_wp2_with fail
      go_meet
      exact ⟨rfl, by rw [HF.out]; rfl, rfl⟩
    | false =>
      go_wp2_with fail
      go_meet
      exact ⟨rfl, by rw [HF.out]; simp, rfl⟩
  obtain ⟨rfl, rfl, hwc⟩ := hcut
  rw [hwc]
  clear hwc e2 e3 k9
  have e1 : IntKind.u8.wrap f = f := u8_wrap hf0.1 hf0.2
  have e2 : IntKind.u64.wrap bb = bb := wrapU64 (by omega) (by omega)
  have HN1 := Lib.hid (show 2 + ((bigN' bb 2).length + 6) ≤ 1000000 by rw [bigN'_len]; decide)
  have HBC := Lib.hid (fun W => rbig_c bb 2 2 rfl (by decide) (by omega) (by omega) W)
  go_upto_region 8 with fail
  go_cut [6] (fun v wx => Sep [] w2 wx [sumR v pre])
  case first =>
    refine region_pm [] [0, 1, 2, 3, 4, 6, 7, 8, 10, 11, 12, 13, 14, 15, 16, 17, 18, 19, 20, 21, 22, 23, 24, 25, 26, 27] [5, 9, 28, 29, 30] [Pr.blk 5 #[.int .u8 f, .int .u8 h1] 2 0, Pr.sum (bigN' bb 2), Pr.blk 5 #[.int .u8 h2, .int .u8 h3, .int .u8 h4, .int .u8 h5, .int .u8 h6, .int .u8 h7] 6 0, Pr.three [f, h1] (bigN' bb 2) [h2, h3, h4, h5, h6, h7], Pr.sep w2.drew (fun v => [sumR v ([f, h1] ++ (bigN' bb 2 ++ [h2, h3, h4, h5, h6, h7]))])] [] [31] (by kernel_rfl) (by kernel_rfl) (by kernel_rfl) rfl ?_
    simp only [remOf, mvs, List.zip_cons_cons, List.zip_nil_right, List.filterMap_cons, List.filterMap_nil, List.getElem?_cons_zero, List.getElem?_cons_succ, Option.map_some]
    have HS3 := Lib.hid HS2.out.drew
    obtain ⟨x3, hx3⟩ : ∃ x, x = w2.drew := ⟨_, rfl⟩
    have hx0 := Lib.hid (show Frm [] w2 x3 from hx3 ▸ (Frm.refl _ _).drew)
    rw [← hx3] at HS3
    rw [← hx3]
    clear hx3
    have n1 : Nonempty (Cls (fun v => Frm [] x3 v)) := ⟨⟨_, Frm.refl _ _⟩⟩
    have q1 := fun x : Cls (fun v => Frm [] x3 v) => (x.ok.blk (HS3.out.blk 0 rfl) (by simp)).cell 1 rfl
    have q2 := fun x : Cls (fun v => Frm [] x3 v) => (x.ok.blk (HS3.out.blk 0 rfl) (by simp)).cell 2 rfl
    have q3 := fun x : Cls (fun v => Frm [] x3 v) => (x.ok.blk (HS3.out.blk 0 rfl) (by simp)).cell 3 rfl
    have q4 := fun x : Cls (fun v => Frm [] x3 v) => (x.ok.blk (HS3.out.blk 0 rfl) (by simp)).cell 4 rfl
    have q5 := fun x : Cls (fun v => Frm [] x3 v) => (x.ok.blk (HS3.out.blk 0 rfl) (by simp)).cell 5 rfl
    have q6 := fun x : Cls (fun v => Frm [] x3 v) => (x.ok.blk (HS3.out.blk 0 rfl) (by simp)).cell 6 rfl
    have q7 := fun x : Cls (fun v => Frm [] x3 v) => (x.ok.blk (HS3.out.blk 0 rfl) (by simp)).cell 7 rfl
    have q8 := fun x : Cls (fun v => Frm [] x3 v) => (x.ok.blk (HS3.out.blk 0 rfl) (by simp)).cell 8 rfl
    show wpQuiet _ _ _ _ [_, _, _, _, _, _, _, _, _, _, _, _, _, _, _, _, _, _, _, _, _, _, _, _, _, _] _
    repeat (go_big_quiet_step (rfl))
    refine wpQuiet_nil ?_
    refine And.intro ?_ ?_
    · show slotsB _ _ = true
      kernel_rfl
    clear q1 q2 q3 q4 q5 q6 q7 q8 n1
    unfold wpMk
    refine ⟨fun X hX hk => ?_, fun v34 => ?_⟩
    · clear hk
      refine mk_run rfl rfl (by kernel_rfl) (.slice (some ⟨X.heap.size, 0, none⟩) 2 2) (X.alloc (.cells #[.int .u8 f, .int .u8 h1] 5)) (by kernel_rfl) ((Frm.refl _ _).alloc _) ⟨X.heap.size, rfl, Blk.made _ _ _, Nat.zero_le _⟩
    unfold wpMk
    refine ⟨fun X hX hk => ?_, fun v38 => ?_⟩
    · clear hk
      refine only_step (fun K' hK => ?_)
      go_wp2_with fail
      refine (HBC.out X).mono ?_
      rintro e w5 ⟨vb, rfl, hSb⟩
      go_wp2_with fail
      refine hK.out _ _ ⟨hSb.frm, rfl, AtSum.of hSb⟩
    unfold wpMk
    refine ⟨fun X hX hk => ?_, fun v57 => ?_⟩
    · clear hk
      refine mk_run rfl rfl (by kernel_rfl) (.slice (some ⟨X.heap.size, 0, none⟩) 6 6) (X.alloc (.cells #[.int .u8 h2, .int .u8 h3, .int .u8 h4, .int .u8 h5, .int .u8 h6, .int .u8 h7] 5)) (by kernel_rfl) ((Frm.refl _ _).alloc _) ⟨X.heap.size, rfl, Blk.made _ _ _, Nat.zero_le _⟩
    unfold wpMk
    refine ⟨fun X hX hk => ?_, fun v58 => ?_⟩
    · obtain ⟨g3, rfl, hb3, -⟩ := hk 0 _ _ rfl (by kernel_rfl)
      obtain ⟨a2, c2, rfl, hr2, -⟩ := hk 1 _ _ rfl (by kernel_rfl)
      obtain ⟨g1, rfl, hb1, -⟩ := hk 2 _ _ rfl (by kernel_rfl)
      clear hk
      have hR1 := RdI.of_blk (k := .u8) hb1 (zs := [f, h1]) rfl
      have hR3 := RdI.of_blk (k := .u8) hb3 (zs := [h2, h3, h4, h5, h6, h7]) rfl
      have H1 := Lib.hid (And.intro hr2 (And.intro hR1 hR3))
      clear hr2 hb1 hb3 hR1 hR3
      refine only_step (fun K' hK => ?_)
      go_wp2_with fail
      refine hK.out _ _ ⟨(Frm.refl _ _).alloc _, rfl, X.heap.size, some ⟨g1, 0, none⟩, 2, a2, c2, some ⟨g3, 0, none⟩, 6, rfl, Blk.made _ _ _, H1.out.2.1.alloc _, H1.out.1.alloc _, H1.out.2.2.alloc _⟩
    unfold wpMk
    refine ⟨fun X hX hk => ?_, fun v59 => ?_⟩
    · obtain ⟨g, a1, c1, a2, c2, a3, c3, rfl, hb, h1, h2, h3⟩ := hk 0 _ _ rfl (by kernel_rfl)
      clear hk
      have HJ := Lib.hid (join3_c (cap := 3) hb h1 h2 h3 rfl rfl rfl HN1.out)
      clear hb h1 h2 h3
      refine only_step (fun K' hK => ?_)
      go_wp2_with fail
      refine HJ.out.mono ?_
      rintro e w6 ⟨v6, rfl, hS6⟩
      go_wp2_with fail
      refine hK.out _ _ ⟨hS6.frm, rfl, ?_⟩
      exact ((Sep.init x3).keep hX).more hS6
    unfold wpMk
    simp only [Act.put, List.setIfInBounds_toArray, List.set_cons_succ, List.set_cons_zero]
    intro X hX hk
    have HJ := Lib.hid (show Sep [] x3 X [sumR v59 ([f, h1] ++ (bigN' bb 2 ++ [h2, h3, h4, h5, h6, h7]))] from hk 0 _ _ rfl)
    clear hk
    unfold wpSegs
    have n1 : Nonempty (Cls (fun v => Frm [] X v)) := ⟨⟨_, Frm.refl _ _⟩⟩
    show wpQuiet _ _ _ _ [_] _
    repeat (go_big_quiet_step (rfl))
    refine wpQuiet_nil ?_
    refine NoPanic.normal ?_
    rename_i J0 K0 hJ0 hK0
    refine hK0 _ _ ?_
    go_meet
    rw [HPre.out, List.append_assoc]
    exact ((Sep.init w2).keep hx0.out).more HJ.out
  obtain ⟨a7, c7, rfl, -, -⟩ := own_shape (hcut.own 0 rfl)
  have HS4 := Lib.hid (show Sep [] w wc [sumR (.slice a7 pre.length c7) pre, blkR o 35 #[.int .u8 h0, .int .u8 h1, .int .u8 h2, .int .u8 h3, .int .u8 h4, .int .u8 h5, .int .u8 h6, .int .u8 h7, .int .u16 bb, .bool lg, .slice a n c]] from HS2.out.more hcut)
  obtain ⟨w4, hw4⟩ : ∃ w4, w4 = wc := ⟨_, rfl⟩
  rw [← hw4] at HS4 ⊢
  clear hw4 hcut e1 e2 HN1 HBC HS2
  rw [hpl] at HS4 ⊢
  have HPl := Lib.hid hpl
  have e8 : IntKind.i64.wrap (8 * (siz lg : Int)) = (wid lg : Int) := by cases lg <;> decide
  have HE8 := Lib.hid e8
  clear hpl
  go_wp2_with fail
  clear e8
  go_loopw [7] (fun i wr => ∃ (j : Nat), j ≤ n ∧ i = .int .i64 (j : Int) ∧ (qs.take j).any (fun q => farL lg q.lv) = false ∧ Sep [] w wr [ownR 5 1 (.slice a7 10 c7) 10 (pre.map (Value.int .u8)), blkR o 35 #[.int .u8 h0, .int .u8 h1, .int .u8 h2, .int .u8 h3, .int .u8 h4, .int .u8 h5, .int .u8 h6, .int .u8 h7, .int .u16 bb, .bool lg, .slice a n c]]) (fun i _ => n - (intOf i).toNat)
  case atStart => exact ⟨0, Nat.zero_le _, rfl, by simp, by have h := HS4.out; unfold sumR at h; rw [HPl.out] at h; exact h⟩
  case round =>
    obtain ⟨j, hj, rfl, hany, hS⟩ := hrel
    have HT := Lib.hid hS
    have HA := Lib.hid hany
    clear hS hany HS4
    have k10 := (HT.out.blk 1 rfl).cell 10 rfl
    by_cases hlt : j < n
    · obtain ⟨q, hq⟩ : ∃ q, qs[j]? = some q := ⟨_, List.getElem?_eq_getElem (by rw [← HN.out]; exact hlt)⟩
      have hm := List.mem_of_getElem? hq
      obtain ⟨gb, off, ha, _, d0, d1, d2⟩ := (HRd.out wr HT.out.frm).at_ hq
      obtain ⟨ab, cb, hbv, -⟩ := (HRd.out wr HT.out.frm).bod q hm
      have HAs := Lib.hid (any_take_succ (fun q : LvV => farL lg q.lv) hq)
      have hz := HLt.out q hm
      have HLa := Lib.hid (fun X => urlast_c q.h q.l X hz.1 hz.2)
      obtain ⟨Lq, hLq⟩ : ∃ L, L = laN q.h q.l := ⟨_, rfl⟩
      rw [← hLq] at HLa
      have hfar : farL lg q.lv = decide ((wid lg : Int) ≤ Lq) := by rw [hLq]; rfl
      have HFar := Lib.hid hfar
      have HMe := Lib.hid hm
      obtain ⟨qh, ql, qb, qB⟩ := q
      simp only at hbv d0 d1 d2 HLa
      obtain ⟨m, hm2⟩ : ∃ m, m = qB.length := ⟨_, rfl⟩
      rw [← hm2] at hbv
      subst ha hbv
      have i1 : (0 : Int) ≤ (j : Int) := by omega
      have i2 : (j : Int) < (n : Int) := by omega
      have HT2 := Lib.hid ((HT.out.alloc #[.int .u64 (qh : Int), .int .u64 (ql : Int), .slice ab m cb] 74).at_ [1, 2, 0] (by decide) rfl)
      clear hq hm hm2 hz hLq hfar HT
      go_upto_region 13 with fail
      obtain ⟨wx, hwx⟩ : ∃ wx, wx = wr.alloc (.cells #[.int .u64 (qh : Int), .int .u64 (ql : Int), .slice ab m cb] 74) := ⟨_, rfl⟩
      obtain ⟨p, hp⟩ : ∃ p, p = wr.heap.size := ⟨_, rfl⟩
      rw [← hwx, ← hp] at HT2
      rw [← hwx, ← hp]
      clear hwx hp d0 d1 d2 k10
      have c0 := (HT2.out.blk 2 rfl).cell 0 rfl
      have c1 := (HT2.out.blk 2 rfl).cell 1 rfl
      have e8 := HE8.out
      go_wp2_with fail
      refine (HLa.out wx).mono ?_
      rintro e w7 ⟨rfl, hf⟩
      have HT3 := Lib.hid (HT2.out.keep hf)
      clear hf c0 c1 HT2
      by_cases hff : (wid lg : Int) ≤ Lq
      · have t0 : decide ((wid lg : Int) ≤ Lq) = true := decide_eq_true hff
        have hv := HE2.out g0 g1 (by
          rw [any_lv, show (qs.any fun q => farL lg q.lv) = true from List.any_eq_true.2 ⟨_, HMe.out, by rw [HFar.out, t0]⟩]
          rfl)
        clear hff g0 g1
        obtain ⟨rfl, rfl⟩ := HBd.out (show V ≠ 0 by rw [hv]; decide)
        obtain rfl := hv
        clear HBd HLg HGd HE0 HE1 HE2 HE3
        go_wp2_with fail
        refine bodyPost_ret (v := .tuple #[.slice none 0 0, .int .i64 30]) ?_ rfl ⟨_, rfl, (HT3.out.nil 5 1).at_ [0] (by decide) rfl⟩
        simp [results, Tryd.results17]
      · have t0 : decide ((wid lg : Int) ≤ Lq) = false := decide_eq_false hff
        have hany2 : (qs.take (j + 1)).any (fun q => farL lg q.lv) = false := by rw [HAs.out, HA.out, HFar.out, t0]; rfl
        have HA2 := Lib.hid hany2
        have HT4 := Lib.hid (HT3.out.at_ [0, 1] (by decide) rfl)
        clear hff hany2
        go_wp2_with fail
        clear t0 e8
        go_roundw
        case rel => exact ⟨j + 1, by omega, by go_num, HA2.out, HT4.out⟩
        case measure => simp [intOf]; omega
    · obtain rfl : j = n := by omega
      have hanyf : (qs.any fun q => farL lg q.lv) = false := by
        have h := HA.out
        rwa [List.take_of_length_le (by rw [← HN.out]; exact Nat.le_refl _)] at h
      have HAf := Lib.hid hanyf
      obtain ⟨q, qs', hqs⟩ : ∃ q qs', qs = q :: qs' := by
        cases qs with
        | nil => have := HN.out; simp at this; omega
        | cons q qs' => exact ⟨q, qs', rfl⟩
      have hz := HLt.out q (by rw [hqs]; simp)
      have HLa := Lib.hid (fun X => urlast_c q.h q.l X hz.1 hz.2)
      have hhd : ((qs.map LvV.lv).head?.map isNil).getD true = (decide (q.h = 0) && decide (q.l = 0)) := by rw [hqs]; rfl
      have hng := ula_neg hz.1 hz.2
      rw [← hhd] at hng
      have HCx := Lib.hid (fun X (hX : Frm [] w X) => (HRd.out X hX).at_ (i := 0) (q := q) (by rw [hqs]; rfl))
      obtain ⟨gb, off, ha, -⟩ := HCx.out wr HT.out.frm
      subst ha
      have HC1 := Lib.hid (fun X (hX : Frm [] w X) => (by
        obtain ⟨b', o', e, _, h1, h2, h3⟩ := HCx.out X hX
        simp only [Option.some.injEq, Addr.mk.injEq] at e
        rw [← e.1, ← e.2.1] at h1 h2
        exact ⟨h1, h2⟩ : X.cell? ⟨gb, off, none⟩ = some (.int .u64 (q.h : Int)) ∧ X.cell? ⟨gb, off + 1, none⟩ = some (.int .u64 (q.l : Int))))
      obtain ⟨Lq, hLq⟩ : ∃ L, L = laN q.h q.l := ⟨_, rfl⟩
      obtain ⟨Z, hZ⟩ : ∃ Z, Z = ((qs.map LvV.lv).head?.map isNil).getD true := ⟨_, rfl⟩
      rw [← hLq] at HLa hng
      rw [← hZ] at hng HE2 HE3
      obtain ⟨qh, ql, qb, qB⟩ := q
      simp only at HLa HC1
      have i1 : (0 : Int) < (j : Int) := by omega
      clear hz hhd hqs hLq hZ HCx hanyf
      go_upto_region 15 with fail
      clear k10
      go_cut [91] (fun v wx => v = .bool Z ∧ Sep [] w wx [ownR 5 1 (.slice a7 10 c7) 10 (pre.map (Value.int .u8)), blkR o 35 #[.int .u8 h0, .int .u8 h1, .int .u8 h2, .int .u8 h3, .int .u8 h4, .int .u8 h5, .int .u8 h6, .int .u8 h7, .int .u16 bb, .bool lg, .slice (some ⟨gb, off, none⟩) j c]])
      case first =>
        have n1 := HT.out.inh
        have p0 := fun x : Cls (fun v => Sep [] w v [ownR 5 1 (.slice a7 10 c7) 10 (pre.map (Value.int .u8)), blkR o 35 #[.int .u8 h0, .int .u8 h1, .int .u8 h2, .int .u8 h3, .int .u8 h4, .int .u8 h5, .int .u8 h6, .int .u8 h7, .int .u16 bb, .bool lg, .slice (some ⟨gb, off, none⟩) j c]]) => (HC1.out x.world x.ok.frm).1
        have p1 := fun x : Cls (fun v => Sep [] w v [ownR 5 1 (.slice a7 10 c7) 10 (pre.map (Value.int .u8)), blkR o 35 #[.int .u8 h0, .int .u8 h1, .int .u8 h2, .int .u8 h3, .int .u8 h4, .int .u8 h5, .int .u8 h6, .int .u8 h7, .int .u16 bb, .bool lg, .slice (some ⟨gb, off, none⟩) j c]]) => (HC1.out x.world x.ok.frm).2
        have p2 := fun x : Cls (fun v => Sep [] w v [ownR 5 1 (.slice a7 10 c7) 10 (pre.map (Value.int .u8)), blkR o 35 #[.int .u8 h0, .int .u8 h1, .int .u8 h2, .int .u8 h3, .int .u8 h4, .int .u8 h5, .int .u8 h6, .int .u8 h7, .int .u16 bb, .bool lg, .slice (some ⟨gb, off, none⟩) j c]]) => (x.ok.blk 1 rfl).cell 10 rfl
        refine region_sep HT.out (by kernel_rfl) (by kernel_rfl) ?_
        repeat (go_big_quiet_step ((rename_i x; exact call_keeps x.ok (HLa.out _))))
        refine wpQuiet_nil ?_
        intro w3 hS3
        go_wp2_with fail
        go_meet
        exact ⟨rfl, hS3⟩
      obtain ⟨rfl, hf⟩ := hcut
      obtain ⟨wd, hwd⟩ : ∃ w5, w5 = wc := ⟨_, rfl⟩
      rw [← hwd] at hf ⊢
      have HT2 := Lib.hid hf
      clear hf hwd HT hng HLa
      cases Z with
      | true =>
        have hv := HE2.out g0 g1 (by rw [any_lv, HAf.out]; rfl)
        clear g0 g1
        obtain ⟨rfl, rfl⟩ := HBd.out (show V ≠ 0 by rw [hv]; decide)
        obtain rfl := hv
        clear HBd HLg HGd HE0 HE1 HE2 HE3
        go_wp2_with fail
        refine bodyPost_ret (v := .tuple #[.slice none 0 0, .int .i64 30]) ?_ rfl ⟨_, rfl, (HT2.out.nil 5 1).at_ [0] (by decide) rfl⟩
        simp [results, Tryd.results17]
      | false =>
        have hv3 := HE3.out g0 g1 (by rw [any_lv, HAf.out]; simp)
        rw [any_lv] at hv3
        have HV3 := Lib.hid hv3
        clear g0 g1 HE0 HE1 HE2 HE3 hv3
        go_wp2_with fail
        go_loopw [6, 9] (fun v i wr => ∃ (k m : Nat) (av : Option Addr) (cv : Nat), k ≤ j ∧ i = .int .i64 (k : Int) ∧ v = .slice av m cv ∧ (pre ++ lvsB lg qs k).length = m ∧ m ≤ 10 + k * 1508 ∧ (qs.take k).any (fun q => longL q.lv) = false ∧ Sep [] w wr [ownR 5 1 (.slice av m cv) m ((pre ++ lvsB lg qs k).map (Value.int .u8)), blkR o 35 #[.int .u8 h0, .int .u8 h1, .int .u8 h2, .int .u8 h3, .int .u8 h4, .int .u8 h5, .int .u8 h6, .int .u8 h7, .int .u16 bb, .bool lg, .slice (some ⟨gb, off, none⟩) j c]]) (fun _ i _ => j - (intOf i).toNat)
        case atStart => exact ⟨0, 10, a7, c7, Nat.zero_le _, rfl, rfl, by simp [lvsB, HPl.out], by omega, by simp, by rw [show pre ++ lvsB lg qs 0 = pre by simp [lvsB]]; exact HT2.out⟩
        case round =>
          obtain ⟨k, m, av, cv, hk, rfl, rfl, hlm, hm8, hany, hS⟩ := hrel
          have HT := Lib.hid hS
          have HA2 := Lib.hid hany
          have HLm := Lib.hid hlm
          clear hS hany HT2 hlm
          have k10 := (HT.out.blk 1 rfl).cell 10 rfl
          by_cases hlt : k < j
          · obtain ⟨q, hq⟩ : ∃ q, qs[k]? = some q := ⟨_, List.getElem?_eq_getElem (by rw [← HN.out]; exact hlt)⟩
            have hm := List.mem_of_getElem? hq
            obtain ⟨gb', off', ha, _, d0, d1, d2⟩ := (HRd.out wr HT.out.frm).at_ hq
            obtain ⟨ab, cb, hbv, -⟩ := (HRd.out wr HT.out.frm).bod q hm
            have HSl := Lib.hid (fun X (hX : Frm [] w X) => (HRd.out X hX).bod q hm)
            have HAs := Lib.hid (any_take_succ (fun q : LvV => longL q.lv) hq)
            have HSc := Lib.hid (lvsB_succ (lg := lg) hq)
            have hz := HLt.out q hm
            have HOf := Lib.hid (fun X => rof_c q.h q.l X hz.1 hz.2)
            have hpt := upt_lt hz.1 hz.2 lg
            have hpr := upart_ref hz.1 hz.2 lg
            obtain ⟨X, hX⟩ : ∃ X, X = ptN q.h q.l 0 (wid lg) := ⟨_, rfl⟩
            rw [← hX] at hpt hpr
            have HX := Lib.hid hX
            have hxw : X < 18446744073709551616 := by
              have : wid lg ≤ 48 := by cases lg <;> decide
              have h2 : (2 : Nat) ^ wid lg ≤ 2 ^ 48 := Nat.pow_le_pow_right (by decide) this
              omega
            have hlong : longL q.lv = decide (1500 < q.B.length) := rfl
            have HLo := Lib.hid hlong
            have HMe := Lib.hid hm
            have HPr := Lib.hid hpr
            obtain ⟨qh, ql, qb, qB⟩ := q
            simp only [Option.some.injEq, Addr.mk.injEq] at ha
            obtain ⟨rfl, rfl, -⟩ := ha
            simp only at hbv d0 d1 d2 HOf HSl HLo HPr HX
            obtain ⟨y, hy⟩ : ∃ y, y = qB.length := ⟨_, rfl⟩
            rw [← hy] at hbv HLo
            have HYy := Lib.hid hy
            subst hbv
            have i1' : (0 : Int) ≤ (k : Int) := by omega
            have i2 : (k : Int) < (j : Int) := by omega
            have HT2 := Lib.hid ((HT.out.alloc #[.int .u64 (qh : Int), .int .u64 (ql : Int), .slice ab y cb] 74).at_ [1, 2, 0] (by decide) rfl)
            clear hq hm hy hz hX hlong hpr HT hpt
            go_upto_region 21 with fail
            obtain ⟨wx, hwx⟩ : ∃ wx, wx = wr.alloc (.cells #[.int .u64 (qh : Int), .int .u64 (ql : Int), .slice ab y cb] 74) := ⟨_, rfl⟩
            obtain ⟨p, hp⟩ : ∃ p, p = wr.heap.size := ⟨_, rfl⟩
            rw [← hwx, ← hp] at HT2
            rw [← hwx, ← hp]
            clear hwx hp d0 d1 d2 k10
            have c2 := (HT2.out.blk 2 rfl).cell 2 rfl
            by_cases hyb : 1500 < y
            · have t0 : decide (1500 < (y : Int)) = true := decide_eq_true (by omega)
              have hv : V = 2 := by
                rw [HV3.out, if_pos]
                exact List.any_eq_true.2 ⟨_, HMe.out, by rw [HLo.out]; exact decide_eq_true hyb⟩
              clear hyb
              obtain ⟨rfl, rfl⟩ := HBd.out (show V ≠ 0 by rw [hv]; decide)
              obtain rfl := hv
              clear HBd HLg HGd
              go_wp2_with fail
              refine bodyPost_ret (v := .tuple #[.slice none 0 0, .int .i64 2]) ?_ rfl ⟨_, rfl, (HT2.out.nil 5 1).at_ [0] (by decide) rfl⟩
              simp [results, Tryd.results17]
            · have t0 : decide (1500 < (y : Int)) = false := decide_eq_false (by omega)
              have hany2 : (qs.take (k + 1)).any (fun q => longL q.lv) = false := by rw [HAs.out, HA2.out, HLo.out, decide_eq_false hyb]; rfl
              have HA3 := Lib.hid hany2
              have hy15 : y ≤ 1500 := by omega
              clear hyb hany2
              have c0 := (HT2.out.blk 2 rfl).cell 0 rfl
              have c1 := (HT2.out.blk 2 rfl).cell 1 rfl
              have e8 := HE8.out
              go_wp2_with fail
              refine (HOf.out wx).mono ?_
              rintro e w7 ⟨a3, c3, rfl, hS7⟩
              obtain ⟨a', c', hv', -, -, rb⟩ := rdB_own (hS7.own 0 rfl)
              simp only [Value.slice.injEq] at hv'
              rw [← hv'.1] at rb
              have hP := rpart_c a3 c3 (bools qh ql) 0 (wid lg) w7 rb (bools_len128 _ _) (by decide) (by cases lg <;> decide)
              rw [HPr.out] at hP
              have HP := Lib.hid hP
              have HT3 := Lib.hid (HT2.out.keep hS7.frm)
              clear hS7 hv' rb hP c0 c1 c2 HT2 HOf
              go_wp2_with fail
              refine HP.out.mono ?_
              rintro e w8 ⟨rfl, rfl⟩
              clear t0 e8 HP
              have HB1 := Lib.hid (fun W => rbig_c (y : Int) 2 2 rfl (by decide) (by omega) (by omega) W)
              have HB2 := Lib.hid (fun W => rbig_c (X : Int) (siz lg) (siz lg : Int) rfl (by have := siz_le lg; omega) (by omega) (by omega) W)
              have e16 : IntKind.u64.wrap (y : Int) = (y : Int) := wrapU64 (by omega) (by omega)
              have hsz6 := siz_le lg
              obtain ⟨cur, hcur⟩ : ∃ cur, cur = pre ++ lvsB lg qs k := ⟨_, rfl⟩
              rw [← hcur] at HT3 HLm
              have HCur := Lib.hid hcur
              clear hcur
              go_upto_region 24 with fail
              refine region_segsP (G := []) [0, 1, 2, 3, 4, 6, 7, 9, 10, 5, 8, 11, 12, 13] [9, 0, 0, 0] (by decide) (by kernel_rfl) (by kernel_rfl) (by kernel_rfl) (by kernel_rfl) (by kernel_rfl) (by kernel_rfl) (by kernel_rfl) ?_
              simp only [remOf, List.filterMap_cons, List.filterMap_nil, List.getElem?_cons_zero, List.getElem?_cons_succ]
              have HSA := Lib.hid HT3.out.drew
              obtain ⟨x6, hx6⟩ : ∃ x, x = w7.drew := ⟨_, rfl⟩
              rw [← hx6] at HSA
              rw [← hx6]
              clear hx6 HT3
              unfold wpSegs
              simp only [List.take_succ_cons, List.take_zero, List.drop_succ_cons, List.drop_zero]
              have n1 : Nonempty (Cls (fun v => Frm [] x6 v)) := ⟨⟨_, Frm.refl _ _⟩⟩
              have q2 := fun x : Cls (fun v => Frm [] x6 v) => (x.ok.blk (HSA.out.blk 2 rfl) (by simp)).cell 2 rfl
              repeat (go_big_quiet_step (rfl))
              refine wpQuiet_nil ?_
              refine only_step (fun K' hK => ?_)
              clear n1 q2 e16
              go_wp2_with fail
              refine (HB1.out x6).mono ?_
              rintro e w9 ⟨v9, rfl, hS9⟩
              obtain ⟨a9, c9, rfl, _, _⟩ := own_shape (hS9.own 0 rfl)
              rw [bigN'_len]
              have HSB := Lib.hid (HSA.out.more hS9)
              have HF9 := Lib.hid hS9.frm
              clear hS9
              go_wp2_with fail
              refine hK.out _ _ ⟨HF9.out, ?_⟩
              clear hK HF9 HSA
              unfold wpSegs
              simp only [List.take_succ_cons, List.take_zero, List.drop_succ_cons, List.drop_zero]
              refine wpQuiet_nil ?_
              refine only_step (fun K' hK => ?_)
              go_wp2_with fail
              refine (HB2.out w9).mono ?_
              rintro e w10 ⟨v10, rfl, hS10⟩
              obtain ⟨a10, c10, rfl, _, _⟩ := own_shape (hS10.own 0 rfl)
              have HSC := Lib.hid (HSB.out.more hS10)
              have HF10 := Lib.hid hS10.frm
              clear hS10
              go_wp2_with fail
              refine hK.out _ _ ⟨HF10.out, ?_⟩
              clear hK HF10 HSB
              unfold wpSegs
              simp only [List.take_succ_cons, List.take_zero, List.drop_succ_cons, List.drop_zero]
              refine wpQuiet_nil ?_
              refine only_step (fun K' hK => ?_)
              rw [bigN'_len] at HSC ⊢
              go_wp2_with fail
              have HSD := Lib.hid (HSC.out.alloc #[.slice av m cv, .slice a9 2 c9, .slice a10 (siz lg) c10, .slice ab y cb] 22)
              refine hK.out _ _ ⟨(Frm.refl _ _).alloc _, ?_⟩
              clear hK HSC
              obtain ⟨w11, hw11⟩ : ∃ x, x = w10.alloc (.cells #[.slice av m cv, .slice a9 2 c9, .slice a10 (siz lg) c10, .slice ab y cb] 22) := ⟨_, rfl⟩
              obtain ⟨g5, hg5⟩ : ∃ x, x = w10.heap.size := ⟨_, rfl⟩
              rw [← hw11, ← hg5] at HSD
              rw [← hw11, ← hg5]
              clear hw11 hg5
              unfold wpSegs
              simp only [List.take_succ_cons, List.take_zero, List.drop_succ_cons, List.drop_zero]
              refine wpQuiet_nil ?_
              refine only_step (fun K' hK => ?_)
              have hJ := (by
                obtain ⟨ab', cb', hv', rdb, _⟩ := HSl.out w11 HSD.out.frm
                simp only [Value.slice.injEq] at hv'
                rw [← hv'.1] at rdb
                have r1 := RdI.own (k := .u8) (HSD.out.own 3 rfl)
                have r2 := RdI.own (k := .u8) (HSD.out.own 2 rfl)
                have r3 := RdI.own (k := .u8) (HSD.out.own 1 rfl)
                exact join4_c (cap := 4) (HSD.out.blk 0 rfl) r1 r2 r3 rdb HLm.out (by rw [bigN'_len]) (by rw [bigN'_len]) HYy.out.symm (by omega) : Calls Tryd.prog 32 #[.slice (some ⟨g5, 0, none⟩) 4 4] w11 fun e w' => ∃ v, e = .returned v ∧ Sep [] w11 w' [sumR v (cur ++ (bigN' (y : Int) 2 ++ (bigN' (X : Int) (siz lg) ++ qB)))])
              have HJ := Lib.hid hJ
              clear hJ
              go_wp2_with fail
              refine HJ.out.mono ?_
              rintro e w12 ⟨v12, rfl, hS12⟩
              obtain ⟨a12, c12, rfl, _, _⟩ := own_shape (hS12.own 0 rfl)
              have hcat : cur ++ (bigN' (y : Int) 2 ++ (bigN' (X : Int) (siz lg) ++ qB)) = pre ++ lvsB lg qs (k + 1) := by
                rw [HSc.out, show ∀ z, pre ++ (lvsB lg qs k ++ z) = (pre ++ lvsB lg qs k) ++ z from fun z => (List.append_assoc _ _ _).symm, ← HCur.out]
                show _ = cur ++ (bigL (qB.length : Int) 2 ++ bigL (ptN qh ql 0 (wid lg) : Int) (siz lg) ++ qB)
                rw [← HYy.out, ← HX.out]
                simp only [List.append_assoc]
                rfl
              rw [hcat] at hS12 ⊢
              have hl12 : (pre ++ lvsB lg qs (k + 1)).length ≤ 10 + (k + 1) * 1508 := by
                rw [← hcat]
                simp only [List.length_append, bigN'_len]
                rw [HLm.out, ← HYy.out]
                omega
              have HSE := Lib.hid (HSD.out.more hS12)
              have HF12 := Lib.hid hS12.frm
              obtain ⟨m12, hm12⟩ : ∃ x, x = (pre ++ lvsB lg qs (k + 1)).length := ⟨_, rfl⟩
              rw [← hm12] at HSE hl12 ⊢
              have HM12 := Lib.hid hm12
              clear hS12 hm12 hcat
              go_wp2_with fail
              refine hK.out _ _ ⟨HF12.out, ?_⟩
              clear hK HF12 HJ HSD
              unfold wpSegs
              have n1 : Nonempty (Cls (fun v => Frm [] w12 v)) := ⟨⟨_, Frm.refl _ _⟩⟩
              show wpQuiet _ _ _ _ [_] _
              repeat (go_big_quiet_step (rfl))
              refine wpQuiet_nil ?_
              clear n1
              refine NoPanic.normal ?_
              have HT9 := Lib.hid (show Sep [] w w12 [ownR 5 1 (.slice a12 m12 c12) m12 ((pre ++ lvsB lg qs (k + 1)).map (Value.int .u8)), blkR o 35 #[.int .u8 h0, .int .u8 h1, .int .u8 h2, .int .u8 h3, .int .u8 h4, .int .u8 h5, .int .u8 h6, .int .u8 h7, .int .u16 bb, .bool lg, .slice (some ⟨gb, off, none⟩) j c]] from by
                have h := HSE.out.at_ [0, 5] (by decide) rfl
                unfold sumR at h
                rw [← HM12.out] at h
                exact h)
              go_wp2_with fail
              go_roundw
              case rel => exact ⟨k + 1, m12, a12, c12, by omega, by go_num, rfl, HM12.out.symm, hl12, HA3.out, HT9.out⟩
              case measure => simp [intOf]; omega
          · obtain rfl : k = j := by omega
            have hanyl : (qs.any fun q => longL q.lv) = false := by
              have h := HA2.out
              rwa [List.take_of_length_le (by rw [← HN.out]; exact Nat.le_refl _)] at h
            have hv : V = 0 := by rw [HV3.out, if_neg (by rw [hanyl]; decide)]
            have HLg2 := Lib.hid (HLg.out hv)
            have HGd2 := Lib.hid (HGd.out hv)
            rw [HLm.out] at HLg2 HGd2
            clear HLg HGd HBd hanyl hv HV3
            by_cases h15 : 1500 < m
            · obtain ⟨rfl, rfl⟩ := HLg2.out h15
              have d1 : decide (1500 < (m : Int)) = true := decide_eq_true (by omega)
              clear h15 HLg2 HGd2
              go_wp2_with fail
              refine bodyPost_ret (v := .tuple #[.slice none 0 0, .int .i64 2]) ?_ rfl ⟨_, rfl, (HT.out.nil 5 1).at_ [0] (by decide) rfl⟩
              simp [results, Tryd.results17]
            · obtain ⟨rfl, hO⟩ := HGd2.out h15
              have d1 : decide (1500 < (m : Int)) = false := decide_eq_false (by omega)
              clear h15 HLg2 HGd2
              subst hO
              go_wp2_with fail
              refine bodyPost_ret (v := .tuple #[.slice av m cv, .int .i64 0]) ?_ rfl ⟨.slice av m cv, rfl, by unfold sumR; rw [HLm.out]; exact HT.out.at_ [0] (by decide) rfl⟩
              simp [results, Tryd.results17]

end Go.Proofs.YtjflcijiaennkaaDoor
