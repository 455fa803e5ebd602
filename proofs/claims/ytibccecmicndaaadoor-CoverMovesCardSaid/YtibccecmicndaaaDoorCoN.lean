/-
  THE WALK of CoverMoves.
-/
import Derived.Test.YtibccecmicndaaaDoorCoM
import Derived.Test.YtibccecmicndaaaDoorSgs
set_option linter.unusedVariables false
set_option linter.unusedSimpArgs false
namespace Go.Proofs.YtibccecmicndaaaDoor
open Go.RowKit

theorem and16 (m : Nat) (hm : m < 65536) : bits .and .u16 (m : Int) 127 = ((m % 128 : Nat) : Int) := by
  have h : bits .and .u16 (m : Int) 127 = IntKind.u16.wrap ((BitVec.ofInt 16 (m : Int) &&& BitVec.ofInt 16 127).toNat : Int) := rfl
  have h1 : (BitVec.ofInt 16 (m : Int)).toNat = m := by rw [BitVec.toNat_ofInt]; omega
  have h2 : (BitVec.ofInt 16 (127 : Int)).toNat = 127 := by decide
  have h3 : m &&& 127 = m % 128 := Nat.and_two_pow_sub_one_eq_mod m 7
  rw [h, BitVec.toNat_and, h1, h2, h3, IntKind.wrap_u16]
  omega
theorem u16_wrap {k : Int} (h : 0 ≤ k ∧ k < 65536) : IntKind.u16.wrap k = k := by rw [IntKind.wrap_u16]; omega
theorem mod_in (x : Int) : 0 ≤ x % 65536 ∧ x % 65536 ≤ 65535 := by omega
theorem wrap_nat {k : Nat} (h : k < 65536) : wrap64 (k : Int) = (k : Int) := by unfold wrap64; omega
theorem ah_nat {b x k : Nat} (hb : b < 65536) (hx : x < 65536) (hk : k < 128) (e : (x : Int) = ((b : Int) + (k : Int)) % 65536) : ahN b x = k := by unfold ahN; omega
theorem mv_take {c x : Int} {ns : List Int} {j : Nat} (h : ns[j]? = some x) : mvL c (ns.take (j + 1)) = mvL c (ns.take j) ++ [(x + c) % 65536] := by
  rw [List.take_add_one, h]
  unfold mvL
  rw [List.map_append]
  rfl

set_option maxRecDepth 100000 in
set_option maxHeartbeats 16000000 in
theorem coverMoves_f (w : World) (hT : Tabs w) (a : Option Addr) (c : Nat) (ns : List Int) (lc : ns.length ≤ c) (mc : c ≤ maxLen) (nc : a = none → c = 0) (rd : RdI .u16 w a ns) (wf : ∀ x ∈ ns, (Lit.int .u16 x).wf = true) (by0 : Int) (wb : (Lit.int .u16 by0).wf = true) (m0 : Int) (wm : (Lit.int .u16 m0).wf = true) :
    Calls Tryd.prog 5 #[.slice a ns.length c, .int .u16 by0, .int .u16 m0] w fun e w' => e = .returned (.bool true) ∧ Below w.heap.size w w' := by
  have hn : ∀ n ∈ ns, 0 ≤ n ∧ n ≤ 65535 := fun n h => u16_in (wf n h)
  obtain ⟨y0, y1⟩ := u16_in wb
  obtain ⟨m, rfl, hm⟩ := u16_nat wm
  have HT := Lib.hid (alive_c w hT)
  clear wb wf lc hT wm mc
  by_cases hz : 100 < ns.length
  · have t1 : decide ((100 : Int) < (ns.length : Int)) = true := decide_eq_true (by omega)
    clear hz
    go_enter Tryd.func5, Tryd.ntmps5
    go_wp2_with fail
    refine HT.out.mono ?_
    rintro e w2 ⟨rfl, hf⟩
    have HF := Lib.hid hf
    clear hf
    go_wp2_with fail
    go_ret
    exact ⟨rfl, HF.out.below⟩
  have t1 : decide ((100 : Int) < (ns.length : Int)) = false := decide_eq_false (by omega)
  have hle : ns.length ≤ 100 := by omega
  obtain ⟨i0, hi, hz0, hz1, hz2⟩ := info_parts info_u16
  have HR := Lib.hid rd
  have HN := Lib.hid hn
  have H1 := Lib.hid (fun W (hW : Frm [] w W) => cof_c a c ns W (rd.below hW.below) (by omega) hn)
  have H2 := Lib.hid (fun (g : Option Addr) (d : Nat) W (h : RdI .u16 W g (mvL by0 ns)) => cof_c g d (mvL by0 ns) W h (by rw [mv_len]; omega) (fun n h => mv_in h))
  rw [mv_len, (co_mv by0 ns).1, (co_mv by0 ns).2.1, (co_mv by0 ns).2.2] at H2
  have H3 := Lib.hid (fun (g : Option Addr) (d : Nat) W (x : Int) (hx : 0 ≤ x ∧ x ≤ 65535) (h : RdI .u16 W g (ns ++ [x])) (b0 : 0 ≤ coB ns) (b1 : coB ns ≤ 65535) => from_c g d (coB ns) (ns ++ [x]) W h (by simp; omega) (fun n h => by
    rcases List.mem_append.1 h with h | h
    · exact hn n h
    · rw [List.mem_singleton.1 h]; exact hx) b0 b1)
  simp only [List.length_append, List.length_singleton] at H3
  have hbl : 0 ≤ coB ns ∧ coB ns ≤ 65535 := by
    unfold coB
    split
    · exact spanL_in ns hn
    · omega
  have hmv := fun h => coB_mv (c := by0) (ns := ns) h
  have hnone := fun h => co_none (ns := ns) h
  have hok := fun h => co_ok (ns := ns) h
  obtain ⟨B, hB⟩ : ∃ B, B = coB ns := ⟨_, rfl⟩
  obtain ⟨B2, hB2⟩ : ∃ B2, B2 = coB (mvL by0 ns) := ⟨_, rfl⟩
  obtain ⟨E, hE⟩ : ∃ E, E = coE ns := ⟨_, rfl⟩
  obtain ⟨H, hH⟩ : ∃ H, H = coH ns := ⟨_, rfl⟩
  obtain ⟨L, hL⟩ : ∃ L, L = coL ns := ⟨_, rfl⟩
  rw [← hB, ← hE, ← hH, ← hL] at H1
  rw [← hB2, ← hE, ← hH, ← hL] at H2
  rw [← hB] at H3 hbl
  rw [← hE, ← hB, ← hB2] at hmv
  rw [← hE, ← hH, ← hL] at hnone
  rw [← hE, ← hB, ← hH, ← hL] at hok
  have HMv := Lib.hid hmv
  have HNo := Lib.hid hnone
  have HOk := Lib.hid hok
  have HS0 := Lib.hid (fun X (hX : Frm [] w X) => ((Sep.init w).keep hX).made 22 1 0 #[] (Nat.zero_le _) rfl)
  unfold mV at *
  clear hB hB2 hE hH hL rd hn hz hmv hnone hok
  go_enter Tryd.func5, Tryd.ntmps5
  go_wp2_with fail
  refine HT.out.mono ?_
  rintro e w2 ⟨rfl, hf⟩
  have HS1 := Lib.hid (HS0.out w2 hf)
  clear hf HT HS0
  go_wp2_with fail
  clear t1
  go_loopw [7, 28] (fun v i wr => ∃ j : Nat, j ≤ ns.length ∧ i = .int .i64 (j : Int) ∧ Sep [] w wr [ownR 22 1 v j ((mvL by0 (ns.take j)).map (Value.int .u16))]) (fun _ i _ => ns.length - (intOf i).toNat)
  case atStart => exact ⟨0, by omega, rfl, HS1.out⟩
  case round =>
    obtain ⟨j, hj, rfl, hS⟩ := hrel
    have hrw := HR.out.below hS.frm.below
    have HS := Lib.hid hS
    clear hS HS1
    by_cases hlt : j < ns.length
    · obtain ⟨g, off, x, hx, rfl, hb, cx⟩ := hrw.at_ j hlt
      have hxi := HN.out x (List.mem_of_getElem? hx)
      have k0 : (0 : Int) ≤ (j : Int) := by omega
      have k1 : (j : Int) < (ns.length : Int) := by omega
      have e1 : IntKind.u16.wrap (x + by0) = (x + by0) % 65536 := IntKind.wrap_u16 _
      have HTk := Lib.hid (mv_take (c := by0) hx)
      clear hx hb hrw hxi
      go_wp2_with (at_builtin; refine wpList_append_sep rfl _ _ 24 rfl 0 22 i0 (.int .u16 0) 2 Tryd.underlying24 hi hz0 hz1 hz2 rfl _ _ _ rfl (HS.out.skip _) rfl _ 1 (.int .u16 ((x + by0) % 65536)) rfl (World.cell?_alloc_at _ _ _ _ rfl) rfl (by unfold maxLen; omega) (by omega) ?_; intro g4 c4 w4 hS4; have HS4 := Lib.hid hS4; clear hS4)
      go_roundw
      case rel => exact ⟨j + 1, by omega, by go_num, by rw [HTk.out, List.map_append]; exact HS4.out⟩
      case measure => simp [intOf]; omega
    · obtain rfl : j = ns.length := by omega
      rw [List.take_length] at HS
      obtain ⟨a5, c5, hv, hj5⟩ := own_cases (HS.out.own 0 rfl)
      subst hv
      clear hj5 hrw
      go_wp2_with fail
      refine (H1.out _ HS.out.frm).mono ?_
      rintro e w3 ⟨rfl, hf⟩
      have HS2 := Lib.hid ((HS.out.keep hf).alloc #[.int .u64 (H : Int), .int .u64 (L : Int)] 27)
      clear hf HS H1
      go_upto_region 12 with fail
      obtain ⟨p, hp⟩ : ∃ p, p = w3.heap.size := ⟨_, rfl⟩
      obtain ⟨w4, hw4⟩ : ∃ w4, w4 = w3.alloc (.cells #[.int .u64 (H : Int), .int .u64 (L : Int)] 27) := ⟨_, rfl⟩
      rw [← hw4, ← hp] at HS2
      rw [← hw4, ← hp]
      clear hw4 hp
      have hrm : RdI .u16 w4 a5 (mvL by0 ns) := fun i x hx => rdv_own (HS2.out.own 1 rfl) i (.int .u16 x) (by rw [List.getElem?_map, hx]; rfl)
      go_wp2_with fail
      refine (H2.out a5 c5 w4 hrm).mono ?_
      rintro e w5 ⟨rfl, hf⟩
      have HS3 := Lib.hid ((HS2.out.keep hf).alloc #[.int .u64 (H : Int), .int .u64 (L : Int)] 27)
      clear hf HS2 H2 hrm
      go_upto_region 13 with fail
      obtain ⟨q, hq⟩ : ∃ q, q = w5.heap.size := ⟨_, rfl⟩
      obtain ⟨w6, hw6⟩ : ∃ w6, w6 = w5.alloc (.cells #[.int .u64 (H : Int), .int .u64 (L : Int)] 27) := ⟨_, rfl⟩
      rw [← hw6, ← hq] at HS3
      rw [← hw6, ← hq]
      clear hw6 hq
      have c0 := (HS3.out.blk 1 rfl).cell 0 rfl
      have c1 := (HS3.out.blk 1 rfl).cell 1 rfl
      have d0 := (HS3.out.blk 0 rfl).cell 0 rfl
      have d1 := (HS3.out.blk 0 rfl).cell 1 rfl
      by_cases hE : E = 0
      · subst hE
        have hb2 := HMv.out rfl
        obtain ⟨ob, oh, ol, oin, ond⟩ := HOk.out rfl
        clear HMv HNo HOk
        have e2 : IntKind.u16.wrap (B + by0) = (B + by0) % 65536 := IntKind.wrap_u16 _
        rw [← hb2] at e2
        have hne : ∀ X, (binOp .neq 27 (.agg #[.int .u64 (H : Int), .int .u64 (L : Int)]) (.agg #[.int .u64 (H : Int), .int .u64 (L : Int)])).run Tryd.prog X = .ok (.bool false) X := fun X => by rw [mneq]; simp
        have HOb := Lib.hid (And.intro ob (And.intro oh (And.intro ol (And.intro oin ond))))
        clear ob oh ol oin ond hb2
        go_upto_region 17 with fail
        clear hne e2
        obtain ⟨k, hk⟩ : ∃ k, k = m % 128 := ⟨_, rfl⟩
        have hk1 : k < 128 := by omega
        have e3 : bits .and .u16 (m : Int) 127 = (k : Int) := by rw [hk]; exact and16 m hm
        have e4 : wrap64 (k : Int) = (k : Int) := wrap_nat (by omega)
        have e5 : IntKind.u16.wrap (k : Int) = (k : Int) := u16_wrap ⟨by omega, by omega⟩
        have e6 : IntKind.u16.wrap (B + (k : Int)) = (B + (k : Int)) % 65536 := IntKind.wrap_u16 _
        clear hk hm
        go_upto_region 19 with fail
        clear e3 e4 e5 e6
        obtain ⟨x, hx⟩ : ∃ x, x = (B + (k : Int)) % 65536 := ⟨_, rfl⟩
        have hxi : 0 ≤ x ∧ x ≤ 65535 := by rw [hx]; exact mod_in _
        rw [← hx]
        have HX := Lib.hid hx
        clear hx
        go_wp2_with (at_builtin; first | (refine wpList_append_said rfl (.tmp 84) (.tmp 85) 24 rfl 0 22 i0 (.int .u16 0) 2 Tryd.underlying24 hi hz0 hz1 hz2 rfl .u16 (.slice (some ⟨w6.heap.size, 0, none⟩) 0 0) 0 [] rfl (HS3.out.made 22 1 0 #[] (Nat.zero_le _) rfl) rfl a c ns.length ns rfl rfl nc (HR.out.below (HS3.out.frm.alloc _).below) ns.length (Nat.zero_add _) (ns.map (Value.int .u16)) (List.nil_append _) (by unfold maxLen; omega) (by omega) ?_; intro v7 w7 hS7; have HS7 := Lib.hid hS7; clear hS7) | (refine wpList_append_sep rfl _ _ 24 rfl 0 22 i0 (.int .u16 0) 2 Tryd.underlying24 hi hz0 hz1 hz2 rfl _ _ _ rfl (HS7.out.skip _) rfl _ 1 (.int .u16 x) rfl (World.cell?_alloc_at _ _ _ _ rfl) rfl (by unfold maxLen; omega) (by omega) ?_; intro g8 c8 w8 hS8; have HS8 := Lib.hid hS8; clear hS8) | fail)
        have hrx : RdI .u16 w8 (some ⟨g8, 0, none⟩) (ns ++ [x]) := fun i z hz => rdv_own (HS8.out.own 0 rfl) i (.int .u16 z) (by
          rw [show ns.map (Value.int .u16) ++ [Value.int .u16 x] = (ns ++ [x]).map (Value.int .u16) by rw [List.map_append]; rfl, List.getElem?_map, hz]; rfl)
        have h3 := H3.out (some ⟨g8, 0, none⟩) c8 w8 x hxi hrx hbl.1 hbl.2
        obtain ⟨ob, oh, ol, oin, ond⟩ := HOb.out
        have hmo := fr_more (b := B) (k := (k : Int)) (ns := ns) (by omega) (by omega) oin ond
        rw [← HX.out, ← oh, ← ol] at hmo
        have hhk := has_ds (D := dsL B ns) hk1
        rw [← oh, ← ol] at hhk
        have hHl : H < 18446744073709551616 := by rw [oh]; exact ofH_lt _
        have hLl : L < 18446744073709551616 := by rw [ol]; exact ofL_lt _
        obtain ⟨mem, hmem⟩ : ∃ mem, mem = decide ((k : Int) ∈ dsL B ns) := ⟨_, rfl⟩
        rw [← hmem] at hhk
        have hm1 : mem = true → (k : Int) ∈ dsL B ns := fun h => of_decide_eq_true (hmem ▸ h)
        have hm0 : mem = false → (k : Int) ∉ dsL B ns := fun h => of_decide_eq_false (hmem ▸ h)
        obtain ⟨bn, hbn, hbnl⟩ : ∃ bn : Nat, B = (bn : Int) ∧ bn < 65536 := ⟨B.toNat, by omega, by omega⟩
        obtain ⟨xn, hxn, hxnl⟩ : ∃ xn : Nat, x = (xn : Int) ∧ xn < 65536 := ⟨x.toNat, by omega, by omega⟩
        have hax : ahN bn xn = k := ah_nat hbnl hxnl hk1 (by rw [← hbn, ← hxn]; exact HX.out)
        have HHas := Lib.hid (fun X => (show Calls Tryd.prog 16 #[.int .u16 B, mV H L, .int .u16 x] X fun e w' => e = .returned (.bool mem) ∧ Frm [] X w' from by
          have h := chas_c bn H L xn X hbnl hxnl hHl hLl
          rw [hax, hhk, ← hbn, ← hxn] at h
          exact h))
        have HHm := Lib.hid (fun X => (show Calls Tryd.prog 24 #[mV H L, .int .i64 (k : Int)] X fun e w' => e = .returned (.bool mem) ∧ Frm [] X w' from by
          have h := has_c H L (k : Int) X hHl hLl (by omega) (by omega)
          rw [has_bt, Int.toNat_natCast, show decide (0 ≤ (k : Int) ∧ (k : Int) < 128) = decide (k < 128) from decide_eq_decide.2 (by omega), hhk] at h
          exact h))
        have HWi := Lib.hid (fun X => with_c H L (k : Int) X hHl hLl (by omega) (by omega))
        have hoH := or_lt hHl (bH_lt (k : Int))
        have hoL := or_lt hLl (bL_lt (k : Int))
        have HCo := Lib.hid (fun X => count_c (H ||| bH (k : Int)) (L ||| bL (k : Int)) X hoH hoL)
        obtain ⟨fe, hfe⟩ : ∃ fe, fe = frE B (ns ++ [x]) := ⟨_, rfl⟩
        obtain ⟨fh, hfh⟩ : ∃ fh, fh = frH B (ns ++ [x]) := ⟨_, rfl⟩
        obtain ⟨fl, hfl⟩ : ∃ fl, fl = frL B (ns ++ [x]) := ⟨_, rfl⟩
        rw [← hfe, ← hfh, ← hfl] at h3
        rw [← hfe, ← hfh, ← hfl] at hmo
        obtain ⟨H', hH'⟩ : ∃ H', H' = H ||| bH (k : Int) := ⟨_, rfl⟩
        obtain ⟨L', hL'⟩ : ∃ L', L' = L ||| bL (k : Int) := ⟨_, rfl⟩
        rw [← hH', ← hL'] at hmo
        simp only [← hH', ← hL'] at HWi HCo
        have H3b := Lib.hid h3
        have HMo := Lib.hid hmo
        have HM1 := Lib.hid hm1
        have HM0 := Lib.hid hm0
        unfold mV at HHas HHm HWi HCo
        clear hrx h3 ob oh ol oin ond hmo hhk hmem hbn hxn hax hfe hfh hfl hH' hL' hHl hLl hoH hoL hm1 hm0 HX HOb hxi hxnl hbnl
        go_wp2_with fail
        refine H3b.out.mono ?_
        rintro e w9 ⟨rfl, hf⟩
        have HS9 := Lib.hid ((HS8.out.keep hf).alloc #[.int .u64 (fh : Int), .int .u64 (fl : Int)] 27)
        clear hf H3b
        go_upto_region 20 with fail
        obtain ⟨r, hr⟩ : ∃ r, r = w9.heap.size := ⟨_, rfl⟩
        obtain ⟨wa, hwa⟩ : ∃ wa, wa = w9.alloc (.cells #[.int .u64 (fh : Int), .int .u64 (fl : Int)] 27) := ⟨_, rfl⟩
        rw [← hwa, ← hr] at HS9
        rw [← hwa, ← hr]
        clear hwa hr c0 c1 d0 d1 HS8 HS7 HS3
        have r0 := (HS9.out.blk 0 rfl).cell 0 rfl
        have r1 := (HS9.out.blk 0 rfl).cell 1 rfl
        have c0 := (HS9.out.blk 3 rfl).cell 0 rfl
        have c1 := (HS9.out.blk 3 rfl).cell 1 rfl
        by_cases hk9 : 109 ≤ k
        · have t9 : decide ((109 : Int) ≤ (k : Int)) = true := decide_eq_true (by omega)
          have hfe := HMo.out.1 (by omega)
          subst hfe
          clear hk9
          go_wp2_with fail
          go_ret
          exact ⟨rfl, HS9.out.frm.below⟩
        · have t9 : decide ((109 : Int) ≤ (k : Int)) = false := decide_eq_false (by omega)
          cases mem
          · obtain ⟨hfe, hfh, hfl, hcn⟩ := HMo.out.2.2 (by omega) (HM0.out rfl)
            subst hfe hfh hfl
            clear hk9
            go_wp2_with fail
            refine (HHm.out _).mono ?_
            rintro e wb ⟨rfl, hf⟩
            have HSb := Lib.hid (HS9.out.keep hf)
            clear hf r0 r1 c0 c1
            have hme : ∀ X, (binOp .eql 27 (.agg #[.int .u64 (fh : Int), .int .u64 (fl : Int)]) (.agg #[.int .u64 (fh : Int), .int .u64 (fl : Int)])).run Tryd.prog X = .ok (.bool true) X := fun X => by rw [meql]; simp
            rw [hcn, show ((ns.length + 1 : Nat) : Int) = (ns.length : Int) + 1 from rfl] at HCo
            have e8 : IntKind.i64.wrap ((ns.length : Int) + 1) = (ns.length : Int) + 1 := IntWalk.i64_in _ (by omega)
            have HSf := Lib.hid (fun X (hf : Frm [] wb X) => (show X.cell? ⟨p, 0, none⟩ = some (.int .u64 (H : Int)) ∧ X.cell? ⟨p, 1, none⟩ = some (.int .u64 (L : Int)) ∧ X.cell? ⟨r, 0, none⟩ = some (.int .u64 (fh : Int)) ∧ X.cell? ⟨r, 1, none⟩ = some (.int .u64 (fl : Int)) from
              ⟨(hf.blk (HSb.out.blk 3 rfl) (by simp)).cell 0 rfl, (hf.blk (HSb.out.blk 3 rfl) (by simp)).cell 1 rfl, (hf.blk (HSb.out.blk 0 rfl) (by simp)).cell 0 rfl, (hf.blk (HSb.out.blk 0 rfl) (by simp)).cell 1 rfl⟩))
            have HC := Lib.hid ((Frm.refl [] wb).drew)
            clear hcn
            go_upto_region 24 with fail
            refine region_segsP (G := []) [0, 1, 2, 3, 4, 5, 6, 7, 8, 9, 10, 12, 13, 14, 11, 15, 16, 17, 18, 19, 20, 21, 22, 23, 24] [6, 7, 6] (by decide) (by kernel_rfl) (by kernel_rfl) (by kernel_rfl) (by kernel_rfl) (by kernel_rfl) (by kernel_rfl) (by kernel_rfl) ?_
            simp only [remOf, List.filterMap_cons, List.filterMap_nil, List.getElem?_cons_zero, List.getElem?_cons_succ]
            obtain ⟨x0, hx0⟩ : ∃ x0, x0 = wb.drew := ⟨_, rfl⟩
            rw [← hx0] at HC ⊢
            clear hx0
            unfold wpSegs
            simp only [List.take_succ_cons, List.take_zero, List.drop_succ_cons, List.drop_zero]
            have n1 : Nonempty (Cls (fun v => Frm [] x0 v)) := ⟨⟨_, Frm.refl _ _⟩⟩
            have q0 := fun x : Cls (fun v => Frm [] x0 v) => (HSf.out x.world (HC.out.trans x.ok)).1
            have q1 := fun x : Cls (fun v => Frm [] x0 v) => (HSf.out x.world (HC.out.trans x.ok)).2.1
            have q2 := fun x : Cls (fun v => Frm [] x0 v) => (HSf.out x.world (HC.out.trans x.ok)).2.2.1
            have q3 := fun x : Cls (fun v => Frm [] x0 v) => (HSf.out x.world (HC.out.trans x.ok)).2.2.2
            repeat (go_big_quiet_step (fail))
            refine wpQuiet_nil ?_
            refine only_step (fun K' hK => ?_)
            clear q0 q1 q2 q3 n1
            go_wp2_with fail
            refine (HWi.out _).mono ?_
            rintro e x1 ⟨rfl, hf⟩
            replace HC := Lib.hid (HC.out.trans hf)
            have HF1 := Lib.hid hf
            clear hf
            go_wp2_with fail
            refine hK.out _ _ ⟨HF1.out, ?_⟩
            clear hK HF1
            unfold wpSegs
            simp only [List.take_succ_cons, List.take_zero, List.drop_succ_cons, List.drop_zero]
            have n1 : Nonempty (Cls (fun v => Frm [] x1 v)) := ⟨⟨_, Frm.refl _ _⟩⟩
            have q0 := fun x : Cls (fun v => Frm [] x1 v) => (HSf.out x.world (HC.out.trans x.ok)).1
            have q1 := fun x : Cls (fun v => Frm [] x1 v) => (HSf.out x.world (HC.out.trans x.ok)).2.1
            have q2 := fun x : Cls (fun v => Frm [] x1 v) => (HSf.out x.world (HC.out.trans x.ok)).2.2.1
            have q3 := fun x : Cls (fun v => Frm [] x1 v) => (HSf.out x.world (HC.out.trans x.ok)).2.2.2
            repeat (go_big_quiet_step (fail))
            refine wpQuiet_nil ?_
            refine only_step (fun K' hK => ?_)
            clear q0 q1 q2 q3 n1
            go_wp2_with fail
            refine (HCo.out _).mono ?_
            rintro e x2 ⟨rfl, hf⟩
            replace HC := Lib.hid (HC.out.trans hf)
            have HF1 := Lib.hid hf
            clear hf
            go_wp2_with fail
            refine hK.out _ _ ⟨HF1.out, ?_⟩
            clear hK HF1
            unfold wpSegs
            simp only [List.take_succ_cons, List.take_zero, List.drop_succ_cons, List.drop_zero]
            have n1 : Nonempty (Cls (fun v => Frm [] x2 v)) := ⟨⟨_, Frm.refl _ _⟩⟩
            have q0 := fun x : Cls (fun v => Frm [] x2 v) => (HSf.out x.world (HC.out.trans x.ok)).1
            have q1 := fun x : Cls (fun v => Frm [] x2 v) => (HSf.out x.world (HC.out.trans x.ok)).2.1
            have q2 := fun x : Cls (fun v => Frm [] x2 v) => (HSf.out x.world (HC.out.trans x.ok)).2.2.1
            have q3 := fun x : Cls (fun v => Frm [] x2 v) => (HSf.out x.world (HC.out.trans x.ok)).2.2.2
            repeat (go_big_quiet_step (fail))
            refine wpQuiet_nil ?_
            refine only_step (fun K' hK => ?_)
            clear q0 q1 q2 q3 n1
            go_wp2_with fail
            refine (HHas.out _).mono ?_
            rintro e x3 ⟨rfl, hf⟩
            replace HC := Lib.hid (HC.out.trans hf)
            have HF1 := Lib.hid hf
            clear hf
            go_wp2_with fail
            refine hK.out _ _ ⟨HF1.out, ?_⟩
            clear hK HF1
            unfold wpSegs
            show wpQuiet _ _ _ _ [_, _, _] _
            have n1 : Nonempty (Cls (fun v => Frm [] x3 v)) := ⟨⟨_, Frm.refl _ _⟩⟩
            repeat (go_big_quiet_step (fail))
            refine wpQuiet_nil ?_
            refine NoPanic.normal ?_
            clear n1
            go_wp2_with fail
            go_ret
            exact ⟨rfl, (HSb.out.frm.trans HC.out).below⟩
          · have hfe := HMo.out.2.1 (by omega) (HM1.out rfl)
            subst hfe
            clear hk9
            go_wp2_with fail
            refine (HHm.out _).mono ?_
            rintro e wb ⟨rfl, hf⟩
            have HSb := Lib.hid (HS9.out.keep hf)
            clear hf r0 r1 c0 c1
            have c0 := (HSb.out.blk 3 rfl).cell 0 rfl
            have c1 := (HSb.out.blk 3 rfl).cell 1 rfl
            go_wp2_with fail
            refine (HHas.out _).mono ?_
            rintro e wc ⟨rfl, hf⟩
            have HSc := Lib.hid (HSb.out.keep hf)
            clear hf c0 c1
            go_wp2_with fail
            go_ret
            exact ⟨rfl, HSc.out.frm.below⟩
      · obtain ⟨zH, zL⟩ := HNo.out hE
        subst zH zL
        have b1 : (E == 0) = false := beq_eq_false_iff_ne.2 hE
        clear HMv HNo HOk hE
        have HCo := Lib.hid (fun X => (show Calls Tryd.prog 23 #[.agg #[.int .u64 0, .int .u64 0]] X fun e w' => e = .returned (.int .i64 0) ∧ Frm [] X w' from by
          have h := count_c 0 0 X (by decide) (by decide)
          rw [show cnt 0 64 + cnt 0 64 = 0 from by decide +kernel] at h
          exact h))
        go_wp2_with fail
        refine (HCo.out _).mono ?_
        rintro e w7 ⟨rfl, hf⟩
        have HS7 := Lib.hid (HS3.out.keep hf)
        clear hf c0 c1 d0 d1
        go_wp2_with fail
        go_ret
        exact ⟨rfl, HS7.out.frm.below⟩

end Go.Proofs.YtibccecmicndaaaDoor
