/-
  THE WALK of the law WireWrites.
-/
import Derived.Test.YtdkbibfgebfeaaaWiO
import Derived.Test.YtdkbibfgebfeaaaWiI
import Derived.Test.YtdkbibfgebfeaaaOt
set_option linter.unusedVariables false
set_option linter.unusedSimpArgs false
namespace Go.Proofs.Ytdkbibfgebfeaaa
open Go.RowKit Go.ChangeShapes Go.WideShapes

def GotOk (W : World) (g : GtV) : Prop := ∃ p c, g.bv = .slice p g.B.length c ∧ RdI .u8 W p g.B ∧ (p = none → c = 0) ∧ Byt g.B ∧ 0 ≤ g.N ∧ g.N < 18446744073709551616
theorem gotRow_of {H : Type} {enc : TypeId × Value → H} {P : Program} {W : World} {f0 f1 : Field} {e1 : TypeId} {row : List Value} (h0 : P.underlying f0.type = some (.int .u64)) (h1 : P.underlying f1.type = some (.slice e1)) (h2 : P.underlying e1 = some (.int .u8)) (hc : P.cellsOf e1 = 1)
    (h : row.length = (#[f0, f1] : Array Field).size ∧ ∀ (j : Nat) (f : Field), (#[f0, f1] : Array Field)[j]? = some f → ∃ (u : Value) (y : DataW H × List MemPlace) (n : Nat), row[j]? = some u ∧ DataW.trod enc P W 0 (fun _ => true) true n f.type [u] = some y) :
    ∃ g : GtV, row = g.row ∧ GotOk W g ∧ g.B.length ≤ maxLen := by
  obtain ⟨hl, hf⟩ := h
  obtain ⟨u0, y0, n0, r0, e0⟩ := hf 0 f0 rfl
  obtain ⟨u1, y1, n1, r1, e1⟩ := hf 1 f1 rfl
  obtain ⟨x0, g0, _, w0⟩ := DataW.trod_int h0 e0
  obtain ⟨a, c, zs, rfl, l1, l2, hn, hr, hw⟩ := sl_cell h1 h2 hc e1
  simp at g0
  subst g0
  simp [Lit.wf, IntKind.min, IntKind.max, IntKind.bits, IntKind.signed] at w0
  match row, hl with
  | [c0, c1], _ =>
    simp at r0 r1
    subst r0 r1
    exact ⟨⟨x0, .slice a zs.length c, zs⟩, rfl, ⟨a, c, rfl, hr, hn, byt_wf hw, w0.1, (by show x0 < 18446744073709551616; omega)⟩, Nat.le_trans l1 l2⟩

theorem wrL_le {ss : List Stp} {gs : List GtV} (h : ∀ (i : Nat) (g : GtV), gs[i]? = some g → i < ss.length → g.B.length ≤ 200) : ∀ k, (wrL ss gs k).length ≤ 200 * k := by
  intro k
  induction k with
  | zero => simp [wrL]
  | succ k ih =>
    by_cases h1 : k < ss.length ∧ k < gs.length
    · rw [wrL_step (List.getElem?_eq_getElem h1.1) (List.getElem?_eq_getElem h1.2), List.length_append]
      have := wrO_le (s := ss[k]) (h k gs[k] (List.getElem?_eq_getElem h1.2) h1.1)
      omega
    · have e : wrL ss gs (k + 1) = wrL ss gs k := by
        unfold wrL
        have hl := List.length_zip (l₁ := ss) (l₂ := gs)
        rw [List.take_of_length_le (by rw [hl]; omega), List.take_of_length_le (by rw [hl]; omega)]
      rw [e]
      omega

set_option maxRecDepth 100000 in
set_option maxHeartbeats 16000000 in
theorem wireWritesA_w (w : World) (ad : Option Addr) (cs : Nat) (ss : List Stp) (hs : Steps w ad ss) (ag : Option Addr) (cg : Nat) (gs : List GtV) (hrd : RdS 2 w ag (gs.map GtV.row)) (hgo : ∀ g ∈ gs, GotOk w g) (hgl : gs.length ≤ 9223372036854775807)
    (hbl : ∀ g ∈ gs, g.B.length ≤ 9223372036854775807) :
    Calls Try.prog 3 #[.slice ad ss.length cs, .slice ag gs.length cg] w fun e w' => e = .returned (.bool true) ∧ Below w.heap.size w w' := by
  have hsl := hs.le
  have HSt := Lib.hid (fun X (hX : Frm [] w X) => hs.frm hX)
  have HGr := Lib.hid (fun X (hX : Frm [] w X) => hrd.low (w' := X) hX (by simp))
  have HGo := Lib.hid hgo
  have HGr0 := Lib.hid hrd
  have HBl := Lib.hid hbl
  clear hs hrd hgo hbl
  have t2 : decide (100 < (ss.length : Int)) = false := by rw [decide_eq_false_iff_not]; omega
  go_enter Try.func3, Try.ntmps3
  go_wp2_with fail
  refine (alive_c _).mono ?_
  rintro e w1 ⟨rfl, hF⟩
  have HS1 := Lib.hid ((Sep.init w).keep hF)
  clear hF
  go_wp2_with fail
  go_loopw [16] (fun i wr => ∃ k : Nat, k ≤ gs.length ∧ i = .int .i64 k ∧ (∀ (i : Nat) (g : GtV), i < k → gs[i]? = some g → i < ss.length → g.B.length ≤ 200) ∧ Sep [] w wr []) (fun i _ => gs.length - (intOf i).toNat)
  case atStart => exact ⟨0, Nat.zero_le _, rfl, (fun i g h => by omega), HS1.out⟩
  case round =>
    obtain ⟨k, hk, rfl, hgd, hS⟩ := hrel
    have HT := Lib.hid hS
    have HGd := Lib.hid hgd
    clear hS hgd
    obtain ⟨wo, hwo⟩ : ∃ wo : World, wo = wr := ⟨_, rfl⟩
    rw [← hwo] at HT ⊢
    clear hwo
    by_cases hlt : k < gs.length
    · obtain ⟨g, hgk⟩ : ∃ g, gs[k]? = some g := ⟨_, List.getElem?_eq_getElem hlt⟩
      obtain ⟨bg, og, rfl, _, hcg⟩ := HGr.out _ HT.out.frm k g.row (by rw [List.getElem?_map, hgk]; rfl)
      obtain ⟨pB, cB, hbv, _⟩ := HGo.out g (List.mem_of_getElem? hgk)
      have hB9 := HBl.out g (List.mem_of_getElem? hgk)
      have HK := Lib.hid hgk
      obtain ⟨N, bv, B⟩ := g
      simp only at hbv hB9
      subst hbv
      have g1 : wo.cell? ⟨bg, og + k * 2 + 1, none⟩ = some (.slice pB B.length cB) := hcg 1 _ rfl
      have i1 : (0 : Int) ≤ (k : Int) := by omega
      have i2 : (k : Int) < (gs.length : Int) := by omega
      clear hgk hcg
      by_cases hls : k < ss.length
      · have j2 : (k : Int) < (ss.length : Int) := by omega
        by_cases hbig : 200 < B.length
        · have q1 : decide (200 < (B.length : Int)) = true := by rw [decide_eq_true_iff]; omega
          clear hbig
          go_wp2_with fail
          go_ret
          exact ⟨rfl, HT.out.frm.below⟩
        · have q1 : decide (200 < (B.length : Int)) = false := by rw [decide_eq_false_iff_not]; omega
          have HQ := Lib.hid hbig
          clear hbig
          go_wp2_with fail
          go_roundw
          case rel => exact ⟨k + 1, by omega, by go_num, (fun i g h hi hl => by
            by_cases e : i = k
            · subst e
              rw [HK.out] at hi
              injection hi with hi
              subst hi
              have := HQ.out
              simp only
              omega
            · exact HGd.out i g (by omega) hi hl), HT.out⟩
          case measure => simp [intOf]; omega
      · have j2 : ¬ (k : Int) < (ss.length : Int) := by omega
        go_wp2_with fail
        go_roundw
        case rel => exact ⟨k + 1, by omega, by go_num, (fun i g h hi hl => HGd.out i g (by omega) hi hl), HT.out⟩
        case measure => simp [intOf]; omega
    · obtain rfl : k = gs.length := by omega
      have HG : Hid (∀ X, Frm [] w X → Gots X ag gs ss.length) := Lib.hid (fun X hX => Gots.frm ⟨HGr0.out, HGo.out, fun i g hi hl => HGd.out i g (List.getElem?_eq_some_iff.1 hi).1 hi hl⟩ hX)
      have HW := Lib.hid (write_c wo ad cs ss (HSt.out _ HT.out.frm) ag cg gs (HG.out _ HT.out.frm) hgl)
      have HR := Lib.hid (fun X (hX : Frm [] w X) => rwrite_c X ad cs ss (HSt.out _ hX) ag cg gs (HG.out _ hX) hgl)
      have hwl : (wrL ss gs ss.length).length ≤ 1000000 := by have := wrL_le (HG.out w (Frm.refl _ _)).sm ss.length; omega
      obtain ⟨xs, hxs⟩ : ∃ xs, xs = wrL ss gs ss.length := ⟨_, rfl⟩
      rw [← hxs] at HW hwl
      simp only [← hxs] at HR
      clear hxs
      go_wp2_with fail
      refine HW.out.mono ?_
      rintro e w2 ⟨s, v2, rfl, hS2⟩
      have HS2 := Lib.hid (HT.out.more hS2)
      clear hS2 HW
      go_wp2_with fail
      refine (wdone_c s v2 xs w2 HS2.out hwl).mono ?_
      rintro e w3 ⟨v3, rfl, hS3⟩
      obtain ⟨a3, c3, rfl, _, hr3⟩ := RdI.of_own (k := .u8) (hS3.own 0 rfl)
      have HS3 := Lib.hid (HS2.out.more hS3)
      have HR3 := Lib.hid hr3
      clear hS3 hr3
      go_wp2_with fail
      refine (HR.out _ HS3.out.frm).mono ?_
      rintro e w4 ⟨v4, rfl, hS4⟩
      obtain ⟨a4, c4, rfl, _, hr4⟩ := RdI.of_own (k := .u8) (hS4.own 0 rfl)
      have HC4 := Lib.hid (bsame_c a3 a4 c3 c4 xs xs w4 (HR3.out.below hS4.frm.below) hr4 hwl hwl)
      rw [decide_eq_true rfl] at HC4
      have HS4 := Lib.hid (HS3.out.keep hS4.frm)
      clear hS4 hr4
      go_wp2_with fail
      refine HC4.out.mono ?_
      rintro e w5 ⟨rfl, m5, rfl⟩
      have HS5 := Lib.hid (HS4.out.drewN m5)
      obtain ⟨w5, hw5⟩ : ∃ w5, w5 = w4.drewN m5 := ⟨_, rfl⟩
      rw [← hw5] at HS5 ⊢
      clear hw5 HS4 HC4 HR3
      go_wp2_with fail
      refine (wlen_c s v2 xs w5 HS5.out.rest).mono ?_
      rintro e w6 ⟨rfl, rfl⟩
      go_wp2_with fail
      have HS6 := Lib.hid ((show Sep [] w w6 (bodR [⟨0, .slice a3 xs.length c3, xs⟩] :: _) from HS5.out.none.swap2.into1).loose)
      have HMm : Hid ((Value.slice a3 xs.length c3, xs.length) ∈ shpG [⟨0, .slice a3 xs.length c3, xs⟩]) := Lib.hid (by simp [shpG])
      obtain ⟨M, hM⟩ : ∃ M, M = shpG [⟨0, .slice a3 xs.length c3, xs⟩] := ⟨_, rfl⟩
      obtain ⟨n, hn⟩ : ∃ n, n = xs.length := ⟨_, rfl⟩
      have hn2 : n ≤ 1000000 := by omega
      rw [← hM] at HS6 HMm
      rw [← hn] at HMm ⊢
      clear hM hn HS5
      go_loopw [53] (fun i wr => ∃ j : Nat, j ≤ n ∧ i = .int .i64 j ∧ Sep [] w wr [looR M, sumR v2 xs, wtrR s v2]) (fun i _ => n - (intOf i).toNat)
      case atStart => exact ⟨0, Nat.zero_le _, rfl, HS6.out⟩
      case round =>
        obtain ⟨j, hj, rfl, hS⟩ := hrel
        have HT2 := Lib.hid hS
        clear hS
        obtain ⟨wi, hwi⟩ : ∃ wi : World, wi = wr := ⟨_, rfl⟩
        rw [← hwi] at HT2 ⊢
        clear hwi
        by_cases hlt2 : j < n
        · rcases loose_cell HT2.out HMm.out with ⟨h0, _⟩ | ⟨gb', cc', h1, hgl2, hcl⟩
          · simp only at h0
            omega
          · injection h1 with h1 h2 h3
            subst h1
            obtain ⟨⟨y, cy⟩, fy⟩ := hcl j hlt2
            have j1 : (0 : Int) ≤ (j : Int) := by omega
            have j2 : (j : Int) < (n : Int) := by omega
            clear hcl h2 h3
            go_wp2_with fail
            go_roundw
            case rel => exact ⟨j + 1, by omega, by go_num, loose_put HT2.out HMm.out j _⟩
            case measure => simp [intOf]; omega
        · obtain rfl : j = n := by omega
          go_wp2_with fail
          refine (wdone_c s v2 xs wi HT2.out.rest hwl).mono ?_
          rintro e w7 ⟨v7, rfl, hS7⟩
          obtain ⟨a7, c7, rfl, _, hr7⟩ := RdI.of_own (k := .u8) (hS7.own 0 rfl)
          have HS7 := Lib.hid (HT2.out.keep hS7.frm)
          have HR7 := Lib.hid hr7
          clear hS7 hr7
          go_wp2_with fail
          refine (HR.out _ HS7.out.frm).mono ?_
          rintro e w8 ⟨v8, rfl, hS8⟩
          obtain ⟨a8, c8, rfl, _, hr8⟩ := RdI.of_own (k := .u8) (hS8.own 0 rfl)
          have HC8 := Lib.hid (bsame_c a7 a8 c7 c8 xs xs w8 (HR7.out.below hS8.frm.below) hr8 hwl hwl)
          rw [decide_eq_true rfl] at HC8
          have HS8 := Lib.hid (HS7.out.keep hS8.frm)
          clear hS8 hr8
          go_wp2_with fail
          refine HC8.out.mono ?_
          rintro e w9 ⟨rfl, m9, rfl⟩
          have HF := Lib.hid (HS8.out.frm.drewN m9)
          go_wp2_with fail
          go_ret
          exact ⟨rfl, HF.out.below⟩

set_option maxRecDepth 100000 in
set_option maxHeartbeats 4000000 in
theorem wireWritesB_w (w : World) (ad : Option Addr) (cs m : Nat) (ag : Option Addr) (cg n : Nat) (hm : m ≤ 9223372036854775807) (h : 100 < m) :
    Calls Try.prog 3 #[.slice ad m cs, .slice ag n cg] w fun e w' => e = .returned (.bool true) ∧ Below w.heap.size w w' := by
  have t1 : decide (100 < (m : Int)) = true := by rw [decide_eq_true_iff]; omega
  clear h
  go_enter Try.func3, Try.ntmps3
  go_wp2_with fail
  refine (alive_c _).mono ?_
  rintro e w1 ⟨rfl, hF⟩
  have HF := Lib.hid hF
  clear hF
  go_wp2_with fail
  go_ret
  exact ⟨rfl, HF.out.below⟩

theorem wireWrites_w (w : World) (ad : Option Addr) (cs : Nat) (ss : List Stp) (lc2 : ss.length ≤ cs) (mc2 : cs ≤ maxLen) (rd2 : RdS 2 w ad (ss.map Stp.row)) (wf2 : ∀ s ∈ ss, s.ok)
    (ag : Option Addr) (cg : Nat) (gs : List GtV) (lc : gs.length ≤ cg) (mc : cg ≤ maxLen) (rd : RdS 2 w ag (gs.map GtV.row)) (wf : ∀ g ∈ gs, GotOk w g ∧ g.B.length ≤ maxLen) :
    Calls Try.prog 3 #[.slice ad ss.length cs, .slice ag gs.length cg] w fun e w' => e = .returned (.bool true) ∧ Below w.heap.size w w' := by
  unfold maxLen at mc mc2 wf
  by_cases h : 100 < ss.length
  · exact wireWritesB_w w ad cs ss.length ag cg gs.length (by omega) h
  · exact wireWritesA_w w ad cs ss ⟨rd2, by omega, fun s hs => (wf2 s hs).2⟩ ag cg gs rd (fun g hg => (wf g hg).1) (by omega) (fun g hg => (wf g hg).2)

end Go.Proofs.Ytdkbibfgebfeaaa
