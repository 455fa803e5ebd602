/-
  THE WALK of the law WireReads.
-/
import Derived.Test.YtdkbibfgebfeaaaWiH
import Derived.Test.YtdkbibfgebfeaaaWiD
set_option linter.unusedVariables false
set_option linter.unusedSimpArgs false
namespace Go.Proofs.Ytdkbibfgebfeaaa
open Go.RowKit Go.ChangeShapes Go.WideShapes

def Stp.ok (s : Stp) : Prop := (-9223372036854775808 ≤ s.k ∧ s.k ≤ 9223372036854775807) ∧ -9223372036854775808 ≤ s.n ∧ s.n ≤ 9223372036854775807
theorem stpRow_of {H : Type} {enc : TypeId × Value → H} {P : Program} {W : World} {f0 f1 : Field} {row : List Value} (h0 : P.underlying f0.type = some (.int .i64)) (h1 : P.underlying f1.type = some (.int .i64))
    (h : row.length = (#[f0, f1] : Array Field).size ∧ ∀ (j : Nat) (f : Field), (#[f0, f1] : Array Field)[j]? = some f → ∃ (u : Value) (y : DataW H × List MemPlace) (n : Nat), row[j]? = some u ∧ DataW.trod enc P W 0 (fun _ => true) true n f.type [u] = some y) :
    ∃ o : Stp, row = o.row ∧ o.ok := by
  obtain ⟨hl, hf⟩ := h
  obtain ⟨u0, y0, n0, r0, e0⟩ := hf 0 f0 rfl
  obtain ⟨u1, y1, n1, r1, e1⟩ := hf 1 f1 rfl
  obtain ⟨x0, g0, _, w0⟩ := DataW.trod_int h0 e0
  obtain ⟨x1, g1, _, w1⟩ := DataW.trod_int h1 e1
  simp at g0 g1
  subst g0 g1
  simp [Lit.wf, IntKind.min, IntKind.max, IntKind.bits, IntKind.signed] at w0 w1
  match row, hl with
  | [c0, c1], _ =>
    simp at r0 r1
    subst r0 r1
    exact ⟨⟨x0, x1⟩, rfl, w0, w1⟩
theorem byt_wf {zs : List Int} (h : ∀ x ∈ zs, (Lit.int .u8 x).wf = true) : Byt zs := fun x hx => by simpa [Lit.wf, IntKind.min, IntKind.max, IntKind.bits, IntKind.signed] using h x hx
theorem bytes_own {w : World} {g c : Nat} {zs : List Int} (h : (sumR (.slice (some ⟨g, 0, none⟩) zs.length c) zs).P w) (hb : Byt zs) (hl : zs.length ≤ 1000000) : Bytes w (some ⟨g, 0, none⟩) c zs := by
  obtain ⟨a, c', h1, _, hr⟩ := RdI.of_own (k := .u8) h
  injection h1 with h1 _ h2
  subst h1
  rcases h.2 with ⟨h2, _⟩ | ⟨g', cap, cur, e1, _, _, hc, hm, _⟩
  · cases h2
  · injection e1 with _ _ e3
    subst e3
    exact ⟨hr, hb, hc, hm, (fun h => by cases h), hl⟩

set_option maxRecDepth 100000 in
set_option maxHeartbeats 16000000 in
theorem wireReadsA_w (w : World) (a : Option Addr) (c : Nat) (zs : List Int) (hb : Bytes w a c zs) (hz : zs.length ≤ 2000) (ad : Option Addr) (cs : Nat) (ss : List Stp) (hs : Steps w ad ss) :
    Calls Try.prog 4 #[.slice a zs.length c, .slice ad ss.length cs] w fun e w' => e = .returned (.bool true) ∧ Below w.heap.size w w' := by
  have HB := Lib.hid (fun X (hX : Frm [] w X) => hb.frm hX)
  have HSt := Lib.hid (fun X (hX : Frm [] w X) => hs.frm hX)
  have hsl := hs.le
  have hby := Lib.hid hb.byt
  clear hb hs
  have t1 : decide (2000 < (zs.length : Int)) = false := by rw [decide_eq_false_iff_not]; omega
  have t2 : decide (100 < (ss.length : Int)) = false := by rw [decide_eq_false_iff_not]; omega
  go_enter Try.func4, Try.ntmps4
  go_wp2_with fail
  refine (alive_c _).mono ?_
  rintro e w1 ⟨rfl, hF⟩
  have HS1 := Lib.hid ((Sep.init w).keep hF)
  clear hF
  go_wp2_with fail
  refine (bcopy_c a c zs w1 (HB.out _ HS1.out.frm).rd (by omega)).mono ?_
  rintro e w2 ⟨g, cm, rfl, hS⟩
  have HS2 := Lib.hid (HS1.out.gains hS)
  have HM := Lib.hid (fun X (hX : Frm [] w2 X) => (bytes_own (hS.get 0 rfl) hby.out (by omega)).frm hX)
  clear hS
  go_wp2_with fail
  refine (parse_c ad ss.length cs w2).mono ?_
  rintro e w3 ⟨rfl, rfl⟩
  have HS3 := Lib.hid (HS2.out.skip (.cells #[.slice ad ss.length cs] 22))
  have HK3 := Lib.hid (Blk.made w2 22 #[.slice ad ss.length cs])
  have HM3 := Lib.hid (HM.out _ ((Frm.refl _ _).alloc (.cells #[.slice ad ss.length cs] 22)))
  obtain ⟨w3, hw3⟩ : ∃ w3, w3 = w2.alloc (.cells #[.slice ad ss.length cs] 22) := ⟨_, rfl⟩
  rw [← hw3] at HS3 HK3 HM3 ⊢
  have HF3 := Lib.hid (show Frm [] w2 w3 from hw3 ▸ (Frm.refl _ _).alloc _)
  clear hw3
  obtain ⟨o, ho⟩ : ∃ o, o = whoO zs ss := ⟨_, rfl⟩
  obtain ⟨E, hE⟩ : ∃ E, E = whoE zs ss := ⟨_, rfl⟩
  have HC3 := Lib.hid (read_v HM3.out (HSt.out _ HS3.out.frm) HK3.out)
  have HW3 := Lib.hid (fun X hX => rwhole_v (HB.out X hX) (cs := cs) (HSt.out X hX))
  have hol : o.length ≤ 100 := by have := whoO_len zs ss; rw [ho]; omega
  rw [← ho, ← hE] at HC3
  simp only [← ho, ← hE] at HW3
  clear ho hE
  go_wp2_with fail
  refine HC3.out.mono ?_
  rintro e w4 ⟨v4, g4, hg4, rfl, hs4, hS4⟩
  obtain ⟨a4, c4, rfl, j1, j2, j3, hr4⟩ := gots_rd hS4 1 0 rfl rfl (fun g hg => by have := hs4 g hg; omega)
  have HR4 := Lib.hid (fun X (hX : Frm [] w4 X) => hr4.frm hX)
  have HS4 := Lib.hid (HS3.out.keep hS4.frm)
  have HF4 := Lib.hid (HF3.out.trans hS4.frm)
  have HG4 := Lib.hid hg4
  clear j1 j2 j3 hS4 hr4 hg4 hs4 HC3
  go_wp2_with fail
  refine (HW3.out _ HS4.out.frm).mono ?_
  rintro e w5 ⟨v5, g5, hg5, rfl, hs5, hS5⟩
  obtain ⟨a5, c5, rfl, j4, j5, j6, hr5⟩ := gots_rd hS5 1 0 rfl rfl (fun g hg => by have := hs5 g hg; omega)
  have hl4 : g4.length ≤ 1000 := by have := congrArg List.length HG4.out; rw [List.length_map] at this; omega
  have HC5 := Lib.hid (gsame_c a4 a5 c4 c5 g4 g5 w5 (HR4.out _ hS5.frm) hr5 hl4 (HG4.out.trans hg5.symm))
  have HS5 := Lib.hid (HS4.out.keep hS5.frm)
  have HF5 := Lib.hid (HF4.out.trans hS5.frm)
  clear j4 j5 j6 hS5 hr5 hg5 hs5 hl4 HW3 HR4
  go_wp2_with fail
  refine HC5.out.mono ?_
  rintro e w6 ⟨rfl, m6, rfl⟩
  have HF6 := Lib.hid (HF5.out.drewN m6)
  have HS6 := Lib.hid (HS5.out.drewN m6)
  obtain ⟨w6, hw6⟩ : ∃ w6, w6 = w5.drewN m6 := ⟨_, rfl⟩
  rw [← hw6] at HF6 HS6 ⊢
  clear hw6 HF5 HF4 HF3 HS5 HS4 HS3 HC5 HM3 HK3
  go_wp2_with fail
  refine (parse_c ad ss.length cs w6).mono ?_
  rintro e w7 ⟨rfl, rfl⟩
  have HS7 := Lib.hid (HS6.out.skip (.cells #[.slice ad ss.length cs] 22))
  have HK7 := Lib.hid (Blk.made w6 22 #[.slice ad ss.length cs])
  obtain ⟨w7, hw7⟩ : ∃ w7, w7 = w6.alloc (.cells #[.slice ad ss.length cs] 22) := ⟨_, rfl⟩
  have HF7 := Lib.hid (show Frm [] w2 w7 from hw7 ▸ HF6.out.alloc _)
  have HM7 := Lib.hid (HM.out _ HF7.out)
  rw [← hw7] at HS7 HK7 ⊢
  clear hw7
  obtain ⟨o2, ho⟩ : ∃ o2, o2 = runO zs ss := ⟨_, rfl⟩
  obtain ⟨E2, hE⟩ : ∃ E2, E2 = runE zs ss := ⟨_, rfl⟩
  obtain ⟨N2, hN⟩ : ∃ N2, N2 = runN zs ss := ⟨_, rfl⟩
  have HC7 := Lib.hid (part_v HM7.out (HSt.out _ HS7.out.frm) HK7.out)
  have HW7 := Lib.hid (fun X hX => rrun_v (HB.out X hX) (cs := cs) (HSt.out X hX))
  have hol2 : o2.length ≤ 100 := by have := runO_len zs ss; rw [ho]; omega
  rw [← ho, ← hE, ← hN] at HC7
  simp only [← ho, ← hE, ← hN] at HW7
  clear ho hE hN HG4 hol
  go_wp2_with fail
  refine HC7.out.mono ?_
  rintro e w8 ⟨v8, g8, hg8, rfl, hs8, hS8⟩
  obtain ⟨a8, c8, rfl, j7, j8, j9, hr8⟩ := gots_rd hS8 1 0 rfl rfl (fun g hg => by have := hs8 g hg; omega)
  have HR8 := Lib.hid (fun X (hX : Frm [] w8 X) => hr8.frm hX)
  have HS8 := Lib.hid (HS7.out.more hS8)
  have HG8 := Lib.hid hg8
  have HSm8 := Lib.hid hs8
  clear j7 j8 j9 hS8 hr8 hg8 hs8 HC7
  go_wp2_with fail
  refine (HW7.out _ HS8.out.frm).mono ?_
  rintro e w9 ⟨v9, g9, hg9, rfl, hs9, hS9⟩
  obtain ⟨a9, c9, rfl, k1, k2, k3, hr9⟩ := gots_rd hS9 1 0 rfl rfl (fun g hg => by have := hs9 g hg; omega)
  have hl8 : g8.length ≤ 100 := by have := congrArg List.length HG8.out; rw [List.length_map] at this; omega
  have HC9 := Lib.hid (gsame_c a8 a9 c8 c9 g8 g9 w9 (HR8.out _ hS9.frm) hr9 (by omega) (HG8.out.trans hg9.symm))
  have HS9 := Lib.hid (HS8.out.keep hS9.frm)
  clear k1 k2 k3 hS9 hr9 hg9 hs9 HW7 HR8
  go_wp2_with fail
  refine HC9.out.mono ?_
  rintro e w10 ⟨rfl, m10, rfl⟩
  have HS10 := Lib.hid (((show Sep [] w _ (bodR g8 :: _) from HS9.out.drewN m10)).loose)
  obtain ⟨wt, hwt⟩ : ∃ wt, wt = w9.drewN m10 := ⟨_, rfl⟩
  rw [← hwt] at HS10 ⊢
  clear hwt HS9 HC9 HS8 HF7 HM7 HK7 HS7 HF6 HS6
  go_wp2_with fail
  go_loopw [84] (fun i wr => ∃ k : Nat, k ≤ g8.length ∧ i = .int .i64 k ∧ Sep [] w wr [looR (shpG g8), gotsR (.slice a8 g8.length c8) g8, sumR (.slice (some ⟨g, 0, none⟩) zs.length cm) zs]) (fun i _ => g8.length - (intOf i).toNat)
  case atStart => exact ⟨0, Nat.zero_le _, rfl, HS10.out⟩
  case round =>
    obtain ⟨k, hk, rfl, hS⟩ := hrel
    have HT := Lib.hid hS
    clear hS
    obtain ⟨wo, hwo⟩ : ∃ wo : World, wo = wr := ⟨_, rfl⟩
    rw [← hwo] at HT ⊢
    clear hwo
    by_cases hlt : k < g8.length
    · obtain ⟨x, hx⟩ : ∃ x, g8[k]? = some x := ⟨_, List.getElem?_eq_getElem hlt⟩
      obtain ⟨a8', c8', h1, _, _, hj1, hrd, hj2⟩ := RdS.of_own (rows := g8.map GtV.row) (HT.out.get 1 rfl) (fun r hr => by obtain ⟨g, _, rfl⟩ := List.mem_map.1 hr; rfl) (by decide) (List.length_map _).symm
      injection h1 with h1 hj3 hj4
      subst h1
      clear hj1 hj2 hj3 hj4
      obtain ⟨bb, bo, rfl, _, hc⟩ := hrd k x.row (by rw [List.getElem?_map, hx]; rfl)
      obtain ⟨N, bv, B⟩ := x
      have d0 : wo.cell? ⟨bb, bo + k * 2, none⟩ = some (.int .u64 N) := hc 0 _ rfl
      have d1 : wo.cell? ⟨bb, bo + k * 2 + 1, none⟩ = some bv := hc 1 _ rfl
      have hmem : (bv, B.length) ∈ shpG g8 := List.mem_map.2 ⟨_, List.mem_of_getElem? hx, rfl⟩
      have i1 : (0 : Int) ≤ (k : Int) := by omega
      have i2 : (k : Int) < (g8.length : Int) := by omega
      obtain ⟨q, hq⟩ : ∃ q, q = B.length := ⟨_, rfl⟩
      have hql : q ≤ 2000 := by have := HSm8.out _ (List.mem_of_getElem? hx); simp only at this; omega
      rw [← hq] at hmem
      have HMem := Lib.hid hmem
      rcases loose_cell HT.out hmem with ⟨h0, h1⟩ | ⟨gb, cc, h1, hgl, hcl⟩
      · simp only at h0 h1
        subst h0 h1
        have HTx := Lib.hid (HT.out.alloc #[.int .u64 N, .slice none 0 0] 28)
        clear hc hrd hx hq hmem
        go_wp2_with fail
        go_loopw [91] (fun i wr2 => i = .int .i64 0 ∧ Sep [] w wr2 [looR (shpG g8), blkR wo.heap.size 28 #[.int .u64 N, .slice none 0 0], gotsR (.slice (some ⟨bb, bo, none⟩) g8.length c8) g8, sumR (.slice (some ⟨g, 0, none⟩) zs.length cm) zs]) (fun i _ => 0)
        case atStart => exact ⟨rfl, HTx.out.swap2⟩
        case round =>
          obtain ⟨rfl, hS⟩ := hrel
          have HT2 := Lib.hid hS
          clear hS
          go_wp2_with fail
          go_roundw
          case rel => exact ⟨k + 1, by omega, by go_num, (HT2.out.swap2).rest⟩
          case measure => simp [intOf]; omega
      · simp only at h1 hcl
        subst h1
        have HTx := Lib.hid (HT.out.alloc #[.int .u64 N, .slice (some ⟨gb, 0, none⟩) q cc] 28)
        clear hc hrd hx hq hmem hcl
        go_wp2_with fail
        go_loopw [91] (fun i wr2 => ∃ j : Nat, j ≤ q ∧ i = .int .i64 j ∧ Sep [] w wr2 [looR (shpG g8), blkR wo.heap.size 28 #[.int .u64 N, .slice (some ⟨gb, 0, none⟩) q cc], gotsR (.slice (some ⟨bb, bo, none⟩) g8.length c8) g8, sumR (.slice (some ⟨g, 0, none⟩) zs.length cm) zs]) (fun i _ => q - (intOf i).toNat)
        case atStart => exact ⟨0, Nat.zero_le _, rfl, HTx.out.swap2⟩
        case round =>
          obtain ⟨j, hj, rfl, hS⟩ := hrel
          have HT2 := Lib.hid hS
          clear hS
          by_cases hlt2 : j < q
          · have dB : wr.cell? ⟨wo.heap.size, 1, none⟩ = some (.slice (some ⟨gb, 0, none⟩) q cc) := (HT2.out.blk 1 rfl).cell 1 rfl
            rcases loose_cell HT2.out HMem.out with ⟨h0, h1⟩ | ⟨gb', cc', h1, hgl2, hcl⟩
            · cases h1
            · injection h1 with h1 h2 h3
              injection h1 with h1
              injection h1 with h1
              subst h1
              clear h2 h3
              obtain ⟨⟨y, cy⟩, fy⟩ := hcl j hlt2
              have j1 : (0 : Int) ≤ (j : Int) := by omega
              have j2 : (j : Int) < (q : Int) := by omega
              clear hcl
              go_wp2_with fail
              go_roundw
              case rel => exact ⟨j + 1, by omega, by go_num, loose_put HT2.out HMem.out j _⟩
              case measure => simp [intOf]; omega
          · obtain rfl : j = q := by omega
            go_wp2_with fail
            go_roundw
            case rel => exact ⟨k + 1, by omega, by go_num, (HT2.out.swap2).rest⟩
            case measure => simp [intOf]; omega
    · obtain rfl : k = g8.length := by omega
      have HC := Lib.hid (bsame_c (some ⟨g, 0, none⟩) a cm c zs zs wo ((bytes_own (HT.out.get 2 rfl) hby.out (by omega)).rd) (HB.out _ HT.out.frm).rd (by omega) (by omega))
      rw [decide_eq_true rfl] at HC
      go_wp2_with fail
      refine HC.out.mono ?_
      rintro e w11 ⟨rfl, m11, rfl⟩
      have HE := Lib.hid (HT.out.frm.drewN m11)
      go_wp2_with fail
      go_ret
      exact ⟨rfl, HE.out.below⟩

set_option maxRecDepth 100000 in
set_option maxHeartbeats 4000000 in
theorem wireReadsB_w (w : World) (a : Option Addr) (c n : Nat) (ad : Option Addr) (cs m : Nat) (hn : n ≤ 9223372036854775807) (hm : m ≤ 9223372036854775807) (h : 2000 < n ∨ 100 < m) :
    Calls Try.prog 4 #[.slice a n c, .slice ad m cs] w fun e w' => e = .returned (.bool true) ∧ Below w.heap.size w w' := by
  by_cases h1 : 2000 < n
  · have t1 : decide (2000 < (n : Int)) = true := by rw [decide_eq_true_iff]; omega
    clear h h1
    go_enter Try.func4, Try.ntmps4
    go_wp2_with fail
    refine (alive_c _).mono ?_
    rintro e w1 ⟨rfl, hF⟩
    have HF := Lib.hid hF
    clear hF
    go_wp2_with fail
    go_ret
    exact ⟨rfl, HF.out.below⟩
  · have t1 : decide (2000 < (n : Int)) = false := by rw [decide_eq_false_iff_not]; omega
    have t2 : decide (100 < (m : Int)) = true := by rw [decide_eq_true_iff]; omega
    clear h h1
    go_enter Try.func4, Try.ntmps4
    go_wp2_with fail
    refine (alive_c _).mono ?_
    rintro e w1 ⟨rfl, hF⟩
    have HF := Lib.hid hF
    clear hF
    go_wp2_with fail
    go_ret
    exact ⟨rfl, HF.out.below⟩

theorem wireReads_w (w : World) (a : Option Addr) (c : Nat) (zs : List Int) (lc : zs.length ≤ c) (mc : c ≤ maxLen) (nc : a = none → c = 0) (rd : RdI .u8 w a zs) (wf : ∀ x ∈ zs, (Lit.int .u8 x).wf = true)
    (ad : Option Addr) (cs : Nat) (ss : List Stp) (lc2 : ss.length ≤ cs) (mc2 : cs ≤ maxLen) (rd2 : RdS 2 w ad (ss.map Stp.row)) (wf2 : ∀ s ∈ ss, s.ok) :
    Calls Try.prog 4 #[.slice a zs.length c, .slice ad ss.length cs] w fun e w' => e = .returned (.bool true) ∧ Below w.heap.size w w' := by
  unfold maxLen at mc mc2
  by_cases h : 2000 < zs.length ∨ 100 < ss.length
  · exact wireReadsB_w w a c zs.length ad cs ss.length (by omega) (by omega) h
  · exact wireReadsA_w w a c zs ⟨rd, byt_wf wf, lc, mc, nc, by omega⟩ (by omega) ad cs ss ⟨rd2, by omega, fun s hs => (wf2 s hs).2⟩

end Go.Proofs.Ytdkbibfgebfeaaa
