/-
  THE WALKS of confluxlaw03.write and confluxref03.Write (printed by gen_write.py).
-/
import Derived.Test.YtdkbibfgebfeaaaWiH
import Derived.Test.YtdkbibfgebfeaaaJoi
set_option linter.unusedVariables false
set_option linter.unusedSimpArgs false
namespace Go.Proofs.Ytdkbibfgebfeaaa
open Go.RowKit

/-- What one step writes. -/
def wrO (s : Stp) (g : GtV) : List Int := if numK s.k = true then bigL g.N s.k.toNat else if s.k = 0 then g.B else []
/-- What the first steps write. -/
def wrL (ss : List Stp) (gs : List GtV) (k : Nat) : List Int := ((ss.zip gs).take k).flatMap fun p => wrO p.1 p.2
theorem wrL_step {ss : List Stp} {gs : List GtV} {k : Nat} {s : Stp} {g : GtV} (hs : ss[k]? = some s) (hg : gs[k]? = some g) : wrL ss gs (k + 1) = wrL ss gs k ++ wrO s g := by
  unfold wrL
  have h : (ss.zip gs)[k]? = some (s, g) := by rw [List.getElem?_zip_eq_some]; exact ⟨hs, hg⟩
  rw [List.take_add_one, h, List.flatMap_append]
  simp
theorem wrL_end {ss : List Stp} {gs : List GtV} {k : Nat} (h : ss.length ≤ k ∨ gs.length ≤ k) : wrL ss gs k = wrL ss gs ss.length := by
  unfold wrL
  have hl := List.length_zip (l₁ := ss) (l₂ := gs)
  rw [List.take_of_length_le (by rw [hl]; omega), List.take_of_length_le (by rw [hl]; omega)]
/-- The things to be written. -/
structure Gots (w : World) (a : Option Addr) (gs : List GtV) (n : Nat) : Prop where
  rd : RdS 2 w a (gs.map GtV.row)
  each : ∀ g ∈ gs, ∃ p c, g.bv = .slice p g.B.length c ∧ RdI .u8 w p g.B ∧ (p = none → c = 0) ∧ Byt g.B ∧ 0 ≤ g.N ∧ g.N < 18446744073709551616
  sm : ∀ (i : Nat) (g : GtV), gs[i]? = some g → i < n → g.B.length ≤ 200
theorem Gots.frm {w w' : World} {a : Option Addr} {gs : List GtV} {n : Nat} (h : Gots w a gs n) (hf : Frm [] w w') : Gots w' a gs n :=
  ⟨h.rd.low hf (by simp), fun g hg => by obtain ⟨p, c, h1, h2, h3⟩ := h.each g hg; exact ⟨p, c, h1, h2.below hf.below, h3⟩, h.sm⟩
theorem wrO_le {s : Stp} {g : GtV} (h : g.B.length ≤ 200) : (wrO s g).length ≤ 200 := by
  unfold wrO
  split
  · rename_i hn
    simp only [numK, decide_eq_true_eq] at hn
    rw [bigL_len]
    omega
  · split
    · exact h
    · simp
theorem dig_mod4 (N : Int) : ∀ i : Nat, i ≤ 3 → N % 4294967296 / 256 ^ i % 256 = N / 256 ^ i % 256
  | 0, _ => by simp <;> omega
  | 1, _ => by simp; omega
  | 2, _ => by simp; omega
  | 3, _ => by simp; omega
  | _ + 4, h => by omega
theorem dig_mod2 (N : Int) : ∀ i : Nat, i ≤ 1 → N % 65536 / 256 ^ i % 256 = N / 256 ^ i % 256
  | 0, _ => by simp <;> omega
  | 1, _ => by simp; omega
  | _ + 2, h => by omega
theorem bigL_mod (N : Int) : bigL (N % 65536) 1 = bigL N 1 ∧ bigL (N % 65536) 2 = bigL N 2 ∧ bigL (N % 4294967296) 4 = bigL N 4 := by
  unfold bigL dig
  refine ⟨List.map_congr_left fun j hj => ?_, List.map_congr_left fun j hj => ?_, List.map_congr_left fun j hj => ?_⟩
  · exact dig_mod2 N _ (by omega)
  · exact dig_mod2 N _ (by omega)
  · exact dig_mod4 N _ (by omega)
theorem and_u64_65535 {N : Int} (h0 : 0 ≤ N) (h1 : N < 18446744073709551616) : bits .and .u64 N 65535 = N % 65536 :=
  bits_mask .u64 64 (by decide) (fun n a b => wrapU64 a (by simpa using b)) 16 (by decide) N h0 (by simpa using h1)

set_option maxRecDepth 100000 in
set_option maxHeartbeats 16000000 in
theorem write_c (w : World) (ad : Option Addr) (cs : Nat) (ss : List Stp) (hs : Steps w ad ss) (ag : Option Addr) (cg : Nat) (gs : List GtV) (hg : Gots w ag gs ss.length) (hgl : gs.length ≤ 9223372036854775807) :
    Calls Try.prog 9 #[.slice ad ss.length cs, .slice ag gs.length cg] w fun e w' => ∃ s v, e = .returned (.pointer (some ⟨s, 0, none⟩)) ∧ Sep [] w w' [sumR v (wrL ss gs ss.length), wtrR s v] := by
  have hsl := hs.le
  have HSt := Lib.hid (fun X (hX : Frm [] w X) => hs.frm hX)
  have HG := Lib.hid (fun X (hX : Frm [] w X) => hg.frm hX)
  have HS := Lib.hid (show Sep [] w _ [sumR (.slice none 0 0) [], wtrR w.heap.size (.slice none 0 0)] from (((Sep.init w).alloc #[.slice none 0 0] 74).nil 5 1))
  clear hs hg
  go_enter Try.func9, Try.ntmps9
  go_wp2_with fail
  obtain ⟨s0, hs0⟩ : ∃ s0, s0 = w.heap.size := ⟨_, rfl⟩
  rw [← hs0] at HS
  rw [← hs0]
  clear hs0
  go_loopw [12] (fun i wr => ∃ (k : Nat) (v : Value), k ≤ ss.length ∧ i = .int .i64 k ∧ (wrL ss gs k).length ≤ 200 * k ∧ Sep [] w wr [sumR v (wrL ss gs k), wtrR s0 v]) (fun i _ => ss.length - (intOf i).toNat)
  case atStart => exact ⟨0, _, Nat.zero_le _, rfl, by simp [wrL], HS.out⟩
  case round =>
    obtain ⟨k, v, hk, rfl, hxl, hS⟩ := hrel
    have HT := Lib.hid hS
    have HXl := Lib.hid hxl
    clear hS hxl
    obtain ⟨wo, hwo⟩ : ∃ wo : World, wo = wr := ⟨_, rfl⟩
    rw [← hwo] at HT ⊢
    clear hwo
    by_cases hlt : k < ss.length
    · obtain ⟨s, hs⟩ : ∃ s, ss[k]? = some s := ⟨_, List.getElem?_eq_getElem hlt⟩
      obtain ⟨b, off, rfl, _, hc⟩ := (HSt.out _ HT.out.frm).rd k s.row (by rw [List.getElem?_map, hs]; rfl)
      obtain ⟨kk, n⟩ := s
      have d0 : wo.cell? ⟨b, off + k * 2, none⟩ = some (.int .i64 kk) := hc 0 _ rfl
      have d1 : wo.cell? ⟨b, off + k * 2 + 1, none⟩ = some (.int .i64 n) := hc 1 _ rfl
      have i1 : (0 : Int) ≤ (k : Int) := by omega
      have i2 : (k : Int) < (ss.length : Int) := by omega
      have HSs := Lib.hid hs
      have HTx := Lib.hid (HT.out.skip (.cells #[.int .i64 kk, .int .i64 n] 57))
      clear hc hs
      by_cases hlg : k < gs.length
      · obtain ⟨g, hgk⟩ : ∃ g, gs[k]? = some g := ⟨_, List.getElem?_eq_getElem hlg⟩
        obtain ⟨bg, og, rfl, _, hcg⟩ := (HG.out _ HT.out.frm).rd k g.row (by rw [List.getElem?_map, hgk]; rfl)
        obtain ⟨pB, cB, hbv, _, hnB, hbB, gN0, gN1⟩ := (HG.out _ HT.out.frm).each g (List.mem_of_getElem? hgk)
        obtain ⟨_, _, hbv2, hrB, _⟩ := (HG.out _ HTx.out.frm).each g (List.mem_of_getElem? hgk)
        have hlB := (HG.out _ HT.out.frm).sm k g hgk hlt
        obtain ⟨N, bv, B⟩ := g
        simp only at hbv hbv2 hrB hbB gN0 gN1 hlB
        subst hbv
        injection hbv2 with e1 e2 e3
        subst e1 e3
        have g0 : wo.cell? ⟨bg, og + k * 2, none⟩ = some (.int .u64 N) := hcg 0 _ rfl
        have g1 : wo.cell? ⟨bg, og + k * 2 + 1, none⟩ = some (.slice pB B.length cB) := hcg 1 _ rfl
        have j2 : (k : Int) < (gs.length : Int) := by omega
        have HStep := Lib.hid (wrL_step HSs.out hgk)
        have HLe := Lib.hid (wrO_le (s := ⟨kk, n⟩) (g := ⟨N, .slice pB B.length cB, B⟩) hlB)
        have HrB := Lib.hid (And.intro hrB hnB)
        have hx6 : (wrL ss gs k).length ≤ 1000000 := by have := HXl.out; omega
        have HX6 := Lib.hid hx6
        clear hgk hcg hrB hbB hnB e2 hx6
        by_cases h1 : kk = 1
        · have hkk := h1
          subst hkk
          have HO : Hid (wrO ⟨1, n⟩ ⟨N, .slice pB B.length cB, B⟩ = bigL (N % 65536) 1) := Lib.hid (by unfold wrO; rw [if_pos (by rfl)]; exact ((bigL_mod N).1).symm)
          have HC := Lib.hid (HTx.out.wr (wbyte_c _ _ _ _ _ HTx.out.part2 HX6.out (N % 65536) (by omega) (by omega)))
          have e1 := and_u64_65535 gN0 gN1
          have e2 : IntKind.i64.wrap (N % 65536) = N % 65536 := IntWalk.i64_in _ (by omega)
          go_wp2_with fail
          refine HC.out.mono ?_
          rintro e w1 ⟨rfl, v1, h⟩
          have HS1 := Lib.hid h
          clear h
          go_wp2_with fail
          go_roundw
          case rel => exact ⟨k + 1, v1, by omega, by go_num, by rw [HStep.out, List.length_append]; have := HXl.out; have := HLe.out; omega, by rw [HStep.out, HO.out]; exact HS1.out⟩
          case measure => simp [intOf]; omega
        by_cases h2 : kk = 2
        · have hkk := h2
          subst hkk
          have HO : Hid (wrO ⟨2, n⟩ ⟨N, .slice pB B.length cB, B⟩ = bigL (N % 65536) 2) := Lib.hid (by unfold wrO; rw [if_pos (by rfl)]; exact ((bigL_mod N).2.1).symm)
          have HC := Lib.hid (HTx.out.wr (wword_c _ _ _ _ _ HTx.out.part2 HX6.out (N % 65536) (by omega) (by omega)))
          have e1 : IntKind.u16.wrap N = N % 65536 := by rw [IntKind.wrap_u16]
          go_wp2_with fail
          refine HC.out.mono ?_
          rintro e w1 ⟨rfl, v1, h⟩
          have HS1 := Lib.hid h
          clear h
          go_wp2_with fail
          go_roundw
          case rel => exact ⟨k + 1, v1, by omega, by go_num, by rw [HStep.out, List.length_append]; have := HXl.out; have := HLe.out; omega, by rw [HStep.out, HO.out]; exact HS1.out⟩
          case measure => simp [intOf]; omega
        by_cases h4 : kk = 4
        · have hkk := h4
          subst hkk
          have HO : Hid (wrO ⟨4, n⟩ ⟨N, .slice pB B.length cB, B⟩ = bigL (N % 4294967296) 4) := Lib.hid (by unfold wrO; rw [if_pos (by rfl)]; exact ((bigL_mod N).2.2).symm)
          have HC := Lib.hid (HTx.out.wr (wlong_c _ _ _ _ _ HTx.out.part2 HX6.out (N % 4294967296) (by omega) (by omega)))
          have e1 : IntKind.u32.wrap N = N % 4294967296 := by rw [IntKind.wrap_u32]
          go_wp2_with fail
          refine HC.out.mono ?_
          rintro e w1 ⟨rfl, v1, h⟩
          have HS1 := Lib.hid h
          clear h
          go_wp2_with fail
          go_roundw
          case rel => exact ⟨k + 1, v1, by omega, by go_num, by rw [HStep.out, List.length_append]; have := HXl.out; have := HLe.out; omega, by rw [HStep.out, HO.out]; exact HS1.out⟩
          case measure => simp [intOf]; omega
        by_cases h8 : kk = 8
        · have hkk := h8
          subst hkk
          have HO : Hid (wrO ⟨8, n⟩ ⟨N, .slice pB B.length cB, B⟩ = bigL N 8) := Lib.hid (by unfold wrO; rw [if_pos (by rfl)]; exact rfl)
          have HC := Lib.hid (HTx.out.wr (wwide_c _ _ _ _ _ HTx.out.part2 HX6.out N gN0 gN1))
          go_wp2_with fail
          refine HC.out.mono ?_
          rintro e w1 ⟨rfl, v1, h⟩
          have HS1 := Lib.hid h
          clear h
          go_wp2_with fail
          go_roundw
          case rel => exact ⟨k + 1, v1, by omega, by go_num, by rw [HStep.out, List.length_append]; have := HXl.out; have := HLe.out; omega, by rw [HStep.out, HO.out]; exact HS1.out⟩
          case measure => simp [intOf]; omega
        by_cases h0 : kk = 0
        · have hkk := h0
          subst hkk
          have HO : Hid (wrO ⟨0, n⟩ ⟨N, .slice pB B.length cB, B⟩ = B) := Lib.hid (by unfold wrO; rw [if_neg (by simp [numK]), if_pos rfl])
          have HC := Lib.hid (HTx.out.wr (wput_c _ _ _ _ _ HTx.out.part2 HX6.out pB cB B HrB.out.1 HrB.out.2 (by omega)))
          go_wp2_with fail
          refine HC.out.mono ?_
          rintro e w1 ⟨rfl, v1, h⟩
          have HS1 := Lib.hid h
          clear h
          go_wp2_with fail
          go_roundw
          case rel => exact ⟨k + 1, v1, by omega, by go_num, by rw [HStep.out, List.length_append]; have := HXl.out; have := HLe.out; omega, by rw [HStep.out, HO.out]; exact HS1.out⟩
          case measure => simp [intOf]; omega
        have HO : Hid (wrO ⟨kk, n⟩ ⟨N, .slice pB B.length cB, B⟩ = []) := Lib.hid (by unfold wrO; rw [if_neg (by simp only [numK, decide_eq_true_eq, not_or]; exact ⟨h1, h2, h4, h8⟩), if_neg h0])
        have k1 : (kk == 1) = false := by rw [beq_eq_false_iff_ne]; exact h1
        have k2 : (kk == 2) = false := by rw [beq_eq_false_iff_ne]; exact h2
        have k4 : (kk == 4) = false := by rw [beq_eq_false_iff_ne]; exact h4
        have k8 : (kk == 8) = false := by rw [beq_eq_false_iff_ne]; exact h8
        have k0 : (kk == 0) = false := by rw [beq_eq_false_iff_ne]; exact h0
        clear h1 h2 h4 h8 h0
        go_wp2_with fail
        go_roundw
        case rel => exact ⟨k + 1, v, by omega, by go_num, by rw [HStep.out, List.length_append]; have := HXl.out; have := HLe.out; omega, by rw [HStep.out, HO.out, List.append_nil]; exact HTx.out⟩
        case measure => simp [intOf]; omega
      · have q1 : (gs.length : Int) ≤ (k : Int) := by omega
        go_wp2_with fail
        go_ret
        refine ⟨s0, v, rfl, ?_⟩
        rw [← wrL_end (k := k) (.inr (by omega))]
        exact HTx.out
    · obtain rfl : k = ss.length := by omega
      go_wp2_with fail
      go_ret
      exact ⟨s0, v, rfl, HT.out⟩

set_option maxRecDepth 100000 in
set_option maxHeartbeats 16000000 in
theorem rwrite_c (w : World) (ad : Option Addr) (cs : Nat) (ss : List Stp) (hs : Steps w ad ss) (ag : Option Addr) (cg : Nat) (gs : List GtV) (hg : Gots w ag gs ss.length) (hgl : gs.length ≤ 9223372036854775807) :
    Calls Try.prog 12 #[.slice ad ss.length cs, .slice ag gs.length cg] w fun e w' => ∃ v, e = .returned v ∧ Sep [] w w' [sumR v (wrL ss gs ss.length)] := by
  have hsl := hs.le
  have HSt := Lib.hid (fun X (hX : Frm [] w X) => hs.frm hX)
  have HG := Lib.hid (fun X (hX : Frm [] w X) => hg.frm hX)
  have HS := Lib.hid ((Sep.init w).made 5 1 0 #[] (by unfold maxLen; omega) rfl)
  clear hs hg
  go_enter Try.func12, Try.ntmps12
  go_wp2_with fail
  go_loopw [5, 6] (fun u i wr => ∃ (k : Nat) (v : Value), k ≤ ss.length ∧ v = u ∧ i = .int .i64 k ∧ (wrL ss gs k).length ≤ 200 * k ∧ Sep [] w wr [sumR v (wrL ss gs k)]) (fun _ i _ => ss.length - (intOf i).toNat)
  case atStart => exact ⟨0, _, Nat.zero_le _, rfl, rfl, by simp [wrL], HS.out⟩
  case round =>
    obtain ⟨k, v, hk, rfl, rfl, hxl, hS⟩ := hrel
    have HT := Lib.hid hS
    have HXl := Lib.hid hxl
    clear hS hxl
    obtain ⟨wo, hwo⟩ : ∃ wo : World, wo = wr := ⟨_, rfl⟩
    rw [← hwo] at HT ⊢
    clear hwo
    by_cases hlt : k < ss.length
    · obtain ⟨s, hs⟩ : ∃ s, ss[k]? = some s := ⟨_, List.getElem?_eq_getElem hlt⟩
      obtain ⟨b, off, rfl, _, hc⟩ := (HSt.out _ HT.out.frm).rd k s.row (by rw [List.getElem?_map, hs]; rfl)
      obtain ⟨kk, n⟩ := s
      have d0 : wo.cell? ⟨b, off + k * 2, none⟩ = some (.int .i64 kk) := hc 0 _ rfl
      have i1 : (0 : Int) ≤ (k : Int) := by omega
      have i2 : (k : Int) < (ss.length : Int) := by omega
      have HSs := Lib.hid hs
      clear hc hs
      by_cases hlg : k < gs.length
      · obtain ⟨g, hgk⟩ : ∃ g, gs[k]? = some g := ⟨_, List.getElem?_eq_getElem hlg⟩
        obtain ⟨bg, og, rfl, _, hcg⟩ := (HG.out _ HT.out.frm).rd k g.row (by rw [List.getElem?_map, hgk]; rfl)
        obtain ⟨pB, cB, hbv, hrB, hnB, hbB, gN0, gN1⟩ := (HG.out _ HT.out.frm).each g (List.mem_of_getElem? hgk)
        have hlB := (HG.out _ HT.out.frm).sm k g hgk hlt
        obtain ⟨N, bv, B⟩ := g
        simp only at hbv hrB hbB gN0 gN1 hlB
        subst hbv
        have g0 : wo.cell? ⟨bg, og + k * 2, none⟩ = some (.int .u64 N) := hcg 0 _ rfl
        have g1 : wo.cell? ⟨bg, og + k * 2 + 1, none⟩ = some (.slice pB B.length cB) := hcg 1 _ rfl
        have j2 : (k : Int) < (gs.length : Int) := by omega
        have HStep := Lib.hid (wrL_step HSs.out hgk)
        have HLe := Lib.hid (wrO_le (s := ⟨kk, n⟩) (g := ⟨N, .slice pB B.length cB, B⟩) hlB)
        have HrB := Lib.hid hrB
        obtain ⟨av, cv, rfl, _, hrv⟩ := RdI.of_own (k := .u8) (HT.out.own 0 rfl)
        have HRv := Lib.hid hrv
        clear hgk hcg hrB hbB hnB hrv
        by_cases h1 : kk = 1
        · have hkk := h1
          subst hkk
          have HO : Hid (wrO ⟨1, n⟩ ⟨N, .slice pB B.length cB, B⟩ = bigN' N 1) := Lib.hid (by unfold wrO; rw [if_pos (by rfl)]; rfl)
          have HC := Lib.hid (rbig_c N 1 1 rfl (by omega) gN0 gN1 wo)
          go_wp2_with fail
          refine HC.out.mono ?_
          rintro e w1 ⟨vb, rfl, hSb⟩
          obtain ⟨ab, cb, rfl, _, hrb⟩ := RdI.of_own (k := .u8) (hSb.own 0 rfl)
          have HSb := Lib.hid hSb
          have HRb := Lib.hid hrb
          have hbl := bigN'_len N 1
          have HBl := Lib.hid hbl
          have hbl2 : (bigN' N 1).length ≤ 8 := by omega
          clear hSb hrb hbl
          have HJ := Lib.hid (join_c (some ⟨(w1).heap.size, 0, none⟩) 2 [⟨av, cv, wrL ss gs k⟩, ⟨ab, cb, bigN' N 1⟩] ((w1).alloc (.cells #[.slice av (wrL ss gs k).length cv, .slice (ab) (bigN' N 1).length (cb)] 26)) (fun i p hi => by
            match i, hi with
            | 0, hi => simp at hi; subst hi; exact ⟨_, 0, rfl, by simp, World.cell?_alloc_at _ _ _ _ rfl, ((HRv.out.below HSb.out.frm.below)).below ((Below.refl _ _).alloc (Nat.le_refl _) _)⟩
            | 1, hi => simp at hi; subst hi; exact ⟨_, 0, rfl, by simp, World.cell?_alloc_at _ _ _ _ rfl, (HRb.out).below ((Below.refl _ _).alloc (Nat.le_refl _) _)⟩
            | _ + 2, hi => simp at hi) (by simp) (by simp [flatZ]; have := HXl.out; omega))
          go_wp2_with fail
          refine HJ.out.mono ?_
          rintro e w2 ⟨v1, rfl, hS2⟩
          simp only [flatZ, List.flatMap_cons, List.flatMap_nil, List.append_nil] at hS2
          have HS1 := Lib.hid (sep_rebase ((HT.out.frm.trans HSb.out.frm).alloc _) hS2)
          clear hS2
          go_wp2_with fail
          go_roundw
          case rel => exact ⟨k + 1, v1, by omega, rfl, by go_num, by rw [HStep.out, List.length_append]; have := HXl.out; have := HLe.out; omega, by rw [HStep.out, HO.out]; exact HS1.out⟩
          case measure => simp [intOf]; omega
        by_cases h2 : kk = 2
        · have hkk := h2
          subst hkk
          have HO : Hid (wrO ⟨2, n⟩ ⟨N, .slice pB B.length cB, B⟩ = bigN' N 2) := Lib.hid (by unfold wrO; rw [if_pos (by rfl)]; rfl)
          have HC := Lib.hid (rbig_c N 2 2 rfl (by omega) gN0 gN1 wo)
          go_wp2_with fail
          refine HC.out.mono ?_
          rintro e w1 ⟨vb, rfl, hSb⟩
          obtain ⟨ab, cb, rfl, _, hrb⟩ := RdI.of_own (k := .u8) (hSb.own 0 rfl)
          have HSb := Lib.hid hSb
          have HRb := Lib.hid hrb
          have hbl := bigN'_len N 2
          have HBl := Lib.hid hbl
          have hbl2 : (bigN' N 2).length ≤ 8 := by omega
          clear hSb hrb hbl
          have HJ := Lib.hid (join_c (some ⟨(w1).heap.size, 0, none⟩) 2 [⟨av, cv, wrL ss gs k⟩, ⟨ab, cb, bigN' N 2⟩] ((w1).alloc (.cells #[.slice av (wrL ss gs k).length cv, .slice (ab) (bigN' N 2).length (cb)] 26)) (fun i p hi => by
            match i, hi with
            | 0, hi => simp at hi; subst hi; exact ⟨_, 0, rfl, by simp, World.cell?_alloc_at _ _ _ _ rfl, ((HRv.out.below HSb.out.frm.below)).below ((Below.refl _ _).alloc (Nat.le_refl _) _)⟩
            | 1, hi => simp at hi; subst hi; exact ⟨_, 0, rfl, by simp, World.cell?_alloc_at _ _ _ _ rfl, (HRb.out).below ((Below.refl _ _).alloc (Nat.le_refl _) _)⟩
            | _ + 2, hi => simp at hi) (by simp) (by simp [flatZ]; have := HXl.out; omega))
          go_wp2_with fail
          refine HJ.out.mono ?_
          rintro e w2 ⟨v1, rfl, hS2⟩
          simp only [flatZ, List.flatMap_cons, List.flatMap_nil, List.append_nil] at hS2
          have HS1 := Lib.hid (sep_rebase ((HT.out.frm.trans HSb.out.frm).alloc _) hS2)
          clear hS2
          go_wp2_with fail
          go_roundw
          case rel => exact ⟨k + 1, v1, by omega, rfl, by go_num, by rw [HStep.out, List.length_append]; have := HXl.out; have := HLe.out; omega, by rw [HStep.out, HO.out]; exact HS1.out⟩
          case measure => simp [intOf]; omega
        by_cases h4 : kk = 4
        · have hkk := h4
          subst hkk
          have HO : Hid (wrO ⟨4, n⟩ ⟨N, .slice pB B.length cB, B⟩ = bigN' N 4) := Lib.hid (by unfold wrO; rw [if_pos (by rfl)]; rfl)
          have HC := Lib.hid (rbig_c N 4 4 rfl (by omega) gN0 gN1 wo)
          go_wp2_with fail
          refine HC.out.mono ?_
          rintro e w1 ⟨vb, rfl, hSb⟩
          obtain ⟨ab, cb, rfl, _, hrb⟩ := RdI.of_own (k := .u8) (hSb.own 0 rfl)
          have HSb := Lib.hid hSb
          have HRb := Lib.hid hrb
          have hbl := bigN'_len N 4
          have HBl := Lib.hid hbl
          have hbl2 : (bigN' N 4).length ≤ 8 := by omega
          clear hSb hrb hbl
          have HJ := Lib.hid (join_c (some ⟨(w1).heap.size, 0, none⟩) 2 [⟨av, cv, wrL ss gs k⟩, ⟨ab, cb, bigN' N 4⟩] ((w1).alloc (.cells #[.slice av (wrL ss gs k).length cv, .slice (ab) (bigN' N 4).length (cb)] 26)) (fun i p hi => by
            match i, hi with
            | 0, hi => simp at hi; subst hi; exact ⟨_, 0, rfl, by simp, World.cell?_alloc_at _ _ _ _ rfl, ((HRv.out.below HSb.out.frm.below)).below ((Below.refl _ _).alloc (Nat.le_refl _) _)⟩
            | 1, hi => simp at hi; subst hi; exact ⟨_, 0, rfl, by simp, World.cell?_alloc_at _ _ _ _ rfl, (HRb.out).below ((Below.refl _ _).alloc (Nat.le_refl _) _)⟩
            | _ + 2, hi => simp at hi) (by simp) (by simp [flatZ]; have := HXl.out; omega))
          go_wp2_with fail
          refine HJ.out.mono ?_
          rintro e w2 ⟨v1, rfl, hS2⟩
          simp only [flatZ, List.flatMap_cons, List.flatMap_nil, List.append_nil] at hS2
          have HS1 := Lib.hid (sep_rebase ((HT.out.frm.trans HSb.out.frm).alloc _) hS2)
          clear hS2
          go_wp2_with fail
          go_roundw
          case rel => exact ⟨k + 1, v1, by omega, rfl, by go_num, by rw [HStep.out, List.length_append]; have := HXl.out; have := HLe.out; omega, by rw [HStep.out, HO.out]; exact HS1.out⟩
          case measure => simp [intOf]; omega
        by_cases h8 : kk = 8
        · have hkk := h8
          subst hkk
          have HO : Hid (wrO ⟨8, n⟩ ⟨N, .slice pB B.length cB, B⟩ = bigN' N 8) := Lib.hid (by unfold wrO; rw [if_pos (by rfl)]; rfl)
          have HC := Lib.hid (rbig_c N 8 8 rfl (by omega) gN0 gN1 wo)
          go_wp2_with fail
          refine HC.out.mono ?_
          rintro e w1 ⟨vb, rfl, hSb⟩
          obtain ⟨ab, cb, rfl, _, hrb⟩ := RdI.of_own (k := .u8) (hSb.own 0 rfl)
          have HSb := Lib.hid hSb
          have HRb := Lib.hid hrb
          have hbl := bigN'_len N 8
          have HBl := Lib.hid hbl
          have hbl2 : (bigN' N 8).length ≤ 8 := by omega
          clear hSb hrb hbl
          have HJ := Lib.hid (join_c (some ⟨(w1).heap.size, 0, none⟩) 2 [⟨av, cv, wrL ss gs k⟩, ⟨ab, cb, bigN' N 8⟩] ((w1).alloc (.cells #[.slice av (wrL ss gs k).length cv, .slice (ab) (bigN' N 8).length (cb)] 26)) (fun i p hi => by
            match i, hi with
            | 0, hi => simp at hi; subst hi; exact ⟨_, 0, rfl, by simp, World.cell?_alloc_at _ _ _ _ rfl, ((HRv.out.below HSb.out.frm.below)).below ((Below.refl _ _).alloc (Nat.le_refl _) _)⟩
            | 1, hi => simp at hi; subst hi; exact ⟨_, 0, rfl, by simp, World.cell?_alloc_at _ _ _ _ rfl, (HRb.out).below ((Below.refl _ _).alloc (Nat.le_refl _) _)⟩
            | _ + 2, hi => simp at hi) (by simp) (by simp [flatZ]; have := HXl.out; omega))
          go_wp2_with fail
          refine HJ.out.mono ?_
          rintro e w2 ⟨v1, rfl, hS2⟩
          simp only [flatZ, List.flatMap_cons, List.flatMap_nil, List.append_nil] at hS2
          have HS1 := Lib.hid (sep_rebase ((HT.out.frm.trans HSb.out.frm).alloc _) hS2)
          clear hS2
          go_wp2_with fail
          go_roundw
          case rel => exact ⟨k + 1, v1, by omega, rfl, by go_num, by rw [HStep.out, List.length_append]; have := HXl.out; have := HLe.out; omega, by rw [HStep.out, HO.out]; exact HS1.out⟩
          case measure => simp [intOf]; omega
        by_cases h0 : kk = 0
        · have hkk := h0
          subst hkk
          have HO : Hid (wrO ⟨0, n⟩ ⟨N, .slice pB B.length cB, B⟩ = B) := Lib.hid (by unfold wrO; rw [if_neg (by simp [numK]), if_pos rfl])
          have HJ := Lib.hid (join_c (some ⟨(wo).heap.size, 0, none⟩) 2 [⟨av, cv, wrL ss gs k⟩, ⟨pB, cB, B⟩] ((wo).alloc (.cells #[.slice av (wrL ss gs k).length cv, .slice (pB) (B).length (cB)] 26)) (fun i p hi => by
            match i, hi with
            | 0, hi => simp at hi; subst hi; exact ⟨_, 0, rfl, by simp, World.cell?_alloc_at _ _ _ _ rfl, (HRv.out).below ((Below.refl _ _).alloc (Nat.le_refl _) _)⟩
            | 1, hi => simp at hi; subst hi; exact ⟨_, 0, rfl, by simp, World.cell?_alloc_at _ _ _ _ rfl, (HrB.out).below ((Below.refl _ _).alloc (Nat.le_refl _) _)⟩
            | _ + 2, hi => simp at hi) (by simp) (by simp [flatZ]; have := HXl.out; omega))
          go_wp2_with fail
          refine HJ.out.mono ?_
          rintro e w2 ⟨v1, rfl, hS2⟩
          simp only [flatZ, List.flatMap_cons, List.flatMap_nil, List.append_nil] at hS2
          have HS1 := Lib.hid (sep_rebase (HT.out.frm.alloc _) hS2)
          clear hS2
          go_wp2_with fail
          go_roundw
          case rel => exact ⟨k + 1, v1, by omega, rfl, by go_num, by rw [HStep.out, List.length_append]; have := HXl.out; have := HLe.out; omega, by rw [HStep.out, HO.out]; exact HS1.out⟩
          case measure => simp [intOf]; omega
        have HO : Hid (wrO ⟨kk, n⟩ ⟨N, .slice pB B.length cB, B⟩ = []) := Lib.hid (by unfold wrO; rw [if_neg (by simp only [numK, decide_eq_true_eq, not_or]; exact ⟨h1, h2, h4, h8⟩), if_neg h0])
        have k1 : (kk == 1) = false := by rw [beq_eq_false_iff_ne]; exact h1
        have k2 : (kk == 2) = false := by rw [beq_eq_false_iff_ne]; exact h2
        have k4 : (kk == 4) = false := by rw [beq_eq_false_iff_ne]; exact h4
        have k8 : (kk == 8) = false := by rw [beq_eq_false_iff_ne]; exact h8
        have k0 : (kk == 0) = false := by rw [beq_eq_false_iff_ne]; exact h0
        clear h1 h2 h4 h8 h0
        go_wp2_with fail
        go_roundw
        case rel => exact ⟨k + 1, .slice av (wrL ss gs k).length cv, by omega, rfl, by go_num, by rw [HStep.out, List.length_append]; have := HXl.out; have := HLe.out; omega, by rw [HStep.out, HO.out, List.append_nil]; exact HT.out⟩
        case measure => simp [intOf]; omega
      · have q1 : ¬ (k : Int) < (gs.length : Int) := by omega
        go_wp2_with fail
        go_ret
        refine ⟨v, rfl, ?_⟩
        rw [← wrL_end (k := k) (.inr (by omega))]
        exact HT.out
    · obtain rfl : k = ss.length := by omega
      go_wp2_with fail
      go_ret
      exact ⟨v, rfl, HT.out⟩

end Go.Proofs.Ytdkbibfgebfeaaa
