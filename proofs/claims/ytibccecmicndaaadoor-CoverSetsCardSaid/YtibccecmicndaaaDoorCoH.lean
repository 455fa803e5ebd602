/-
  THE WALK of Of of cover's reference.
-/
import Derived.Test.YtibccecmicndaaaDoorCoG
set_option linter.unusedVariables false
set_option linter.unusedSimpArgs false
namespace Go.Proofs.YtibccecmicndaaaDoor
open Go.RowKit

set_option maxRecDepth 100000 in
set_option maxHeartbeats 4000000 in
theorem rcof_c (a : Option Addr) (c : Nat) (ns : List Int) (w : World) (rd : RdI .u16 w a ns) (hl : ns.length ≤ 1000) (hn : ∀ n ∈ ns, 0 ≤ n ∧ n ≤ 65535) :
    Calls Tryd.prog 20 #[.slice a ns.length c] w fun e w' => e = .returned (.tuple #[.int .u16 (coB ns), .int .u64 (coH ns : Int), .int .u64 (coL ns : Int), .int .i64 (coE ns)]) ∧ Frm [] w w' := by
  have HSp := Lib.hid (rspan_c a c ns w rd hl hn)
  have hsp := spanL_in ns hn
  have HF := Lib.hid (fun W hW => rfr_c a c (spanL ns) ns W (rd.below hW) hl hn hsp.1 hsp.2)
  have HB := Lib.hid (show coB ns = if coE ns = 0 then spanL ns else 0 from rfl)
  have HE := Lib.hid (show coE ns = if 109 ≤ spanN ns then 31 else frE (spanL ns) ns from rfl)
  have HH := Lib.hid (show coH ns = if 109 ≤ spanN ns then 0 else frH (spanL ns) ns from rfl)
  have HL := Lib.hid (show coL ns = if 109 ≤ spanN ns then 0 else frL (spanL ns) ns from rfl)
  have HZ := Lib.hid (fr_zero (b := spanL ns) (ns := ns))
  have h0s : ns.length = 0 → spanN ns = 0 := fun h => if_pos h
  obtain ⟨B, hB⟩ : ∃ B, B = coB ns := ⟨_, rfl⟩
  obtain ⟨E, hE⟩ : ∃ E, E = coE ns := ⟨_, rfl⟩
  obtain ⟨H, hH⟩ : ∃ H, H = coH ns := ⟨_, rfl⟩
  obtain ⟨L, hL⟩ : ∃ L, L = coL ns := ⟨_, rfl⟩
  obtain ⟨b, hb⟩ : ∃ b, b = spanL ns := ⟨_, rfl⟩
  obtain ⟨s, hs⟩ : ∃ s, s = spanN ns := ⟨_, rfl⟩
  obtain ⟨fe, hfe⟩ : ∃ fe, fe = frE b ns := ⟨_, rfl⟩
  obtain ⟨fh, hfh⟩ : ∃ fh, fh = frH b ns := ⟨_, rfl⟩
  obtain ⟨fl, hfl⟩ : ∃ fl, fl = frL b ns := ⟨_, rfl⟩
  simp only [← hb, ← hs, ← hfe, ← hfh, ← hfl] at HSp HF
  rw [← hB, ← hE, ← hb] at HB
  rw [← hE, ← hb, ← hs, ← hfe] at HE
  rw [← hH, ← hb, ← hs, ← hfh] at HH
  rw [← hL, ← hb, ← hs, ← hfl] at HL
  rw [← hb, ← hfe, ← hfh, ← hfl] at HZ
  rw [← hs] at h0s
  rw [← hB, ← hE, ← hH, ← hL]
  have HPos := Lib.hid (show 109 ≤ s → decide (0 < ns.length) = true from fun h => decide_eq_true (by
    rcases Nat.eq_zero_or_pos ns.length with h1 | h1
    · have := h0s h1; omega
    · omega))
  clear hB hE hH hL hb hs hfe hfh hfl hsp rd hn h0s
  go_enter Tryd.func20, Tryd.ntmps20
  go_wp2_with fail
  refine HSp.out.mono ?_
  rintro e w1 ⟨rfl, hf⟩
  have HF1 := Lib.hid hf
  clear hf
  by_cases h1 : 109 ≤ s
  · have t1 : decide (109 ≤ s) = true := decide_eq_true h1
    have t2 := HPos.out h1
    have hE : E = 31 := by rw [HE.out, if_pos h1]
    have hB : B = 0 := by rw [HB.out, hE]; rfl
    have hH : H = 0 := by rw [HH.out, if_pos h1]
    have hL : L = 0 := by rw [HL.out, if_pos h1]
    subst hE hB hH hL
    clear h1
    go_wp2_with fail
    refine bodyPost_ret (v := .tuple #[.int .u16 0, .int .u64 0, .int .u64 0, .int .i64 31]) ?_ rfl ⟨rfl, HF1.out⟩
    simp [results, Tryd.results20, go_sem]
  · have t1 : decide (109 ≤ s) = false := decide_eq_false h1
    have hE : E = fe := by rw [HE.out, if_neg h1]
    have hH : H = fh := by rw [HH.out, if_neg h1]
    have hL : L = fl := by rw [HL.out, if_neg h1]
    subst hE hH hL
    clear h1 HE HH HL HPos
    obtain ⟨t, ht⟩ : ∃ t, t = decide (0 < ns.length) := ⟨_, rfl⟩
    have t2 := ht.symm
    clear ht
    cases t
    all_goals
      go_wp2_with fail
      refine (HF.out _ HF1.out.below).mono ?_
      rintro e w2 ⟨rfl, hf⟩
      have HF2 := Lib.hid (HF1.out.trans hf)
      clear hf t2
      by_cases hz : E = 0
      · subst hz
        have hB : B = b := by rw [HB.out, if_pos rfl]
        subst hB
        clear HB HZ
        go_wp2_with fail
        refine bodyPost_ret (v := .tuple #[.int .u16 B, .int .u64 (H : Int), .int .u64 (L : Int), .int .i64 0]) ?_ rfl ⟨rfl, HF2.out⟩
        simp [results, Tryd.results20, go_sem]
      · have hzb : (E == 0) = false := beq_eq_false_iff_ne.2 hz
        have hzc : (E != 0) = true := bne_iff_ne.2 hz
        obtain ⟨zH, zL⟩ := HZ.out hz
        have hB : B = 0 := by rw [HB.out, if_neg hz]
        subst hB
        have HzH := Lib.hid (And.intro zH zL)
        clear hz HB HZ zH zL
        go_wp2_with fail
        rw [HzH.out.1, HzH.out.2]
        refine bodyPost_ret (v := .tuple #[.int .u16 0, .int .u64 0, .int .u64 0, .int .i64 E]) ?_ rfl ⟨rfl, HF2.out⟩
        simp [results, Tryd.results20, go_sem]

end Go.Proofs.YtibccecmicndaaaDoor
