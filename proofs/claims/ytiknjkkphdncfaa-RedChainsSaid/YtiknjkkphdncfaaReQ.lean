/-
  THE WALK of the law RedWrites; blocks and packets that were handed in, opened.
-/
import Derived.Test.YtiknjkkphdncfaaReM
import Derived.Test.YtiknjkkphdncfaaOpk
set_option linter.unusedVariables false
set_option linter.unusedSimpArgs false
namespace Go.Proofs.Ytiknjkkphdncfaa
open Go.RowKit Go.ChangeShapes Go.WideShapes

def BlkOk (W : World) (b : BkV) : Prop := ∃ p c, b.bv = .slice p b.B.length c ∧ RdI .u8 W p b.B ∧ (p = none → c = 0) ∧ Byt b.B ∧ b.B.length ≤ 9223372036854775807
theorem blkRow_of {H : Type} {enc : TypeId × Value → H} {P : Program} {W : World} {f0 f1 f2 : Field} {e1 : TypeId} {row : List Value} (h0 : P.underlying f0.type = some (.int .i64)) (h1 : P.underlying f1.type = some (.int .i64)) (h2 : P.underlying f2.type = some (.slice e1)) (h3 : P.underlying e1 = some (.int .u8)) (hc : P.cellsOf e1 = 1)
    (h : row.length = (#[f0, f1, f2] : Array Field).size ∧ ∀ (j : Nat) (f : Field), (#[f0, f1, f2] : Array Field)[j]? = some f → ∃ (u : Value) (y : DataW H × List MemPlace) (n : Nat), row[j]? = some u ∧ DataW.trod enc P W 0 (fun _ => true) true n f.type [u] = some y) :
    ∃ g : BkV, row = g.row ∧ BlkOk W g := by
  obtain ⟨hl, hf⟩ := h
  obtain ⟨u0, y0, n0, r0, e0⟩ := hf 0 f0 rfl
  obtain ⟨u1, y1, n1, r1, e1⟩ := hf 1 f1 rfl
  obtain ⟨u2, y2, n2, r2, e2⟩ := hf 2 f2 rfl
  obtain ⟨x0, g0, _, w0⟩ := DataW.trod_int h0 e0
  obtain ⟨x1, g1, _, w1⟩ := DataW.trod_int h1 e1
  obtain ⟨a, c, zs, rfl, l1, l2, hn, hr, hw⟩ := sl_cell h2 h3 hc e2
  simp at g0 g1
  subst g0 g1
  match row, hl with
  | [c0, c1, c2], _ =>
    simp at r0 r1 r2
    subst r0 r1 r2
    refine ⟨⟨x0, x1, .slice a zs.length c, zs⟩, rfl, a, c, rfl, hr, hn, byt_wf hw, ?_⟩
    unfold maxLen at l2
    show zs.length ≤ _
    omega
theorem rdBs_of {w : World} {a : Option Addr} {bs : List BkV} (rd : RdS 3 w a (bs.map BkV.row)) (wf : ∀ b ∈ bs, BlkOk w b) : RdBs w a bs :=
  ⟨rd, fun b hb => by obtain ⟨p, c, h1, h2, h3, _⟩ := wf b hb; exact ⟨p, c, h1, h2, h3⟩⟩
theorem small_of {bs : List BkV} (h : smallB bs = true) : bs.length ≤ 12 ∧ ∀ b ∈ bs, b.B.length ≤ 2000 := by
  unfold smallB at h
  rw [decide_eq_true_iff] at h
  exact ⟨h.2, h.1⟩
theorem bytesB_le {bs : List BkV} (h : wrongE bs = 0) : (bytesB bs).length ≤ 1500 := by
  have hr := right_of h
  have h1 := hr.size
  have := (not_congr (long_iff hr.pos)).1 (by omega)
  unfold bytesB
  rw [List.length_append]
  omega
theorem outB_le (bs : List BkV) : (outB bs).length ≤ 1500 := by
  unfold outB
  split
  · exact bytesB_le (by assumption)
  · simp

set_option maxRecDepth 100000 in
set_option maxHeartbeats 16000000 in
theorem redWrites_w (w : World) (a : Option Addr) (c : Nat) (bs : List BkV) (lc : bs.length ≤ c) (mc : c ≤ maxLen) (rd : RdS 3 w a (bs.map BkV.row)) (wf : ∀ b ∈ bs, BlkOk w b) :
    Calls Try.prog 3 #[.slice a bs.length c] w fun e w' => e = .returned (.bool true) ∧ Below w.heap.size w w' := by
  unfold maxLen at mc
  have HB := Lib.hid (fun X (hX : Frm [] w X) => (rdBs_of rd wf).frm hX)
  have HL := Lib.hid (fun b hb => (wf b hb).choose_spec.choose_spec.2.2.2.2)
  have hn : bs.length ≤ 9223372036854775807 := by omega
  have HSm := Lib.hid (fun X (hX : Frm [] w X) => small_c X a c bs (HB.out X hX) hn HL.out)
  clear rd wf lc mc
  cases hs : smallB bs with
  | false =>
    rw [hs] at HSm
    go_enter Try.func3, Try.ntmps3
    go_wp2_with fail
    refine (alive_c _).mono ?_
    rintro e w1 ⟨rfl, hF⟩
    have HF1 := Lib.hid hF
    clear hF
    go_wp2_with fail
    refine (HSm.out _ HF1.out).mono ?_
    rintro e w2 ⟨rfl, hF⟩
    have HF2 := Lib.hid (HF1.out.trans hF)
    clear hF
    go_wp2_with fail
    go_ret
    exact ⟨rfl, HF2.out.below⟩
  | true =>
    rw [hs] at HSm
    obtain ⟨h12, h20⟩ := small_of hs
    have HWr := Lib.hid (fun X (hX : Frm [] w X) => write_c X a c bs (HB.out X hX) (by omega) h20)
    have HRw := Lib.hid (fun X (hX : Frm [] w X) => rwrite_c X a c bs (HB.out X hX) (by omega) h20)
    have hO := outB_le bs
    obtain ⟨O, hOe⟩ : ∃ O, O = outB bs := ⟨_, rfl⟩
    obtain ⟨E, hEe⟩ : ∃ E, E = wrongE bs := ⟨_, rfl⟩
    simp only [← hOe, ← hEe] at HWr HRw
    rw [← hOe] at hO
    clear hOe hEe hs h20
    go_enter Try.func3, Try.ntmps3
    go_wp2_with fail
    refine (alive_c _).mono ?_
    rintro e w1 ⟨rfl, hF⟩
    have HF1 := Lib.hid hF
    clear hF
    go_wp2_with fail
    refine (HSm.out _ HF1.out).mono ?_
    rintro e w2 ⟨rfl, hF⟩
    have HF2 := Lib.hid (HF1.out.trans hF)
    clear hF
    go_wp2_with fail
    refine (HWr.out _ HF2.out).mono ?_
    rintro e w3 ⟨v3, rfl, hS3⟩
    obtain ⟨a3, c3, rfl, _, hr3⟩ := RdI.of_own (k := .u8) (hS3.own 0 rfl)
    have HF3 := Lib.hid (HF2.out.trans hS3.frm)
    have HR3 := Lib.hid hr3
    clear hS3 hr3
    go_wp2_with fail
    refine (HRw.out _ HF3.out).mono ?_
    rintro e w4 ⟨v4, rfl, hS4⟩
    obtain ⟨a4, c4, rfl, _, hr4⟩ := RdI.of_own (k := .u8) (hS4.own 0 rfl)
    have HF4 := Lib.hid (HF3.out.trans hS4.frm)
    have hC := bsame_c a3 a4 c3 c4 O O w4 (HR3.out.below hS4.frm.below) hr4 (by omega) (by omega)
    rw [decide_eq_true rfl] at hC
    have HC := Lib.hid hC
    clear hS4 hr4 hC
    go_wp2_with fail
    refine HC.out.mono ?_
    rintro e w5 ⟨rfl, m, rfl⟩
    go_wp2_with fail
    go_ret
    exact ⟨rfl, (HF4.out.drewN m).below⟩

end Go.Proofs.Ytiknjkkphdncfaa
