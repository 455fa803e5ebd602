/-
  THE WALKS of confluxlaw06.small and confluxref06.Same.
-/
import Derived.Test.YtiknjkkphdncfaaReD
import Derived.Deep.QuietTactic
import Derived.BigQuiet
set_option linter.unusedVariables false
set_option linter.unusedSimpArgs false
namespace Go.Proofs.Ytiknjkkphdncfaa
open Go.RowKit

def smallB (bs : List BkV) : Bool := decide ((∀ b ∈ bs, b.B.length ≤ 2000) ∧ bs.length ≤ 12)
set_option maxRecDepth 100000 in
set_option maxHeartbeats 4000000 in
theorem small_c (w : World) (a : Option Addr) (c : Nat) (bs : List BkV) (hb : RdBs w a bs) (hn : bs.length ≤ 9223372036854775807) (hl : ∀ b ∈ bs, b.B.length ≤ 9223372036854775807) :
    Calls Try.prog 7 #[.slice a bs.length c] w fun e w' => e = .returned (.bool (smallB bs)) ∧ Frm [] w w' := by
  have HR := Lib.hid (fun X (hX : Frm [] w X) => hb.frm hX)
  have HL := Lib.hid hl
  have HS := Lib.hid (Sep.init w)
  obtain ⟨E, hE⟩ : ∃ E, E = smallB bs := ⟨_, rfl⟩
  rw [← hE]
  have HE := Lib.hid hE
  clear hb hl hE
  go_enter Try.func7, Try.ntmps7
  go_wp2_with fail
  go_loopw [7] (fun i wr => ∃ k : Nat, k ≤ bs.length ∧ i = .int .i64 k ∧ (∀ b ∈ bs.take k, b.B.length ≤ 2000) ∧ Sep [] w wr []) (fun i _ => bs.length - (intOf i).toNat)
  case atStart => exact ⟨0, Nat.zero_le _, rfl, by simp, HS.out⟩
  case round =>
    obtain ⟨k, hk, rfl, hsm, hS⟩ := hrel
    have HT := Lib.hid hS
    have HSm := Lib.hid hsm
    clear hS hsm
    obtain ⟨wo, hwo⟩ : ∃ wo : World, wo = wr := ⟨_, rfl⟩
    rw [← hwo] at HT ⊢
    clear hwo
    by_cases hlt : k < bs.length
    · obtain ⟨x, hx⟩ : ∃ x, bs[k]? = some x := ⟨_, List.getElem?_eq_getElem hlt⟩
      obtain ⟨bb, bo, rfl, _, hc⟩ := (HR.out _ HT.out.frm).1 k x.row (by rw [List.getElem?_map, hx]; rfl)
      obtain ⟨pB, cB, hbv, _⟩ := (HR.out _ HT.out.frm).2 x (List.mem_of_getElem? hx)
      have hxl := HL.out x (List.mem_of_getElem? hx)
      have HX := Lib.hid hx
      obtain ⟨pt, off, bv, B⟩ := x
      simp only at hbv hxl
      subst hbv
      have d0 : wo.cell? ⟨bb, bo + k * 3, none⟩ = some (.int .i64 pt) := hc 0 _ rfl
      have d1 : wo.cell? ⟨bb, bo + k * 3 + 1, none⟩ = some (.int .i64 off) := hc 1 _ rfl
      have d2 : wo.cell? ⟨bb, bo + k * 3 + 2, none⟩ = some (.slice pB B.length cB) := hc 2 _ rfl
      have i1 : (0 : Int) ≤ (k : Int) := by omega
      have i2 : (k : Int) < (bs.length : Int) := by omega
      have HTx := Lib.hid (HT.out.skip (.cells #[.int .i64 pt, .int .i64 off, .slice pB B.length cB] 50))
      clear hc hx
      by_cases hbig : 2000 < B.length
      · have q1 : decide (2000 < (B.length : Int)) = true := by rw [decide_eq_true_iff]; omega
        have hE : E = false := by
          rw [HE.out]
          unfold smallB
          rw [decide_eq_false_iff_not]
          intro h
          have := h.1 _ (List.mem_of_getElem? HX.out)
          simp only at this
          omega
        have HEf := Lib.hid hE
        clear hbig hE
        go_wp2_with fail
        go_ret
        exact ⟨by rw [HEf.out]; rfl, HTx.out.frm⟩
      · have q1 : decide (2000 < (B.length : Int)) = false := by rw [decide_eq_false_iff_not]; omega
        have HQ := Lib.hid hbig
        clear hbig
        go_wp2_with fail
        go_roundw
        case rel => exact ⟨k + 1, by omega, by go_num, (fun b hb => by
          rw [List.take_add_one, HX.out] at hb
          rcases List.mem_append.1 hb with hb | hb
          · exact HSm.out b hb
          · simp at hb
            subst hb
            have := HQ.out
            simp only
            omega), HTx.out⟩
        case measure => simp [intOf]; omega
    · obtain rfl : k = bs.length := by omega
      rw [List.take_length] at HSm
      by_cases h12 : bs.length ≤ 12
      · have q1 : decide ((bs.length : Int) ≤ 12) = true := by rw [decide_eq_true_iff]; omega
        have hE : E = true := by rw [HE.out]; unfold smallB; rw [decide_eq_true_iff]; exact ⟨HSm.out, h12⟩
        have HEf := Lib.hid hE
        clear h12 hE
        go_wp2_with fail
        go_ret
        exact ⟨by rw [HEf.out]; rfl, HT.out.frm⟩
      · have q1 : decide ((bs.length : Int) ≤ 12) = false := by rw [decide_eq_false_iff_not]; omega
        have hE : E = false := by rw [HE.out]; unfold smallB; rw [decide_eq_false_iff_not]; exact fun h => h12 h.2
        have HEf := Lib.hid hE
        clear h12 hE
        go_wp2_with fail
        go_ret
        exact ⟨by rw [HEf.out]; rfl, HT.out.frm⟩

set_option maxRecDepth 100000 in
set_option maxHeartbeats 8000000 in
theorem blksame_c (a b : Option Addr) (ca cb : Nat) (gs hs : List BkV) (w : World) (rx : RdBs w a gs) (ry : RdBs w b hs) (hx : gs.length ≤ 1000) (hlx : ∀ g ∈ gs, g.B.length ≤ 1000000) (heq : gs.map BkV.bk = hs.map BkV.bk) :
    Calls Try.prog 13 #[.slice a gs.length ca, .slice b hs.length cb] w fun e w' => e = .returned (.bool true) ∧ ∃ m, w' = w.drewN m := by
  have HX := Lib.hid rx
  have HY := Lib.hid ry
  have HLx := Lib.hid hlx
  have hl : gs.length = hs.length := by have := congrArg List.length heq; simpa using this
  have HE := Lib.hid heq
  clear rx ry heq hlx
  have g1 : ((gs.length : Int) != (hs.length : Int)) = false := by simp; omega
  have g3 : hs.length ≤ gs.length := by omega
  have g4 : gs.length ≤ hs.length := by omega
  clear hl
  go_enter Try.func13, Try.ntmps13
  go_wp2_with fail
  go_loopw [5] (fun i wr => ∃ (k m : Nat), k ≤ gs.length ∧ i = .int .i64 k ∧ wr = w.drewN m) (fun i _ => gs.length - (intOf i).toNat)
  case atStart => exact ⟨0, 0, Nat.zero_le _, rfl, rfl⟩
  case round =>
    obtain ⟨k, m, hk, rfl, hwr⟩ := hrel
    by_cases hlt : k < gs.length
    · obtain ⟨x, hx'⟩ : ∃ x, gs[k]? = some x := ⟨_, List.getElem?_eq_getElem hlt⟩
      obtain ⟨y, hy'⟩ : ∃ y, hs[k]? = some y := ⟨_, List.getElem?_eq_getElem (by omega)⟩
      obtain ⟨b1, o1, rfl, _, cx⟩ := HX.out.1 k x.row (by rw [List.getElem?_map, hx']; rfl)
      obtain ⟨b2, o2, rfl, _, cy⟩ := HY.out.1 k y.row (by rw [List.getElem?_map, hy']; rfl)
      obtain ⟨p1, c1, e1, rd1, _⟩ := HX.out.2 x (List.mem_of_getElem? hx')
      obtain ⟨p2, c2, e2, rd2, _⟩ := HY.out.2 y (List.mem_of_getElem? hy')
      have l1 := HLx.out x (List.mem_of_getElem? hx')
      have hz : x.bk = y.bk := by
        have h := congrArg (fun l => l[k]?) HE.out
        simp only [List.getElem?_map, hx', hy', Option.map_some, Option.some.injEq] at h
        exact h
      injection hz with hN hM hB
      obtain ⟨xP, xO, xv, xB⟩ := x
      obtain ⟨yP, yO, yv, yB⟩ := y
      simp only at e1 e2 rd1 rd2 l1 hN hM hB
      subst hN hM hB e1 e2
      have x0 : wr.cell? ⟨b1, o1 + k * 3, none⟩ = some (.int .i64 xP) := by rw [hwr]; exact cx 0 _ rfl
      have x1 : wr.cell? ⟨b1, o1 + k * 3 + 1, none⟩ = some (.int .i64 xO) := by rw [hwr]; exact cx 1 _ rfl
      have x2 : wr.cell? ⟨b1, o1 + k * 3 + 2, none⟩ = some (.slice p1 xB.length c1) := by rw [hwr]; exact cx 2 _ rfl
      have y0 : wr.cell? ⟨b2, o2 + k * 3, none⟩ = some (.int .i64 xP) := by rw [hwr]; exact cy 0 _ rfl
      have y1 : wr.cell? ⟨b2, o2 + k * 3 + 1, none⟩ = some (.int .i64 xO) := by rw [hwr]; exact cy 1 _ rfl
      have y2 : wr.cell? ⟨b2, o2 + k * 3 + 2, none⟩ = some (.slice p2 xB.length c2) := by rw [hwr]; exact cy 2 _ rfl
      have i1 : (0 : Int) ≤ (k : Int) := by omega
      have i2 : (k : Int) < (gs.length : Int) := by omega
      have i3 : (k : Int) < (hs.length : Int) := by omega
      have HW := Lib.hid hwr
      have HC : Hid (∀ n : Nat, Calls Try.prog 10 #[.slice p1 xB.length c1, .slice p2 xB.length c2] (wr.drewN n) fun e w' => e = .returned (.bool true) ∧ ∃ m, w' = (wr.drewN n).drewN m) := Lib.hid (fun n => by
        have h := bsame_c p1 p2 c1 c2 xB xB (wr.drewN n) (by rw [hwr]; exact rd1) (by rw [hwr]; exact rd2) l1 l1
        rw [decide_eq_true rfl] at h
        exact h)
      obtain ⟨wi, hwi⟩ : ∃ wi : World, wi = wr := ⟨_, rfl⟩
      rw [← hwi] at HW x0 x1 x2 y0 y1 y2 HC ⊢
      clear hwi hwr cx cy hx' hy' rd1 rd2 l1
      go_wp2_with fail
      go_quiet ((go_at_call 10; exact Calls.quiet_of (HC.out _)))
      go_wp2_with fail
      go_roundw
      case rel => exact ⟨k + 1, m + nq, by omega, by go_num, by rw [HW.out]; simp⟩
      case measure => simp [intOf]; omega
    · obtain rfl : k = gs.length := by omega
      have HW := Lib.hid hwr
      clear hwr
      go_wp2_with fail
      go_ret
      exact ⟨rfl, m, HW.out⟩

end Go.Proofs.Ytiknjkkphdncfaa
