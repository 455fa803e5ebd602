/-
  THE WALK of the reference's Write.
-/
import Derived.Test.YtiknjkkphdncfaaReG
import Derived.Test.YtiknjkkphdncfaaJon
import Derived.Test.YtiknjkkphdncfaaPic
import Derived.Deep.DeepCutAuto
set_option linter.unusedVariables false
set_option linter.unusedSimpArgs false
namespace Go.Proofs.Ytiknjkkphdncfaa
open Go.RowKit

/-- What the reference writes of a header. -/
def hdR (n i : Nat) (b : BkV) : List Int := if i + 1 = n then [b.pt] else (b.pt + 128) :: bigN' (b.off * 1024 + (b.B.length : Int) % 1024) 3
theorem hdR_len (n i : Nat) (b : BkV) : (hdR n i b).length = (hdB n i b).length := by
  unfold hdR hdB
  split
  · rfl
  · rw [List.length_cons, List.length_cons, bigN'_len, bigL_len]
theorem hdR_eq {n i : Nat} {b : BkV} (hi : i < n) (h : longB n i b = false) : hdR n i b = hdB n i b := by
  unfold hdR hdB
  split
  · rfl
  · have h2 : (b.B.length : Int) % 1024 = (b.B.length : Int) := by
      simp [longB] at h
      have := h (by omega)
      omega
    rw [h2]
    rfl
theorem hdR_cat_len (n : Nat) {bs : List BkV} : ∀ k, k ≤ bs.length → (catK (hdR n) bs k).length = (catK (hdB n) bs k).length := by
  intro k
  induction k with
  | zero => intro _; rfl
  | succ k ih =>
    intro hk
    have hx : bs[k]? = some (bs[k]'(by omega)) := List.getElem?_eq_getElem (by omega)
    rw [catK_succ (hdR n) hx, catK_succ (hdB n) hx, List.length_append, List.length_append, ih (by omega), hdR_len]
theorem hdR_cat (n : Nat) {bs : List BkV} (hn : n = bs.length) : ∀ k, k ≤ bs.length → anyK (longB n) bs k = false → catK (hdR n) bs k = catK (hdB n) bs k := by
  intro k
  induction k with
  | zero => intro _ _; rfl
  | succ k ih =>
    intro hk h
    have hx : bs[k]? = some (bs[k]'(by omega)) := List.getElem?_eq_getElem (by omega)
    rw [anyK_succ _ hx, Bool.or_eq_false_iff] at h
    rw [catK_succ (hdR n) hx, catK_succ (hdB n) hx, ih (by omega) h.1, hdR_eq (by omega) h.2]
/-- What Write gives, or nothing. -/
def outB (bs : List BkV) : List Int := if wrongE bs = 0 then bytesB bs else []
theorem anyK_true {f : Nat → BkV → Bool} {bs : List BkV} {n i : Nat} {b : BkV} (hi : i < n) (hb : bs[i]? = some b) (h : f i b = true) : anyK f bs n = true := by
  unfold anyK
  rw [List.any_eq_true]
  exact ⟨i, List.mem_range.2 hi, by rw [hb]; exact h⟩

set_option maxRecDepth 100000 in
set_option maxHeartbeats 16000000 in
theorem rwrite_c (w : World) (a : Option Addr) (c : Nat) (bs : List BkV) (hb : RdBs w a bs) (hn : bs.length ≤ 1000000) (hl : ∀ b ∈ bs, b.B.length ≤ 2000) :
    Calls Try.prog 9 #[.slice a bs.length c] w (WriteP w (outB bs) (wrongE bs)) := by
  obtain ⟨iu, hi, hz0, hz1, hz2⟩ := info_parts info_u8
  have HR := Lib.hid (fun X (hX : Frm [] w X) => hb.frm hX)
  have HL := Lib.hid hl
  obtain ⟨E, hE⟩ : ∃ E, E = wrongE bs := ⟨_, rfl⟩
  obtain ⟨O, hO⟩ : ∃ O, O = outB bs := ⟨_, rfl⟩
  rw [← hE, ← hO]
  have hO' : O = if E = 0 then bytesB bs else [] := by rw [hO, hE]; rfl
  have HE := Lib.hid hE
  have HO := Lib.hid hO'
  clear hb hl hE hO hO'
  by_cases hz : bs.length = 0
  · have h1 : E = 4 := by rw [HE.out]; unfold wrongE; rw [if_pos hz]
    have h2 : O = [] := by rw [HO.out, h1]; rfl
    subst h1 h2
    have q1 : ((bs.length : Int) == 0) = true := by rw [beq_iff_eq]; omega
    clear hz hn
    go_enter Try.func9, Try.ntmps9
    go_wp2_with fail
    refine bodyPost_ret (v := .tuple #[.slice none 0 0, .int .i64 4]) ?_ rfl ⟨_, rfl, (Sep.init w).nil 5 1⟩
    simp [results, Try.results9]
  have q1 : ((bs.length : Int) == 0) = false := by rw [beq_eq_false_iff_ne]; omega
  by_cases h8 : 8 < bs.length
  · have h1 : E = 3 := by rw [HE.out]; unfold wrongE; rw [if_neg hz, if_pos h8]
    have h2 : O = [] := by rw [HO.out, h1]; rfl
    subst h1 h2
    have q2 : decide (8 < (bs.length : Int)) = true := by rw [decide_eq_true_iff]; omega
    clear hz hn h8
    go_enter Try.func9, Try.ntmps9
    go_wp2_with fail
    refine bodyPost_ret (v := .tuple #[.slice none 0 0, .int .i64 3]) ?_ rfl ⟨_, rfl, (Sep.init w).nil 5 1⟩
    simp [results, Try.results9]
  have q2 : decide (8 < (bs.length : Int)) = false := by rw [decide_eq_false_iff_not]; omega
  have HS := Lib.hid (((Sep.init w).made 5 1 0 #[] (by unfold maxLen; omega) rfl).made 5 1 0 #[] (by unfold maxLen; omega) rfl)
  go_enter Try.func9, Try.ntmps9
  go_wp2_with fail
  go_loopw [4, 5, 6, 7] (fun v1 v2 l i wr => ∃ (k : Nat) (u1 u2 : Value), k ≤ bs.length ∧ v1 = u1 ∧ v2 = u2 ∧ l = .bool (anyK (longB bs.length) bs k) ∧ i = .int .i64 k ∧ anyK (oddB bs.length) bs k = false ∧ (catK (hdR bs.length) bs k).length ≤ 4 * k ∧ (catK (fun _ b => b.B) bs k).length ≤ 2000 * k ∧ Sep [] w wr [sumR u1 (catK (hdR bs.length) bs k), sumR u2 (catK (fun _ b => b.B) bs k)]) (fun _ _ _ i _ => bs.length - (intOf i).toNat)
  case atStart => exact ⟨0, _, _, Nat.zero_le _, rfl, rfl, rfl, rfl, rfl, by simp [catK], by simp [catK], by have h := HS.out.swap2; rw [World.size_alloc] at h; exact h⟩
  case round =>
    obtain ⟨k, u1, u2, hk, rfl, rfl, rfl, rfl, hod, hx1, hx2, hS⟩ := hrel
    have HT := Lib.hid hS
    have HX1 := Lib.hid hx1
    have HX2 := Lib.hid hx2
    have HOd := Lib.hid hod
    clear hS hx1 hx2 hod
    obtain ⟨wo, hwo⟩ : ∃ wo : World, wo = wr := ⟨_, rfl⟩
    rw [← hwo] at HT ⊢
    clear hwo
    obtain ⟨a1, c1, rfl, z1, z2⟩ := RdI.of_own (k := .u8) (HT.out.own 0 rfl)
    obtain ⟨a2, c2, rfl, z3, hrv⟩ := RdI.of_own (k := .u8) (HT.out.own 1 rfl)
    clear z1 z2 z3 hrv
    obtain ⟨g, hg⟩ : ∃ g, g = anyK (longB bs.length) bs k := ⟨_, rfl⟩
    rw [← hg]
    have HG := Lib.hid hg
    clear hg
    by_cases hlt : k < bs.length
    · obtain ⟨x, hx⟩ : ∃ x, bs[k]? = some x := ⟨_, List.getElem?_eq_getElem hlt⟩
      obtain ⟨bb, bo, rfl, _, hc⟩ := (HR.out _ HT.out.frm).1 k x.row (by rw [List.getElem?_map, hx]; rfl)
      obtain ⟨pB, cB, hbv, hrB, hnB⟩ := (HR.out _ HT.out.frm).2 x (List.mem_of_getElem? hx)
      have hxl := HL.out x (List.mem_of_getElem? hx)
      have HSo := Lib.hid (anyK_succ (oddB bs.length) hx)
      have HSl := Lib.hid (anyK_succ (longB bs.length) hx)
      have HSh := Lib.hid (catK_succ (hdR bs.length) hx)
      have HSd := Lib.hid (catK_succ (fun _ b => b.B) hx)
      have HSx := Lib.hid (fun h => anyK_true (f := oddB bs.length) hlt hx h)
      obtain ⟨pt, off, bv, B⟩ := x
      simp only at hbv hxl hrB
      subst hbv
      have d0 : wo.cell? ⟨bb, bo + k * 3, none⟩ = some (.int .i64 pt) := hc 0 _ rfl
      have d1 : wo.cell? ⟨bb, bo + k * 3 + 1, none⟩ = some (.int .i64 off) := hc 1 _ rfl
      have d2 : wo.cell? ⟨bb, bo + k * 3 + 2, none⟩ = some (.slice pB B.length cB) := hc 2 _ rfl
      have i1 : (0 : Int) ≤ (k : Int) := by omega
      have i2 : (k : Int) < (bs.length : Int) := by omega
      have HTx := Lib.hid (HT.out.alloc #[.int .i64 pt, .int .i64 off, .slice pB B.length cB] 50)
      have hxm := List.mem_of_getElem? hx
      have HrB := Lib.hid (fun X (hX : Frm [] w X) => show RdI .u8 X pB B from by
        obtain ⟨pq, cq, e1, h, _⟩ := (HR.out X hX).2 _ hxm
        simp only at e1 h
        injection e1 with e1 e2 e3
        subst e1
        exact h)
      clear hc hx hrB hnB hxm
      go_upto_region 11 with (fail)
      go_cut [56] (fun v wx => v = .bool (oddB bs.length k ⟨pt, off, .slice pB B.length cB, B⟩) ∧ wx = wo.alloc (.cells #[.int .i64 pt, .int .i64 off, .slice pB B.length cB] 50))
      case first =>
        by_cases h0 : pt < 0
        · have hv := Lib.hid (show oddB bs.length k ⟨pt, off, .slice pB B.length cB, B⟩ = true by simp [oddB]; omega)
          have q3 : decide (pt < 0) = true := decide_eq_true h0
          clear h0
          go_wp2_with fail
          go_meet
          exact ⟨by rw [hv.out], rfl⟩
        have q3 : decide (pt < 0) = false := decide_eq_false h0
        by_cases h1 : 127 < pt
        · have hv := Lib.hid (show oddB bs.length k ⟨pt, off, .slice pB B.length cB, B⟩ = true by simp [oddB]; omega)
          have q4 : decide (127 < pt) = true := decide_eq_true h1
          clear h0 h1
          go_wp2_with fail
          go_meet
          exact ⟨by rw [hv.out], rfl⟩
        have q4 : decide (127 < pt) = false := decide_eq_false h1
        by_cases h2 : off < 0
        · have hv := Lib.hid (show oddB bs.length k ⟨pt, off, .slice pB B.length cB, B⟩ = true by simp [oddB]; omega)
          have q5 : decide (off < 0) = true := decide_eq_true h2
          clear h0 h1 h2
          go_wp2_with fail
          go_meet
          exact ⟨by rw [hv.out], rfl⟩
        have q5 : decide (off < 0) = false := decide_eq_false h2
        by_cases h3 : 16383 < off
        · have hv := Lib.hid (show oddB bs.length k ⟨pt, off, .slice pB B.length cB, B⟩ = true by simp [oddB]; omega)
          have q6 : decide (16383 < off) = true := decide_eq_true h3
          clear h0 h1 h2 h3
          go_wp2_with fail
          go_meet
          exact ⟨by rw [hv.out], rfl⟩
        have q6 : decide (16383 < off) = false := decide_eq_false h3
        by_cases h4 : k + 1 = bs.length
        · have q7 : ((k : Int) == (bs.length : Int) - 1) = true := by rw [beq_iff_eq]; omega
          by_cases h5 : off = 0
          · have hv := Lib.hid (show oddB bs.length k ⟨pt, off, .slice pB B.length cB, B⟩ = false by simp [oddB]; omega)
            have q8 : (off != 0) = false := by simp [h5]
            clear h0 h1 h2 h3 h4 h5
            go_wp2_with fail
            go_meet
            exact ⟨by rw [hv.out], rfl⟩
          · have hv := Lib.hid (show oddB bs.length k ⟨pt, off, .slice pB B.length cB, B⟩ = true by simp [oddB, h4, h5])
            have q8 : (off != 0) = true := by simp [h5]
            clear h0 h1 h2 h3 h4 h5
            go_wp2_with fail
            go_meet
            exact ⟨by rw [hv.out], rfl⟩
        · have q7 : ((k : Int) == (bs.length : Int) - 1) = false := by rw [beq_eq_false_iff_ne]; omega
          have hv := Lib.hid (show oddB bs.length k ⟨pt, off, .slice pB B.length cB, B⟩ = false by simp [oddB, h4]; omega)
          clear h0 h1 h2 h3 h4
          go_wp2_with fail
          go_meet
          exact ⟨by rw [hv.out], rfl⟩
      case rest =>
        obtain ⟨rfl, rfl⟩ := hcut
        cases ho : oddB bs.length k ⟨pt, off, .slice pB B.length cB, B⟩ with
        | true =>
          have h1 : E = 1 := by rw [HE.out]; unfold wrongE; rw [if_neg hz, if_neg h8, if_pos (HSx.out ho)]
          have h2 : O = [] := by rw [HO.out, h1]; rfl
          subst h1 h2
          go_wp2_with fail
          refine bodyPost_ret (v := .tuple #[.slice none 0 0, .int .i64 1]) ?_ rfl ⟨_, rfl, ((Sep.init w).keep HTx.out.frm).nil 5 1⟩
          simp [results, Try.results9]
        | false =>
          have HOd2 := Lib.hid (show anyK (oddB bs.length) bs (k + 1) = false by rw [HSo.out, HOd.out, ho]; rfl)
          obtain ⟨bx, hbx⟩ : ∃ bx, bx = wo.heap.size := ⟨_, rfl⟩
          obtain ⟨wb, hwb⟩ : ∃ wb, wb = wo.alloc (.cells #[.int .i64 pt, .int .i64 off, .slice pB B.length cB] 50) := ⟨_, rfl⟩
          rw [← hbx, ← hwb] at HTx
          rw [← hbx, ← hwb]
          have k0 := (HTx.out.blk 0 rfl).cell 0 rfl
          have k1 := (HTx.out.blk 0 rfl).cell 1 rfl
          have k2 := (HTx.out.blk 0 rfl).cell 2 rfl
          clear hbx hwb d0 d1 d2 HT
          by_cases hlast : k + 1 = bs.length
          · have q3 : ((k : Int) == (bs.length : Int) - 1) = true := by rw [beq_iff_eq]; omega
            have hlb : longB bs.length k ⟨pt, off, .slice pB B.length cB, B⟩ = false := by simp [longB]; omega
            have HSk := Lib.hid (show anyK (longB bs.length) bs (k + 1) = g by rw [HSl.out, hlb, Bool.or_false, HG.out])
            have hv : hdR bs.length k ⟨pt, off, .slice pB B.length cB, B⟩ = [pt] := by unfold hdR; rw [if_pos hlast]
            have HV := Lib.hid hv
            have hp : 0 ≤ pt ∧ pt ≤ 127 := by simp [oddB] at ho; omega
            have e3 : IntKind.u8.wrap pt = pt := by rw [IntKind.wrap_u8]; omega
            have hn1 : (catK (hdR bs.length) bs k).length ≤ 1000 := by have := HX1.out; omega
            clear hlb hv hp ho
            go_wp2_with (at_builtin; go_must (refine wpList_append_sep rfl _ _ 25 rfl 1 5 iu (.int .u8 0) 1 Try.underlying25 hi hz0 hz1 hz2 rfl _ _ _ rfl (HTx.out.skip _) rfl _ 1 (.int .u8 pt) rfl (World.cell?_alloc_at _ _ _ _ rfl) rfl (by unfold maxLen; omega) (by omega) ?_); intro g4 c4 w4 hS4; have HS4 := Lib.hid hS4; have k4 := (hS4.blk 0 rfl).cell 2 rfl; clear hS4)
            have HT2 := Lib.hid (show Sep [] w w4 [sumR (.slice (some ⟨g4, 0, none⟩) ((catK (hdR bs.length) bs k).length + 1) c4) (catK (hdR bs.length) bs (k + 1)), sumR (.slice a2 (catK (fun _ b => b.B) bs k).length c2) (catK (fun _ b => b.B) bs k)] from by
              rw [HSh.out, HV.out]
              unfold sumR
              rw [List.map_append, List.length_append]
              exact HS4.out.rest)
            have HX3 := Lib.hid (show (catK (hdR bs.length) bs (k + 1)).length ≤ 4 * (k + 1) by rw [HSh.out, List.length_append, HV.out]; have := HX1.out; simp only [List.length_cons, List.length_nil]; omega)
            obtain ⟨a', c', e1, _, hrv⟩ := RdI.of_own (k := .u8) (HT2.out.own 1 rfl)
            injection e1 with e1 e2 e3
            subst e1 e3
            have HRv := Lib.hid hrv
            clear hrv e2
            have HJ := Lib.hid (join_c (some ⟨w4.heap.size, 0, none⟩) 2 [⟨a2, c2, catK (fun _ b => b.B) bs k⟩, ⟨pB, cB, B⟩] (w4.alloc (.cells #[.slice a2 (catK (fun _ b => b.B) bs k).length c2, .slice pB B.length cB] 25)) (fun i p hi => by
              match i, hi with
              | 0, hi => simp at hi; subst hi; exact ⟨_, 0, rfl, by simp, World.cell?_alloc_at _ _ _ _ rfl, HRv.out.below ((Below.refl _ _).alloc (Nat.le_refl _) _)⟩
              | 1, hi => simp at hi; subst hi; exact ⟨_, 0, rfl, by simp, World.cell?_alloc_at _ _ _ _ rfl, (HrB.out _ HT2.out.frm).below ((Below.refl _ _).alloc (Nat.le_refl _) _)⟩
              | _ + 2, hi => simp at hi) (by simp) (by simp [flatZ]; have := HX2.out; omega))
            go_wp2_with fail
            refine HJ.out.mono ?_
            rintro e w3 ⟨v3, rfl, hS3⟩
            simp only [flatZ, List.flatMap_cons, List.flatMap_nil, List.append_nil] at hS3
            have HT3 := Lib.hid (((HT2.out.skip _).more hS3).pick (L' := [_, _]) (L2 := [_]) (List.Perm.swap _ _ _))
            clear hS3 HJ
            go_wp2_with fail
            go_roundw
            case rel => exact ⟨k + 1, _, v3, by omega, rfl, rfl, by rw [HSk.out], by go_num, HOd2.out, HX3.out, by rw [HSd.out, List.length_append]; have := HX2.out; omega, by rw [HSd.out]; exact HT3.out⟩
            case measure => simp [intOf]; omega
          · have q3 : ((k : Int) == (bs.length : Int) - 1) = false := by rw [beq_eq_false_iff_ne]; omega
            have hv : hdR bs.length k ⟨pt, off, .slice pB B.length cB, B⟩ = (pt + 128) :: bigN' (off * 1024 + (B.length : Int) % 1024) 3 := by unfold hdR; rw [if_neg hlast]
            have HV := Lib.hid hv
            have hp : 0 ≤ pt ∧ pt ≤ 127 ∧ 0 ≤ off ∧ off ≤ 16383 := by simp [oddB] at ho; omega
            obtain ⟨p0, p1, o0, o1⟩ := hp
            have HLq := Lib.hid (show longB bs.length k ⟨pt, off, .slice pB B.length cB, B⟩ = decide (1023 < B.length) by simp [longB]; intro _; omega)
            clear hv ho hlast
            go_upto_region 15 with (fail)
            go_cut [6] (fun v wx => v = .bool (anyK (longB bs.length) bs (k + 1)) ∧ wx = wb)
            case first =>
              cases g with
              | true =>
                go_wp2_with fail
                go_meet
                exact ⟨by rw [HSl.out, ← HG.out]; rfl, rfl⟩
              | false =>
                by_cases h9 : 1023 < B.length
                · have q9 : decide (1023 < (B.length : Int)) = true := by rw [decide_eq_true_iff]; omega
                  have H9 := Lib.hid (decide_eq_true h9)
                  clear h9
                  go_wp2_with fail
                  go_meet
                  exact ⟨by rw [HSl.out, ← HG.out, HLq.out, H9.out]; rfl, rfl⟩
                · have q9 : decide (1023 < (B.length : Int)) = false := by rw [decide_eq_false_iff_not]; omega
                  have H9 := Lib.hid (decide_eq_false h9)
                  clear h9
                  go_wp2_with fail
                  go_meet
                  exact ⟨by rw [HSl.out, ← HG.out, HLq.out, H9.out]; rfl, rfl⟩
            case rest =>
              obtain ⟨rfl, rfl⟩ := hcut
              have e5 : IntKind.i64.wrap (pt + 128) = pt + 128 := wrapI64 (by omega) (by omega)
              have e6 : IntKind.u8.wrap (pt + 128) = pt + 128 := by rw [IntKind.wrap_u8]; omega
              have e7 : IntKind.i64.wrap (off * 1024) = off * 1024 := wrapI64 (by omega) (by omega)
              have e8 : Int.tmod (B.length : Int) 1024 = (B.length : Int) % 1024 := Int.tmod_eq_emod_of_nonneg (Int.natCast_nonneg _)
              have e9 : IntKind.i64.wrap (off * 1024 + (B.length : Int) % 1024) = off * 1024 + (B.length : Int) % 1024 := wrapI64 (by omega) (by omega)
              have e10 : IntKind.u64.wrap (off * 1024 + (B.length : Int) % 1024) = off * 1024 + (B.length : Int) % 1024 := by rw [IntKind.wrap_u64]; omega
              have HBl := Lib.hid (bigN'_len (off * 1024 + (B.length : Int) % 1024) 3)
              have hn1 : (catK (hdR bs.length) bs k).length ≤ 1000 := by have := HX1.out; omega
              have e11 : IntKind.i64.wrap ((B.length : Int) % 1024) = (B.length : Int) % 1024 := wrapI64 (by omega) (by omega)
              go_upto_region 16 with (fail)
              have HN1 := Lib.hid (show (catK (hdR bs.length) bs k).length + (1 + (bigN' (off * 1024 + (B.length : Int) % 1024) 3).length) ≤ 1000000 by rw [HBl.out]; omega)
              have HB0 := Lib.hid (show 0 ≤ off * 1024 + (B.length : Int) % 1024 by omega)
              have HB1 := Lib.hid (show off * 1024 + (B.length : Int) % 1024 < 18446744073709551616 by omega)
              clear hn1
              have HBC := Lib.hid (fun W => rbig_c (off * 1024 + (B.length : Int) % 1024) 3 3 rfl (by decide) HB0.out HB1.out W)
              go_region_held3 (fun wx => wx.cell? ⟨bx, 0, none⟩ = some (.int .i64 pt) ∧ wx.cell? ⟨bx, 1, none⟩ = some (.int .i64 off) ∧ wx.cell? ⟨bx, 2, none⟩ = some (.slice pB B.length cB)) (first | go_keep | exact ⟨k0, k1, k2⟩ | exact ⟨j0, j1, j2⟩ | exact ⟨m0, m1, m2⟩) (first | (go_at_call 25; (with_reducible refine (HBC.out _).mono ?_); rintro e w5 ⟨vb, rfl, hSb⟩; obtain ⟨ab, cb, rfl, _, hrb⟩ := RdI.of_own (k := .u8) (hSb.own 0 rfl); have HT5 := Lib.hid (((HTx.out.alloc #[.int .u8 (pt + 128)] 5).drew).more hSb); have HRb := Lib.hid hrb; have j0 := (HT5.out.blk 2 rfl).cell 0 rfl; have j1 := (HT5.out.blk 2 rfl).cell 1 rfl; have j2 := (HT5.out.blk 2 rfl).cell 2 rfl; clear hSb hrb) | (go_at_call 25; (with_reducible refine (HBC.out _).mono ?_); rintro e w5 ⟨vb, rfl, hSb⟩; obtain ⟨ab, cb, rfl, _, hrb⟩ := RdI.of_own (k := .u8) (hSb.own 0 rfl); have HT5 := Lib.hid ((HTx.out.drew).more hSb); have HRb := Lib.hid hrb; have j0 := (HT5.out.blk 1 rfl).cell 0 rfl; have j1 := (HT5.out.blk 1 rfl).cell 1 rfl; have j2 := (HT5.out.blk 1 rfl).cell 2 rfl; clear hSb hrb) | (go_at_call 24; (with_reducible refine (join3_c (z1 := catK (hdR bs.length) bs k) (z2 := [pt + 128]) (z3 := bigN' (off * 1024 + (B.length : Int) % 1024) 3) (Blk.made _ _ _) ?_ ?_ ?_ ?_ ?_ ?_ HN1.out).mono ?_); exact (RdI.own (HT5.out.own 3 rfl)).alloc _; exact (RdI.of_blk (HT5.out.blk 1 rfl) (zs := [pt + 128]) rfl).alloc _; exact HRb.out.alloc _; rfl; rfl; rfl; rintro e w6 ⟨v6, rfl, hS6⟩; have HT6 := Lib.hid (((HT5.out.skip _).more hS6).at_ [0, 5, 3] (by decide) rfl); have m0 := (HT6.out.blk 2 rfl).cell 0 rfl; have m1 := (HT6.out.blk 2 rfl).cell 1 rfl; have m2 := (HT6.out.blk 2 rfl).cell 2 rfl; clear hS6) | (go_at_call 24; (with_reducible refine (join3_c (z1 := catK (hdR bs.length) bs k) (z2 := [pt + 128]) (z3 := bigN' (off * 1024 + (B.length : Int) % 1024) 3) (blk_made_at (World.size_alloc _ _).symm) ?_ ?_ ?_ ?_ ?_ ?_ HN1.out).mono ?_); exact ((RdI.own (HT5.out.own 2 rfl)).alloc _).alloc _; exact (RdI.of_blk (Blk.made _ _ _) (zs := [pt + 128]) rfl).alloc _; exact (HRb.out.alloc _).alloc _; rfl; rfl; rfl; rintro e w6 ⟨v6, rfl, hS6⟩; have HT6 := Lib.hid ((((HT5.out.skip _).skip _).more hS6).at_ [0, 4, 2] (by decide) rfl); have m0 := (HT6.out.blk 2 rfl).cell 0 rfl; have m1 := (HT6.out.blk 2 rfl).cell 1 rfl; have m2 := (HT6.out.blk 2 rfl).cell 2 rfl; clear hS6) | fail)
              all_goals
                clear m0 m1
                have hx3 : (catK (hdR bs.length) bs (k + 1)).length ≤ 4 * (k + 1) := by rw [HSh.out, List.length_append, HV.out, List.length_cons, HBl.out]; have := HX1.out; omega
                have HX3 := Lib.hid hx3
                have hx4 : (catK (fun _ b => b.B) bs k).length + B.length ≤ 1000000 := by have := HX2.out; omega
                have HX4 := Lib.hid hx4
                have HV6 := Lib.hid (show catK (hdR bs.length) bs k ++ ([pt + 128] ++ bigN' (off * 1024 + (B.length : Int) % 1024) 3) = catK (hdR bs.length) bs (k + 1) by rw [HSh.out, HV.out]; rfl)
                clear hx3 hx4 k0 k1 k2 j0 j1 j2
                go_wp2_with fail
                refine (join2_c (Blk.made _ _ _) ((RdI.own (HT6.out.own 1 rfl)).alloc _) ((HrB.out _ HT6.out.frm).alloc _) rfl rfl HX4.out).mono ?_
                rintro e w7 ⟨v7, rfl, hS7⟩
                have HT7 := Lib.hid (((HT6.out.skip _).more hS7).pick (L' := [_, _]) (L2 := [_, _]) (List.Perm.swap _ _ _))
                clear hS7
                go_wp2_with fail
                go_roundw
                case rel => exact ⟨k + 1, v6, v7, by omega, rfl, rfl, rfl, by go_num, HOd2.out, HX3.out, by rw [HSd.out, List.length_append]; have := HX2.out; omega, by rw [HSd.out, ← HV6.out]; exact HT7.out⟩
                case measure => simp [intOf]; omega
    · obtain rfl : k = bs.length := by omega
      have b1 : (catK (hdR bs.length) bs bs.length).length ≤ 100 := by have := HX1.out; omega
      have b2 : (catK (fun _ b => b.B) bs bs.length).length ≤ 100000 := by have := HX2.out; omega
      have hlg := long_iff (bs := bs) (by omega)
      rw [← hdR_cat_len bs.length bs.length (Nat.le_refl _)] at hlg
      have HCt := Lib.hid (hdR_cat bs.length (bs := bs) rfl bs.length (Nat.le_refl _))
      obtain ⟨l1, h1⟩ : ∃ l : Nat, l = (catK (hdR bs.length) bs bs.length).length := ⟨_, rfl⟩
      obtain ⟨l2, h2⟩ : ∃ l : Nat, l = (catK (fun _ b => b.B) bs bs.length).length := ⟨_, rfl⟩
      rw [← h1, ← h2] at HT
      rw [← h1] at b1 hlg
      rw [← h2] at b2 hlg
      rw [← h1, ← h2]
      have H1 := Lib.hid h1
      have H2 := Lib.hid h2
      clear h1 h2 hlt
      cases g with
      | true =>
        have e1 : E = 2 := by rw [HE.out]; unfold wrongE; rw [if_neg hz, if_neg h8, if_neg (by rw [HOd.out]; simp), if_pos (.inl HG.out.symm)]
        have e2 : O = [] := by rw [HO.out, e1]; rfl
        subst e1 e2
        clear hlg hz h8
        go_wp2_with fail
        refine bodyPost_ret (v := .tuple #[.slice none 0 0, .int .i64 2]) ?_ rfl ⟨_, rfl, ((Sep.init w).keep HT.out.frm).nil 5 1⟩
        simp [results, Try.results9]
      | false =>
        by_cases h15 : 1500 < (l1 : Int) + (l2 : Int)
        · have e1 : E = 2 := by rw [HE.out]; unfold wrongE; rw [if_neg hz, if_neg h8, if_neg (by rw [HOd.out]; simp), if_pos (.inr (hlg.2 h15))]
          have e2 : O = [] := by rw [HO.out, e1]; rfl
          subst e1 e2
          have q15 : decide (1500 < (l1 : Int) + (l2 : Int)) = true := decide_eq_true h15
          clear hlg hz h8 h15
          go_wp2_with fail
          refine bodyPost_ret (v := .tuple #[.slice none 0 0, .int .i64 2]) ?_ rfl ⟨_, rfl, ((Sep.init w).keep HT.out.frm).nil 5 1⟩
          simp [results, Try.results9]
        · have e1 : E = 0 := by
            rw [HE.out]; unfold wrongE
            rw [if_neg hz, if_neg h8, if_neg (by rw [HOd.out]; simp), if_neg (by rw [← HG.out]; simp only [Bool.false_eq_true, false_or]; exact fun h => h15 (hlg.1 h))]
          have e2 : O = bytesB bs := by rw [HO.out, e1]; rfl
          have HEq := Lib.hid (show catK (hdR bs.length) bs bs.length ++ catK (fun _ b => b.B) bs bs.length = O by rw [e2, HCt.out HG.out.symm]; rfl)
          subst e1
          have q15 : decide (1500 < (l1 : Int) + (l2 : Int)) = false := decide_eq_false h15
          clear hlg hz h8 h15 e2
          go_wp2_with fail
          refine (join2_c (Blk.made _ _ _) ((RdI.own (HT.out.own 0 rfl)).alloc _) ((RdI.own (HT.out.own 1 rfl)).alloc _) H1.out.symm H2.out.symm (by omega)).mono ?_
          rintro e w7 ⟨v7, rfl, hS7⟩
          have HT7 := Lib.hid (sep_rebase (HT.out.skip _).frm hS7)
          rw [HEq.out] at HT7
          clear hS7
          go_wp2_with fail
          refine bodyPost_ret (v := .tuple #[v7, .int .i64 0]) ?_ rfl ⟨v7, rfl, HT7.out⟩
          simp [results, Try.results9]

end Go.Proofs.Ytiknjkkphdncfaa
