/-
  THE WALKS of red.rightPT and red.wrong.
-/
import Derived.Test.YtiknjkkphdncfaaReC
import Derived.Deep.DeepCutAuto
set_option linter.unusedVariables false
set_option linter.unusedSimpArgs false
namespace Go.Proofs.Ytiknjkkphdncfaa
open Go.RowKit

theorem right_c (n : Int) (w : World) :
    Calls Try.prog 28 #[.int .i64 n] w fun e w' => e = .returned (.bool (decide (0 ≤ n ∧ n ≤ 127))) ∧ w = w' := by
  by_cases h0 : 0 ≤ n
  · by_cases h1 : n ≤ 127
    · have t0 : decide (0 ≤ n) = true := decide_eq_true h0
      have t1 : decide (n ≤ 127) = true := decide_eq_true h1
      rw [decide_eq_true ⟨h0, h1⟩]
      clear h0 h1
      go_enter Try.func28, Try.ntmps28
      go_wp2_with fail
      go_ret
      exact ⟨rfl, rfl⟩
    · have t0 : decide (0 ≤ n) = true := decide_eq_true h0
      have t1 : decide (n ≤ 127) = false := decide_eq_false h1
      rw [decide_eq_false (fun h => h1 h.2)]
      clear h0 h1
      go_enter Try.func28, Try.ntmps28
      go_wp2_with fail
      go_ret
      exact ⟨rfl, rfl⟩
  · have t0 : decide (0 ≤ n) = false := decide_eq_false h0
    rw [decide_eq_false (fun h => h0 h.1)]
    clear h0
    go_enter Try.func28, Try.ntmps28
    go_wp2_with fail
    go_ret
    exact ⟨rfl, rfl⟩

/-- What is odd of a block; what is long. -/
def oddB (n i : Nat) (b : BkV) : Bool := !decide (0 ≤ b.pt ∧ b.pt ≤ 127) || decide (b.off < 0) || decide (16383 < b.off) || (decide (i + 1 = n) && decide (b.off ≠ 0))
def longB (n i : Nat) (b : BkV) : Bool := decide (i + 1 < n) && decide (1023 < b.B.length)
def oddK (n : Nat) : List BkV → Nat → Bool
  | [], _ => false
  | b :: bs, i => oddB n i b || oddK n bs (i + 1)
def anyK (f : Nat → BkV → Bool) (bs : List BkV) (k : Nat) : Bool := (List.range k).any fun i => match bs[i]? with | some b => f i b | none => false
theorem anyK_succ (f : Nat → BkV → Bool) {bs : List BkV} {k : Nat} {b : BkV} (h : bs[k]? = some b) : anyK f bs (k + 1) = (anyK f bs k || f k b) := by
  unfold anyK
  rw [List.range_succ, List.any_append]
  simp [h]
/-- The size, as it is reckoned. -/
def sizK (n : Nat) (bs : List BkV) : Nat → Int
  | 0 => 1
  | k + 1 => (if sizK n bs k + (match bs[k]? with | some b => (b.B.length : Int) | none => 0) < 1501 then sizK n bs k + (match bs[k]? with | some b => (b.B.length : Int) | none => 0) else 1501) + (if k + 1 < n then 4 else 0)
theorem sizK_succ {n : Nat} {bs : List BkV} {k : Nat} {b : BkV} (h : bs[k]? = some b) : sizK n bs (k + 1) = (if sizK n bs k + (b.B.length : Int) < 1501 then sizK n bs k + (b.B.length : Int) else 1501) + (if k + 1 < n then 4 else 0) := by
  show (if sizK n bs k + (match bs[k]? with | some b => (b.B.length : Int) | none => 0) < 1501 then sizK n bs k + (match bs[k]? with | some b => (b.B.length : Int) | none => 0) else 1501) + _ = _
  rw [h]
theorem sizK_bd (n : Nat) (bs : List BkV) : ∀ k, 1 ≤ sizK n bs k ∧ sizK n bs k ≤ 1505 := by
  intro k
  induction k with
  | zero => simp [sizK]
  | succ k ih =>
    show 1 ≤ (if sizK n bs k + (match bs[k]? with | some b => (b.B.length : Int) | none => 0) < 1501 then sizK n bs k + (match bs[k]? with | some b => (b.B.length : Int) | none => 0) else 1501) + _ ∧ _
    have h0 : 0 ≤ (match bs[k]? with | some b => (b.B.length : Int) | none => 0) := by
      split
      · exact Int.natCast_nonneg _
      · exact Int.le_refl _
    obtain ⟨x, hx⟩ : ∃ x, x = (match bs[k]? with | some b => (b.B.length : Int) | none => 0) := ⟨_, rfl⟩
    show 1 ≤ (if sizK n bs k + (match bs[k]? with | some b => (b.B.length : Int) | none => 0) < 1501 then sizK n bs k + (match bs[k]? with | some b => (b.B.length : Int) | none => 0) else 1501) + (if k + 1 < n then (4 : Int) else 0) ∧ (if sizK n bs k + (match bs[k]? with | some b => (b.B.length : Int) | none => 0) < 1501 then sizK n bs k + (match bs[k]? with | some b => (b.B.length : Int) | none => 0) else 1501) + (if k + 1 < n then (4 : Int) else 0) ≤ 1505
    rw [← hx] at h0 ⊢
    split <;> split <;> omega
/-- What is wrong with blocks. -/
def wrongE (bs : List BkV) : Int :=
  if bs.length = 0 then 4 else if 8 < bs.length then 3 else if anyK (oddB bs.length) bs bs.length = true then 1 else if anyK (longB bs.length) bs bs.length = true ∨ 1500 < sizK bs.length bs bs.length then 2 else 0
/-- Blocks, read. -/
def RdBs (w : World) (a : Option Addr) (bs : List BkV) : Prop :=
  RdS 3 w a (bs.map BkV.row) ∧ ∀ b ∈ bs, ∃ p c, b.bv = .slice p b.B.length c ∧ RdI .u8 w p b.B ∧ (p = none → c = 0)
theorem RdBs.frm {w w' : World} {a : Option Addr} {bs : List BkV} (h : RdBs w a bs) (hf : Frm [] w w') : RdBs w' a bs :=
  ⟨h.1.low hf (by simp), fun b hb => by obtain ⟨p, c, h1, h2, h3⟩ := h.2 b hb; exact ⟨p, c, h1, h2.below hf.below, h3⟩⟩

set_option maxRecDepth 100000 in
set_option maxHeartbeats 16000000 in
theorem wrong_c (w : World) (a : Option Addr) (c : Nat) (bs : List BkV) (hb : RdBs w a bs) (hn : bs.length ≤ 1000000) (hl : ∀ b ∈ bs, b.B.length ≤ 1000000) :
    Calls Try.prog 19 #[.slice a bs.length c] w fun e w' => e = .returned (.int .i64 (wrongE bs)) ∧ Frm [] w w' := by
  have HR := Lib.hid (fun X (hX : Frm [] w X) => hb.frm hX)
  have HL := Lib.hid hl
  have HS := Lib.hid (Sep.init w)
  obtain ⟨E, hE⟩ : ∃ E, E = wrongE bs := ⟨_, rfl⟩
  rw [← hE]
  have HE0 := Lib.hid hE
  clear hb hl hE
  go_enter Try.func19, Try.ntmps19
  go_wp2_with fail
  go_loopw [4, 5, 6, 14] (fun o l s i wr => ∃ (k : Nat) (z : Int), k ≤ bs.length ∧ o = .bool (anyK (oddB bs.length) bs k) ∧ l = .bool (anyK (longB bs.length) bs k) ∧ s = .int .i64 z ∧ z = sizK bs.length bs k ∧ i = .int .i64 k ∧ Sep [] w wr []) (fun _ _ _ i _ => bs.length - (intOf i).toNat)
  case atStart => exact ⟨0, 1, Nat.zero_le _, rfl, rfl, rfl, rfl, rfl, HS.out⟩
  case round =>
    obtain ⟨k, z, hk, rfl, rfl, rfl, hz, rfl, hS⟩ := hrel
    have HT := Lib.hid hS
    have HZ := Lib.hid hz
    have zb := sizK_bd bs.length bs k
    rw [← hz] at zb
    obtain ⟨z0, z1⟩ := zb
    clear hS hz
    obtain ⟨wo, hwo⟩ : ∃ wo : World, wo = wr := ⟨_, rfl⟩
    rw [← hwo] at HT ⊢
    clear hwo
    by_cases hlt : k < bs.length
    · obtain ⟨x, hx⟩ : ∃ x, bs[k]? = some x := ⟨_, List.getElem?_eq_getElem hlt⟩
      obtain ⟨bb, bo, rfl, _, hc⟩ := (HR.out _ HT.out.frm).1 k x.row (by rw [List.getElem?_map, hx]; rfl)
      obtain ⟨pB, cB, hbv, _⟩ := (HR.out _ HT.out.frm).2 x (List.mem_of_getElem? hx)
      have hxl := HL.out x (List.mem_of_getElem? hx)
      have HO := Lib.hid (anyK_succ (oddB bs.length) hx)
      have HG := Lib.hid (anyK_succ (longB bs.length) hx)
      have HQ := Lib.hid (sizK_succ (n := bs.length) hx)
      obtain ⟨pt, off, bv, B⟩ := x
      simp only at hbv hxl
      subst hbv
      have d0 : wo.cell? ⟨bb, bo + k * 3, none⟩ = some (.int .i64 pt) := hc 0 _ rfl
      have d1 : wo.cell? ⟨bb, bo + k * 3 + 1, none⟩ = some (.int .i64 off) := hc 1 _ rfl
      have d2 : wo.cell? ⟨bb, bo + k * 3 + 2, none⟩ = some (.slice pB B.length cB) := hc 2 _ rfl
      have i1 : (0 : Int) ≤ (k : Int) := by omega
      have i2 : (k : Int) < (bs.length : Int) := by omega
      have HTx := Lib.hid (HT.out.skip (.cells #[.int .i64 pt, .int .i64 off, .slice pB B.length cB] 50))
      clear hc hx
      obtain ⟨o, ho⟩ : ∃ o, o = anyK (oddB bs.length) bs k := ⟨_, rfl⟩
      obtain ⟨g, hg⟩ : ∃ g, g = anyK (longB bs.length) bs k := ⟨_, rfl⟩
      rw [← ho] at HO ⊢
      rw [← hg] at HG ⊢
      clear ho hg
      go_upto_region 6 with (fail)
      go_cut [4] (fun v wx => v = .bool (anyK (oddB bs.length) bs (k + 1)) ∧ wx = wo.alloc (.cells #[.int .i64 pt, .int .i64 off, .slice pB B.length cB] 50))
      case first =>
        have HTx2 := HTx
        clear HTx2
        cases o with
        | true =>
          go_wp2_with fail
          go_meet
          exact ⟨by rw [HO.out]; rfl, rfl⟩
        | false =>
          have HRt := Lib.hid (right_c pt)
          by_cases hp : 0 ≤ pt ∧ pt ≤ 127
          · rw [decide_eq_true hp] at HRt
            by_cases h1 : off < 0
            · have hv := Lib.hid (show oddB bs.length k ⟨pt, off, .slice pB B.length cB, B⟩ = true by simp [oddB, h1])
              have q1 : decide (off < 0) = true := decide_eq_true h1
              clear hp h1
              go_wp2_with fail
              refine (HRt.out _).mono ?_
              rintro e w' ⟨rfl, rfl⟩
              go_wp2_with fail
              go_meet
              exact ⟨by rw [HO.out, hv.out]; rfl, rfl⟩
            · have q1 : decide (off < 0) = false := decide_eq_false h1
              by_cases h2 : 16383 < off
              · have hv := Lib.hid (show oddB bs.length k ⟨pt, off, .slice pB B.length cB, B⟩ = true by simp [oddB, h2])
                have q2 : decide (16383 < off) = true := decide_eq_true h2
                clear hp h1 h2
                go_wp2_with fail
                refine (HRt.out _).mono ?_
                rintro e w' ⟨rfl, rfl⟩
                go_wp2_with fail
                go_meet
                exact ⟨by rw [HO.out, hv.out]; rfl, rfl⟩
              · have q2 : decide (16383 < off) = false := decide_eq_false h2
                by_cases h3 : k + 1 = bs.length
                · have q3 : ((k : Int) == (bs.length : Int) - 1) = true := by rw [beq_iff_eq]; omega
                  by_cases h4 : off = 0
                  · have hv := Lib.hid (show oddB bs.length k ⟨pt, off, .slice pB B.length cB, B⟩ = false by simp [oddB, hp, h4])
                    have q4 : (off != 0) = false := by simp [h4]
                    clear hp h1 h2 h3 h4
                    go_wp2_with fail
                    refine (HRt.out _).mono ?_
                    rintro e w' ⟨rfl, rfl⟩
                    go_wp2_with fail
                    go_meet
                    exact ⟨by rw [HO.out, hv.out]; rfl, rfl⟩
                  · have hv := Lib.hid (show oddB bs.length k ⟨pt, off, .slice pB B.length cB, B⟩ = true by simp [oddB, h3, h4])
                    have q4 : (off != 0) = true := by simp [h4]
                    clear hp h1 h2 h3 h4
                    go_wp2_with fail
                    refine (HRt.out _).mono ?_
                    rintro e w' ⟨rfl, rfl⟩
                    go_wp2_with fail
                    go_meet
                    exact ⟨by rw [HO.out, hv.out]; rfl, rfl⟩
                · have q3 : ((k : Int) == (bs.length : Int) - 1) = false := by rw [beq_eq_false_iff_ne]; omega
                  have hv := Lib.hid (show oddB bs.length k ⟨pt, off, .slice pB B.length cB, B⟩ = false by simp [oddB, hp, h3]; omega)
                  clear hp h1 h2 h3
                  go_wp2_with fail
                  refine (HRt.out _).mono ?_
                  rintro e w' ⟨rfl, rfl⟩
                  go_wp2_with fail
                  go_meet
                  exact ⟨by rw [HO.out, hv.out]; rfl, rfl⟩
          · rw [decide_eq_false hp] at HRt
            have hv := Lib.hid (show oddB bs.length k ⟨pt, off, .slice pB B.length cB, B⟩ = true by simp [oddB, hp])
            clear hp
            go_wp2_with fail
            refine (HRt.out _).mono ?_
            rintro e w' ⟨rfl, rfl⟩
            go_wp2_with fail
            go_meet
            exact ⟨by rw [HO.out, hv.out]; rfl, rfl⟩
      case rest =>
        obtain ⟨rfl, rfl⟩ := hcut
        go_upto_region 7 with (fail)
        go_cut [5] (fun v wx => v = .bool (anyK (longB bs.length) bs (k + 1)) ∧ wx = wo.alloc (.cells #[.int .i64 pt, .int .i64 off, .slice pB B.length cB] 50))
        case first =>
          cases g with
          | true =>
            go_wp2_with fail
            go_meet
            exact ⟨by rw [HG.out]; rfl, rfl⟩
          | false =>
            by_cases h1 : k + 1 < bs.length
            · have q1 : decide ((k : Int) < (bs.length : Int) - 1) = true := by rw [decide_eq_true_iff]; omega
              by_cases h2 : 1023 < B.length
              · have hv := Lib.hid (show longB bs.length k ⟨pt, off, .slice pB B.length cB, B⟩ = true by simp [longB, h1, h2])
                have q2 : decide (1023 < (B.length : Int)) = true := by rw [decide_eq_true_iff]; omega
                clear h1 h2
                go_wp2_with fail
                go_meet
                exact ⟨by rw [HG.out, hv.out]; rfl, rfl⟩
              · have hv := Lib.hid (show longB bs.length k ⟨pt, off, .slice pB B.length cB, B⟩ = false by simp [longB, h1]; omega)
                have q2 : decide (1023 < (B.length : Int)) = false := by rw [decide_eq_false_iff_not]; omega
                clear h1 h2
                go_wp2_with fail
                go_meet
                exact ⟨by rw [HG.out, hv.out]; rfl, rfl⟩
            · have q1 : decide ((k : Int) < (bs.length : Int) - 1) = false := by rw [decide_eq_false_iff_not]; omega
              have hv := Lib.hid (show longB bs.length k ⟨pt, off, .slice pB B.length cB, B⟩ = false by simp [longB, h1])
              clear h1
              go_wp2_with fail
              go_meet
              exact ⟨by rw [HG.out, hv.out]; rfl, rfl⟩
        case rest =>
          obtain ⟨rfl, rfl⟩ := hcut
          obtain ⟨q, hq⟩ : ∃ q : Int, q = if z + (B.length : Int) < 1501 then z + (B.length : Int) else 1501 := ⟨_, rfl⟩
          have e1 : (if z + (B.length : Int) < 1501 then z + (B.length : Int) else 1501) = q := hq.symm
          have e2 : (if (1501 : Int) < z + (B.length : Int) then 1501 else z + (B.length : Int)) = q := by rw [hq]; split <;> split <;> omega
          have e3 : (if z + (B.length : Int) > 1501 then 1501 else z + (B.length : Int)) = q := by rw [hq]; split <;> split <;> omega
          have b1 : 0 ≤ q ∧ q ≤ 1501 := by rw [hq]; split <;> omega
          obtain ⟨b1, b2⟩ := b1
          have hz' := HQ.out
          simp only at hz'
          rw [← HZ.out, ← hq] at hz'
          have HZ' := Lib.hid hz'
          clear hq hz'
          by_cases h1 : k + 1 < bs.length
          · have q1 : decide ((k : Int) < (bs.length : Int) - 1) = true := by rw [decide_eq_true_iff]; omega
            have q2 : (k : Int) < (bs.length : Int) - 1 := by omega
            have HH := Lib.hid h1
            clear h1
            go_wp2_with fail
            go_roundw
            case rel => exact ⟨k + 1, q + 4, by omega, rfl, rfl, rfl, by rw [HZ'.out, if_pos HH.out], by go_num, HTx.out⟩
            case measure => simp [intOf]; omega
          · have q1 : decide ((k : Int) < (bs.length : Int) - 1) = false := by rw [decide_eq_false_iff_not]; omega
            have q2 : (bs.length : Int) - 1 ≤ (k : Int) := by omega
            have HH := Lib.hid h1
            clear h1
            go_wp2_with fail
            go_roundw
            case rel => exact ⟨k + 1, q, by omega, rfl, rfl, rfl, by rw [HZ'.out, if_neg HH.out, Int.add_zero], by go_num, HTx.out⟩
            case measure => simp [intOf]; omega
    · obtain rfl : k = bs.length := by omega
      have hE2 : E = if bs.length = 0 then 4 else if 8 < bs.length then 3 else if anyK (oddB bs.length) bs bs.length = true then 1 else if anyK (longB bs.length) bs bs.length = true ∨ 1500 < z then 2 else 0 := by rw [HE0.out, HZ.out]; rfl
      have HE := Lib.hid hE2
      obtain ⟨o, ho⟩ : ∃ o, o = anyK (oddB bs.length) bs bs.length := ⟨_, rfl⟩
      obtain ⟨g, hg⟩ : ∃ g, g = anyK (longB bs.length) bs bs.length := ⟨_, rfl⟩
      rw [← ho, ← hg] at HE
      rw [← ho, ← hg]
      clear hE2 ho hg
      by_cases h0 : bs.length = 0
      · have q0 : ((bs.length : Int) == 0) = true := by rw [beq_iff_eq]; omega
        have HR0 := Lib.hid (show E = 4 by rw [HE.out, if_pos h0])
        clear h0
        go_wp2_with fail
        go_ret
        exact ⟨by rw [HR0.out]; rfl, HT.out.frm⟩
      · have q0 : ((bs.length : Int) == 0) = false := by rw [beq_eq_false_iff_ne]; omega
        by_cases h8 : 8 < bs.length
        · have q8 : decide (8 < (bs.length : Int)) = true := by rw [decide_eq_true_iff]; omega
          have HR0 := Lib.hid (show E = 3 by rw [HE.out, if_neg h0, if_pos h8])
          clear h0 h8
          go_wp2_with fail
          go_ret
          exact ⟨by rw [HR0.out]; rfl, HT.out.frm⟩
        · have q8 : decide (8 < (bs.length : Int)) = false := by rw [decide_eq_false_iff_not]; omega
          cases o with
          | true =>
            have HR0 := Lib.hid (show E = 1 by rw [HE.out, if_neg h0, if_neg h8, if_pos rfl])
            clear h0 h8
            go_wp2_with fail
            go_ret
            exact ⟨by rw [HR0.out]; rfl, HT.out.frm⟩
          | false =>
            cases g with
            | true =>
              have HR0 := Lib.hid (show E = 2 by rw [HE.out, if_neg h0, if_neg h8, if_neg (by simp), if_pos (.inl rfl)])
              clear h0 h8
              go_wp2_with fail
              go_ret
              exact ⟨by rw [HR0.out]; rfl, HT.out.frm⟩
            | false =>
              by_cases hz2 : 1500 < z
              · have qz : decide (1500 < z) = true := decide_eq_true hz2
                have HR0 := Lib.hid (show E = 2 by rw [HE.out, if_neg h0, if_neg h8, if_neg (by simp), if_pos (.inr hz2)])
                clear h0 h8 hz2
                go_wp2_with fail
                go_ret
                exact ⟨by rw [HR0.out]; rfl, HT.out.frm⟩
              · have qz : decide (1500 < z) = false := decide_eq_false hz2
                have HR0 := Lib.hid (show E = 0 by rw [HE.out, if_neg h0, if_neg h8, if_neg (by simp), if_neg (by simp [hz2])])
                clear h0 h8 hz2
                go_wp2_with fail
                go_ret
                exact ⟨by rw [HR0.out]; rfl, HT.out.frm⟩


end Go.Proofs.Ytiknjkkphdncfaa
