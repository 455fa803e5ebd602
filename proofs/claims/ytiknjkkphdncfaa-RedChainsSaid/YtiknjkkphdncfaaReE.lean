/-
  THE WALK of red.Write.
-/
import Derived.Test.YtiknjkkphdncfaaReD
import Derived.Test.YtiknjkkphdncfaaWtr
import Derived.Test.YtiknjkkphdncfaaJoi
set_option linter.unusedVariables false
set_option linter.unusedSimpArgs false
namespace Go.Proofs.Ytiknjkkphdncfaa
open Go.RowKit

/-- What is written of a block's header. -/
def hdB (n i : Nat) (b : BkV) : List Int := if i + 1 = n then [b.pt] else (b.pt + 128) :: bigL (b.off * 1024 + b.B.length) 3
def catK (f : Nat → BkV → List Int) (bs : List BkV) (k : Nat) : List Int := (List.range k).flatMap fun i => match bs[i]? with | some b => f i b | none => []
theorem catK_succ (f : Nat → BkV → List Int) {bs : List BkV} {k : Nat} {b : BkV} (h : bs[k]? = some b) : catK f bs (k + 1) = catK f bs k ++ f k b := by
  unfold catK
  rw [List.range_succ, List.flatMap_append]
  simp [h]
/-- The bytes of blocks. -/
def bytesB (bs : List BkV) : List Int := catK (hdB bs.length) bs bs.length ++ catK (fun _ b => b.B) bs bs.length
theorem anyK_false {f : Nat → BkV → Bool} {bs : List BkV} {n : Nat} (h : anyK f bs n = false) {i : Nat} {b : BkV} (hi : i < n) (hb : bs[i]? = some b) : f i b = false := by
  unfold anyK at h
  rw [List.any_eq_false] at h
  have := h i (List.mem_range.2 hi)
  rw [hb] at this
  simpa using this
/-- Blocks that are right. -/
structure Right (bs : List BkV) : Prop where
  pos : 0 < bs.length
  few : bs.length ≤ 8
  odd : ∀ (i : Nat) (b : BkV), bs[i]? = some b → oddB bs.length i b = false
  long : ∀ (i : Nat) (b : BkV), bs[i]? = some b → longB bs.length i b = false
  size : sizK bs.length bs bs.length ≤ 1500
theorem right_of {bs : List BkV} (h : wrongE bs = 0) : Right bs := by
  unfold wrongE at h
  split at h
  · omega
  · split at h
    · omega
    · split at h
      · omega
      · rename_i h1 h2 h3
        split at h
        · omega
        · rename_i h4
          have h3' : anyK (oddB bs.length) bs bs.length = false := by simpa using h3
          have h4' : anyK (longB bs.length) bs bs.length = false := by
            cases hq : anyK (longB bs.length) bs bs.length with
            | true => exact absurd (.inl hq) h4
            | false => rfl
          exact ⟨by omega, by omega, fun i b hb => anyK_false h3' (List.getElem?_eq_some_iff.1 hb).1 hb, fun i b hb => anyK_false h4' (List.getElem?_eq_some_iff.1 hb).1 hb, by
            have : ¬ 1500 < sizK bs.length bs bs.length := fun h => h4 (.inr h)
            omega⟩
theorem or128 : ∀ v : Fin 128, bits .or .i64 (v.val : Int) 128 = (v.val : Int) + 128 := by decide +kernel
theorem or128_i {v : Int} (h0 : 0 ≤ v) (h1 : v ≤ 127) : bits .or .i64 v 128 = v + 128 := by
  have h := or128 ⟨v.toNat, by omega⟩
  have e : ((v.toNat : Nat) : Int) = v := Int.toNat_of_nonneg h0
  simp only [e] at h
  exact h
theorem or10 {v x : Int} (v0 : 0 ≤ v) (v1 : v ≤ 16383) (x0 : 0 ≤ x) (x1 : x ≤ 1023) : bits .or .i64 (v * 1024) x = v * 1024 + x :=
  bits_join .i64 62 (by decide) (fun n a b => wrapI64 a (by simpa using b)) 10 (v * 1024) x (by omega) (by omega) (by simp; omega) x0 (by simp; omega) (by simp; omega)
theorem big3L (n : Int) : bigL (n / 65536) 1 ++ bigL (n % 65536) 2 = bigL n 3 := by
  have h3 : List.range 3 = [0, 1, 2] := rfl
  have h2 : List.range 2 = [0, 1] := rfl
  have h1 : List.range 1 = [0] := rfl
  unfold bigL dig
  rw [h1, h2, h3]
  simp
  omega
theorem bigL_byte {n : Int} (h0 : 0 ≤ n) (h1 : n ≤ 255) : bigL n 1 = [n] := by rw [bigL_one]; congr 1; omega
/-- What Write gives. -/
def WriteP (w : World) (o : List Int) (e : Int) (x : Ending) (W' : World) : Prop := ∃ v, x = .returned (.tuple #[v, .int .i64 e]) ∧ Sep [] w W' [sumR v o]

set_option maxRecDepth 100000 in
set_option maxHeartbeats 16000000 in
theorem write_bad (w : World) (a : Option Addr) (c : Nat) (bs : List BkV) (hb : RdBs w a bs) (hn : bs.length ≤ 1000000) (hl : ∀ b ∈ bs, b.B.length ≤ 2000) (hw : wrongE bs ≠ 0) :
    Calls Try.prog 8 #[.slice a bs.length c] w (WriteP w [] (wrongE bs)) := by
  have HC := Lib.hid (wrong_c w a c bs hb hn (fun b hb => by have := hl b hb; omega))
  obtain ⟨E, hE⟩ : ∃ E, E = wrongE bs := ⟨_, rfl⟩
  rw [← hE] at HC hw ⊢
  have q0 : (E != 0) = true := by simp [hw]
  clear hb hl hw hE
  go_enter Try.func8, Try.ntmps8
  go_wp2_with fail
  refine HC.out.mono ?_
  rintro e w1 ⟨rfl, hF⟩
  have HF := Lib.hid hF
  clear hF
  go_wp2_with fail
  refine bodyPost_ret (v := .tuple #[.slice none 0 0, .int .i64 E]) ?_ rfl ⟨_, rfl, ((Sep.init w).keep HF.out).nil 5 1⟩
  simp [results, Try.results8]

set_option maxRecDepth 100000 in
set_option maxHeartbeats 16000000 in
theorem write_good (w : World) (a : Option Addr) (c : Nat) (bs : List BkV) (hb : RdBs w a bs) (hl : ∀ b ∈ bs, b.B.length ≤ 2000) (hw : wrongE bs = 0) :
    Calls Try.prog 8 #[.slice a bs.length c] w (WriteP w (bytesB bs) 0) := by
  have hr := right_of hw
  have h8 := hr.few
  have h0 := hr.pos
  have HC := Lib.hid (wrong_c w a c bs hb (by omega) (fun b hb => by have := hl b hb; omega))
  rw [hw] at HC
  have HRt := Lib.hid hr
  have HR := Lib.hid (fun X (hX : Frm [] w X) => hb.frm hX)
  have HL := Lib.hid hl
  clear hb hl hw hr
  go_enter Try.func8, Try.ntmps8
  go_wp2_with fail
  refine HC.out.mono ?_
  rintro e w1 ⟨rfl, hF⟩
  have HS := Lib.hid (show Sep [] w _ [sumR (.slice none 0 0) [], wtrR w1.heap.size (.slice none 0 0)] from ((((Sep.init w).keep hF).alloc #[.slice none 0 0] 55).nil 5 1))
  clear hF HC
  go_wp2_with fail
  obtain ⟨s0, hs0⟩ : ∃ s0, s0 = w1.heap.size := ⟨_, rfl⟩
  rw [← hs0] at HS
  rw [← hs0]
  clear hs0
  go_loopw [18] (fun i wr => ∃ (k : Nat) (v : Value), k < bs.length ∧ i = .int .i64 k ∧ (catK (hdB bs.length) bs k).length ≤ 4 * k ∧ Sep [] w wr [sumR v (catK (hdB bs.length) bs k), wtrR s0 v]) (fun i _ => bs.length - (intOf i).toNat)
  case atStart => exact ⟨0, _, h0, rfl, by simp [catK], HS.out⟩
  case round =>
    obtain ⟨k, v, hlt, rfl, hxl, hS⟩ := hrel
    have HT := Lib.hid hS
    have HXl := Lib.hid hxl
    clear hS hxl
    obtain ⟨wo, hwo⟩ : ∃ wo : World, wo = wr := ⟨_, rfl⟩
    rw [← hwo] at HT ⊢
    clear hwo
    obtain ⟨x, hx⟩ : ∃ x, bs[k]? = some x := ⟨_, List.getElem?_eq_getElem hlt⟩
    obtain ⟨bb, bo, rfl, _, hc⟩ := (HR.out _ HT.out.frm).1 k x.row (by rw [List.getElem?_map, hx]; rfl)
    obtain ⟨pB, cB, hbv, _⟩ := (HR.out _ HT.out.frm).2 x (List.mem_of_getElem? hx)
    have hxl := HL.out x (List.mem_of_getElem? hx)
    have HO := Lib.hid (catK_succ (hdB bs.length) hx)
    have hod := HRt.out.odd k x hx
    have hlo := HRt.out.long k x hx
    obtain ⟨pt, off, bv, B⟩ := x
    simp only at hbv hxl
    subst hbv
    simp [oddB] at hod
    simp [longB] at hlo
    obtain ⟨⟨⟨⟨p0, p1⟩, o0⟩, o1⟩, o2⟩ := hod
    have d0 : wo.cell? ⟨bb, bo + k * 3, none⟩ = some (.int .i64 pt) := hc 0 _ rfl
    have d1 : wo.cell? ⟨bb, bo + k * 3 + 1, none⟩ = some (.int .i64 off) := hc 1 _ rfl
    have d2 : wo.cell? ⟨bb, bo + k * 3 + 2, none⟩ = some (.slice pB B.length cB) := hc 2 _ rfl
    have i1 : (0 : Int) ≤ (k : Int) := by omega
    have i2 : (k : Int) < (bs.length : Int) := by omega
    have HTx := Lib.hid (HT.out.skip (.cells #[.int .i64 pt, .int .i64 off, .slice pB B.length cB] 50))
    have hx6 : (catK (hdB bs.length) bs k).length ≤ 1000 := by have := HXl.out; omega
    have HX6 := Lib.hid hx6
    clear hc hx hx6
    by_cases hlast : k + 1 = bs.length
    · have q1 : ((k : Int) == (bs.length : Int) - 1) = true := by rw [beq_iff_eq]; omega
      have hv : hdB bs.length k ⟨pt, off, .slice pB B.length cB, B⟩ = bigL pt 1 := by unfold hdB; rw [if_pos hlast, bigL_byte p0 (by omega)]
      have HV := Lib.hid hv
      have HLk := Lib.hid hlast
      have HB := Lib.hid (HTx.out.wr (wbyte_c _ _ _ _ _ HTx.out.part2 (Nat.le_trans HX6.out (by omega)) pt p0 (by omega)))
      clear hv hlast o2 hlo
      go_wp2_with fail
      refine HB.out.mono ?_
      rintro e w2 ⟨rfl, v2, h⟩
      rw [← HV.out, ← HO.out, HLk.out] at h
      have HS2 := Lib.hid h
      have hx7 : (catK (hdB bs.length) bs bs.length).length ≤ 1001 := by
        have h1 := HO.out
        rw [HLk.out, HV.out] at h1
        rw [h1, List.length_append, bigL_len]
        have := HX6.out
        omega
      clear h HB d0 d1 d2 o0 o1 p0 p1 i1 i2 hlt hxl q1
      obtain ⟨hd, hhd⟩ : ∃ hd, hd = catK (hdB bs.length) bs bs.length := ⟨_, rfl⟩
      have HHd := Lib.hid hhd
      rw [← hhd] at HS2 hx7
      clear hhd HXl HX6 HO HV HLk HT HTx
      go_wp2_with fail
      go_loopw [51] (fun i wr => ∃ (j : Nat) (v : Value), j ≤ bs.length ∧ i = .int .i64 j ∧ (catK (fun _ b => b.B) bs j).length ≤ 2000 * j ∧ Sep [] w wr [sumR v (hd ++ catK (fun _ b => b.B) bs j), wtrR s0 v]) (fun i _ => bs.length - (intOf i).toNat)
      case atStart => exact ⟨0, v2, Nat.zero_le _, rfl, by simp [catK], by rw [show catK (fun _ b => b.B) bs 0 = [] from rfl, List.append_nil]; exact HS2.out⟩
      case round =>
        obtain ⟨j, v5, hj, rfl, hxl, hS⟩ := hrel
        have HT := Lib.hid hS
        have HXl := Lib.hid hxl
        clear hS hxl
        obtain ⟨wi, hwi⟩ : ∃ wi : World, wi = wr := ⟨_, rfl⟩
        rw [← hwi] at HT ⊢
        clear hwi
        by_cases hlt : j < bs.length
        · obtain ⟨y, hy⟩ : ∃ y, bs[j]? = some y := ⟨_, List.getElem?_eq_getElem hlt⟩
          obtain ⟨bb', bo', hba, _, hc⟩ := (HR.out _ HT.out.frm).1 j y.row (by rw [List.getElem?_map, hy]; rfl)
          injection hba with hba
          injection hba with hb1 hb2 hb3
          subst hb1 hb2
          have hym := List.mem_of_getElem? hy
          have hyl := HL.out y hym
          have HO := Lib.hid (catK_succ (fun _ b => b.B) hy)
          obtain ⟨pt', off', bv', B'⟩ := y
          obtain ⟨pB', cB', hbv, _, _⟩ := (HR.out _ HT.out.frm).2 _ hym
          simp only at hbv hyl
          subst hbv
          have d0 : wi.cell? ⟨bb, bo + j * 3, none⟩ = some (.int .i64 pt') := hc 0 _ rfl
          have d1 : wi.cell? ⟨bb, bo + j * 3 + 1, none⟩ = some (.int .i64 off') := hc 1 _ rfl
          have d2 : wi.cell? ⟨bb, bo + j * 3 + 2, none⟩ = some (.slice pB' B'.length cB') := hc 2 _ rfl
          have i1 : (0 : Int) ≤ (j : Int) := by omega
          have i2 : (j : Int) < (bs.length : Int) := by omega
          have HTx := Lib.hid (HT.out.skip (.cells #[.int .i64 pt', .int .i64 off', .slice pB' B'.length cB'] 50))
          obtain ⟨pq, cq, e1, hrB, hnB⟩ := (HR.out _ HTx.out.frm).2 _ hym
          simp only at e1 hrB
          injection e1 with e1 e2 e3
          subst e1 e3
          have hsz : (hd ++ catK (fun _ b => b.B) bs j).length ≤ 1000000 := by rw [List.length_append]; have := HXl.out; omega
          have HPt := Lib.hid (HTx.out.wr (wput_c _ _ _ _ _ HTx.out.part2 hsz pB' cB' B' hrB hnB (by omega)))
          clear hy hym hc hb3 hrB hnB e2 hsz
          go_wp2_with fail
          refine HPt.out.mono ?_
          rintro e w7 ⟨rfl, v7, h⟩
          have HS7 := Lib.hid h
          clear h HPt
          go_wp2_with fail
          go_roundw
          case rel => exact ⟨j + 1, v7, by omega, by go_num, by rw [HO.out, List.length_append]; have := HXl.out; omega, by rw [HO.out, ← List.append_assoc]; exact HS7.out⟩
          case measure => simp [intOf]; omega
        · obtain rfl : j = bs.length := by omega
          have hsz : (hd ++ catK (fun _ b => b.B) bs bs.length).length ≤ 1000000 := by rw [List.length_append]; have := HXl.out; omega
          go_wp2_with fail
          refine (wdone_c s0 v5 _ wi HT.out hsz).mono ?_
          rintro e w8 ⟨v8, rfl, hD⟩
          have HD := Lib.hid (sep_rebase HT.out.frm hD)
          clear hD hsz
          go_wp2_with fail
          refine bodyPost_ret (v := .tuple #[v8, .int .i64 0]) ?_ rfl ⟨v8, rfl, ?_⟩
          · simp [results, Try.results8]
          · unfold bytesB
            rw [← HHd.out]
            exact HD.out
    · have q1 : ((k : Int) == (bs.length : Int) - 1) = false := by rw [beq_eq_false_iff_ne]; omega
      have hB1 := hlo (by omega)
      obtain ⟨n, hn⟩ : ∃ n : Int, n = off * 1024 + (B.length : Int) := ⟨_, rfl⟩
      have n0 : 0 ≤ n := by omega
      have n1 : n ≤ 16777215 := by omega
      have hv : hdB bs.length k ⟨pt, off, .slice pB B.length cB, B⟩ = bigL (pt + 128) 1 ++ (bigL (n / 65536) 1 ++ bigL (n % 65536) 2) := by
        unfold hdB
        rw [if_neg hlast, big3L, bigL_byte (by omega) (by omega), hn]
        rfl
      have HV := Lib.hid hv
      have e1 : IntKind.i64.wrap (off * 1024) = off * 1024 := wrapI64 (by omega) (by omega)
      have e2 := or10 o0 o1 (Int.natCast_nonneg B.length) (by omega)
      rw [← hn] at e2
      have e3 := or128_i p0 p1
      have e4 : IntKind.u16.wrap n = n % 65536 := by rw [IntKind.wrap_u16]
      have HB := Lib.hid (HTx.out.wr (wbyte_c _ _ _ _ _ HTx.out.part2 (Nat.le_trans HX6.out (by omega)) (pt + 128) (by omega) (by omega)))
      have k2 : k + 1 < bs.length := by omega
      clear hv hlast o2 hlo hn hB1
      go_wp2_with fail
      refine HB.out.mono ?_
      rintro e w2 ⟨rfl, v2, h⟩
      have HS2 := Lib.hid h
      have HB2 := Lib.hid (h.wr (wbyte_c _ _ _ _ _ h.part2 (by rw [List.length_append, bigL_len]; have := HX6.out; omega) (n / 65536) (by omega) (by omega)))
      clear h HB
      go_wp2_with fail
      refine HB2.out.mono ?_
      rintro e w3 ⟨rfl, v3, h⟩
      have HB3 := Lib.hid (h.wr (wword_c _ _ _ _ _ h.part2 (by rw [List.length_append, List.length_append, bigL_len, bigL_len]; have := HX6.out; omega) (n % 65536) (by omega) (by omega)))
      clear h HB2
      go_wp2_with fail
      refine HB3.out.mono ?_
      rintro e w4 ⟨rfl, v4, h⟩
      rw [List.append_assoc, List.append_assoc] at h
      have HS4 := Lib.hid h
      clear h HB3
      go_wp2_with fail
      go_roundw
      case rel => exact ⟨k + 1, v4, k2, by go_num, by rw [HO.out, HV.out]; simp only [List.length_append, bigL_len]; have := HXl.out; omega, by rw [HO.out, HV.out]; exact HS4.out⟩
      case measure => simp [intOf]; omega

end Go.Proofs.Ytiknjkkphdncfaa
