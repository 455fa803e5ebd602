/-
  THE WALK of red.parse.
-/
import Derived.Test.YtiknjkkphdncfaaReA
import Derived.Test.YtiknjkkphdncfaaArr
import Derived.Test.YtiknjkkphdncfaaMany
import Derived.Test.YtiknjkkphdncfaaPrm
import Derived.Deep.DeepCutAuto
import Derived.Deep.DeepMust
import Derived.Deep.RegionHeld3
set_option linter.unusedVariables false
set_option linter.unusedSimpArgs false
namespace Go.Proofs.Ytiknjkkphdncfaa
open Go.RowKit

def hdRow (h : Hd) : List Value := [.int .i64 h.pt, .int .i64 h.off, .int .i64 h.size, .bool h.last]
def hdsR (v : Value) (hs : List Hd) : Res := ownR 78 4 v hs.length (hs.map hdRow).flatten
theorem hdsR_snoc (v : Value) (hs : List Hd) (x : Hd) : ownR 78 4 v (hs.length + 1) ((hs.map hdRow).flatten ++ #[.int .i64 x.pt, .int .i64 x.off, .int .i64 x.size, .bool x.last].toList) = hdsR v (hs ++ [x]) := by simp [hdsR, hdRow]
theorem info_head : (Try.prog.info? 78).map (fun i => (i.zero, i.size, i.bytes)) = some (some (.agg #[.int .i64 0, .int .i64 0, .int .i64 0, .bool false]), 4, 32) := by kernel_rfl
theorem info_block : (Try.prog.info? 50).map (fun i => (i.zero, i.size, i.bytes)) = some (some (.agg #[.int .i64 0, .int .i64 0, .slice none 0 0]), 3, 40) := by kernel_rfl
/-- A block, with its data's slice. -/
structure BkV where
  pt : Int
  off : Int
  bv : Value
  B : List Int
def BkV.bk (b : BkV) : Bk := ⟨b.pt, b.off, b.B⟩
def BkV.row (b : BkV) : List Value := [.int .i64 b.pt, .int .i64 b.off, b.bv]
def blksR (v : Value) (bs : List BkV) : Res := ownR 50 3 v bs.length (bs.map BkV.row).flatten
def dataR (bs : List BkV) : Res := manyR (bs.map fun b => sumR b.bv b.B)
theorem blksR_snoc (v : Value) (bs : List BkV) (x : BkV) : ownR 50 3 v (bs.length + 1) ((bs.map BkV.row).flatten ++ #[.int .i64 x.pt, .int .i64 x.off, x.bv].toList) = blksR v (bs ++ [x]) := by simp [blksR, BkV.row]
/-- What the closure gives. -/
def ChP (E : Except Int (List Bk × Nat)) (W : World) (g : Nat) (a : Option Addr) (c : Nat) (zs : List Int) (x : Ending) (W' : World) : Prop :=
  match E with
  | .error e => x = .panicked (faultV e) ∧ Frm [g] W W'
  | .ok (out, n) => n ≤ zs.length ∧ ∃ (v : Value) (bs : List BkV), bs.map BkV.bk = out ∧ x = .returned v ∧ Sep [g] W W' [blkR g 85 #[.slice a zs.length c, .int .i64 (n : Int)], blksR v bs, dataR bs]
/-- The headers' loop, at its head. -/
def HeadI (zs : List Int) (E : Except Int (List Hd × Nat)) (at_ : Nat) (hs : List Hd) : Prop :=
  at_ ≤ zs.length ∧ ((hs.length ≤ 8 ∧ (∀ h ∈ hs, h.last = false) ∧ ∃ f, f + hs.length = 9 ∧ E = hdsF f zs at_ hs) ∨ (hs.length ≤ 9 ∧ E = .ok (hs, at_) ∧ ∃ l h, hs = l ++ [h] ∧ h.last = true))
theorem hds_cell {S : List Nat} {w0 w : World} {L : List Res} (h : Sep S w0 w L) (i : Nat) {v : Value} {hs : List Hd} (hi : L[i]? = some (hdsR v hs)) : ∃ a c, v = .slice a hs.length c ∧ ∀ k x, hs[k]? = some x → ∃ g, a = some ⟨g, 0, none⟩ ∧ w.cell? ⟨g, k * 4, none⟩ = some (.int .i64 x.pt) ∧ w.cell? ⟨g, k * 4 + 1, none⟩ = some (.int .i64 x.off) ∧ w.cell? ⟨g, k * 4 + 2, none⟩ = some (.int .i64 x.size) ∧ w.cell? ⟨g, k * 4 + 3, none⟩ = some (.bool x.last) := by
  have ho : w.ownsRow 0 78 4 v hs.length (hs.map hdRow).flatten := h.get i hi
  have hr : ∀ r ∈ hs.map hdRow, r.length = 4 := fun r hr => by obtain ⟨g, _, rfl⟩ := List.mem_map.1 hr; rfl
  rcases ho.2 with ⟨rfl, h0⟩ | ⟨g, c, cur, rfl, _⟩
  · refine ⟨none, 0, by rw [h0], fun k x hx => ?_⟩
    have := (List.getElem?_eq_some_iff.1 hx).1
    omega
  · refine ⟨_, c, rfl, fun k x hx => ⟨g, rfl, ?_⟩⟩
    have hrow : (hs.map hdRow)[k]? = some (hdRow x) := by rw [List.getElem?_map, hx]; rfl
    have key : ∀ (j : Nat) (u : Value), (hdRow x)[j]? = some u → w.cell? ⟨g, k * 4 + j, none⟩ = some u := fun j u hj => by
      have h1 := ho.cells (g := g) rfl (k * 4 + j) u (flatten_at hr hrow hj)
      rw [add_addr, Nat.zero_add] at h1
      exact h1
    exact ⟨key 0 _ rfl, key 1 _ rfl, key 2 _ rfl, key 3 _ rfl⟩

theorem sep_data {S : List Nat} {w0 w : World} {A B C D E F : Res} (h : Sep S w0 w [A, B, C, D, E, F]) : Sep S w0 w [B, D, A, E, F] :=
  (h.prm (L' := [B, D, A, E, F] ++ [C]) (by
    refine (List.Perm.swap B A [C, D, E, F]).trans (List.Perm.cons B ?_)
    refine (List.Perm.cons A (List.Perm.swap D C [E, F])).trans ?_
    refine (List.Perm.swap D A [C, E, F]).trans (List.Perm.cons D (List.Perm.cons A ?_))
    exact (List.Perm.swap E C [F]).trans (List.Perm.cons E (List.Perm.swap F C [])))).sub (List.sublist_append_left _ _)
theorem rdS_lit {w : World} {b : Nat} {t : TypeId} {cs : Array Value} (h : Blk w b t cs) : RdS cs.size w (some ⟨b, 0, none⟩) [cs.toList] := fun i row hi => by
  cases i with
  | zero =>
    simp at hi
    subst hi
    exact ⟨b, 0, rfl, h.lt, fun j v hj => by rw [Nat.zero_mul, Nat.zero_add]; first | exact h.cell j (by simpa using hj) | (rw [Nat.zero_add]; exact h.cell j (by simpa using hj))⟩
  | succ i => simp at hi
set_option maxRecDepth 100000 in
set_option maxHeartbeats 16000000 in
theorem parse_p {w W : World} {g : Nat} {a : Option Addr} {c : Nat} {zs : List Int} (hR : Rdr W g a c zs 0) :
    Calls Try.prog 27 #[.pointer (some ⟨g, 0, none⟩)] W (ChP (chainL zs) W g a c zs) := by
  obtain ⟨i0, hi, hz0, hz1, hz2⟩ := info_parts info_head
  obtain ⟨iB, hj, hy0, hy1, hy2⟩ := info_parts info_block
  have HR := Lib.hid hR
  have HS := Lib.hid ((Sep.enter (r := blkR g 85 #[.slice a zs.length c, .int .i64 ((0 : Nat) : Int)]) hR.blk).nil 78 4)
  obtain ⟨C, hC⟩ : ∃ C, C = chainL zs := ⟨_, rfl⟩
  rw [← hC]
  have HC := Lib.hid hC
  obtain ⟨E, hE⟩ : ∃ E, E = hdsF 9 zs 0 [] := ⟨_, rfl⟩
  have HE := Lib.hid hE
  have hsm := hR.sm
  clear hR hC hE
  go_enter Try.func27, Try.ntmps27
  go_wp2_with fail
  go_loopw [3] (fun v wr => ∃ (hs : List Hd) (at_ : Nat) (aa : Option Addr) (cc : Nat), v = .slice aa hs.length cc ∧ HeadI zs E at_ hs ∧ Sep [g] W wr [blkR g 85 #[.slice a zs.length c, .int .i64 (at_ : Int)], hdsR (.slice aa hs.length cc) hs]) (fun v _ => 10 - (match v with | .slice _ n _ => n | _ => 0))
  case atStart => exact ⟨[], 0, none, 0, rfl, ⟨Nat.zero_le _, .inl ⟨by simp, by simp, 9, rfl, HE.out⟩⟩, HS.out.swap2⟩
  case round =>
    obtain ⟨hs, at_, aa, cc, rfl, hI, hS⟩ := hrel
    have HT := Lib.hid hS
    clear hS
    obtain ⟨wo, hwo⟩ : ∃ wo : World, wo = wr := ⟨_, rfl⟩
    rw [← hwo] at HT ⊢
    clear hwo
    obtain ⟨hle, hI⟩ := hI
    rcases hI with ⟨h8, hnl, f, hf, hEq⟩ | ⟨h9, hEq, l, hl, hcat, hlast⟩
    · obtain ⟨f, rfl⟩ : ∃ f', f = f' + 1 := ⟨f - 1, by omega⟩
      have HEq := Lib.hid hEq
      have HNl := Lib.hid hnl
      have HRw := Lib.hid (HR.out.to HT.out.frm (HT.out.blk 0 rfl) hle)
      have i8 : hs.length ≤ 8 := h8
      clear hEq hnl h8
      have hcase : ((hs.length : Int) == 0) = true ∨ (∃ (m gh : Nat), ((hs.length : Int) == 0) = false ∧ (hs.length : Int) - 1 = (m : Int) ∧ m < hs.length ∧ aa = some ⟨gh, 0, none⟩ ∧ wo.cell? ⟨gh, m * 4 + 3, none⟩ = some (.bool false)) := by
        by_cases h0 : hs.length = 0
        · exact .inl (by rw [h0]; rfl)
        · obtain ⟨a1, c1, e1, hcell⟩ := hds_cell HT.out 1 rfl
          injection e1 with e1 _ _
          subst e1
          have hx : hs[hs.length - 1]? = some (hs[hs.length - 1]'(by omega)) := List.getElem?_eq_getElem (by omega)
          obtain ⟨gh, ha, _, _, _, hc3⟩ := hcell _ _ hx
          rw [HNl.out _ (List.getElem_mem (by omega))] at hc3
          exact .inr ⟨hs.length - 1, gh, by rw [beq_eq_false_iff_ne]; omega, by omega, by omega, ha, hc3⟩
      cases hO : hdOne zs at_ with
      | error e =>
        have hCe : C = .error e := by
          rw [HC.out]
          unfold chainL
          rw [← HE.out, HEq.out]
          unfold hdsF
          rw [hO]
        have HCe := Lib.hid hCe
        have HH := Lib.hid (readHead_err HRw.out hO)
        clear hO hCe
        rcases hcase with t0 | ⟨m, gh, t0, e1, hml, rfl, c3⟩
        all_goals
          go_wp2_with fail
          refine HH.out.mono ?_
          rintro x w1 ⟨rfl, hF⟩
          refine ⟨rfl, ?_⟩
          rw [HCe.out]
          exact ⟨rfl, HT.out.frm.trans hF⟩
      | ok r =>
        obtain ⟨h, n⟩ := r
        have HH := Lib.hid (readHead_ok HRw.out hO)
        have hn := (hdOne_le hO).2
        have HO := Lib.hid hO
        unfold hdV at HH
        clear hO
        rcases hcase with t0 | ⟨m, gh, t0, e1, hml, rfl, c3⟩
        all_goals
          go_wp2_with fail
          refine HH.out.mono ?_
          rintro x w1 ⟨rfl, hR1, hF⟩
          have HT1 := Lib.hid ((HT.out.call 0 rfl hF hR1.blk).alloc #[.int .i64 h.pt, .int .i64 h.off, .int .i64 h.size, .bool h.last] 78)
          clear hR1 hF HH
          by_cases hl8 : hs.length = 8
          · have t8 : ((hs.length : Int) == 8) = true := by rw [beq_iff_eq]; omega
            have hCe : C = .error 3 := by
              rw [HC.out]
              unfold chainL
              rw [← HE.out, HEq.out]
              unfold hdsF
              rw [HO.out]
              simp only
              rw [if_pos hl8]
            have HCe := Lib.hid hCe
            clear hl8 hCe
            go_wp2_with fail
            refine (fail_c _ 3 _).mono ?_
            rintro x w2 ⟨rfl, rfl⟩
            refine ⟨rfl, ?_⟩
            rw [HCe.out]
            exact ⟨rfl, HT1.out.frm⟩
          · have t8 : ((hs.length : Int) == 8) = false := by rw [beq_eq_false_iff_ne]; omega
            have H8 := Lib.hid hl8
            have hb0 := HT1.out.blk 0 rfl
            have d0 := hb0.cell 0 rfl
            have d1 := hb0.cell 1 rfl
            have d2 := hb0.cell 2 rfl
            have d3 := hb0.cell 3 rfl
            clear hl8 hb0
            go_wp2_with (at_builtin; go_must (refine wpList_append_arr rfl (.tmp 29) (.tmp 31) 76 rfl 3 78 i0 (.agg #[.int .i64 0, .int .i64 0, .int .i64 0, .bool false]) 4 32 Try.underlying76 hi hz0 hz1 hz2 rfl (by decide) _ hs.length _ rfl (HT1.out.alloc #[.int .i64 h.pt, .int .i64 h.off, .int .i64 h.size, .bool h.last] 78) rfl (w1.heap.size + 1) #[.int .i64 h.pt, .int .i64 h.off, .int .i64 h.size, .bool h.last] rfl rfl (by simpa using Blk.made (w1.alloc (.cells #[.int .i64 h.pt, .int .i64 h.off, .int .i64 h.size, .bool h.last] 78)) 78 #[.int .i64 h.pt, .int .i64 h.off, .int .i64 h.size, .bool h.last]) (by simp [Value.oneCell']) (by unfold maxLen; omega) (by omega) ?_); intro v4 w4 hS4; obtain ⟨a4, c4, rfl, x1, x2⟩ := own_shape (hS4.own 3 rfl); have HS4 := Lib.hid hS4; clear hS4 x1 x2)
            have e7 := hdsR_snoc (.slice a4 (hs.length + 1) c4) hs h
            have HE7 := Lib.hid e7
            clear e7
            go_roundw
            case rel =>
              refine ⟨hs ++ [h], n, a4, c4, by rw [List.length_append]; rfl, ⟨hn, ?_⟩, ?_⟩
              · have h1 := HEq.out
                unfold hdsF at h1
                rw [HO.out] at h1
                simp only at h1
                rw [if_neg H8.out] at h1
                have hl1 : (hs ++ [h]).length = hs.length + 1 := by rw [List.length_append]; rfl
                by_cases hla : h.last = true
                · rw [if_pos hla] at h1
                  exact .inr ⟨by omega, h1, hs, h, rfl, hla⟩
                · rw [if_neg hla] at h1
                  refine .inl ⟨by have := H8.out; omega, fun x hx => ?_, f, by omega, h1⟩
                  rcases List.mem_append.1 hx with hx | hx
                  · exact HNl.out x hx
                  · simp at hx; subst hx; simpa using hla
              · have h2 := HS4.out.rest.rest
                rw [List.length_append, List.length_singleton, ← HE7.out]
                exact h2
            case measure => simp; omega
    · have i8 : hs.length ≤ 9 := h9
      have hCe : C = bksL zs at_ hs := by
        rw [HC.out]
        unfold chainL
        rw [← HE.out, hEq]
      have HCe := Lib.hid hCe
      obtain ⟨a1, c1, e1, hcell⟩ := hds_cell HT.out 1 rfl
      injection e1 with e1 x1 x2
      subst e1
      have hne : 0 < hs.length := by rw [hcat]; simp
      have hx : hs[hs.length - 1]? = some hl := by rw [hcat]; simp
      obtain ⟨gh, ha, _, _, _, hc3⟩ := hcell _ _ hx
      rw [hlast] at hc3
      subst ha
      obtain ⟨m, hm⟩ : ∃ m, m = hs.length - 1 := ⟨_, rfl⟩
      rw [← hm] at hc3
      have e1 : (hs.length : Int) - 1 = (m : Int) := by omega
      have hml : m < hs.length := by omega
      have t0 : ((hs.length : Int) == 0) = false := by rw [beq_eq_false_iff_ne]; omega
      have HS0 := Lib.hid (((HT.out.nil 50 3).none))
      clear x1 x2 hcell hx hcat hlast hEq hCe hm hne h9
      go_wp2_with fail
      clear e1 hc3 t0 hml
      go_loopw [5, 35] (fun u i wr => ∃ (k : Nat) (bs : List BkV) (at2 : Nat) (ab : Option Addr) (cb : Nat), k ≤ hs.length ∧ u = .slice ab bs.length cb ∧ i = .int .i64 k ∧ bs.length ≤ k ∧ at2 ≤ zs.length ∧ bksL zs at_ (hs.take k) = .ok (bs.map BkV.bk, at2) ∧ Sep [g] W wr [dataR bs, blkR g 85 #[.slice a zs.length c, .int .i64 (at2 : Int)], blksR (.slice ab bs.length cb) bs, hdsR (.slice (some ⟨gh, 0, none⟩) hs.length cc) hs]) (fun _ i _ => hs.length - (intOf i).toNat)
      case atStart => exact ⟨0, [], at_, none, 0, Nat.zero_le _, rfl, rfl, Nat.zero_le _, hle, rfl, HS0.out.prm (List.Perm.cons _ (List.Perm.swap _ _ _))⟩
      case round =>
        obtain ⟨k, bs, at2, ab, cb, hk, rfl, rfl, hbk, hle2, hrun, hS⟩ := hrel
        have HT2 := Lib.hid hS
        have HRun := Lib.hid hrun
        clear hS hrun
        obtain ⟨wi, hwi⟩ : ∃ wi : World, wi = wr := ⟨_, rfl⟩
        rw [← hwi] at HT2 ⊢
        clear hwi
        by_cases hlt : k < hs.length
        · obtain ⟨x, hx⟩ : ∃ x, hs[k]? = some x := ⟨_, List.getElem?_eq_getElem hlt⟩
          obtain ⟨a1, c1, e1, hcell⟩ := hds_cell HT2.out 3 rfl
          injection e1 with e1 x1 x2
          subst e1
          obtain ⟨gh', ha, d0, d1, d2, d3⟩ := hcell k x hx
          injection ha with ha
          injection ha with ha x3 x4
          subst ha
          have i1 : (0 : Int) ≤ (k : Int) := by omega
          have i2 : (k : Int) < (hs.length : Int) := by omega
          have HX := Lib.hid hx
          have HTk := Lib.hid (bksL_take zs at_ hs k hlt)
          have hget : hs[k] = x := by have := List.getElem?_eq_getElem hlt; rw [hx] at this; exact (Option.some.inj this).symm
          rw [hget, HRun.out] at HTk
          have HTx := Lib.hid (HT2.out.alloc #[.int .i64 x.pt, .int .i64 x.off, .int .i64 x.size, .bool x.last] 78)
          have HRw := Lib.hid (HR.out.to HTx.out.frm (HTx.out.blk 2 rfl) hle2)
          clear x1 x2 x3 x4 hcell hx hget
          obtain ⟨q, hq⟩ : ∃ q, q = hdLen zs at2 x := ⟨_, rfl⟩
          obtain ⟨pt, off, size, last⟩ := x
          cases last with
          | true =>
            have hq2 : q = zs.length - at2 := by rw [hq]; unfold hdLen; rfl
            have hqi : ((zs.length - at2 : Nat) : Int) = (q : Int) := by omega
            have hfit : at2 + q ≤ zs.length := by omega
            have hCl := left_c HRw.out
            rw [hqi] at hCl
            have HCl := Lib.hid hCl
            have HQ := Lib.hid hq
            clear hCl hq2 hqi hq
            go_wp2_with fail
            refine HCl.out.mono ?_
            rintro xx w7 ⟨rfl, m7, rfl⟩
            have HT7 := Lib.hid (HTx.out.drewN m7)
            have HR7 := Lib.hid (HRw.out.frm ((Frm.refl _ _).drewN m7))
            obtain ⟨w7, hw7⟩ : ∃ w7, w7 = (wi.alloc (.cells #[.int .i64 pt, .int .i64 off, .int .i64 size, .bool true] 78)).drewN m7 := ⟨_, rfl⟩
            rw [← hw7] at HT7 HR7 ⊢
            clear hw7 HCl
            have HTq := Lib.hid (show Sep [g] W w7 [blkR g 85 #[.slice a zs.length c, .int .i64 (at2 : Int)], blkR wi.heap.size 78 #[.int .i64 pt, .int .i64 off, .int .i64 size, .bool true], dataR bs, blksR (.slice ab bs.length cb) bs, hdsR (.slice (some ⟨gh, 0, none⟩) hs.length cc) hs] from HT7.out.prm ((List.Perm.cons _ (List.Perm.swap _ _ _)).trans (List.Perm.swap _ _ _)))
            have hb7 := HTq.out.blk 1 rfl
            have k0 := hb7.cell 0 rfl
            have k1 := hb7.cell 1 rfl
            clear hb7 HT7
            have HTa := Lib.hid (fun W (hf : Frm [] w7 W) => take_ok (HR7.out.frm hf) (q : Int) q (by omega) hfit)
            have hcl := cut_len hfit
            have HCu := Lib.hid hcl
            clear hcl
            go_wp2_with fail
            go_region_held3 (fun wx => wx.cell? ⟨wi.heap.size, 0, none⟩ = some (.int .i64 pt) ∧ wx.cell? ⟨wi.heap.size, 1, none⟩ = some (.int .i64 off)) (first | go_keep | exact ⟨k0, k1⟩ | exact ⟨m0, m1⟩ | exact ⟨p0, p1⟩) (first | (go_at_call 38; (with_reducible refine (HTa.out _ ((Frm.refl _ _).drew)).mono ?_); rintro xx w8 ⟨vb, rfl, _, hS8⟩; obtain ⟨av, cv, rfl, _, _⟩ := RdI.of_own (hS8.own 1 rfl); have HT8 := Lib.hid (HTq.out.drew.callMany hS8 (by simp [blkR])); have m0 := (HT8.out.blk 2 rfl).cell 0 rfl; have m1 := (HT8.out.blk 2 rfl).cell 1 rfl; clear hS8) | (rw [if_pos (by rfl)]; refine wp_append_rows (.tmp 45) (.tmp 54) 22 rfl 50 iB (.agg #[.int .i64 0, .int .i64 0, .slice none 0 0]) 3 40 Try.underlying22 hj hy0 hy1 hy2 rfl (by decide) _ bs.length (bs.map BkV.row).flatten rfl ((HT8.out.skip _).own 4 rfl) (some ⟨w8.heap.size, 0, none⟩) 1 [[.int .i64 pt, .int .i64 off, .slice av (cut zs at2 q).length cv]] rfl (fun h => by cases h) (fun r hr => by simp at hr; subst hr; rfl) (rdS_lit (Blk.made w8 _ _)) (fun r hr u hu => by simp at hr; subst hr; simp at hu; rcases hu with rfl | rfl | rfl <;> rfl) (by unfold maxLen; simp; omega) (by simp; omega) ?_; intro v9 w9 h2 h3 h4; obtain ⟨a9, c9, rfl, x1, x2⟩ := own_shape h2; have HT9 := Lib.hid ((HT8.out.skip _).grow 4 rfl h3 h2 h4); have p0 := (HT9.out.blk 2 rfl).cell 0 rfl; have p1 := (HT9.out.blk 2 rfl).cell 1 rfl; clear h2 h3 h4 x1 x2))
            go_wp2_with fail
            have hb9 := blksR_snoc (.slice a9 (bs.length + 1) c9) bs ⟨pt, off, .slice av (cut zs at2 q).length cv, cut zs at2 q⟩
            have HB9 := Lib.hid hb9
            clear hb9
            go_roundw
            case rel =>
              refine ⟨k + 1, bs ++ [⟨pt, off, .slice av (cut zs at2 q).length cv, cut zs at2 q⟩], at2 + q, a9, c9, by omega, by rw [List.length_append]; rfl, by go_num, by rw [List.length_append, List.length_singleton]; omega, hfit, ?_, ?_⟩
              · rw [HTk.out]
                simp only [bkStep, bkOne]
                rw [← HQ.out, if_neg (by omega), List.map_append]
                rfl
              · rw [List.length_append, List.length_singleton, ← HB9.out]
                unfold dataR
                rw [List.map_append]
                exact (sep_data HT9.out).into1
            case measure => simp [intOf]; omega
          | false =>
            have hq2 : q = size.toNat := by rw [hq]; unfold hdLen; rfl
            have HQ := Lib.hid hq
            have HQ2 := Lib.hid hq2
            by_cases hfit : at2 + q ≤ zs.length
            · clear hq hq2
              go_wp2_with fail
              obtain ⟨w7, hw7⟩ : ∃ w7, w7 = wi.alloc (.cells #[.int .i64 pt, .int .i64 off, .int .i64 size, .bool false] 78) := ⟨_, rfl⟩
              rw [← hw7] at HTx HRw ⊢
              have HT7 := Lib.hid HTx.out
              have HR7 := Lib.hid HRw.out
              clear hw7
              have HTq := Lib.hid (show Sep [g] W w7 [blkR g 85 #[.slice a zs.length c, .int .i64 (at2 : Int)], blkR wi.heap.size 78 #[.int .i64 pt, .int .i64 off, .int .i64 size, .bool false], dataR bs, blksR (.slice ab bs.length cb) bs, hdsR (.slice (some ⟨gh, 0, none⟩) hs.length cc) hs] from HT7.out.prm ((List.Perm.cons _ (List.Perm.swap _ _ _)).trans (List.Perm.swap _ _ _)))
              have hb7 := HTq.out.blk 1 rfl
              have k0 := hb7.cell 0 rfl
              have k1 := hb7.cell 1 rfl
              clear hb7 HT7
              have HTa := Lib.hid (fun W (hf : Frm [] w7 W) => take_ok (HR7.out.frm hf) size q HQ2.out.symm hfit)
              have hcl := cut_len hfit
              have HCu := Lib.hid hcl
              clear hcl
              go_region_held3 (fun wx => wx.cell? ⟨wi.heap.size, 0, none⟩ = some (.int .i64 pt) ∧ wx.cell? ⟨wi.heap.size, 1, none⟩ = some (.int .i64 off)) (first | go_keep | exact ⟨k0, k1⟩ | exact ⟨m0, m1⟩ | exact ⟨p0, p1⟩) (first | (go_at_call 38; (with_reducible refine (HTa.out _ ((Frm.refl _ _).drew)).mono ?_); rintro xx w8 ⟨vb, rfl, _, hS8⟩; obtain ⟨av, cv, rfl, _, _⟩ := RdI.of_own (hS8.own 1 rfl); have HT8 := Lib.hid (HTq.out.drew.callMany hS8 (by simp [blkR])); have m0 := (HT8.out.blk 2 rfl).cell 0 rfl; have m1 := (HT8.out.blk 2 rfl).cell 1 rfl; clear hS8) | (rw [if_pos (by rfl)]; refine wp_append_rows (.tmp 45) (.tmp 54) 22 rfl 50 iB (.agg #[.int .i64 0, .int .i64 0, .slice none 0 0]) 3 40 Try.underlying22 hj hy0 hy1 hy2 rfl (by decide) _ bs.length (bs.map BkV.row).flatten rfl ((HT8.out.skip _).own 4 rfl) (some ⟨w8.heap.size, 0, none⟩) 1 [[.int .i64 pt, .int .i64 off, .slice av (cut zs at2 q).length cv]] rfl (fun h => by cases h) (fun r hr => by simp at hr; subst hr; rfl) (rdS_lit (Blk.made w8 _ _)) (fun r hr u hu => by simp at hr; subst hr; simp at hu; rcases hu with rfl | rfl | rfl <;> rfl) (by unfold maxLen; simp; omega) (by simp; omega) ?_; intro v9 w9 h2 h3 h4; obtain ⟨a9, c9, rfl, x1, x2⟩ := own_shape h2; have HT9 := Lib.hid ((HT8.out.skip _).grow 4 rfl h3 h2 h4); have p0 := (HT9.out.blk 2 rfl).cell 0 rfl; have p1 := (HT9.out.blk 2 rfl).cell 1 rfl; clear h2 h3 h4 x1 x2))
              go_wp2_with fail
              have hb9 := blksR_snoc (.slice a9 (bs.length + 1) c9) bs ⟨pt, off, .slice av (cut zs at2 q).length cv, cut zs at2 q⟩
              have HB9 := Lib.hid hb9
              clear hb9
              go_roundw
              case rel =>
                refine ⟨k + 1, bs ++ [⟨pt, off, .slice av (cut zs at2 q).length cv, cut zs at2 q⟩], at2 + q, a9, c9, by omega, by rw [List.length_append]; rfl, by go_num, by rw [List.length_append, List.length_singleton]; omega, hfit, ?_, ?_⟩
                · rw [HTk.out]
                  simp only [bkStep, bkOne]
                  rw [← HQ.out, if_neg (by omega), List.map_append]
                  rfl
                · rw [List.length_append, List.length_singleton, ← HB9.out]
                  unfold dataR
                  rw [List.map_append]
                  exact (sep_data HT9.out).into1
              case measure => simp [intOf]; omega
            · have HSh := Lib.hid (fun W (hf : Frm [] w W) => hf)
              have hCe2 : C = .error 20 := by
                rw [HCe.out]
                refine bksL_error (n := k + 1) ?_
                rw [HTk.out]
                simp only [bkStep, bkOne]
                rw [← HQ.out, if_pos (by omega)]
              have HC2 := Lib.hid hCe2
              have HTs := Lib.hid (fun W (hf : Frm [] _ W) => take_short (HRw.out.frm hf) size (by rw [← HQ2.out]; omega))
              have hb7 := HTx.out.blk 0 rfl
              have k0 := hb7.cell 0 rfl
              have k1 := hb7.cell 1 rfl
              clear hq hq2 hCe2 HSh hb7 hfit
              go_wp2_with fail
              obtain ⟨w7, hw7⟩ : ∃ w7, w7 = wi.alloc (.cells #[.int .i64 pt, .int .i64 off, .int .i64 size, .bool false] 78) := ⟨_, rfl⟩
              rw [← hw7] at HTx HTs k0 k1 ⊢
              clear hw7 HRw
              refine wp_region_held_drew (S := fun wx => wx.cell? ⟨wi.heap.size, 0, none⟩ = some (.int .i64 pt) ∧ wx.cell? ⟨wi.heap.size, 1, none⟩ = some (.int .i64 off)) (by kernel_rfl) ⟨k0, k1⟩ (fun hHeld => ?_)
              refine wpAnyH_take (i := 0) (v := .slice ab bs.length cb) rfl (by kernel_rfl) (by kernel_rfl) (by kernel_rfl) (fun _ _ _ h => h) (Or.inl ⟨by rfl, fun wy hSw => ?_⟩) (by assumption) ?_
              · obtain ⟨s0, s1⟩ := hSw
                go_simp
              try simp only [Act.put, List.setIfInBounds_toArray, List.set_cons_zero, List.set_cons_succ]
              refine wpAnyH_take (i := 1) (v := .pointer (some ⟨wi.heap.size, 0, none⟩)) rfl (by kernel_rfl) (by kernel_rfl) (by kernel_rfl) (fun _ _ _ h => h) (Or.inl ⟨by rfl, fun wy hSw => ?_⟩) (by assumption) ?_
              · obtain ⟨s0, s1⟩ := hSw
                go_simp
              try simp only [Act.put, List.setIfInBounds_toArray, List.set_cons_zero, List.set_cons_succ]
              refine wpAnyH_take (i := 2) (v := .int .i64 pt) rfl (by kernel_rfl) (by kernel_rfl) (by kernel_rfl) (fun _ _ _ h => h) (Or.inl ⟨by rfl, fun wy hSw => ?_⟩) (by assumption) ?_
              · obtain ⟨s0, s1⟩ := hSw
                go_simp
              try simp only [Act.put, List.setIfInBounds_toArray, List.set_cons_zero, List.set_cons_succ]
              refine wpAnyH_take (i := 3) (v := .pointer (some ⟨wi.heap.size, 1, none⟩)) rfl (by kernel_rfl) (by kernel_rfl) (by kernel_rfl) (fun _ _ _ h => h) (Or.inl ⟨by rfl, fun wy hSw => ?_⟩) (by assumption) ?_
              · obtain ⟨s0, s1⟩ := hSw
                go_simp
              try simp only [Act.put, List.setIfInBounds_toArray, List.set_cons_zero, List.set_cons_succ]
              refine wpAnyH_take (i := 4) (v := .int .i64 off) rfl (by kernel_rfl) (by kernel_rfl) (by kernel_rfl) (fun _ _ _ h => h) (Or.inl ⟨by rfl, fun wy hSw => ?_⟩) (by assumption) ?_
              · obtain ⟨s0, s1⟩ := hSw
                go_simp
              try simp only [Act.put, List.setIfInBounds_toArray, List.set_cons_zero, List.set_cons_succ]
              refine wpAnyH_take (i := 5) (v := .pointer (some ⟨g, 0, none⟩)) rfl (by kernel_rfl) (by kernel_rfl) (by kernel_rfl) (fun _ _ _ h => h) (Or.inl ⟨by rfl, fun wy hSw => ?_⟩) (by assumption) ?_
              · obtain ⟨s0, s1⟩ := hSw
                go_simp
              try simp only [Act.put, List.setIfInBounds_toArray, List.set_cons_zero, List.set_cons_succ]
              refine wpAnyH_take (i := 6) (v := .int .i64 size) rfl (by kernel_rfl) (by kernel_rfl) (by kernel_rfl) (fun _ _ _ h => h) (Or.inl ⟨by rfl, fun wy hSw => ?_⟩) (by assumption) ?_
              · obtain ⟨s0, s1⟩ := hSw
                go_simp
              try simp only [Act.put, List.setIfInBounds_toArray, List.set_cons_zero, List.set_cons_succ]
              refine wpAnyH_ready (rs := [7]) (by kernel_rfl) (by simp) ?_
              refine AllReadyH.cons rfl (fun K hK => ?_) AllReadyH.nil
              go_simp
              go_wp2_with fail
              refine (HTs.out _ ((Frm.refl _ _).drew)).mono ?_
              rintro xx w8 ⟨rfl, hF8⟩
              refine ⟨rfl, ?_⟩
              rw [HC2.out]
              exact ⟨rfl, (HTx.out.frm.drew).trans hF8.more⟩
        · obtain rfl : k = hs.length := by omega
          have h1 := HRun.out
          rw [List.take_length, ← HCe.out] at h1
          have H1 := Lib.hid h1
          clear h1
          go_wp2_with fail
          go_ret
          rw [H1.out]
          exact ⟨hle2, _, bs, rfl, rfl, (HT2.out.swap2.prm (List.Perm.cons _ (List.Perm.swap _ _ _))).sub (List.sublist_append_left [_, _, _] [_])⟩

end Go.Proofs.Ytiknjkkphdncfaa
