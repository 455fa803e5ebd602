/-
  THE WALK of red.Older.
-/
import Derived.Test.YtiknjkkphdncfaaReJ
import Derived.Deep.RegionHeld3
set_option linter.unusedVariables false
set_option linter.unusedSimpArgs false
namespace Go.Proofs.Ytiknjkkphdncfaa
open Go.RowKit

def add32 (a n : Int) : Int := (a + n) % 4294967296
theorem add32_c (a n : Int) (w : World) :
    Calls Try.prog 31 #[.int .u32 a, .int .i64 n] w fun e w' => e = .returned (.int .u32 (add32 a n)) ∧ w = w' := by
  go_enter Try.func31, Try.ntmps31
  go_wp2
  all_goals (go_ret; exact ⟨ret_int (by unfold add32; first | omega | (rw [IntKind.wrap_u32, IntKind.wrap_u32]; omega)), rfl⟩)
/-- An older packet. -/
def oldK (x : Pp) (b : BkV) : Pk := ⟨{ zeroP with pt := b.pt, ts := add32 x.ts (IntKind.i64.wrap (-b.off)), ss := x.ss, P := b.B }, .slice none 0 0, .slice none 0 0, b.bv, .slice none 0 0⟩
def pkRow (q : Pk) : List Value := q.cells.toList
def pksR (v : Value) (qs : List Pk) : Res := ownR 36 11 v qs.length (qs.map pkRow).flatten
/-- What Older gives. -/
def OldP (w : World) (x : Pp) (E : Int) (y : Ending) (W' : World) : Prop := ∃ (v : Value) (bs : List BkV), bs.map BkV.bk = (chO x.P).dropLast ∧ y = .returned (.tuple #[v, .int .i64 E]) ∧ (∀ b ∈ bs, b.B.length ≤ x.P.length) ∧ Sep [] w W' [pksR v (bs.map (oldK x)), dataR bs]
theorem info_pkt : (Try.prog.info? 36).map (fun i => (i.zero, i.size, i.bytes)) = some (some (.agg #[.bool false, .int .i64 0, .int .u16 0, .int .u32 0, .int .u32 0, .slice none 0 0, .bool false, .int .u16 0, .slice none 0 0, .slice none 0 0, .slice none 0 0]), 11, 136) := by kernel_rfl
theorem pksR_snoc (v : Value) (qs : List Pk) (q : Pk) : ownR 36 11 v (qs.length + 1) ((qs.map pkRow).flatten ++ [pkRow q].flatten) = pksR v (qs ++ [q]) := by simp [pksR, pkRow]
theorem dataR_take {w : World} {bs : List BkV} (h : (dataR bs).P w) (k : Nat) : (dataR (bs.take k)).P w := fun r hr => by
  obtain ⟨b, hb, rfl⟩ := List.mem_map.1 hr
  exact h _ (List.mem_map.2 ⟨b, List.mem_of_mem_take hb, rfl⟩)
theorem Sep.dataTake {S : List Nat} {w0 w : World} {A : Res} {bs : List BkV} (h : Sep S w0 w [A, dataR bs]) (k : Nat) : Sep S w0 w [A, dataR (bs.take k)] := by
  have hb : ∀ g ∈ (dataR (bs.take k)).bl, g ∈ (dataR bs).bl := fun g hg => by
    unfold dataR manyR at hg ⊢
    simp only [List.mem_flatMap, List.mem_map] at hg ⊢
    obtain ⟨r, ⟨b, hb, rfl⟩, hg⟩ := hg
    exact ⟨_, ⟨b, List.mem_of_mem_take hb, rfl⟩, hg⟩
  have hA := (List.pairwise_cons.1 h.apart).1
  refine ⟨h.frm, fun r hr => ?_, ?_, fun r hr g hg => ?_⟩
  · rcases List.mem_cons.1 hr with rfl | hr
    · exact h.get 0 rfl
    · simp at hr; subst hr; exact dataR_take (h.get 1 rfl) k
  · refine List.Pairwise.cons (fun r hr g hg hg' => ?_) (by simp)
    simp at hr; subst hr
    exact hA (dataR bs) (by simp) g hg (hb g hg')
  · rcases List.mem_cons.1 hr with rfl | hr
    · exact h.mine _ (by simp) g hg
    · simp at hr; subst hr; exact h.mine (dataR bs) (by simp) g (hb g hg)

set_option maxRecDepth 100000 in
set_option maxHeartbeats 16000000 in
theorem older_c (p : Pk) (w : World) (hp : RdPk w p) (sm : PpSm p.pl) (hy : Byt p.pl.P) :
    Calls Try.prog 17 #[.agg p.cells] w (OldP w p.pl (chE p.pl.P)) := by
  obtain ⟨iK, hi, hz0, hz1, hz2⟩ := info_parts info_pkt
  have HP := Lib.hid (fun X (hX : Frm [] w X) => hp.frm hX)
  have SM := Lib.hid sm
  have HY := Lib.hid hy
  obtain ⟨p0, hp0⟩ : ∃ p0, p0 = p := ⟨_, rfl⟩
  rw [← hp0] at HP SM HY ⊢
  clear hp sm hy
  obtain ⟨⟨m, pt, seq, ts, ss, C, hx, pf, EE, P, D⟩, cv, ev, pv, dv⟩ := p
  have HQ := Lib.hid hp0
  obtain ⟨aC, cC, e1, rC, nC, lC, mC⟩ := (HP.out w (Frm.refl _ _)).c
  obtain ⟨aE, cE, e2, rE, nE, lE, mE⟩ := (HP.out w (Frm.refl _ _)).e
  obtain ⟨aP, cP, e3, rP, nP, lP, mP⟩ := (HP.out w (Frm.refl _ _)).p
  obtain ⟨aD, cD, e4, rD, nD, lD, mD⟩ := (HP.out w (Frm.refl _ _)).d
  rw [hp0] at e1 e2 e3 e4
  simp only at e1 e2 e3 e4
  subst e1 e2 e3 e4
  have HPar := Lib.hid (fun X (hX : Frm [] w X) => Parse_c (w := X) (a := aP) (c := cP) (zs := p0.pl.P) ⟨rP.below hX.below, HY.out, lP, mP, nP, SM.out.p⟩)
  have HLP := Lib.hid (show P.length ≤ 1000000 by have := SM.out.p; rw [hp0] at this; exact this)
  rw [hp0] at HPar
  simp only at HPar
  obtain ⟨E, hE⟩ : ∃ E, E = chE P := ⟨_, rfl⟩
  rw [← hE] at HPar
  have HE := Lib.hid hE
  have HS0 := Lib.hid ((Sep.init w).alloc #[.bool m, .int .i64 pt, .int .u16 seq, .int .u32 ts, .int .u32 ss, .slice aC C.length cC, .bool hx, .int .u16 pf, .slice aE EE.length cE, .slice aP P.length cP, .slice aD D.length cD] 36)
  clear rP nP lP mP rC nC lC mC rE nE lE mE rD nD lD mD
  rw [hp0]
  unfold Pk.cells
  simp only
  rw [← hE]
  clear hp0 hE
  go_enter Try.func17, Try.ntmps17
  go_wp2_with fail
  refine (HPar.out _ HS0.out.frm).mono ?_
  rintro e w1 ⟨v, bs, hbs, rfl, hsm, hS⟩
  have HBs := Lib.hid hbs
  have HSm := Lib.hid hsm
  have HS1 := Lib.hid (HS0.out.more hS)
  obtain ⟨av, cv, rfl, hle, hmx, hrd⟩ := blks_rd (HS1.out.get 0 rfl)
  clear hbs hsm hS hrd HPar HS0
  by_cases h0 : E = 0
  · have q0 : (E != 0) = false := by simp [h0]
    have hch := chO_ok (zs := P) (by rw [← HE.out, h0])
    rw [← HBs.out, List.length_map] at hch
    obtain ⟨l0, l9, _⟩ := hch
    obtain ⟨k, hk⟩ : ∃ k : Nat, k + 1 = bs.length := ⟨bs.length - 1, by omega⟩
    rw [← hk] at hle l9 ⊢
    have HK := Lib.hid hk
    have i1 : ((k + 1 : Nat) : Int) - 1 = (k : Int) := by omega
    have i4 : IntKind.i64.wrap (((k + 1 : Nat) : Int) - 1) = (k : Int) := by rw [i1]; exact IntWalk.i64_in _ (by omega)
    have i5 : (k : Int) ≤ (cv : Int) := by omega
    have i6 : k ≤ cv := by omega
    have i7 : (0 : Int) ≤ (k : Int) := by omega
    have HS2 := Lib.hid (HS1.out.nil 36 11)
    clear hk hmx hle l0 HS1
    go_wp2_with fail
    go_loopw [6, 24] (fun o i wr => ∃ (j : Nat) (v : Value), j ≤ k ∧ o = v ∧ i = .int .i64 j ∧ Sep [] w wr [pksR v ((bs.take j).map (oldK ⟨m, pt, seq, ts, ss, C, hx, pf, EE, P, D⟩)), blksR (.slice av bs.length cv) bs, dataR bs, blkR w.heap.size 36 #[.bool m, .int .i64 pt, .int .u16 seq, .int .u32 ts, .int .u32 ss, .slice aC C.length cC, .bool hx, .int .u16 pf, .slice aE EE.length cE, .slice aP P.length cP, .slice aD D.length cD]]) (fun _ i _ => k - (intOf i).toNat)
    case atStart => exact ⟨0, _, Nat.zero_le _, rfl, rfl, HS2.out⟩
    case round =>
      obtain ⟨j, v, hj, rfl, rfl, hS⟩ := hrel
      have HT := Lib.hid hS
      clear hS
      obtain ⟨wo, hwo⟩ : ∃ wo : World, wo = wr := ⟨_, rfl⟩
      rw [← hwo] at HT ⊢
      clear hwo
      obtain ⟨ao, co, rfl, _, _⟩ := own_shape (HT.out.own 0 rfl)
      by_cases hlt : j < k
      · obtain ⟨b, hb⟩ : ∃ b, bs[j]? = some b := ⟨_, List.getElem?_eq_getElem (by have := HK.out; omega)⟩
        obtain ⟨av', cv', e1, _, _, hrd⟩ := blks_rd (HT.out.get 1 rfl)
        injection e1 with e1 _ e3
        subst e1 e3
        obtain ⟨bb, bo, rfl, _, hc⟩ := hrd j b.row (by rw [List.getElem?_map, hb]; rfl)
        obtain ⟨aB, cB, hbv, _⟩ := data_rd (HT.out.get 2 rfl) (List.mem_of_getElem? hb)
        have HB := Lib.hid hb
        obtain ⟨bpt, boff, bv, B⟩ := b
        simp only at hbv
        subst hbv
        have d0 : wo.cell? ⟨bb, bo + j * 3, none⟩ = some (.int .i64 bpt) := hc 0 _ rfl
        have d1 : wo.cell? ⟨bb, bo + j * 3 + 1, none⟩ = some (.int .i64 boff) := hc 1 _ rfl
        have d2 : wo.cell? ⟨bb, bo + j * 3 + 2, none⟩ = some (.slice aB B.length cB) := hc 2 _ rfl
        have j1 : (0 : Int) ≤ (j : Int) := by omega
        have j2 : (j : Int) < (k : Int) := by omega
        have hlq : ((bs.take j).map (oldK ⟨m, pt, seq, ts, ss, C, hx, pf, EE, P, D⟩)).length = j := by rw [List.length_map, List.length_take]; have := HK.out; omega
        have hS := HT.out
        unfold pksR at hS
        rw [hlq] at hS ⊢
        obtain ⟨F, hF⟩ : ∃ F, F = (((bs.take j).map (oldK ⟨m, pt, seq, ts, ss, C, hx, pf, EE, P, D⟩)).map pkRow).flatten := ⟨_, rfl⟩
        rw [← hF] at hS
        have HFl := Lib.hid hF
        have HLq := Lib.hid hlq
        have hS2 := hS.alloc #[.int .i64 bpt, .int .i64 boff, .slice aB B.length cB] 50
        obtain ⟨bx, hbx⟩ : ∃ bx, bx = wo.heap.size := ⟨_, rfl⟩
        obtain ⟨wy, hwy⟩ : ∃ wy, wy = wo.alloc (.cells #[.int .i64 bpt, .int .i64 boff, .slice aB B.length cB] 50) := ⟨_, rfl⟩
        rw [← hwy, ← hbx] at hS2
        have HTx := Lib.hid hS2
        have HWy := Lib.hid (And.intro hwy hbx)
        have k0 := (hS2.blk 0 rfl).cell 0 rfl
        have k1 := (hS2.blk 0 rfl).cell 1 rfl
        have k2 := (hS2.blk 0 rfl).cell 2 rfl
        have k3 := (hS2.blk 4 rfl).cell 3 rfl
        have k4 := (hS2.blk 4 rfl).cell 4 rfl
        have hj9 : j ≤ 1000 := by omega
        clear hc hb hrd hlq hF hS hS2 hwy hbx HT
        go_upto_region 8 with fail
        rw [← HWy.out.2, ← HWy.out.1]
        go_region_held3 (fun wx => wx.cell? ⟨bx, 0, none⟩ = some (.int .i64 bpt) ∧ wx.cell? ⟨bx, 1, none⟩ = some (.int .i64 boff) ∧ wx.cell? ⟨bx, 2, none⟩ = some (.slice aB B.length cB) ∧ wx.cell? ⟨w.heap.size, 3, none⟩ = some (.int .u32 ts) ∧ wx.cell? ⟨w.heap.size, 4, none⟩ = some (.int .u32 ss)) (first | go_keep | exact ⟨k0, k1, k2, k3, k4⟩ | exact ⟨p0, p1, p2, p3, p4⟩) (first | (go_at_call 31; (with_reducible refine (add32_c ts (IntKind.i64.wrap (-boff)) _).mono ?_); rintro e wA ⟨rfl, rfl⟩) | (rw [if_pos (by rfl)]; refine wp_append_rows (.tmp 28) (.tmp 42) 46 rfl 36 iK (.agg #[.bool false, .int .i64 0, .int .u16 0, .int .u32 0, .int .u32 0, .slice none 0 0, .bool false, .int .u16 0, .slice none 0 0, .slice none 0 0, .slice none 0 0]) 11 136 Try.underlying46 hi hz0 hz1 hz2 rfl (by decide) (.slice ao j co) j F rfl ((HTx.out.drew.skip _).own 1 rfl) (some ⟨wy.heap.size, 0, none⟩) 1 [[.bool false, .int .i64 bpt, .int .u16 0, .int .u32 (add32 ts (IntKind.i64.wrap (-boff))), .int .u32 ss, .slice none 0 0, .bool false, .int .u16 0, .slice none 0 0, .slice aB B.length cB, .slice none 0 0]] rfl (fun h => by cases h) (fun r hr => by simp at hr; subst hr; rfl) (rdS_lit (Blk.made wy.drew _ _)) (fun r hr u hu => by simp at hr; subst hr; simp at hu; rcases hu with rfl | rfl | rfl | rfl | rfl | rfl | rfl | rfl | rfl | rfl | rfl <;> rfl) (by unfold maxLen; simp; omega) (by simp; omega) ?_; intro v9 w9 h2 h3 h4; have HT9 := Lib.hid ((HTx.out.drew.skip _).grow 1 rfl h3 h2 h4); have p0 := (HT9.out.blk 0 rfl).cell 0 rfl; have p1 := (HT9.out.blk 0 rfl).cell 1 rfl; have p2 := (HT9.out.blk 0 rfl).cell 2 rfl; have p3 := (HT9.out.blk 4 rfl).cell 3 rfl; have p4 := (HT9.out.blk 4 rfl).cell 4 rfl; clear h2 h3 h4) | fail)
        have hsn : (bs.take (j + 1)).map (oldK ⟨m, pt, seq, ts, ss, C, hx, pf, EE, P, D⟩) = (bs.take j).map (oldK ⟨m, pt, seq, ts, ss, C, hx, pf, EE, P, D⟩) ++ [oldK ⟨m, pt, seq, ts, ss, C, hx, pf, EE, P, D⟩ ⟨bpt, boff, .slice aB B.length cB, B⟩] := by rw [List.take_add_one, HB.out, List.map_append]; rfl
        have HT10 := Lib.hid (show Sep [] w w9 [pksR v9 ((bs.take (j + 1)).map (oldK ⟨m, pt, seq, ts, ss, C, hx, pf, EE, P, D⟩)), blksR _ bs, dataR bs, blkR w.heap.size 36 #[.bool m, .int .i64 pt, .int .u16 seq, .int .u32 ts, .int .u32 ss, .slice aC C.length cC, .bool hx, .int .u16 pf, .slice aE EE.length cE, .slice aP P.length cP, .slice aD D.length cD]] from by
          rw [hsn, ← pksR_snoc, HLq.out, ← HFl.out]
          exact HT9.out.at_ [1, 2, 3, 4] (by decide) rfl)
        clear hsn
        go_wp2_with fail
        go_roundw
        case rel => exact ⟨j + 1, v9, by omega, rfl, by go_num, HT10.out⟩
        case measure => simp [intOf]; omega
      · obtain rfl : j = k := by omega
        go_wp2_with fail
        refine bodyPost_ret (v := .tuple #[.slice ao ((bs.take j).map (oldK ⟨m, pt, seq, ts, ss, C, hx, pf, EE, P, D⟩)).length co, .int .i64 0]) ?_ rfl ⟨_, bs.take j, ?_, by first | rfl | rw [h0], ?_, ?_⟩
        · simp [results, Try.results17]
        · show _ = (chO P).dropLast
          rw [← HBs.out, List.dropLast_eq_take, List.length_map, ← HK.out, List.map_take]
          rfl
        · intro b hb; exact HSm.out b (List.mem_of_mem_take hb)
        · exact (HT.out.at_ [0, 2] (by decide) rfl : Sep [] w _ [_, dataR bs]).dataTake _
  · have q0 : (E != 0) = true := by simp [h0]
    have HS2 := Lib.hid (HS1.out.nil 36 11)
    go_wp2_with fail
    refine bodyPost_ret (v := .tuple #[.slice none 0 0, .int .i64 E]) ?_ rfl ⟨.slice none 0 0, [], ?_, rfl, by simp, ?_⟩
    · simp [results, Try.results17]
    · show _ = (chO P).dropLast
      rw [chO_err (by rw [← HE.out]; exact h0)]; rfl
    · exact ((Sep.init w).keep HS1.out.frm).none.nil 36 11

end Go.Proofs.Ytiknjkkphdncfaa
