/-
  THE WALK of confluxref09.Of. Printed by gen_ulw.py.
-/
import Derived.Test.YtjflcijiaennkaaDoorUlQ
import Derived.Test.YtjflcijiaennkaaDoorUlV
set_option linter.unusedVariables false
set_option linter.unusedSimpArgs false
namespace Go.Proofs.YtjflcijiaennkaaDoor
open Go.RowKit

theorem urdS_lit2 {w : World} {b : Nat} {t : TypeId} {x0 x1 x2 y0 y1 y2 : Value} (h : Blk w b t #[x0, x1, x2, y0, y1, y2]) : RdS 3 w (some ⟨b, 0, none⟩) [[x0, x1, x2], [y0, y1, y2]] := fun i row hi => by
  match i, hi with
  | 0, hi =>
    simp at hi
    subst hi
    refine ⟨b, 0, rfl, h.lt, fun j v hj => ?_⟩
    match j, hj with
    | 0, hj => simp at hj; subst hj; exact h.cell 0 rfl
    | 1, hj => simp at hj; subst hj; exact h.cell 1 rfl
    | 2, hj => simp at hj; subst hj; exact h.cell 2 rfl
    | j + 3, hj => simp at hj
  | 1, hi =>
    simp at hi
    subst hi
    refine ⟨b, 0, rfl, h.lt, fun j v hj => ?_⟩
    match j, hj with
    | 0, hj => simp at hj; subst hj; exact h.cell 3 rfl
    | 1, hj => simp at hj; subst hj; exact h.cell 4 rfl
    | 2, hj => simp at hj; subst hj; exact h.cell 5 rfl
    | j + 3, hj => simp at hj
  | i + 2, hi => simp at hi
/-- A pack of the reference: levels of its own, bodies that are only read. -/
def URfP (w : World) (X : Ul) (e : Int) : Ending → World → Prop := fun en w' => ∃ ad cd qs, en = .returned (.tuple #[X.val (.slice ad (List.length qs) cd), .int .i64 e]) ∧ qs.map LvV.lv = X.Ls ∧ RdLs w' ad qs ∧ Frm [] w w'

set_option maxRecDepth 100000 in
set_option maxHeartbeats 16000000 in
theorem urof_c (r : Rp) (cut : Int) (a : Option Addr) (c : Nat) (w : World) (hok : r.Ok) (hrd : RdI .u8 w a r.B) (hn : a = none → c = 0) (lc : r.B.length ≤ c) (mc : c ≤ 9223372036854775807) (hl : r.B.length ≤ 1000000) :
    Calls Tryd.prog 23 #[r.val (.slice a r.B.length c), .int .i64 cut] w (URfP w (uofX r cut) (uofE r cut)) := by
  obtain ⟨iL, hLi, hLz0, hLz1, hLz2⟩ := info_parts info_rlevel
  have HW := Lib.hid (fun X a' c' (qs : List LvV) (hX : Frm [] w X) (hq : qs.map LvV.lv = (upkOf r cut).Ls) (rd : RdLs X a' qs) => urwrite_c (upkOf r cut) a' c' qs X hq (upkOf_ok hok cut) rd (by
    have h1 : qs.length = (cutsOf r.B cut).length := by have := congrArg List.length hq; simpa [upkOf] using this
    rw [h1]
    unfold cutsOf
    split <;> simp) (fun q hq2 => by
    have h1 : q.lv ∈ (upkOf r cut).Ls := hq ▸ List.mem_map_of_mem hq2
    obtain ⟨x, hx, hxe⟩ := List.mem_map.1 h1
    have h2 : q.B = x := by rw [show q.B = q.lv.B from rfl, ← hxe]
    rw [h2]
    unfold cutsOf at hx
    split at hx
    · simp at hx
      rcases hx with rfl | rfl
      · rw [List.length_take]; omega
      · rw [List.length_drop]; omega
    · simp at hx; subst hx; exact hl))
  have HLa := Lib.hid (fun X (hX : Frm [] w X) => urlast_c r.h r.l X hok.rh hok.rl)
  have HRd := Lib.hid (fun X (hX : Frm [] w X) => hrd.below (w' := X) hX.below)
  obtain ⟨E, hE⟩ : ∃ E, E = uofE r cut := ⟨_, rfl⟩
  obtain ⟨Y, hY⟩ : ∃ Y, Y = uofX r cut := ⟨_, rfl⟩
  rw [← hE, ← hY]
  unfold uofX at hY
  rw [← hE] at hY
  unfold uofE at hE
  obtain ⟨O, hO⟩ : ∃ O, O = uwoX (upkOf r cut) := ⟨_, rfl⟩
  rw [← hE, ← hO] at HW
  have HY := Lib.hid hY
  have r0 := hok.r0
  have HNn := Lib.hid hn
  clear hE hY hO hok hrd hn
  obtain ⟨h0, h1, h2, h3, h4, h5, h6, h7, bb, mh, ml, B⟩ := r
  simp only [Rp.val, Rp.cells, upkOf] at *
  obtain ⟨L, hL⟩ : ∃ L, L = laN mh ml := ⟨_, rfl⟩
  obtain ⟨F, hF⟩ : ∃ F, F = decide (16 ≤ L) := ⟨_, rfl⟩
  rw [← hL] at HLa HW HY
  rw [← hF] at HW HY
  have hF2 : decide (16 ≤ L) = F := hF.symm
  have e1 : Int.tmod h0 64 = h0 % 64 := Int.tmod_eq_emod_of_nonneg r0.1
  obtain ⟨p, hp⟩ : ∃ p, p = h0 % 64 := ⟨_, rfl⟩
  rw [← hp] at e1 HW HY
  have HE1 := Lib.hid e1
  obtain ⟨n, hn⟩ : ∃ n, n = B.length := ⟨_, rfl⟩
  have HN := Lib.hid hn
  rw [← hn] at lc hl ⊢
  clear hL hF hp e1 hn r0
  have HS0 := Lib.hid (((Sep.init w).alloc #[.int .u8 h0, .int .u8 h1, .int .u8 h2, .int .u8 h3, .int .u8 h4, .int .u8 h5, .int .u8 h6, .int .u8 h7, .int .u16 bb, .int .u64 (mh : Int), .int .u64 (ml : Int), .slice a n c] 53).alloc #[.int .u8 0, .int .u8 0, .int .u8 0, .int .u8 0, .int .u8 0, .int .u8 0, .int .u8 0, .int .u8 0, .int .u16 0, .bool false, .slice none 0 0] 35)
  simp only [World.size_alloc] at HS0
  go_enter Tryd.func23, Tryd.ntmps23
  go_upto_region 1 with fail
  obtain ⟨w1, hw1⟩ : ∃ w1, w1 = (w.alloc (.cells #[.int .u8 h0, .int .u8 h1, .int .u8 h2, .int .u8 h3, .int .u8 h4, .int .u8 h5, .int .u8 h6, .int .u8 h7, .int .u16 bb, .int .u64 (mh : Int), .int .u64 (ml : Int), .slice a n c] 53)).alloc (.cells #[.int .u8 0, .int .u8 0, .int .u8 0, .int .u8 0, .int .u8 0, .int .u8 0, .int .u8 0, .int .u8 0, .int .u16 0, .bool false, .slice none 0 0] 35) := ⟨_, rfl⟩
  obtain ⟨o, ho⟩ : ∃ o, o = w.heap.size := ⟨_, rfl⟩
  rw [← hw1, ← ho] at HS0
  rw [← hw1, ← ho]
  clear hw1 ho
  have HB := Lib.hid (show o < w1.heap.size ∧ o + 1 < w1.heap.size ∧ w.heap.size ≤ w1.heap.size from ⟨(HS0.out.blk 1 rfl).lt, (HS0.out.blk 0 rfl).lt, HS0.out.frm.size⟩)
  refine region_segsA (ty := 35) (z := #[.int .u8 0, .int .u8 0, .int .u8 0, .int .u8 0, .int .u8 0, .int .u8 0, .int .u8 0, .int .u8 0, .int .u16 0, .bool false, .slice none 0 0]) [0, 1, 2, 3, 4, 5, 6, 7, 8, 9, 10] [8] 11 [12] [0] (by kernel_rfl) (by kernel_rfl) rfl rfl rfl rfl (fun _ _ => by kernel_rfl) (by kernel_rfl) ?_
  simp only [remOf, List.filterMap_cons, List.filterMap_nil, List.getElem?_cons_zero, List.getElem?_cons_succ]
  have HS2 := Lib.hid HS0.out.drew
  obtain ⟨w2, hw2⟩ : ∃ w2, w2 = w1.drew := ⟨_, rfl⟩
  obtain ⟨B0, hB0⟩ : ∃ B0, B0 = w1.heap.size := ⟨_, rfl⟩
  rw [← hw2] at HS2
  rw [← hB0] at HB
  rw [← hw2, ← hB0]
  clear hw2 hB0 HS0
  unfold wpSegsU
  simp only [List.take_succ_cons, List.take_zero, List.drop_succ_cons, List.drop_zero]
  have n1 : Nonempty (Cls (fun v => FrB B0 [] w2 v)) := ⟨⟨_, FrB.refl _ _ _⟩⟩
  have q0 := fun x : Cls (fun v => FrB B0 [] w2 v) => (x.ok.blk (HS2.out.blk 1 rfl) (by have := HB.out; omega) (by simp)).cell 0 rfl
  have q1 := fun x : Cls (fun v => FrB B0 [] w2 v) => (x.ok.blk (HS2.out.blk 1 rfl) (by have := HB.out; omega) (by simp)).cell 1 rfl
  have q2 := fun x : Cls (fun v => FrB B0 [] w2 v) => (x.ok.blk (HS2.out.blk 1 rfl) (by have := HB.out; omega) (by simp)).cell 2 rfl
  have q3 := fun x : Cls (fun v => FrB B0 [] w2 v) => (x.ok.blk (HS2.out.blk 1 rfl) (by have := HB.out; omega) (by simp)).cell 3 rfl
  have q4 := fun x : Cls (fun v => FrB B0 [] w2 v) => (x.ok.blk (HS2.out.blk 1 rfl) (by have := HB.out; omega) (by simp)).cell 4 rfl
  have q5 := fun x : Cls (fun v => FrB B0 [] w2 v) => (x.ok.blk (HS2.out.blk 1 rfl) (by have := HB.out; omega) (by simp)).cell 5 rfl
  have q6 := fun x : Cls (fun v => FrB B0 [] w2 v) => (x.ok.blk (HS2.out.blk 1 rfl) (by have := HB.out; omega) (by simp)).cell 6 rfl
  have q7 := fun x : Cls (fun v => FrB B0 [] w2 v) => (x.ok.blk (HS2.out.blk 1 rfl) (by have := HB.out; omega) (by simp)).cell 7 rfl
  have q8 := fun x : Cls (fun v => FrB B0 [] w2 v) => (x.ok.blk (HS2.out.blk 1 rfl) (by have := HB.out; omega) (by simp)).cell 8 rfl
  have q9 := fun x : Cls (fun v => FrB B0 [] w2 v) => (x.ok.blk (HS2.out.blk 1 rfl) (by have := HB.out; omega) (by simp)).cell 9 rfl
  have q10 := fun x : Cls (fun v => FrB B0 [] w2 v) => (x.ok.blk (HS2.out.blk 1 rfl) (by have := HB.out; omega) (by simp)).cell 10 rfl
  repeat (go_big_quiet_step (fail))
  refine wpQuiet_nil ?_
  intro X hX
  refine only_step (fun K' hK => ?_)
  clear q0 q1 q2 q3 q4 q5 q6 q7 q8 q9 q10 n1
  go_wp2_with fail
  refine (HLa.out X (HS2.out.frm.trans hX)).mono ?_
  rintro e w3 ⟨rfl, hf⟩
  have HS3 := Lib.hid (show Sep [] w w3 [blkR (o + 1) 35 #[.int .u8 0, .int .u8 0, .int .u8 0, .int .u8 0, .int .u8 0, .int .u8 0, .int .u8 0, .int .u8 0, .int .u16 0, .bool false, .slice none 0 0], blkR o 53 #[.int .u8 h0, .int .u8 h1, .int .u8 h2, .int .u8 h3, .int .u8 h4, .int .u8 h5, .int .u8 h6, .int .u8 h7, .int .u16 bb, .int .u64 (mh : Int), .int .u64 (ml : Int), .slice a n c]] from (HS2.out.keep hX).keep hf)
  go_wp2_with fail
  refine hK.out _ _ ⟨hf, ?_⟩
  clear hK hf hX HS2
  unfold wpSegsU
  have n1 : Nonempty (Cls (fun v => FrB B0 [] w3 v)) := ⟨⟨_, FrB.refl _ _ _⟩⟩
  show wpQuiet _ _ _ _ [_, _] _
  repeat (go_big_quiet_step (fail))
  refine wpQuiet_nil ?_
  intro X hX g2 hb hg
  clear n1
  have HS4 := Lib.hid (show Sep [] w X [blkR g2 35 #[.int .u8 0, .int .u8 0, .int .u8 0, .int .u8 0, .int .u8 0, .int .u8 0, .int .u8 0, .int .u8 0, .int .u16 0, .bool false, .slice none 0 0], blkR (o + 1) 35 #[.int .u8 0, .int .u8 0, .int .u8 0, .int .u8 0, .int .u8 0, .int .u8 0, .int .u8 0, .int .u8 0, .int .u16 0, .bool false, .slice none 0 0], blkR o 53 #[.int .u8 h0, .int .u8 h1, .int .u8 h2, .int .u8 h3, .int .u8 h4, .int .u8 h5, .int .u8 h6, .int .u8 h7, .int .u16 bb, .int .u64 (mh : Int), .int .u64 (ml : Int), .slice a n c]] from (HS3.out.keep hX).adopt hb (by have := HB.out; omega) (by
    intro r hr
    rcases List.mem_cons.1 hr with rfl | hr
    · simp [blkR]; have := HB.out; omega
    · rcases List.mem_cons.1 hr with rfl | hr
      · simp [blkR]; have := HB.out; omega
      · cases hr))
  clear HS3 hX
  unfold wpSegsR
  simp only [List.take_succ_cons, List.take_zero, List.drop_succ_cons, List.drop_zero]
  refine wpQuiet_nil ?_
  refine only_step (fun K' hK => ?_)
  have hz := HS4.out.blk 0 rfl
  have z0 := hz.cell 0 rfl
  have z1 := hz.cell 1 rfl
  have z2 := hz.cell 2 rfl
  have z3 := hz.cell 3 rfl
  have z4 := hz.cell 4 rfl
  have z5 := hz.cell 5 rfl
  have z6 := hz.cell 6 rfl
  have z7 := hz.cell 7 rfl
  have z8 := hz.cell 8 rfl
  have z9 := hz.cell 9 rfl
  have z10 := hz.cell 10 rfl
  have f0 := hz.free 0
  have f1 := hz.free 1
  have f2 := hz.free 2
  have f3 := hz.free 3
  have f4 := hz.free 4
  have f5 := hz.free 5
  have f6 := hz.free 6
  have f7 := hz.free 7
  have f8 := hz.free 8
  have f9 := hz.free 9
  have f10 := hz.free 10
  go_wp2_with fail
  obtain ⟨w4, hw4⟩ : ∃ w4, w4 = (((((((((((X.setCell ⟨g2, 0, none⟩ (.int .u8 h0)).setCell ⟨g2, 1, none⟩ (.int .u8 h1)).setCell ⟨g2, 2, none⟩ (.int .u8 h2)).setCell ⟨g2, 3, none⟩ (.int .u8 h3)).setCell ⟨g2, 4, none⟩ (.int .u8 h4)).setCell ⟨g2, 5, none⟩ (.int .u8 h5)).setCell ⟨g2, 6, none⟩ (.int .u8 h6)).setCell ⟨g2, 7, none⟩ (.int .u8 h7)).setCell ⟨g2, 8, none⟩ (.int .u16 bb)).setCell ⟨g2, 9, none⟩ (.bool F)).setCell ⟨g2, 10, none⟩ (.slice none 0 0)) := ⟨_, rfl⟩
  have HS5 := Lib.hid (show Sep [] w w4 [blkR g2 35 #[.int .u8 h0, .int .u8 h1, .int .u8 h2, .int .u8 h3, .int .u8 h4, .int .u8 h5, .int .u8 h6, .int .u8 h7, .int .u16 bb, .bool F, .slice none 0 0], blkR (o + 1) 35 #[.int .u8 0, .int .u8 0, .int .u8 0, .int .u8 0, .int .u8 0, .int .u8 0, .int .u8 0, .int .u8 0, .int .u16 0, .bool false, .slice none 0 0], blkR o 53 #[.int .u8 h0, .int .u8 h1, .int .u8 h2, .int .u8 h3, .int .u8 h4, .int .u8 h5, .int .u8 h6, .int .u8 h7, .int .u16 bb, .int .u64 (mh : Int), .int .u64 (ml : Int), .slice a n c]] from hw4 ▸ HS4.out.puts 0 rfl [.int .u8 h0, .int .u8 h1, .int .u8 h2, .int .u8 h3, .int .u8 h4, .int .u8 h5, .int .u8 h6, .int .u8 h7, .int .u16 bb, .bool F, .slice none 0 0] rfl)
  have hfr : FrB B0 [] X w4 := hw4 ▸ ufrb_putAll g2 hg [.int .u8 h0, .int .u8 h1, .int .u8 h2, .int .u8 h3, .int .u8 h4, .int .u8 h5, .int .u8 h6, .int .u8 h7, .int .u16 bb, .bool F, .slice none 0 0] 0 X
  rw [← hw4]
  refine hK.out _ _ ⟨hfr, ?_⟩
  clear hw4 hK HS4 hz z0 z1 z2 z3 z4 z5 z6 z7 z8 z9 z10 f0 f1 f2 f3 f4 f5 f6 f7 f8 f9 f10 hfr hb hF2
  unfold wpSegsR
  refine wpQuiet_nil ?_
  refine NoPanic.normal ?_
  have e63 := HE1.out
  have k0 := (HS5.out.blk 0 rfl).cell 0 rfl
  have f0 := (HS5.out.blk 0 rfl).free 0
  go_upto_region 3 with fail
  have HS6 := Lib.hid (HS5.out.put 0 rfl 0 (.int .u8 p))
  obtain ⟨w5, hw5⟩ : ∃ x, x = w4.setCell ⟨g2, 0, none⟩ (.int .u8 p) := ⟨_, rfl⟩
  rw [← hw5] at HS6
  rw [← hw5]
  clear hw5 HS5 k0 f0 e63 HB hg
  have HS7 := Lib.hid (show Sep [] w w5 [blkR g2 35 #[.int .u8 p, .int .u8 h1, .int .u8 h2, .int .u8 h3, .int .u8 h4, .int .u8 h5, .int .u8 h6, .int .u8 h7, .int .u16 bb, .bool F, .slice none 0 0], blkR (o + 1) 35 #[.int .u8 0, .int .u8 0, .int .u8 0, .int .u8 0, .int .u8 0, .int .u8 0, .int .u8 0, .int .u8 0, .int .u16 0, .bool false, .slice none 0 0], blkR o 53 #[.int .u8 h0, .int .u8 h1, .int .u8 h2, .int .u8 h3, .int .u8 h4, .int .u8 h5, .int .u8 h6, .int .u8 h7, .int .u16 bb, .int .u64 (mh : Int), .int .u64 (ml : Int), .slice a n c]] from HS6.out)
  clear HS6
  have k11 := (HS7.out.blk 2 rfl).cell 11 rfl
  obtain ⟨G, hG⟩ : ∃ G, G = decide (0 ≤ cut ∧ cut < (n : Int)) := ⟨_, rfl⟩
  go_cut [34] (fun v wx => v = .bool G ∧ wx = w5)
  case first =>
    by_cases c0 : 0 ≤ cut
    · have t0 : decide (0 ≤ cut) = true := decide_eq_true c0
      by_cases c1 : cut < (n : Int)
      · have t1 : decide (cut < (n : Int)) = true := decide_eq_true c1
        obtain rfl : G = true := hG.trans (decide_eq_true ⟨c0, c1⟩)
        clear c0 c1 hG
        go_wp2_with fail
        go_meet
        exact ⟨rfl, rfl⟩
      · have t1 : decide (cut < (n : Int)) = false := decide_eq_false c1
        obtain rfl : G = false := hG.trans (decide_eq_false (fun h => c1 h.2))
        clear c0 c1 hG
        go_wp2_with fail
        go_meet
        exact ⟨rfl, rfl⟩
    · have t0 : decide (0 ≤ cut) = false := decide_eq_false c0
      obtain rfl : G = false := hG.trans (decide_eq_false (fun h => c0 h.1))
      clear c0 hG
      go_wp2_with fail
      go_meet
      exact ⟨rfl, rfl⟩
  obtain ⟨rfl, hwc⟩ := hcut
  rw [hwc]
  clear hwc
  have HG := Lib.hid hG
  clear hG k11
  go_upto_if 34 with fail
  go_cut [] (fun wx => ∃ (qs : List LvV) (ad : Option Addr) (cd : Nat), qs.map LvV.lv = (cutsOf B cut).map (Lv.mk mh ml) ∧ (∀ q ∈ qs, ∀ X, Frm [] w X → Sla .u8 X q.bv q.B) ∧ Sep [] w wx [lvsR 74 (.slice ad qs.length cd) qs, blkR g2 35 #[.int .u8 p, .int .u8 h1, .int .u8 h2, .int .u8 h3, .int .u8 h4, .int .u8 h5, .int .u8 h6, .int .u8 h7, .int .u16 bb, .bool F, .slice ad qs.length cd], blkR (o + 1) 35 #[.int .u8 0, .int .u8 0, .int .u8 0, .int .u8 0, .int .u8 0, .int .u8 0, .int .u8 0, .int .u8 0, .int .u16 0, .bool false, .slice none 0 0], blkR o 53 #[.int .u8 h0, .int .u8 h1, .int .u8 h2, .int .u8 h3, .int .u8 h4, .int .u8 h5, .int .u8 h6, .int .u8 h7, .int .u16 bb, .int .u64 (mh : Int), .int .u64 (ml : Int), .slice a n c]])
  case first =>
    have HSn := Lib.hid (HS7.out.nil 74 3)
    cases G with
    | false =>
      have hcuts : cutsOf B cut = [B] := by unfold cutsOf; rw [← HN.out, if_neg (of_decide_eq_false HG.out.symm)]
      have HCu := Lib.hid hcuts
      have q9 := (HSn.out.blk 3 rfl).cell 9 rfl
      have q10 := (HSn.out.blk 3 rfl).cell 10 rfl
      have q11 := (HSn.out.blk 3 rfl).cell 11 rfl
      have k10 := (HSn.out.blk 1 rfl).cell 10 rfl
      clear hcuts HS7
      go_wp2_with (at_builtin; (refine wpList_append_arr rfl (.tmp 59) (.tmp 67) 33 rfl 1 74 iL (.agg #[.int .u64 0, .int .u64 0, .slice none 0 0]) 3 40 Tryd.underlying33 hLi hLz0 hLz1 hLz2 rfl (by decide) (.slice none 0 0) 0 _ rfl (HSn.out.alloc #[.int .u64 (mh : Int), .int .u64 (ml : Int), .slice a n c] 74) rfl w5.heap.size #[.int .u64 (mh : Int), .int .u64 (ml : Int), .slice a n c] rfl rfl (Blk.made w5 74 #[.int .u64 (mh : Int), .int .u64 (ml : Int), .slice a n c]) (fun u hu => by simp at hu; rcases hu with rfl | rfl | rfl <;> rfl) (by unfold maxLen; omega) (by omega) ?_); intro v9 w10 hS9; obtain ⟨a9, c9, rfl, x1, x2⟩ := own_shape (hS9.own 1 rfl); have HS9 := Lib.hid hS9; have f10 := (hS9.blk 2 rfl).free 10; have l10 := (hS9.blk 2 rfl).cell 10 rfl; clear hS9 x1 x2 q9 q10 q11)
      have HS10 := Lib.hid (HS9.out.put 2 rfl 10 (.slice a9 1 c9))
      clear f10 l10 HS9
      go_meet
      refine ⟨[LvV.mk mh ml (.slice a n c) B], a9, c9, by rw [HCu.out]; rfl, fun q hq X hX => ?_, HS10.out.at_ [1, 2, 3, 4] (by decide) rfl⟩
      simp at hq; subst hq
      exact ⟨a, c, by rw [HN.out], HRd.out X hX, HNn.out, by rw [← HN.out]; exact lc, mc⟩
    | true =>
      have hcc := of_decide_eq_true HG.out.symm
      have c0 := hcc.1
      have c1 := hcc.2
      clear hcc
      obtain ⟨k, rfl⟩ : ∃ k : Nat, cut = (k : Int) := ⟨cut.toNat, by omega⟩
      have hkn : k < n := by omega
      have j0 : (0 : Int) ≤ (k : Int) := by omega
      have j1 : (k : Int) ≤ (c : Int) := by omega
      have j2 : (k : Int) ≤ (n : Int) := by omega
      have j3 : k ≤ c := by omega
      have j4 : k ≤ n := by omega
      have j5 : k < c := by omega
      obtain ⟨b, off, ha⟩ : ∃ b off, a = some ⟨b, off, none⟩ := by
        obtain ⟨b, off, ha, _⟩ := HRd.out w (Frm.refl _ _) 0 _ (List.getElem?_eq_getElem (by rw [← HN.out]; omega))
        exact ⟨b, off, ha⟩
      subst ha
      have hcuts : cutsOf B (k : Int) = [B.take k, B.drop k] := by unfold cutsOf; rw [← HN.out, if_pos ⟨c0, c1⟩]; rfl
      have HCu := Lib.hid hcuts
      have hpk : ¬ c = k := by omega
      have hkc : ¬ (c ≤ k) := by omega
      clear hcuts c0 c1 HS7
      go_upto_region 4 with fail
      refine region_pm [g2] [0, 2, 3, 4, 5, 6, 7, 8, 9, 10, 11, 12, 13, 14, 15, 16, 17, 18, 19] [1, 20] [Pr.is (.slice none 0 0), Pr.blk 74 #[.int .u64 (mh : Int), .int .u64 (ml : Int), .slice (some ⟨b, off, none⟩) k c, .int .u64 (mh : Int), .int .u64 (ml : Int), .slice (some ⟨b, off + k, none⟩) (n - k) (c - k)] 2 0] [0, 1] [21, 22, 23] (by kernel_rfl) (by kernel_rfl) (by kernel_rfl) rfl ?_
      simp only [remOf, mvs, List.zip_cons_cons, List.zip_nil_right, List.filterMap_cons, List.filterMap_nil, List.getElem?_cons_zero, List.getElem?_cons_succ, Option.map_some]
      have HTd := Lib.hid HSn.out.drew
      obtain ⟨x3, hx3⟩ : ∃ x, x = w5.drew := ⟨_, rfl⟩
      rw [← hx3] at HTd
      rw [← hx3]
      clear hx3 HSn
      have hgo := (List.pairwise_cons.1 (List.pairwise_cons.1 HTd.out.apart).2).1
      have hgo2 : o ≠ g2 := fun e => hgo (blkR o 53 #[.int .u8 h0, .int .u8 h1, .int .u8 h2, .int .u8 h3, .int .u8 h4, .int .u8 h5, .int .u8 h6, .int .u8 h7, .int .u16 bb, .int .u64 (mh : Int), .int .u64 (ml : Int), .slice (some ⟨b, off, none⟩) n c]) (by simp) g2 (by simp [blkR]) (by simp [blkR, e])
      have HOg := Lib.hid hgo2
      clear hgo hgo2
      have n1 : Nonempty (Cls (fun v => Frm [g2] x3 v)) := ⟨⟨_, Frm.refl _ _⟩⟩
      have p9 := fun x : Cls (fun v => Frm [g2] x3 v) => (x.ok.blk (HTd.out.blk 3 rfl) (by simp; exact HOg.out)).cell 9 rfl
      have p10 := fun x : Cls (fun v => Frm [g2] x3 v) => (x.ok.blk (HTd.out.blk 3 rfl) (by simp; exact HOg.out)).cell 10 rfl
      have p11 := fun x : Cls (fun v => Frm [g2] x3 v) => (x.ok.blk (HTd.out.blk 3 rfl) (by simp; exact HOg.out)).cell 11 rfl
      show wpQuiet _ _ _ _ [_, _, _, _, _, _, _, _, _, _, _, _, _, _, _, _, _, _, _] _
      repeat (go_big_quiet_step (rfl))
      refine wpQuiet_nil ?_
      refine And.intro ?_ ?_
      · show slotsB _ _ = true
        kernel_rfl
      clear n1 p9 p10 p11
      unfold wpMk
      refine ⟨fun X hX hk => ?_, fun v36 => ?_⟩
      · clear hk
        have k10 := ((HTd.out.keep hX).blk 1 rfl).cell 10 rfl
        refine only_step (fun K' hK => ?_)
        go_wp2_with fail
        exact hK.out _ _ ⟨Frm.refl _ _, rfl, rfl⟩
      unfold wpMk
      refine ⟨fun X hX hk => ?_, fun v55 => ?_⟩
      · clear hk
        refine only_step (fun K' hK => ?_)
        go_wp2_with fail
        exact hK.out _ _ ⟨(Frm.refl _ _).alloc _, rfl, X.heap.size, rfl, Blk.made _ _ _, Nat.zero_le _⟩
      unfold wpMk
      simp only [Act.put, List.setIfInBounds_toArray, List.set_cons_succ, List.set_cons_zero]
      intro X hX hk
      obtain ⟨g5, rfl, hb5, -⟩ := (show AtBlk 74 #[.int .u64 (mh : Int), .int .u64 (ml : Int), .slice (some ⟨b, off, none⟩) k c, .int .u64 (mh : Int), .int .u64 (ml : Int), .slice (some ⟨b, off + k, none⟩) (n - k) (c - k)] 2 0 v55 X from hk 0 _ _ rfl)
      obtain rfl := (show v36 = .slice none 0 0 from hk 1 _ _ rfl)
      have HT5 := Lib.hid (HTd.out.keep hX)
      have HB5 := Lib.hid hb5
      clear hk hb5 HTd hX
      unfold wpSegs
      simp only [List.take_succ_cons, List.take_zero, List.drop_succ_cons, List.drop_zero]
      refine wpQuiet_nil ?_
      refine only_step (fun K' hK => ?_)
      refine wpList_plain rfl fun K2 hK2 => ?_
      refine wp_append_rows (P := Tryd.prog) (.tmp 36) (.tmp 55) 33 rfl 74 iL (.agg #[.int .u64 0, .int .u64 0, .slice none 0 0]) 3 40 Tryd.underlying33 hLi hLz0 hLz1 hLz2 rfl (by decide) (.slice none 0 0) 0 _ rfl (HT5.out.own 0 rfl) (some ⟨g5, 0, none⟩) 2 [[.int .u64 (mh : Int), .int .u64 (ml : Int), .slice (some ⟨b, off, none⟩) k c], [.int .u64 (mh : Int), .int .u64 (ml : Int), .slice (some ⟨b, off + k, none⟩) (n - k) (c - k)]] rfl (fun h => by cases h) (fun r hr => by simp at hr; rcases hr with rfl | rfl <;> rfl) (urdS_lit2 HB5.out) (fun r hr u hu => by simp at hr; rcases hr with rfl | rfl <;> (simp at hu; rcases hu with rfl | rfl | rfl <;> rfl)) (by unfold maxLen; simp) (by simp) ?_
      intro v9 w9 h2 h3 h4
      simp only [List.length_cons, List.length_nil, Nat.zero_add] at h2
      obtain ⟨a9, c9, rfl, _, _⟩ := own_shape h2
      have HT6 := Lib.hid (HT5.out.grow 0 rfl h3 h2 h4)
      have hF9 := Lib.hid (show Frm [g2] X w9 from (Frm.of_grown_opt h3).mono (by intro k hk; cases hk))
      clear h2 h3 h4 HB5
      refine hK2 _ _ ?_
      clear hK2
      refine hK.out _ _ ⟨hF9.out, ?_⟩
      clear hK hF9
      unfold wpSegs
      simp only [List.take_succ_cons, List.take_zero, List.drop_succ_cons, List.drop_zero, Act.put, List.setIfInBounds_toArray, List.set_cons_succ, List.set_cons_zero]
      have n1 : Nonempty (Cls (fun v => Frm [g2] w9 v)) := ⟨⟨_, Frm.refl _ _⟩⟩
      show wpQuiet _ _ _ _ [_] _
      repeat (go_big_quiet_step (rfl))
      refine wpQuiet_nil ?_
      refine only_step (fun K' hK => ?_)
      clear n1
      have k10 := (HT6.out.blk 1 rfl).cell 10 rfl
      have f10 := (HT6.out.blk 1 rfl).free 10
      go_wp2_with fail
      obtain ⟨w10, hw10⟩ : ∃ x, x = w9.setCell ⟨g2, 10, none⟩ (.slice a9 2 c9) := ⟨_, rfl⟩
      have HT7 := Lib.hid (hw10 ▸ HT6.out.put 1 rfl 10 (.slice a9 2 c9))
      have hF10 := Lib.hid (show Frm [g2] w9 w10 from hw10 ▸ (Frm.refl _ _).put (.inl (by simp)) 10 none _)
      rw [← hw10]
      refine hK.out _ _ ⟨hF10.out, ?_⟩
      clear hK hF10 hw10 k10 f10 HT6
      unfold wpSegs
      refine wpQuiet_nil ?_
      refine NoPanic.normal ?_
      go_wp2_with fail
      go_meet
      refine ⟨[LvV.mk mh ml (.slice (some ⟨b, off, none⟩) k c) (B.take k), LvV.mk mh ml (.slice (some ⟨b, off + k, none⟩) (n - k) (c - k)) (B.drop k)], a9, c9, by rw [HCu.out]; rfl, fun q hq X hX => ?_, HT7.out⟩
      simp at hq
      rcases hq with rfl | rfl
      · exact ⟨_, c, by rw [List.length_take, ← HN.out, Nat.min_eq_left (by omega)], (HRd.out X hX).firsts k, fun h => (by cases h), by rw [List.length_take, ← HN.out]; omega, mc⟩
      · exact ⟨_, c - k, by rw [List.length_drop, ← HN.out], (HRd.out X hX).offs k, fun h => (by cases h), by rw [List.length_drop, ← HN.out]; omega, by omega⟩
  obtain ⟨qs, ad, cd, hqm, hqb, hS8⟩ := hcut
  obtain ⟨w6, hw6⟩ : ∃ w6, w6 = wc := ⟨_, rfl⟩
  rw [← hw6] at hS8 ⊢
  have HS8 := Lib.hid hS8
  have HQm := Lib.hid hqm
  have HQb := Lib.hid hqb
  obtain ⟨a8, c8, hv, _, _, _, hrl⟩ := lvs_rd (HS8.out.get 0 rfl) (fun q hq => HQb.out q hq w6 HS8.out.frm)
  simp only [Value.slice.injEq] at hv
  rw [← hv.1] at hrl
  have hW := HW.out w6 ad cd qs HS8.out.frm HQm.out hrl
  simp only [Ul.val, Ul.cells] at hW
  have HW2 := Lib.hid hW
  clear hS8 hqm hqb hw6 HS7 hv hrl hW HW
  obtain ⟨N, hN2⟩ : ∃ N, N = qs.length := ⟨_, rfl⟩
  rw [← hN2] at HS8 HW2
  have HN2 := Lib.hid hN2
  clear hN2
  have k0 := (HS8.out.blk 1 rfl).cell 0 rfl
  have k1 := (HS8.out.blk 1 rfl).cell 1 rfl
  have k2 := (HS8.out.blk 1 rfl).cell 2 rfl
  have k3 := (HS8.out.blk 1 rfl).cell 3 rfl
  have k4 := (HS8.out.blk 1 rfl).cell 4 rfl
  have k5 := (HS8.out.blk 1 rfl).cell 5 rfl
  have k6 := (HS8.out.blk 1 rfl).cell 6 rfl
  have k7 := (HS8.out.blk 1 rfl).cell 7 rfl
  have k8 := (HS8.out.blk 1 rfl).cell 8 rfl
  have k9 := (HS8.out.blk 1 rfl).cell 9 rfl
  have k10 := (HS8.out.blk 1 rfl).cell 10 rfl
  go_wp2_with fail
  refine HW2.out.mono ?_
  rintro e w12 ⟨v12, rfl, hS12⟩
  have HT2 := Lib.hid (HS8.out.keep hS12.frm)
  clear hS12 HW2 HS8 k0 k1 k2 k3 k4 k5 k6 k7 k8 k9 k10
  by_cases hE0 : E = 0
  case neg =>
    have d0 : (E != 0) = true := by simp [hE0]
    have HYY : Hid (Y = Ul.none) := Lib.hid (by rw [HY.out, if_neg hE0])
    clear hE0
    have k0 := (HT2.out.blk 2 rfl).cell 0 rfl
    have k1 := (HT2.out.blk 2 rfl).cell 1 rfl
    have k2 := (HT2.out.blk 2 rfl).cell 2 rfl
    have k3 := (HT2.out.blk 2 rfl).cell 3 rfl
    have k4 := (HT2.out.blk 2 rfl).cell 4 rfl
    have k5 := (HT2.out.blk 2 rfl).cell 5 rfl
    have k6 := (HT2.out.blk 2 rfl).cell 6 rfl
    have k7 := (HT2.out.blk 2 rfl).cell 7 rfl
    have k8 := (HT2.out.blk 2 rfl).cell 8 rfl
    have k9 := (HT2.out.blk 2 rfl).cell 9 rfl
    have k10 := (HT2.out.blk 2 rfl).cell 10 rfl
    have f0 := (HT2.out.blk 2 rfl).free 0
    have f1 := (HT2.out.blk 2 rfl).free 1
    have f2 := (HT2.out.blk 2 rfl).free 2
    have f3 := (HT2.out.blk 2 rfl).free 3
    have f4 := (HT2.out.blk 2 rfl).free 4
    have f5 := (HT2.out.blk 2 rfl).free 5
    have f6 := (HT2.out.blk 2 rfl).free 6
    have f7 := (HT2.out.blk 2 rfl).free 7
    have f8 := (HT2.out.blk 2 rfl).free 8
    have f9 := (HT2.out.blk 2 rfl).free 9
    have f10 := (HT2.out.blk 2 rfl).free 10
    go_wp2_with fail
    obtain ⟨w13, hw8⟩ : ∃ w8, w8 = (((((((((((w12.setCell ⟨(o + 1), 0, none⟩ (.int .u8 0)).setCell ⟨(o + 1), 1, none⟩ (.int .u8 0)).setCell ⟨(o + 1), 2, none⟩ (.int .u8 0)).setCell ⟨(o + 1), 3, none⟩ (.int .u8 0)).setCell ⟨(o + 1), 4, none⟩ (.int .u8 0)).setCell ⟨(o + 1), 5, none⟩ (.int .u8 0)).setCell ⟨(o + 1), 6, none⟩ (.int .u8 0)).setCell ⟨(o + 1), 7, none⟩ (.int .u8 0)).setCell ⟨(o + 1), 8, none⟩ (.int .u16 0)).setCell ⟨(o + 1), 9, none⟩ (.bool false)).setCell ⟨(o + 1), 10, none⟩ (.slice none 0 0)) := ⟨_, rfl⟩
    have HS13 := Lib.hid (show Sep [] w w13 [lvsR 74 (.slice ad N cd) qs, blkR g2 35 #[.int .u8 p, .int .u8 h1, .int .u8 h2, .int .u8 h3, .int .u8 h4, .int .u8 h5, .int .u8 h6, .int .u8 h7, .int .u16 bb, .bool F, .slice ad N cd], blkR (o + 1) 35 #[.int .u8 0, .int .u8 0, .int .u8 0, .int .u8 0, .int .u8 0, .int .u8 0, .int .u8 0, .int .u8 0, .int .u16 0, .bool false, .slice none 0 0], blkR o 53 #[.int .u8 h0, .int .u8 h1, .int .u8 h2, .int .u8 h3, .int .u8 h4, .int .u8 h5, .int .u8 h6, .int .u8 h7, .int .u16 bb, .int .u64 (mh : Int), .int .u64 (ml : Int), .slice a n c]] from hw8 ▸ HT2.out.puts 2 rfl [.int .u8 0, .int .u8 0, .int .u8 0, .int .u8 0, .int .u8 0, .int .u8 0, .int .u8 0, .int .u8 0, .int .u16 0, .bool false, .slice none 0 0] rfl)
    rw [← hw8]
    clear hw8 k0 k1 k2 k3 k4 k5 k6 k7 k8 k9 k10 f0 f1 f2 f3 f4 f5 f6 f7 f8 f9 f10
    have z0 := (HS13.out.blk 2 rfl).cell 0 rfl
    have z1 := (HS13.out.blk 2 rfl).cell 1 rfl
    have z2 := (HS13.out.blk 2 rfl).cell 2 rfl
    have z3 := (HS13.out.blk 2 rfl).cell 3 rfl
    have z4 := (HS13.out.blk 2 rfl).cell 4 rfl
    have z5 := (HS13.out.blk 2 rfl).cell 5 rfl
    have z6 := (HS13.out.blk 2 rfl).cell 6 rfl
    have z7 := (HS13.out.blk 2 rfl).cell 7 rfl
    have z8 := (HS13.out.blk 2 rfl).cell 8 rfl
    have z9 := (HS13.out.blk 2 rfl).cell 9 rfl
    have z10 := (HS13.out.blk 2 rfl).cell 10 rfl
    refine bodyPost_ret (v := .tuple #[.agg #[.int .u8 0, .int .u8 0, .int .u8 0, .int .u8 0, .int .u8 0, .int .u8 0, .int .u8 0, .int .u8 0, .int .u16 0, .bool false, .slice none 0 0], .int .i64 E]) ?_ rfl ⟨none, 0, [], by rw [HYY.out]; rfl, by rw [HYY.out]; rfl, RdLs.nil _ _, HS13.out.frm⟩
    simp [results, Tryd.results23, go_sem, z0, z1, z2, z3, z4, z5, z6, z7, z8, z9, z10]
  subst hE0
  have HYY : Hid (Y = ⟨p, h1, h2, h3, h4, h5, h6, h7, bb, F, (cutsOf B cut).map (Lv.mk mh ml)⟩) := Lib.hid (by rw [HY.out, if_pos rfl])
  have q0 := (HT2.out.blk 1 rfl).cell 0 rfl
  have q1 := (HT2.out.blk 1 rfl).cell 1 rfl
  have q2 := (HT2.out.blk 1 rfl).cell 2 rfl
  have q3 := (HT2.out.blk 1 rfl).cell 3 rfl
  have q4 := (HT2.out.blk 1 rfl).cell 4 rfl
  have q5 := (HT2.out.blk 1 rfl).cell 5 rfl
  have q6 := (HT2.out.blk 1 rfl).cell 6 rfl
  have q7 := (HT2.out.blk 1 rfl).cell 7 rfl
  have q8 := (HT2.out.blk 1 rfl).cell 8 rfl
  have q9 := (HT2.out.blk 1 rfl).cell 9 rfl
  have q10 := (HT2.out.blk 1 rfl).cell 10 rfl
  have k0 := (HT2.out.blk 2 rfl).cell 0 rfl
  have k1 := (HT2.out.blk 2 rfl).cell 1 rfl
  have k2 := (HT2.out.blk 2 rfl).cell 2 rfl
  have k3 := (HT2.out.blk 2 rfl).cell 3 rfl
  have k4 := (HT2.out.blk 2 rfl).cell 4 rfl
  have k5 := (HT2.out.blk 2 rfl).cell 5 rfl
  have k6 := (HT2.out.blk 2 rfl).cell 6 rfl
  have k7 := (HT2.out.blk 2 rfl).cell 7 rfl
  have k8 := (HT2.out.blk 2 rfl).cell 8 rfl
  have k9 := (HT2.out.blk 2 rfl).cell 9 rfl
  have k10 := (HT2.out.blk 2 rfl).cell 10 rfl
  have f0 := (HT2.out.blk 2 rfl).free 0
  have f1 := (HT2.out.blk 2 rfl).free 1
  have f2 := (HT2.out.blk 2 rfl).free 2
  have f3 := (HT2.out.blk 2 rfl).free 3
  have f4 := (HT2.out.blk 2 rfl).free 4
  have f5 := (HT2.out.blk 2 rfl).free 5
  have f6 := (HT2.out.blk 2 rfl).free 6
  have f7 := (HT2.out.blk 2 rfl).free 7
  have f8 := (HT2.out.blk 2 rfl).free 8
  have f9 := (HT2.out.blk 2 rfl).free 9
  have f10 := (HT2.out.blk 2 rfl).free 10
  go_wp2_with fail
  obtain ⟨w13, hw8⟩ : ∃ w8, w8 = (((((((((((w12.setCell ⟨(o + 1), 0, none⟩ (.int .u8 p)).setCell ⟨(o + 1), 1, none⟩ (.int .u8 h1)).setCell ⟨(o + 1), 2, none⟩ (.int .u8 h2)).setCell ⟨(o + 1), 3, none⟩ (.int .u8 h3)).setCell ⟨(o + 1), 4, none⟩ (.int .u8 h4)).setCell ⟨(o + 1), 5, none⟩ (.int .u8 h5)).setCell ⟨(o + 1), 6, none⟩ (.int .u8 h6)).setCell ⟨(o + 1), 7, none⟩ (.int .u8 h7)).setCell ⟨(o + 1), 8, none⟩ (.int .u16 bb)).setCell ⟨(o + 1), 9, none⟩ (.bool F)).setCell ⟨(o + 1), 10, none⟩ (.slice ad N cd)) := ⟨_, rfl⟩
  have HS13 := Lib.hid (show Sep [] w w13 [lvsR 74 (.slice ad N cd) qs, blkR g2 35 #[.int .u8 p, .int .u8 h1, .int .u8 h2, .int .u8 h3, .int .u8 h4, .int .u8 h5, .int .u8 h6, .int .u8 h7, .int .u16 bb, .bool F, .slice ad N cd], blkR (o + 1) 35 #[.int .u8 p, .int .u8 h1, .int .u8 h2, .int .u8 h3, .int .u8 h4, .int .u8 h5, .int .u8 h6, .int .u8 h7, .int .u16 bb, .bool F, .slice ad N cd], blkR o 53 #[.int .u8 h0, .int .u8 h1, .int .u8 h2, .int .u8 h3, .int .u8 h4, .int .u8 h5, .int .u8 h6, .int .u8 h7, .int .u16 bb, .int .u64 (mh : Int), .int .u64 (ml : Int), .slice a n c]] from hw8 ▸ HT2.out.puts 2 rfl [.int .u8 p, .int .u8 h1, .int .u8 h2, .int .u8 h3, .int .u8 h4, .int .u8 h5, .int .u8 h6, .int .u8 h7, .int .u16 bb, .bool F, .slice ad N cd] rfl)
  rw [← hw8]
  clear hw8 k0 k1 k2 k3 k4 k5 k6 k7 k8 k9 k10 f0 f1 f2 f3 f4 f5 f6 f7 f8 f9 f10 q0 q1 q2 q3 q4 q5 q6 q7 q8 q9 q10
  have z0 := (HS13.out.blk 2 rfl).cell 0 rfl
  have z1 := (HS13.out.blk 2 rfl).cell 1 rfl
  have z2 := (HS13.out.blk 2 rfl).cell 2 rfl
  have z3 := (HS13.out.blk 2 rfl).cell 3 rfl
  have z4 := (HS13.out.blk 2 rfl).cell 4 rfl
  have z5 := (HS13.out.blk 2 rfl).cell 5 rfl
  have z6 := (HS13.out.blk 2 rfl).cell 6 rfl
  have z7 := (HS13.out.blk 2 rfl).cell 7 rfl
  have z8 := (HS13.out.blk 2 rfl).cell 8 rfl
  have z9 := (HS13.out.blk 2 rfl).cell 9 rfl
  have z10 := (HS13.out.blk 2 rfl).cell 10 rfl
  obtain ⟨a8, c8, hv, _, _, _, hrl⟩ := lvs_rd (HS13.out.get 0 rfl) (fun q hq => HQb.out q hq w13 HS13.out.frm)
  simp only [Value.slice.injEq] at hv
  rw [← hv.1] at hrl
  refine bodyPost_ret (v := .tuple #[.agg #[.int .u8 p, .int .u8 h1, .int .u8 h2, .int .u8 h3, .int .u8 h4, .int .u8 h5, .int .u8 h6, .int .u8 h7, .int .u16 bb, .bool F, .slice ad N cd], .int .i64 0]) ?_ rfl ⟨ad, cd, qs, by rw [HYY.out, HN2.out]; rfl, by rw [HYY.out]; exact HQm.out, hrl, HS13.out.frm⟩
  simp [results, Tryd.results23, go_sem, z0, z1, z2, z3, z4, z5, z6, z7, z8, z9, z10]

end Go.Proofs.YtjflcijiaennkaaDoor
