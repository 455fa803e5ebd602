/-
  THE WALK of ulp.Of. Printed by gen_ulq.py.
-/
import Derived.Test.YtjflcijiaennkaaDoorUlO
import Derived.Test.YtjflcijiaennkaaDoorBb
set_option linter.unusedVariables false
set_option linter.unusedSimpArgs false
namespace Go.Proofs.YtjflcijiaennkaaDoor
open Go.RowKit

/-- How a body is cut. -/
def cutsOf (B : List Int) (cut : Int) : List (List Int) := if 0 ≤ cut ∧ cut < (B.length : Int) then [B.take cut.toNat, B.drop cut.toNat] else [B]
def upkOf (r : Rp) (cut : Int) : Ul := ⟨r.h0 % 64, r.h1, r.h2, r.h3, r.h4, r.h5, r.h6, r.h7, r.b, decide (16 ≤ laN r.h r.l), (cutsOf r.B cut).map (Lv.mk r.h r.l)⟩
def uofE (r : Rp) (cut : Int) : Int := uweX (upkOf r cut)
def uofX (r : Rp) (cut : Int) : Ul := if uofE r cut = 0 then upkOf r cut else Ul.none
theorem cuts_byt {B : List Int} (hb : Byt B) (cut : Int) : ∀ x ∈ cutsOf B cut, Byt x := fun x hx => by
  unfold cutsOf at hx
  split at hx
  · simp at hx
    rcases hx with rfl | rfl
    · exact fun y hy => hb y (List.mem_of_mem_take hy)
    · exact fun y hy => hb y (List.mem_of_mem_drop hy)
  · simp at hx; subst hx; exact hb
theorem upkOf_ok {r : Rp} (h : r.Ok) (cut : Int) : (upkOf r cut).Ok := by
  have r0 := h.r0
  refine ⟨?_, h.r1, h.r2, h.r3, h.r4, h.r5, h.r6, h.r7, h.rb, fun L hL => ?_⟩
  · show 0 ≤ r.h0 % 64 ∧ r.h0 % 64 ≤ 255
    omega
  · obtain ⟨x, hx, rfl⟩ := List.mem_map.1 hL
    exact ⟨h.rh, h.rl, cuts_byt h.rB cut x hx⟩
theorem ufrb_putAll (b : Nat) {B : Nat} (hb : B ≤ b) : ∀ (vs : List Value) (k : Nat) (w : World), FrB B [] w (putAll b k vs w)
  | [], k, w => FrB.refl _ _ _
  | v :: vs, k, w => ((FrB.refl _ _ w).put (.inr hb) k v).trans (ufrb_putAll b hb vs (k + 1) _)
def AtLv (w0 : World) (h l : Nat) (B : List Int) (v : Value) (X : World) : Prop := ∃ u, v = .agg #[.int .u64 (h : Int), .int .u64 (l : Int), u] ∧ Sep [] w0 X [sumR u B]
def Pr.lv (w0 : World) (h l : Nat) (B : List Int) : Pr := ⟨AtLv w0 h l B, fun v X X' hf ⟨u, hv, hs⟩ => ⟨u, hv, hs.keep hf⟩⟩
def AtLvS (w0 : World) (e : TypeId) (h l : Nat) (B : List Int) (v : Value) (X : World) : Prop := ∃ u g, v = .slice (some ⟨g, 0, none⟩) 1 1 ∧ Sep [] w0 X [blkR g e #[.int .u64 (h : Int), .int .u64 (l : Int), u], sumR u B]
def Pr.lvS (w0 : World) (e : TypeId) (h l : Nat) (B : List Int) : Pr := ⟨AtLvS w0 e h l B, fun v X X' hf ⟨u, g, hv, hs⟩ => ⟨u, g, hv, hs.keep hf⟩⟩
theorem urdS_lit {w : World} {b : Nat} {t : TypeId} {cs : Array Value} (h : Blk w b t cs) : RdS cs.size w (some ⟨b, 0, none⟩) [cs.toList] := fun i row hi => by
  cases i with
  | zero =>
    simp at hi
    subst hi
    exact ⟨b, 0, rfl, h.lt, fun j v hj => by rw [Nat.zero_mul, Nat.zero_add]; first | exact h.cell j (by simpa using hj) | (rw [Nat.zero_add]; exact h.cell j (by simpa using hj))⟩
  | succ i => simp at hi
structure Prt where
  v : Value
  B : List Int

set_option maxRecDepth 100000 in
set_option maxHeartbeats 16000000 in
theorem uof_c (r : Rp) (cut : Int) (a : Option Addr) (c : Nat) (w : World) (hok : r.Ok) (hrd : RdI .u8 w a r.B) (hn : a = none → c = 0) (lc : r.B.length ≤ c) (mc : c ≤ 9223372036854775807) (hT : Tabs w) (hl : r.B.length ≤ 1000000) :
    Calls Tryd.prog 22 #[r.val (.slice a r.B.length c), .int .i64 cut] w (UParseP w (uofX r cut) (uofE r cut)) := by
  obtain ⟨iL, hLi, hLz0, hLz1, hLz2⟩ := info_parts info_level
  have HW := Lib.hid (fun X a' c' (qs : List LvV) (hX : Frm [] w X) (hq : qs.map LvV.lv = (upkOf r cut).Ls) (rd : RdLs X a' qs) => uWrite_c (upkOf r cut) a' c' qs X hq (upkOf_ok hok cut) rd (hT.frm hX (by simp)) (by
    have h1 : qs.length = (cutsOf r.B cut).length := by have := congrArg List.length hq; simpa [upkOf] using this
    rw [h1]
    unfold cutsOf
    split <;> simp))
  have HLa := Lib.hid (fun X (hX : Frm [] w X) => last_c r.h r.l X hok.rh hok.rl (hT.frm hX (by simp)).1 (hT.frm hX (by simp)).2)
  have HRd := Lib.hid (fun X (hX : Frm [] w X) => hrd.below (w' := X) hX.below)
  obtain ⟨E, hE⟩ : ∃ E, E = uofE r cut := ⟨_, rfl⟩
  obtain ⟨Y, hY⟩ : ∃ Y, Y = uofX r cut := ⟨_, rfl⟩
  rw [← hE, ← hY]
  unfold uofX at hY
  rw [← hE] at hY
  unfold uofE at hE
  obtain ⟨O, hO⟩ : ∃ O, O = uwoX (upkOf r cut) := ⟨_, rfl⟩
  rw [← hE, ← hO] at HW
  have HY := Lib.hid hY
  have r0 := hok.r0
  have HNn := Lib.hid hn
  clear hE hY hO hT hok hrd hn
  obtain ⟨h0, h1, h2, h3, h4, h5, h6, h7, bb, mh, ml, B⟩ := r
  simp only [Rp.val, Rp.cells, upkOf] at *
  obtain ⟨L, hL⟩ : ∃ L, L = laN mh ml := ⟨_, rfl⟩
  obtain ⟨F, hF⟩ : ∃ F, F = decide (16 ≤ L) := ⟨_, rfl⟩
  rw [← hL] at HLa HW HY
  rw [← hF] at HW HY
  unfold mV at HLa
  have hF2 : decide (16 ≤ L) = F := hF.symm
  have e1 := uand63_u r0.1 r0.2
  obtain ⟨p, hp⟩ : ∃ p, p = h0 % 64 := ⟨_, rfl⟩
  rw [← hp] at e1 HW HY
  have HE1 := Lib.hid e1
  obtain ⟨n, hn⟩ : ∃ n, n = B.length := ⟨_, rfl⟩
  have HN := Lib.hid hn
  rw [← hn] at lc hl ⊢
  clear hL hF hp e1 hn r0
  have HS0 := Lib.hid (((Sep.init w).alloc #[.int .u8 h0, .int .u8 h1, .int .u8 h2, .int .u8 h3, .int .u8 h4, .int .u8 h5, .int .u8 h6, .int .u8 h7, .int .u16 bb, .int .u64 (mh : Int), .int .u64 (ml : Int), .slice a n c] 53).alloc #[.int .u8 0, .int .u8 0, .int .u8 0, .int .u8 0, .int .u8 0, .int .u8 0, .int .u8 0, .int .u8 0, .int .u16 0, .bool false, .slice none 0 0] 29)
  simp only [World.size_alloc] at HS0
  go_enter Tryd.func22, Tryd.ntmps22
  go_upto_region 1 with fail
  obtain ⟨w0, hw1⟩ : ∃ w1, w1 = (w.alloc (.cells #[.int .u8 h0, .int .u8 h1, .int .u8 h2, .int .u8 h3, .int .u8 h4, .int .u8 h5, .int .u8 h6, .int .u8 h7, .int .u16 bb, .int .u64 (mh : Int), .int .u64 (ml : Int), .slice a n c] 53)).alloc (.cells #[.int .u8 0, .int .u8 0, .int .u8 0, .int .u8 0, .int .u8 0, .int .u8 0, .int .u8 0, .int .u8 0, .int .u16 0, .bool false, .slice none 0 0] 29) := ⟨_, rfl⟩
  obtain ⟨o, ho⟩ : ∃ o, o = w.heap.size := ⟨_, rfl⟩
  rw [← hw1, ← ho] at HS0
  rw [← hw1, ← ho]
  clear hw1 ho
  have z0 := (HS0.out.blk 1 rfl).cell 0 rfl
  have z1 := (HS0.out.blk 1 rfl).cell 1 rfl
  have z2 := (HS0.out.blk 1 rfl).cell 2 rfl
  have z3 := (HS0.out.blk 1 rfl).cell 3 rfl
  have z4 := (HS0.out.blk 1 rfl).cell 4 rfl
  have z5 := (HS0.out.blk 1 rfl).cell 5 rfl
  have z6 := (HS0.out.blk 1 rfl).cell 6 rfl
  have z7 := (HS0.out.blk 1 rfl).cell 7 rfl
  have z8 := (HS0.out.blk 1 rfl).cell 8 rfl
  have z9 := (HS0.out.blk 1 rfl).cell 9 rfl
  have z10 := (HS0.out.blk 1 rfl).cell 10 rfl
  have z11 := (HS0.out.blk 1 rfl).cell 11 rfl
  have HS1 := Lib.hid (HS0.out.alloc #[.int .u64 (mh : Int), .int .u64 (ml : Int)] 42)
  go_upto_region 2 with fail
  obtain ⟨w1, hw2⟩ : ∃ x, x = w0.alloc (.cells #[.int .u64 (mh : Int), .int .u64 (ml : Int)] 42) := ⟨_, rfl⟩
  obtain ⟨g, hg⟩ : ∃ x, x = w0.heap.size := ⟨_, rfl⟩
  rw [← hw2, ← hg] at HS1
  rw [← hw2, ← hg]
  clear hw2 hg HS0 z0 z1 z2 z3 z4 z5 z6 z7 z8 z9 z10 z11
  have HB := Lib.hid (show g < w1.heap.size ∧ o < w1.heap.size ∧ o + 1 < w1.heap.size ∧ w.heap.size ≤ w1.heap.size from ⟨(HS1.out.blk 0 rfl).lt, (HS1.out.blk 2 rfl).lt, (HS1.out.blk 1 rfl).lt, HS1.out.frm.size⟩)
  refine region_segsA (ty := 29) (z := #[.int .u8 0, .int .u8 0, .int .u8 0, .int .u8 0, .int .u8 0, .int .u8 0, .int .u8 0, .int .u8 0, .int .u16 0, .bool false, .slice none 0 0]) [0, 1, 2, 3, 4, 5, 6, 7] [5] 8 [9] [0] (by kernel_rfl) (by kernel_rfl) rfl rfl rfl rfl (fun _ _ => by kernel_rfl) (by kernel_rfl) ?_
  simp only [remOf, List.filterMap_cons, List.filterMap_nil, List.getElem?_cons_zero, List.getElem?_cons_succ]
  have HS2 := Lib.hid HS1.out.drew
  obtain ⟨w2, hw2⟩ : ∃ w2, w2 = w1.drew := ⟨_, rfl⟩
  obtain ⟨B0, hB0⟩ : ∃ B0, B0 = w1.heap.size := ⟨_, rfl⟩
  rw [← hw2] at HS2
  rw [← hB0] at HB
  rw [← hw2, ← hB0]
  clear hw2 hB0 HS1
  unfold wpSegsU
  simp only [List.take_succ_cons, List.take_zero, List.drop_succ_cons, List.drop_zero]
  have n1 : Nonempty (Cls (fun v => FrB B0 [] w2 v)) := ⟨⟨_, FrB.refl _ _ _⟩⟩
  have q0 := fun x : Cls (fun v => FrB B0 [] w2 v) => (x.ok.blk (HS2.out.blk 2 rfl) (by have := HB.out; omega) (by simp)).cell 0 rfl
  have q1 := fun x : Cls (fun v => FrB B0 [] w2 v) => (x.ok.blk (HS2.out.blk 2 rfl) (by have := HB.out; omega) (by simp)).cell 1 rfl
  have q2 := fun x : Cls (fun v => FrB B0 [] w2 v) => (x.ok.blk (HS2.out.blk 2 rfl) (by have := HB.out; omega) (by simp)).cell 2 rfl
  have q3 := fun x : Cls (fun v => FrB B0 [] w2 v) => (x.ok.blk (HS2.out.blk 2 rfl) (by have := HB.out; omega) (by simp)).cell 3 rfl
  have q4 := fun x : Cls (fun v => FrB B0 [] w2 v) => (x.ok.blk (HS2.out.blk 2 rfl) (by have := HB.out; omega) (by simp)).cell 4 rfl
  have q5 := fun x : Cls (fun v => FrB B0 [] w2 v) => (x.ok.blk (HS2.out.blk 2 rfl) (by have := HB.out; omega) (by simp)).cell 5 rfl
  have q6 := fun x : Cls (fun v => FrB B0 [] w2 v) => (x.ok.blk (HS2.out.blk 2 rfl) (by have := HB.out; omega) (by simp)).cell 6 rfl
  have q7 := fun x : Cls (fun v => FrB B0 [] w2 v) => (x.ok.blk (HS2.out.blk 2 rfl) (by have := HB.out; omega) (by simp)).cell 7 rfl
  have q8 := fun x : Cls (fun v => FrB B0 [] w2 v) => (x.ok.blk (HS2.out.blk 2 rfl) (by have := HB.out; omega) (by simp)).cell 8 rfl
  have m0 := fun x : Cls (fun v => FrB B0 [] w2 v) => (x.ok.blk (HS2.out.blk 0 rfl) (by have := HB.out; omega) (by simp)).cell 0 rfl
  have m1 := fun x : Cls (fun v => FrB B0 [] w2 v) => (x.ok.blk (HS2.out.blk 0 rfl) (by have := HB.out; omega) (by simp)).cell 1 rfl
  repeat (go_big_quiet_step (fail))
  refine wpQuiet_nil ?_
  intro X hX
  refine only_step (fun K' hK => ?_)
  clear q0 q1 q2 q3 q4 q5 q6 q7 q8 m0 m1 n1
  go_wp2_with fail
  refine (HLa.out X (HS2.out.frm.trans hX)).mono ?_
  rintro e w3 ⟨rfl, hf⟩
  have HS3 := Lib.hid (show Sep [] w w3 [blkR g 42 #[.int .u64 (mh : Int), .int .u64 (ml : Int)], blkR (o + 1) 29 #[.int .u8 0, .int .u8 0, .int .u8 0, .int .u8 0, .int .u8 0, .int .u8 0, .int .u8 0, .int .u8 0, .int .u16 0, .bool false, .slice none 0 0], blkR o 53 #[.int .u8 h0, .int .u8 h1, .int .u8 h2, .int .u8 h3, .int .u8 h4, .int .u8 h5, .int .u8 h6, .int .u8 h7, .int .u16 bb, .int .u64 (mh : Int), .int .u64 (ml : Int), .slice a n c]] from (HS2.out.keep hX).keep hf)
  go_wp2_with fail
  refine hK.out _ _ ⟨hf, ?_⟩
  clear hK hf hX HS2
  unfold wpSegsU
  have n1 : Nonempty (Cls (fun v => FrB B0 [] w3 v)) := ⟨⟨_, FrB.refl _ _ _⟩⟩
  show wpQuiet _ _ _ _ [_, _] _
  repeat (go_big_quiet_step (fail))
  refine wpQuiet_nil ?_
  intro X hX g2 hb hg
  clear n1
  have HS4 := Lib.hid (show Sep [] w X [blkR g2 29 #[.int .u8 0, .int .u8 0, .int .u8 0, .int .u8 0, .int .u8 0, .int .u8 0, .int .u8 0, .int .u8 0, .int .u16 0, .bool false, .slice none 0 0], blkR g 42 #[.int .u64 (mh : Int), .int .u64 (ml : Int)], blkR (o + 1) 29 #[.int .u8 0, .int .u8 0, .int .u8 0, .int .u8 0, .int .u8 0, .int .u8 0, .int .u8 0, .int .u8 0, .int .u16 0, .bool false, .slice none 0 0], blkR o 53 #[.int .u8 h0, .int .u8 h1, .int .u8 h2, .int .u8 h3, .int .u8 h4, .int .u8 h5, .int .u8 h6, .int .u8 h7, .int .u16 bb, .int .u64 (mh : Int), .int .u64 (ml : Int), .slice a n c]] from (HS3.out.keep hX).adopt hb (by have := HB.out; omega) (by
    intro r hr
    rcases List.mem_cons.1 hr with rfl | hr
    · simp [blkR]; have := HB.out; omega
    · rcases List.mem_cons.1 hr with rfl | hr
      · simp [blkR]; have := HB.out; omega
      · rcases List.mem_cons.1 hr with rfl | hr
        · simp [blkR]; have := HB.out; omega
        · cases hr))
  clear HS3 hX
  unfold wpSegsR
  simp only [List.take_succ_cons, List.take_zero, List.drop_succ_cons, List.drop_zero]
  refine wpQuiet_nil ?_
  refine only_step (fun K' hK => ?_)
  have hz := HS4.out.blk 0 rfl
  have z0 := hz.cell 0 rfl
  have z1 := hz.cell 1 rfl
  have z2 := hz.cell 2 rfl
  have z3 := hz.cell 3 rfl
  have z4 := hz.cell 4 rfl
  have z5 := hz.cell 5 rfl
  have z6 := hz.cell 6 rfl
  have z7 := hz.cell 7 rfl
  have z8 := hz.cell 8 rfl
  have z9 := hz.cell 9 rfl
  have z10 := hz.cell 10 rfl
  have f0 := hz.free 0
  have f1 := hz.free 1
  have f2 := hz.free 2
  have f3 := hz.free 3
  have f4 := hz.free 4
  have f5 := hz.free 5
  have f6 := hz.free 6
  have f7 := hz.free 7
  have f8 := hz.free 8
  have f9 := hz.free 9
  have f10 := hz.free 10
  go_wp2_with fail
  obtain ⟨w4, hw4⟩ : ∃ w4, w4 = (((((((((((X.setCell ⟨g2, 0, none⟩ (.int .u8 h0)).setCell ⟨g2, 1, none⟩ (.int .u8 h1)).setCell ⟨g2, 2, none⟩ (.int .u8 h2)).setCell ⟨g2, 3, none⟩ (.int .u8 h3)).setCell ⟨g2, 4, none⟩ (.int .u8 h4)).setCell ⟨g2, 5, none⟩ (.int .u8 h5)).setCell ⟨g2, 6, none⟩ (.int .u8 h6)).setCell ⟨g2, 7, none⟩ (.int .u8 h7)).setCell ⟨g2, 8, none⟩ (.int .u16 bb)).setCell ⟨g2, 9, none⟩ (.bool F)).setCell ⟨g2, 10, none⟩ (.slice none 0 0)) := ⟨_, rfl⟩
  have HS5 := Lib.hid (show Sep [] w w4 [blkR g2 29 #[.int .u8 h0, .int .u8 h1, .int .u8 h2, .int .u8 h3, .int .u8 h4, .int .u8 h5, .int .u8 h6, .int .u8 h7, .int .u16 bb, .bool F, .slice none 0 0], blkR g 42 #[.int .u64 (mh : Int), .int .u64 (ml : Int)], blkR (o + 1) 29 #[.int .u8 0, .int .u8 0, .int .u8 0, .int .u8 0, .int .u8 0, .int .u8 0, .int .u8 0, .int .u8 0, .int .u16 0, .bool false, .slice none 0 0], blkR o 53 #[.int .u8 h0, .int .u8 h1, .int .u8 h2, .int .u8 h3, .int .u8 h4, .int .u8 h5, .int .u8 h6, .int .u8 h7, .int .u16 bb, .int .u64 (mh : Int), .int .u64 (ml : Int), .slice a n c]] from hw4 ▸ HS4.out.puts 0 rfl [.int .u8 h0, .int .u8 h1, .int .u8 h2, .int .u8 h3, .int .u8 h4, .int .u8 h5, .int .u8 h6, .int .u8 h7, .int .u16 bb, .bool F, .slice none 0 0] rfl)
  have hfr : FrB B0 [] X w4 := hw4 ▸ ufrb_putAll g2 hg [.int .u8 h0, .int .u8 h1, .int .u8 h2, .int .u8 h3, .int .u8 h4, .int .u8 h5, .int .u8 h6, .int .u8 h7, .int .u16 bb, .bool F, .slice none 0 0] 0 X
  rw [← hw4]
  refine hK.out _ _ ⟨hfr, ?_⟩
  clear hw4 hK HS4 hz z0 z1 z2 z3 z4 z5 z6 z7 z8 z9 z10 f0 f1 f2 f3 f4 f5 f6 f7 f8 f9 f10 hfr hb hF2
  unfold wpSegsR
  refine wpQuiet_nil ?_
  refine NoPanic.normal ?_
  have e63 := HE1.out
  have k0 := (HS5.out.blk 0 rfl).cell 0 rfl
  have f0 := (HS5.out.blk 0 rfl).free 0
  go_upto_region 4 with fail
  have HS6 := Lib.hid (HS5.out.put 0 rfl 0 (.int .u8 p))
  obtain ⟨w5, hw5⟩ : ∃ x, x = w4.setCell ⟨g2, 0, none⟩ (.int .u8 p) := ⟨_, rfl⟩
  rw [← hw5] at HS6
  rw [← hw5]
  clear hw5 HS5 k0 f0 e63 HB hg
  have HS6 := Lib.hid (show Sep [] w w5 [blkR g2 29 #[.int .u8 p, .int .u8 h1, .int .u8 h2, .int .u8 h3, .int .u8 h4, .int .u8 h5, .int .u8 h6, .int .u8 h7, .int .u16 bb, .bool F, .slice none 0 0], blkR g 42 #[.int .u64 (mh : Int), .int .u64 (ml : Int)], blkR (o + 1) 29 #[.int .u8 0, .int .u8 0, .int .u8 0, .int .u8 0, .int .u8 0, .int .u8 0, .int .u8 0, .int .u8 0, .int .u16 0, .bool false, .slice none 0 0], blkR o 53 #[.int .u8 h0, .int .u8 h1, .int .u8 h2, .int .u8 h3, .int .u8 h4, .int .u8 h5, .int .u8 h6, .int .u8 h7, .int .u16 bb, .int .u64 (mh : Int), .int .u64 (ml : Int), .slice a n c]] from HS6.out)
  have k11 := (HS6.out.blk 3 rfl).cell 11 rfl
  have HS7 := Lib.hid (HS6.out.alloc #[.slice a n c] 22)
  go_upto_region 5 with fail
  obtain ⟨w6, hw6⟩ : ∃ x, x = w5.alloc (.cells #[.slice a n c] 22) := ⟨_, rfl⟩
  obtain ⟨g3, hg3⟩ : ∃ x, x = w5.heap.size := ⟨_, rfl⟩
  rw [← hw6, ← hg3] at HS7
  rw [← hw6, ← hg3]
  clear hw6 hg3 HS6 k11
  have k11 := (HS7.out.blk 4 rfl).cell 11 rfl
  obtain ⟨G, hG⟩ : ∃ G, G = decide (0 ≤ cut ∧ cut < (n : Int)) := ⟨_, rfl⟩
  go_cut [43] (fun v wx => v = .bool G ∧ wx = w6)
  case first =>
    by_cases c0 : 0 ≤ cut
    · have t0 : decide (0 ≤ cut) = true := decide_eq_true c0
      by_cases c1 : cut < (n : Int)
      · have t1 : decide (cut < (n : Int)) = true := decide_eq_true c1
        obtain rfl : G = true := hG.trans (decide_eq_true ⟨c0, c1⟩)
        clear c0 c1 hG
        go_wp2_with fail
        go_meet
        exact ⟨rfl, rfl⟩
      · have t1 : decide (cut < (n : Int)) = false := decide_eq_false c1
        obtain rfl : G = false := hG.trans (decide_eq_false (fun h => c1 h.2))
        clear c0 c1 hG
        go_wp2_with fail
        go_meet
        exact ⟨rfl, rfl⟩
    · have t0 : decide (0 ≤ cut) = false := decide_eq_false c0
      obtain rfl : G = false := hG.trans (decide_eq_false (fun h => c0 h.1))
      clear c0 hG
      go_wp2_with fail
      go_meet
      exact ⟨rfl, rfl⟩
  obtain ⟨rfl, hwc⟩ := hcut
  rw [hwc]
  clear hwc
  have HG := Lib.hid hG
  clear hG
  go_upto_if 43 with fail
  go_cut [8] (fun v wx => ∃ (ps : List Prt) (g4 : Nat), v = .slice (some ⟨g4, 0, none⟩) ps.length ps.length ∧ ps.map Prt.B = cutsOf B cut ∧ (∀ x ∈ ps, ∀ X, Frm [] w X → Sla .u8 X x.v x.B) ∧ Sep [] w wx [blkR g4 22 (ps.map Prt.v).toArray, blkR g2 29 #[.int .u8 p, .int .u8 h1, .int .u8 h2, .int .u8 h3, .int .u8 h4, .int .u8 h5, .int .u8 h6, .int .u8 h7, .int .u16 bb, .bool F, .slice none 0 0], blkR g 42 #[.int .u64 (mh : Int), .int .u64 (ml : Int)], blkR (o + 1) 29 #[.int .u8 0, .int .u8 0, .int .u8 0, .int .u8 0, .int .u8 0, .int .u8 0, .int .u8 0, .int .u8 0, .int .u16 0, .bool false, .slice none 0 0], blkR o 53 #[.int .u8 h0, .int .u8 h1, .int .u8 h2, .int .u8 h3, .int .u8 h4, .int .u8 h5, .int .u8 h6, .int .u8 h7, .int .u16 bb, .int .u64 (mh : Int), .int .u64 (ml : Int), .slice a n c]])
  case first =>
    have HPn := Lib.hid (fun (h : ¬ (0 ≤ cut ∧ cut < (n : Int))) => (by
      refine ⟨[⟨.slice a n c, B⟩], g3, rfl, ?_, fun x hx X hX => ?_, HS7.out⟩
      · unfold cutsOf; rw [← HN.out, if_neg h]; rfl
      · simp at hx; subst hx
        exact ⟨a, c, by rw [HN.out], HRd.out X hX, HNn.out, by rw [← HN.out]; exact lc, mc⟩ : ∃ (ps : List Prt) (g4 : Nat), Value.slice (some ⟨g3, 0, none⟩) 1 1 = .slice (some ⟨g4, 0, none⟩) ps.length ps.length ∧ ps.map Prt.B = cutsOf B cut ∧ (∀ x ∈ ps, ∀ X, Frm [] w X → Sla .u8 X x.v x.B) ∧ Sep [] w w6 [blkR g4 22 (ps.map Prt.v).toArray, blkR g2 29 #[.int .u8 p, .int .u8 h1, .int .u8 h2, .int .u8 h3, .int .u8 h4, .int .u8 h5, .int .u8 h6, .int .u8 h7, .int .u16 bb, .bool F, .slice none 0 0], blkR g 42 #[.int .u64 (mh : Int), .int .u64 (ml : Int)], blkR (o + 1) 29 #[.int .u8 0, .int .u8 0, .int .u8 0, .int .u8 0, .int .u8 0, .int .u8 0, .int .u8 0, .int .u8 0, .int .u16 0, .bool false, .slice none 0 0], blkR o 53 #[.int .u8 h0, .int .u8 h1, .int .u8 h2, .int .u8 h3, .int .u8 h4, .int .u8 h5, .int .u8 h6, .int .u8 h7, .int .u16 bb, .int .u64 (mh : Int), .int .u64 (ml : Int), .slice a n c]]))
    cases G with
    | false =>
      have h9 := HPn.out (of_decide_eq_false HG.out.symm)
      have H9 := Lib.hid h9
      clear h9
      go_wp2_with fail
      go_meet
      exact H9.out
    | true =>
    have hcc := of_decide_eq_true HG.out.symm
    have c0 := hcc.1
    have c1 := hcc.2
    clear hcc
    obtain ⟨k, rfl⟩ : ∃ k : Nat, cut = (k : Int) := ⟨cut.toNat, by omega⟩
    clear HPn
    have hkn : k < n := by omega
    have j0 : (0 : Int) ≤ (k : Int) := by omega
    have j1 : (k : Int) ≤ (c : Int) := by omega
    have j2 : (k : Int) ≤ (n : Int) := by omega
    have j3 : k ≤ c := by omega
    have j4 : k ≤ n := by omega
    have j5 : k < c := by omega
    obtain ⟨b, off, ha⟩ : ∃ b off, a = some ⟨b, off, none⟩ := by
      obtain ⟨b, off, ha, _⟩ := HRd.out w (Frm.refl _ _) 0 _ (List.getElem?_eq_getElem (by rw [← HN.out]; omega))
      exact ⟨b, off, ha⟩
    subst ha
    have hcuts : cutsOf B (k : Int) = [B.take k, B.drop k] := by unfold cutsOf; rw [← HN.out, if_pos ⟨c0, c1⟩]; rfl
    have HCu := Lib.hid hcuts
    have hpk : ¬ c = k := by omega
    have hkc : ¬ (c ≤ k) := by omega
    clear hcuts c0 c1
    go_upto_region 6 with fail
    clear k11
    refine region_segsP (G := []) [0, 1, 2, 3, 4, 5, 6, 7, 8, 9] [8] (by decide) (by kernel_rfl) (by kernel_rfl) (by kernel_rfl) (by kernel_rfl) (by kernel_rfl) (by kernel_rfl) (by kernel_rfl) ?_
    simp only [remOf, List.filterMap_cons, List.filterMap_nil, List.getElem?_cons_zero, List.getElem?_cons_succ]
    have HSA := Lib.hid HS7.out.drew
    obtain ⟨x6, hx6⟩ : ∃ x, x = w6.drew := ⟨_, rfl⟩
    rw [← hx6] at HSA
    rw [← hx6]
    clear hx6 HS7
    unfold wpSegs
    simp only [List.take_succ_cons, List.take_zero, List.drop_succ_cons, List.drop_zero]
    have n1 : Nonempty (Cls (fun v => Frm [] x6 v)) := ⟨⟨_, Frm.refl _ _⟩⟩
    have q11 := fun x : Cls (fun v => Frm [] x6 v) => (x.ok.blk (HSA.out.blk 4 rfl) (by simp)).cell 11 rfl
    repeat (go_big_quiet_step (rfl))
    refine wpQuiet_nil ?_
    refine only_step (fun K' hK => ?_)
    clear n1 q11
    go_wp2_with fail
    refine hK.out _ _ ⟨(Frm.refl _ _).alloc _, ?_⟩
    clear hK
    have HSB := Lib.hid ((HSA.out.alloc #[.slice (some ⟨b, off, none⟩) k c, .slice (some ⟨b, off + k, none⟩) (n - k) (c - k)] 22).at_ [0, 2, 3, 4, 5] (by decide) rfl)
    obtain ⟨x7, hx7⟩ : ∃ x, x = x6.alloc (.cells #[.slice (some ⟨b, off, none⟩) k c, .slice (some ⟨b, off + k, none⟩) (n - k) (c - k)] 22) := ⟨_, rfl⟩
    rw [← hx7] at HSB
    rw [← hx7]
    clear hx7
    unfold wpSegs
    have n1 : Nonempty (Cls (fun v => Frm [] x7 v)) := ⟨⟨_, Frm.refl _ _⟩⟩
    show wpQuiet _ _ _ _ [_] _
    repeat (go_big_quiet_step (rfl))
    refine wpQuiet_nil ?_
    clear n1
    refine NoPanic.normal ?_
    go_wp2_with fail
    go_meet
    refine ⟨[⟨.slice (some ⟨b, off, none⟩) k c, B.take k⟩, ⟨.slice (some ⟨b, off + k, none⟩) (n - k) (c - k), B.drop k⟩], x6.heap.size, rfl, by rw [HCu.out]; rfl, fun x hx X hX => ?_, HSB.out⟩
    simp at hx
    rcases hx with rfl | rfl
    · exact ⟨_, c, by rw [List.length_take, ← HN.out, Nat.min_eq_left (by omega)], (HRd.out X hX).firsts k, fun h => (by cases h), by rw [List.length_take, ← HN.out]; omega, mc⟩
    · exact ⟨_, c - k, by rw [List.length_drop, ← HN.out], (HRd.out X hX).offs k, fun h => (by cases h), by rw [List.length_drop, ← HN.out]; omega, by omega⟩
  obtain ⟨ps, g4, rfl, hpb, hps, hS8⟩ := hcut
  obtain ⟨w7, hw7⟩ : ∃ w7, w7 = wc := ⟨_, rfl⟩
  rw [← hw7] at hS8 ⊢
  have HS8 := Lib.hid hS8
  have HPs := Lib.hid hps
  have HPb := Lib.hid hpb
  clear hS8 hps hpb hw7 HS7 k11
  obtain ⟨N, hN2⟩ : ∃ N, N = ps.length := ⟨_, rfl⟩
  have hN3 : N ≤ 2 := by
    have h := congrArg List.length HPb.out
    rw [List.length_map, ← hN2] at h
    rw [h]
    unfold cutsOf
    split <;> simp
  rw [← hN2]
  have HNp := Lib.hid hN2
  clear hN2
  have HS9 := Lib.hid (HS8.out.enone.nil 44 3)
  go_wp2_with fail
  go_loopw [55] (fun i wr => ∃ (j : Nat) (qs : List LvV) (ad : Option Addr) (cd : Nat), j ≤ N ∧ i = .int .i64 (j : Int) ∧ qs.length = j ∧ qs.map LvV.lv = ((cutsOf B cut).take j).map (Lv.mk mh ml) ∧ Sep [] w wr [lvsR 44 (.slice ad j cd) qs, bodR qs, blkR g4 22 (ps.map Prt.v).toArray, blkR g2 29 #[.int .u8 p, .int .u8 h1, .int .u8 h2, .int .u8 h3, .int .u8 h4, .int .u8 h5, .int .u8 h6, .int .u8 h7, .int .u16 bb, .bool F, .slice ad j cd], blkR g 42 #[.int .u64 (mh : Int), .int .u64 (ml : Int)], blkR (o + 1) 29 #[.int .u8 0, .int .u8 0, .int .u8 0, .int .u8 0, .int .u8 0, .int .u8 0, .int .u8 0, .int .u8 0, .int .u16 0, .bool false, .slice none 0 0], blkR o 53 #[.int .u8 h0, .int .u8 h1, .int .u8 h2, .int .u8 h3, .int .u8 h4, .int .u8 h5, .int .u8 h6, .int .u8 h7, .int .u16 bb, .int .u64 (mh : Int), .int .u64 (ml : Int), .slice a n c]]) (fun i _ => N - (intOf i).toNat)
  case atStart => exact ⟨0, [], none, 0, Nat.zero_le _, rfl, rfl, by simp, HS9.out⟩
  case round =>
    obtain ⟨j, qs, ad, cd, hj, rfl, hqj, hqm, hS⟩ := hrel
    have HT := Lib.hid hS
    have HQj := Lib.hid hqj
    have HQm := Lib.hid hqm
    clear hS hqj hqm HS8 HS9
    by_cases hlt : j < N
    · obtain ⟨x, hx⟩ : ∃ x, ps[j]? = some x := ⟨_, List.getElem?_eq_getElem (by rw [← HNp.out]; exact hlt)⟩
      have hxm := List.mem_of_getElem? hx
      obtain ⟨ax, cx, hxv, -⟩ := HPs.out x hxm wr HT.out.frm
      have HSx := Lib.hid (HPs.out x hxm)
      have d0 : wr.cell? ⟨g4, j, none⟩ = some x.v := (HT.out.blk 2 rfl).cell j (by simp [hx])
      have hxB : (cutsOf B cut)[j]? = some x.B := by rw [← HPb.out, List.getElem?_map, hx]; rfl
      have HXB := Lib.hid hxB
      obtain ⟨xv, xB⟩ := x
      simp only at hxv d0 HSx HXB
      subst hxv
      have hxl : xB.length ≤ 1000000 := by
        have h1 : xB ∈ cutsOf B cut := List.mem_of_getElem? HXB.out
        unfold cutsOf at h1
        split at h1
        · simp at h1
          rcases h1 with rfl | rfl
          · rw [List.length_take]; have := HN.out; omega
          · rw [List.length_drop]; have := HN.out; omega
        · simp at h1; subst h1; rw [← HN.out]; exact hl
      have HXl := Lib.hid hxl
      obtain ⟨nx, hnx⟩ : ∃ nx, nx = xB.length := ⟨_, rfl⟩
      rw [← hnx] at d0
      have HNx := Lib.hid hnx
      have i1 : (0 : Int) ≤ (j : Int) := by omega
      have i2 : (j : Int) < (N : Int) := by omega
      have HCl := Lib.hid (fun X (hX : Frm [] w X) => (by
        obtain ⟨a', c', hv, rdx, hnx', -⟩ := HSx.out X hX
        simp only [Value.slice.injEq] at hv
        rw [← hv.1] at rdx hnx'
        rw [← hv.2.2] at hnx'
        have h := clone_c ax cx xB X rdx hnx' HXl.out
        rw [← HNx.out] at h
        exact h : Calls Tryd.prog 41 #[.slice ax nx cx] X fun e w' => ∃ v, e = .returned v ∧ Sep [] X w' [sumR v xB]))
      clear hx hxm hxB hxl hnx
      go_upto_region 10 with fail
      clear d0
      refine region_pm ([g2] ++ (Value.slice ad j cd).ownBlock.toList) [0, 3] [1, 2, 4, 5, 6] [Pr.is (.slice ad j cd), Pr.is (.agg #[.int .u64 (mh : Int), .int .u64 (ml : Int)]), Pr.sep wr.drew (fun v => [sumR v xB]), Pr.lv wr.drew mh ml xB, Pr.lvS wr.drew 44 mh ml xB] [0, 1] [7, 8, 9] (by kernel_rfl) (by kernel_rfl) (by kernel_rfl) rfl ?_
      simp only [remOf, mvs, List.zip_cons_cons, List.zip_nil_right, List.filterMap_cons, List.filterMap_nil, List.getElem?_cons_zero, List.getElem?_cons_succ, Option.map_some]
      have HTd := Lib.hid HT.out.drew
      obtain ⟨x3, hx3⟩ : ∃ x, x = wr.drew := ⟨_, rfl⟩
      rw [← hx3] at HTd
      rw [← hx3]
      clear hx3 HT
      obtain ⟨GG, hGG⟩ : ∃ GG, GG = [g2] ++ (Value.slice ad j cd).ownBlock.toList := ⟨_, rfl⟩
      rw [← hGG]
      have HGG := Lib.hid hGG
      clear hGG
      have n1 : Nonempty (Cls (fun v => Frm GG x3 v)) := ⟨⟨_, Frm.refl _ _⟩⟩
      show wpQuiet _ _ _ _ [_, _] _
      repeat (go_big_quiet_step (rfl))
      refine wpQuiet_nil ?_
      refine And.intro ?_ ?_
      · show slotsB _ _ = true
        kernel_rfl
      clear n1
      unfold wpMk
      refine ⟨fun X hX hk => ?_, fun v60 => ?_⟩
      · clear hk
        have k10 := ((HTd.out.keep hX).blk 3 rfl).cell 10 rfl
        refine only_step (fun K' hK => ?_)
        go_wp2_with fail
        exact hK.out _ _ ⟨Frm.refl _ _, rfl, rfl⟩
      unfold wpMk
      refine ⟨fun X hX hk => ?_, fun v61 => ?_⟩
      · clear hk
        have m0 := ((HTd.out.keep hX).blk 4 rfl).cell 0 rfl
        have m1 := ((HTd.out.keep hX).blk 4 rfl).cell 1 rfl
        refine only_step (fun K' hK => ?_)
        go_wp2_with fail
        exact hK.out _ _ ⟨Frm.refl _ _, rfl, rfl⟩
      unfold wpMk
      refine ⟨fun X hX hk => ?_, fun v63 => ?_⟩
      · clear hk
        have HC2 := Lib.hid (HCl.out X (HTd.out.frm.trans hX))
        refine only_step (fun K' hK => ?_)
        go_wp2_with fail
        refine HC2.out.mono ?_
        rintro e w5 ⟨vb, rfl, hSb⟩
        go_wp2_with fail
        exact hK.out _ _ ⟨hSb.frm, rfl, ((Sep.init x3).keep hX).more hSb⟩
      unfold wpMk
      refine ⟨fun X hX hk => ?_, fun v64 => ?_⟩
      · have h63 := hk 0 _ _ rfl (by kernel_rfl)
        obtain rfl := (show v61 = .agg #[.int .u64 (mh : Int), .int .u64 (ml : Int)] from hk 1 _ _ rfl (by kernel_rfl))
        have H63 := Lib.hid (show Sep [] x3 X [sumR v63 xB] from h63)
        obtain ⟨a3, c3, rfl, -⟩ := own_shape (H63.out.own 0 rfl)
        clear hk h63
        refine only_step (fun K' hK => ?_)
        go_wp2_with fail
        exact hK.out _ _ ⟨Frm.refl _ _, rfl, _, rfl, H63.out⟩
      unfold wpMk
      refine ⟨fun X hX hk => ?_, fun v65 => ?_⟩
      · obtain ⟨u, rfl, h64⟩ := (show AtLv x3 mh ml xB v64 X from hk 0 _ _ rfl (by kernel_rfl))
        have H64 := Lib.hid h64
        obtain ⟨a3, c3, rfl, -⟩ := own_shape (H64.out.own 0 rfl)
        clear hk h64
        refine only_step (fun K' hK => ?_)
        go_wp2_with fail
        exact hK.out _ _ ⟨(Frm.refl _ _).alloc _, rfl, _, X.heap.size, rfl, H64.out.alloc _ _⟩
      unfold wpMk
      simp only [Act.put, List.setIfInBounds_toArray, List.set_cons_succ, List.set_cons_zero]
      intro X hX hk
      obtain ⟨u, g5, rfl, h65⟩ := (show AtLvS x3 44 mh ml xB v65 X from hk 0 _ _ rfl)
      obtain rfl := (show v60 = .slice ad j cd from hk 4 _ _ rfl)
      have HT5 := Lib.hid (show Sep [] w X [blkR g5 44 #[.int .u64 (mh : Int), .int .u64 (ml : Int), u], sumR u xB, lvsR 44 (.slice ad j cd) qs, bodR qs, blkR g4 22 (ps.map Prt.v).toArray, blkR g2 29 #[.int .u8 p, .int .u8 h1, .int .u8 h2, .int .u8 h3, .int .u8 h4, .int .u8 h5, .int .u8 h6, .int .u8 h7, .int .u16 bb, .bool F, .slice ad j cd], blkR g 42 #[.int .u64 (mh : Int), .int .u64 (ml : Int)], blkR (o + 1) 29 #[.int .u8 0, .int .u8 0, .int .u8 0, .int .u8 0, .int .u8 0, .int .u8 0, .int .u8 0, .int .u8 0, .int .u16 0, .bool false, .slice none 0 0], blkR o 53 #[.int .u8 h0, .int .u8 h1, .int .u8 h2, .int .u8 h3, .int .u8 h4, .int .u8 h5, .int .u8 h6, .int .u8 h7, .int .u16 bb, .int .u64 (mh : Int), .int .u64 (ml : Int), .slice a n c]] from HTd.out.more h65)
      obtain ⟨a3, c3, rfl, -⟩ := own_shape (HT5.out.own 1 rfl)
      clear hk h65 HTd hX
      unfold wpSegs
      simp only [List.take_succ_cons, List.take_zero, List.drop_succ_cons, List.drop_zero]
      refine wpQuiet_nil ?_
      refine only_step (fun K' hK => ?_)
      refine wpList_plain rfl fun K2 hK2 => ?_
      have hblk := HT5.out.blk 0 rfl
      refine wp_append_rows (P := Tryd.prog) (.tmp 60) (.tmp 65) 27 rfl 44 iL (.agg #[.int .u64 0, .int .u64 0, .slice none 0 0]) 3 40 Tryd.underlying27 hLi hLz0 hLz1 hLz2 rfl (by decide) (.slice ad j cd) qs.length _ rfl (HT5.out.own 2 rfl) (some ⟨g5, 0, none⟩) 1 [[.int .u64 (mh : Int), .int .u64 (ml : Int), .slice a3 xB.length c3]] rfl (fun h => by cases h) (fun r hr => by simp at hr; subst hr; rfl) (urdS_lit hblk) (fun r hr u hu => by simp at hr; subst hr; simp at hu; rcases hu with rfl | rfl | rfl <;> rfl) (by unfold maxLen; have := HQj.out; simp; omega) (by have := HQj.out; simp; omega) ?_
      intro v9 w9 h2 h3 h4
      simp only [List.length_cons, List.length_nil, Nat.zero_add] at h2
      rw [HQj.out] at h2
      obtain ⟨a9, c9, rfl, _, _⟩ := own_shape h2
      have HT6 := Lib.hid (HT5.out.grow 2 rfl h3 h2 h4)
      have hF9 := Lib.hid (show Frm GG X w9 from (Frm.of_grown_opt h3).mono (by rw [HGG.out]; intro k hk; exact List.mem_append_right _ hk))
      clear h2 h3 h4 hblk
      refine hK2 _ _ ?_
      clear hK2
      refine hK.out _ _ ⟨hF9.out, ?_⟩
      clear hK hF9
      unfold wpSegs
      simp only [List.take_succ_cons, List.take_zero, List.drop_succ_cons, List.drop_zero, Act.put, List.setIfInBounds_toArray, List.set_cons_succ, List.set_cons_zero]
      have n1 : Nonempty (Cls (fun v => Frm GG w9 v)) := ⟨⟨_, Frm.refl _ _⟩⟩
      show wpQuiet _ _ _ _ [_] _
      repeat (go_big_quiet_step (rfl))
      refine wpQuiet_nil ?_
      refine only_step (fun K' hK => ?_)
      clear n1
      have k10 := (HT6.out.blk 5 rfl).cell 10 rfl
      have f10 := (HT6.out.blk 5 rfl).free 10
      go_wp2_with fail
      obtain ⟨w10, hw10⟩ : ∃ x, x = w9.setCell ⟨g2, 10, none⟩ (.slice a9 (j + 1) c9) := ⟨_, rfl⟩
      have HT7 := Lib.hid (hw10 ▸ HT6.out.put 5 rfl 10 (.slice a9 (j + 1) c9))
      have hF10 := Lib.hid (show Frm GG w9 w10 from hw10 ▸ (Frm.refl _ _).put (.inl (by rw [HGG.out]; simp)) 10 none _)
      rw [← hw10]
      refine hK.out _ _ ⟨hF10.out, ?_⟩
      clear hK hF10 hw10 k10 f10 HT6
      unfold wpSegs
      refine wpQuiet_nil ?_
      refine NoPanic.normal ?_
      have hS9 : Sep [] w w10 [lvsR 44 (.slice a9 (j + 1) c9) (qs ++ [LvV.mk mh ml (.slice a3 xB.length c3) xB]), bodR (qs ++ [LvV.mk mh ml (.slice a3 xB.length c3) xB]), blkR g4 22 (ps.map Prt.v).toArray, blkR g2 29 #[.int .u8 p, .int .u8 h1, .int .u8 h2, .int .u8 h3, .int .u8 h4, .int .u8 h5, .int .u8 h6, .int .u8 h7, .int .u16 bb, .bool F, .slice a9 (j + 1) c9], blkR g 42 #[.int .u64 (mh : Int), .int .u64 (ml : Int)], blkR (o + 1) 29 #[.int .u8 0, .int .u8 0, .int .u8 0, .int .u8 0, .int .u8 0, .int .u8 0, .int .u8 0, .int .u8 0, .int .u16 0, .bool false, .slice none 0 0], blkR o 53 #[.int .u8 h0, .int .u8 h1, .int .u8 h2, .int .u8 h3, .int .u8 h4, .int .u8 h5, .int .u8 h6, .int .u8 h7, .int .u16 bb, .int .u64 (mh : Int), .int .u64 (ml : Int), .slice a n c]] := by
        rw [bodR_snoc, ← lvsR_snoc, HQj.out]
        exact Sep.einto (HT7.out.at_ [1, 2, 3, 4, 5, 6, 7, 8] (by decide) rfl)
      have HT8 := Lib.hid hS9
      have hqm : (qs ++ [LvV.mk mh ml (.slice a3 xB.length c3) xB]).map LvV.lv = ((cutsOf B cut).take (j + 1)).map (Lv.mk mh ml) := by
        rw [List.take_add_one, HXB.out, List.map_append, List.map_append, HQm.out]
        rfl
      have HQm2 := Lib.hid hqm
      clear hS9 hqm HT7
      go_wp2_with fail
      go_roundw
      case rel => exact ⟨j + 1, _, a9, c9, by omega, by go_num, by rw [List.length_append, HQj.out]; rfl, HQm2.out, HT8.out⟩
      case measure => simp [intOf]; omega
    · obtain rfl : j = N := by omega
      have hcl : (cutsOf B cut).length = j := by rw [← HPb.out, List.length_map, ← HNp.out]
      have hql : qs.map LvV.lv = (cutsOf B cut).map (Lv.mk mh ml) := by
        have h := HQm.out
        rwa [List.take_of_length_le (by omega)] at h
      have HSj := Lib.hid (Sep.ejoin HT.out)
      obtain ⟨a8, c8, hv, _, _, _, hrl⟩ := lb_rd (HSj.out.get 0 rfl)
      simp only [Value.slice.injEq] at hv
      rw [← hv.1] at hrl
      have hW := HW.out wr ad cd qs HT.out.frm hql hrl
      simp only [Ul.val, Ul.cells] at hW
      rw [HQj.out] at hW
      have HW2 := Lib.hid hW
      have HQl := Lib.hid hql
      clear hW hql hcl hv hrl HW HSj
      have k0 := (HT.out.blk 3 rfl).cell 0 rfl
      have k1 := (HT.out.blk 3 rfl).cell 1 rfl
      have k2 := (HT.out.blk 3 rfl).cell 2 rfl
      have k3 := (HT.out.blk 3 rfl).cell 3 rfl
      have k4 := (HT.out.blk 3 rfl).cell 4 rfl
      have k5 := (HT.out.blk 3 rfl).cell 5 rfl
      have k6 := (HT.out.blk 3 rfl).cell 6 rfl
      have k7 := (HT.out.blk 3 rfl).cell 7 rfl
      have k8 := (HT.out.blk 3 rfl).cell 8 rfl
      have k9 := (HT.out.blk 3 rfl).cell 9 rfl
      have k10 := (HT.out.blk 3 rfl).cell 10 rfl
      go_wp2_with fail
      refine HW2.out.mono ?_
      rintro e w12 ⟨v12, rfl, hS12⟩
      have HT2 := Lib.hid (HT.out.keep hS12.frm)
      clear hS12 HW2 HT k0 k1 k2 k3 k4 k5 k6 k7 k8 k9 k10
      by_cases hE0 : E = 0
      case neg =>
        have d0 : (E != 0) = true := by simp [hE0]
        have HYY : Hid (Y = Ul.none) := Lib.hid (by rw [HY.out, if_neg hE0])
        clear hE0
        have k0 := (HT2.out.blk 5 rfl).cell 0 rfl
        have k1 := (HT2.out.blk 5 rfl).cell 1 rfl
        have k2 := (HT2.out.blk 5 rfl).cell 2 rfl
        have k3 := (HT2.out.blk 5 rfl).cell 3 rfl
        have k4 := (HT2.out.blk 5 rfl).cell 4 rfl
        have k5 := (HT2.out.blk 5 rfl).cell 5 rfl
        have k6 := (HT2.out.blk 5 rfl).cell 6 rfl
        have k7 := (HT2.out.blk 5 rfl).cell 7 rfl
        have k8 := (HT2.out.blk 5 rfl).cell 8 rfl
        have k9 := (HT2.out.blk 5 rfl).cell 9 rfl
        have k10 := (HT2.out.blk 5 rfl).cell 10 rfl
        have f0 := (HT2.out.blk 5 rfl).free 0
        have f1 := (HT2.out.blk 5 rfl).free 1
        have f2 := (HT2.out.blk 5 rfl).free 2
        have f3 := (HT2.out.blk 5 rfl).free 3
        have f4 := (HT2.out.blk 5 rfl).free 4
        have f5 := (HT2.out.blk 5 rfl).free 5
        have f6 := (HT2.out.blk 5 rfl).free 6
        have f7 := (HT2.out.blk 5 rfl).free 7
        have f8 := (HT2.out.blk 5 rfl).free 8
        have f9 := (HT2.out.blk 5 rfl).free 9
        have f10 := (HT2.out.blk 5 rfl).free 10
        go_wp2_with fail
        obtain ⟨w13, hw8⟩ : ∃ w8, w8 = (((((((((((w12.setCell ⟨(o + 1), 0, none⟩ (.int .u8 0)).setCell ⟨(o + 1), 1, none⟩ (.int .u8 0)).setCell ⟨(o + 1), 2, none⟩ (.int .u8 0)).setCell ⟨(o + 1), 3, none⟩ (.int .u8 0)).setCell ⟨(o + 1), 4, none⟩ (.int .u8 0)).setCell ⟨(o + 1), 5, none⟩ (.int .u8 0)).setCell ⟨(o + 1), 6, none⟩ (.int .u8 0)).setCell ⟨(o + 1), 7, none⟩ (.int .u8 0)).setCell ⟨(o + 1), 8, none⟩ (.int .u16 0)).setCell ⟨(o + 1), 9, none⟩ (.bool false)).setCell ⟨(o + 1), 10, none⟩ (.slice none 0 0)) := ⟨_, rfl⟩
        have HS13 := Lib.hid (show Sep [] w w13 [lvsR 44 (.slice ad j cd) qs, bodR qs, blkR g4 22 (ps.map Prt.v).toArray, blkR g2 29 #[.int .u8 p, .int .u8 h1, .int .u8 h2, .int .u8 h3, .int .u8 h4, .int .u8 h5, .int .u8 h6, .int .u8 h7, .int .u16 bb, .bool F, .slice ad j cd], blkR g 42 #[.int .u64 (mh : Int), .int .u64 (ml : Int)], blkR (o + 1) 29 #[.int .u8 0, .int .u8 0, .int .u8 0, .int .u8 0, .int .u8 0, .int .u8 0, .int .u8 0, .int .u8 0, .int .u16 0, .bool false, .slice none 0 0], blkR o 53 #[.int .u8 h0, .int .u8 h1, .int .u8 h2, .int .u8 h3, .int .u8 h4, .int .u8 h5, .int .u8 h6, .int .u8 h7, .int .u16 bb, .int .u64 (mh : Int), .int .u64 (ml : Int), .slice a n c]] from hw8 ▸ HT2.out.puts 5 rfl [.int .u8 0, .int .u8 0, .int .u8 0, .int .u8 0, .int .u8 0, .int .u8 0, .int .u8 0, .int .u8 0, .int .u16 0, .bool false, .slice none 0 0] rfl)
        rw [← hw8]
        clear hw8 k0 k1 k2 k3 k4 k5 k6 k7 k8 k9 k10 f0 f1 f2 f3 f4 f5 f6 f7 f8 f9 f10
        have z0 := (HS13.out.blk 5 rfl).cell 0 rfl
        have z1 := (HS13.out.blk 5 rfl).cell 1 rfl
        have z2 := (HS13.out.blk 5 rfl).cell 2 rfl
        have z3 := (HS13.out.blk 5 rfl).cell 3 rfl
        have z4 := (HS13.out.blk 5 rfl).cell 4 rfl
        have z5 := (HS13.out.blk 5 rfl).cell 5 rfl
        have z6 := (HS13.out.blk 5 rfl).cell 6 rfl
        have z7 := (HS13.out.blk 5 rfl).cell 7 rfl
        have z8 := (HS13.out.blk 5 rfl).cell 8 rfl
        have z9 := (HS13.out.blk 5 rfl).cell 9 rfl
        have z10 := (HS13.out.blk 5 rfl).cell 10 rfl
        refine bodyPost_ret (v := .tuple #[.agg #[.int .u8 0, .int .u8 0, .int .u8 0, .int .u8 0, .int .u8 0, .int .u8 0, .int .u8 0, .int .u8 0, .int .u16 0, .bool false, .slice none 0 0], .int .i64 E]) ?_ rfl ⟨none, 0, 0, [], by rw [HYY.out]; rfl, by rw [HYY.out]; rfl, Sep.ejoin ((HS13.out.enone.nil 44 3).at_ [0, 1] (by decide) rfl)⟩
        simp [results, Tryd.results22, go_sem, z0, z1, z2, z3, z4, z5, z6, z7, z8, z9, z10]
      subst hE0
      have HYY : Hid (Y = ⟨p, h1, h2, h3, h4, h5, h6, h7, bb, F, (cutsOf B cut).map (Lv.mk mh ml)⟩) := Lib.hid (by rw [HY.out, if_pos rfl])
      have q0 := (HT2.out.blk 3 rfl).cell 0 rfl
      have q1 := (HT2.out.blk 3 rfl).cell 1 rfl
      have q2 := (HT2.out.blk 3 rfl).cell 2 rfl
      have q3 := (HT2.out.blk 3 rfl).cell 3 rfl
      have q4 := (HT2.out.blk 3 rfl).cell 4 rfl
      have q5 := (HT2.out.blk 3 rfl).cell 5 rfl
      have q6 := (HT2.out.blk 3 rfl).cell 6 rfl
      have q7 := (HT2.out.blk 3 rfl).cell 7 rfl
      have q8 := (HT2.out.blk 3 rfl).cell 8 rfl
      have q9 := (HT2.out.blk 3 rfl).cell 9 rfl
      have q10 := (HT2.out.blk 3 rfl).cell 10 rfl
      have k0 := (HT2.out.blk 5 rfl).cell 0 rfl
      have k1 := (HT2.out.blk 5 rfl).cell 1 rfl
      have k2 := (HT2.out.blk 5 rfl).cell 2 rfl
      have k3 := (HT2.out.blk 5 rfl).cell 3 rfl
      have k4 := (HT2.out.blk 5 rfl).cell 4 rfl
      have k5 := (HT2.out.blk 5 rfl).cell 5 rfl
      have k6 := (HT2.out.blk 5 rfl).cell 6 rfl
      have k7 := (HT2.out.blk 5 rfl).cell 7 rfl
      have k8 := (HT2.out.blk 5 rfl).cell 8 rfl
      have k9 := (HT2.out.blk 5 rfl).cell 9 rfl
      have k10 := (HT2.out.blk 5 rfl).cell 10 rfl
      have f0 := (HT2.out.blk 5 rfl).free 0
      have f1 := (HT2.out.blk 5 rfl).free 1
      have f2 := (HT2.out.blk 5 rfl).free 2
      have f3 := (HT2.out.blk 5 rfl).free 3
      have f4 := (HT2.out.blk 5 rfl).free 4
      have f5 := (HT2.out.blk 5 rfl).free 5
      have f6 := (HT2.out.blk 5 rfl).free 6
      have f7 := (HT2.out.blk 5 rfl).free 7
      have f8 := (HT2.out.blk 5 rfl).free 8
      have f9 := (HT2.out.blk 5 rfl).free 9
      have f10 := (HT2.out.blk 5 rfl).free 10
      go_wp2_with fail
      obtain ⟨w13, hw8⟩ : ∃ w8, w8 = (((((((((((w12.setCell ⟨(o + 1), 0, none⟩ (.int .u8 p)).setCell ⟨(o + 1), 1, none⟩ (.int .u8 h1)).setCell ⟨(o + 1), 2, none⟩ (.int .u8 h2)).setCell ⟨(o + 1), 3, none⟩ (.int .u8 h3)).setCell ⟨(o + 1), 4, none⟩ (.int .u8 h4)).setCell ⟨(o + 1), 5, none⟩ (.int .u8 h5)).setCell ⟨(o + 1), 6, none⟩ (.int .u8 h6)).setCell ⟨(o + 1), 7, none⟩ (.int .u8 h7)).setCell ⟨(o + 1), 8, none⟩ (.int .u16 bb)).setCell ⟨(o + 1), 9, none⟩ (.bool F)).setCell ⟨(o + 1), 10, none⟩ (.slice ad j cd)) := ⟨_, rfl⟩
      have HS13 := Lib.hid (show Sep [] w w13 [lvsR 44 (.slice ad j cd) qs, bodR qs, blkR g4 22 (ps.map Prt.v).toArray, blkR g2 29 #[.int .u8 p, .int .u8 h1, .int .u8 h2, .int .u8 h3, .int .u8 h4, .int .u8 h5, .int .u8 h6, .int .u8 h7, .int .u16 bb, .bool F, .slice ad j cd], blkR g 42 #[.int .u64 (mh : Int), .int .u64 (ml : Int)], blkR (o + 1) 29 #[.int .u8 p, .int .u8 h1, .int .u8 h2, .int .u8 h3, .int .u8 h4, .int .u8 h5, .int .u8 h6, .int .u8 h7, .int .u16 bb, .bool F, .slice ad j cd], blkR o 53 #[.int .u8 h0, .int .u8 h1, .int .u8 h2, .int .u8 h3, .int .u8 h4, .int .u8 h5, .int .u8 h6, .int .u8 h7, .int .u16 bb, .int .u64 (mh : Int), .int .u64 (ml : Int), .slice a n c]] from hw8 ▸ HT2.out.puts 5 rfl [.int .u8 p, .int .u8 h1, .int .u8 h2, .int .u8 h3, .int .u8 h4, .int .u8 h5, .int .u8 h6, .int .u8 h7, .int .u16 bb, .bool F, .slice ad j cd] rfl)
      rw [← hw8]
      clear hw8 k0 k1 k2 k3 k4 k5 k6 k7 k8 k9 k10 f0 f1 f2 f3 f4 f5 f6 f7 f8 f9 f10 q0 q1 q2 q3 q4 q5 q6 q7 q8 q9 q10
      have z0 := (HS13.out.blk 5 rfl).cell 0 rfl
      have z1 := (HS13.out.blk 5 rfl).cell 1 rfl
      have z2 := (HS13.out.blk 5 rfl).cell 2 rfl
      have z3 := (HS13.out.blk 5 rfl).cell 3 rfl
      have z4 := (HS13.out.blk 5 rfl).cell 4 rfl
      have z5 := (HS13.out.blk 5 rfl).cell 5 rfl
      have z6 := (HS13.out.blk 5 rfl).cell 6 rfl
      have z7 := (HS13.out.blk 5 rfl).cell 7 rfl
      have z8 := (HS13.out.blk 5 rfl).cell 8 rfl
      have z9 := (HS13.out.blk 5 rfl).cell 9 rfl
      have z10 := (HS13.out.blk 5 rfl).cell 10 rfl
      refine bodyPost_ret (v := .tuple #[.agg #[.int .u8 p, .int .u8 h1, .int .u8 h2, .int .u8 h3, .int .u8 h4, .int .u8 h5, .int .u8 h6, .int .u8 h7, .int .u16 bb, .bool F, .slice ad j cd], .int .i64 0]) ?_ rfl ⟨ad, j, cd, qs, by rw [HYY.out]; exact HQl.out, by rw [HYY.out]; rfl, Sep.ejoin (HS13.out.at_ [0, 1] (by decide) rfl)⟩
      simp [results, Tryd.results22, go_sem, z0, z1, z2, z3, z4, z5, z6, z7, z8, z9, z10]

end Go.Proofs.YtjflcijiaennkaaDoor
