/-
  THE WALK of wire.Part[ulp.Pack]. Printed by gen_ulc.py.
-/
import Derived.Test.YtjflcijiaennkaaDoorUlC
set_option linter.unusedVariables false
set_option linter.unusedSimpArgs false
namespace Go.Proofs.YtjflcijiaennkaaDoor
open Go.RowKit

theorem lvF_err {zs : List Int} {lg : Bool} : ∀ (f p : Nat) (acc : List Lv) {e : Int}, lvF zs lg f p acc = .error e → e ≠ 0
  | 0, p, acc, e, hh => by
    unfold lvF at hh
    split at hh
    · cases hh
    split at hh
    · cases hh; decide
    · cases hh; decide
  | f + 1, p, acc, e, hh => by
    rw [lvF] at hh
    split at hh
    · cases hh
    split at hh
    · cases hh; decide
    · exact lvF_err f _ _ hh
theorem urd_err {zs : List Int} {e : Int} (h : urdX zs = .error e) : e ≠ 0 := by
  unfold urdX at h
  split at h
  · cases h; decide
  split at h
  · cases h; decide
  split at h
  · rename_i e' he
    cases h
    exact lvF_err _ _ _ he
  · split at h
    · cases h; decide
    · cases h
theorem frm_putAll (b : Nat) : ∀ (vs : List Value) (k : Nat) (w : World), Frm [b] w (putAll b k vs w)
  | [], _, w => Frm.refl _ _
  | v :: vs, k, w => ((Frm.refl [b] w).put (g := b) (.inl (by simp)) k none v).trans (frm_putAll b vs (k + 1) _)
/-- What Part gives. -/
def UPartP (W : World) (zs : List Int) (r : Except Int Ul) (x : Ending) (W' : World) : Prop :=
  match r with
  | .error e => x = .returned (.tuple #[Ul.none.val (.slice none 0 0), .int .i64 0, .int .i64 e]) ∧ Frm [] W W'
  | .ok X => ∃ va vn vc qs, qs.map LvV.lv = X.Ls ∧ x = .returned (.tuple #[X.val (.slice va vn vc), .int .i64 (zs.length : Int), .int .i64 0]) ∧ Sep [] W W' [lbR 44 (.slice va vn vc) qs]
set_option maxRecDepth 100000 in
set_option maxHeartbeats 16000000 in
theorem upart_c {W : World} {a : Option Addr} {c : Nat} {zs : List Int} (hr : RdI .u8 W a zs) (hb : Byt zs) (hc : zs.length ≤ c) (hcm : c ≤ 9223372036854775807) (hn : a = none → c = 0) (hs : zs.length ≤ 1000000) :
    Calls Tryd.prog 43 #[.slice a zs.length c, .func (.func 26) #[] #[]] W (UPartP W zs (urdX zs)) := by
  obtain ⟨R, hRX⟩ : ∃ R, R = urdX zs := ⟨_, rfl⟩
  have hR := Rdr.new (hr.alloc (.cells #[.int .u8 0, .int .u8 0, .int .u8 0, .int .u8 0, .int .u8 0, .int .u8 0, .int .u8 0, .int .u8 0, .int .u16 0, .bool false, .slice none 0 0] 29)) hb hc hcm hn hs
  have HG := Lib.hid (hRX ▸ uguard_c hR)
  have HE := Lib.hid (fun (e : Int) (h : R = .error e) => urd_err (hRX.symm.trans h))
  rw [← hRX]
  have HS0 := Lib.hid (((Sep.init W).alloc #[.int .u8 0, .int .u8 0, .int .u8 0, .int .u8 0, .int .u8 0, .int .u8 0, .int .u8 0, .int .u8 0, .int .u16 0, .bool false, .slice none 0 0] 29).alloc #[.slice a zs.length c, .int .i64 (((0 : Nat) : Int) : Int)] 114)
  simp only [World.size_alloc, Int.natCast_zero] at HS0 HG
  clear hR hRX hr hb hc hcm hn
  go_enter Tryd.func43, Tryd.ntmps43
  go_upto_region 2 with fail
  obtain ⟨w1, hw1⟩ : ∃ w1, w1 = (W.alloc (.cells #[.int .u8 0, .int .u8 0, .int .u8 0, .int .u8 0, .int .u8 0, .int .u8 0, .int .u8 0, .int .u8 0, .int .u16 0, .bool false, .slice none 0 0] 29)).alloc (.cells #[.slice a zs.length c, .int .i64 0] 114) := ⟨_, rfl⟩
  obtain ⟨o, ho⟩ : ∃ o, o = W.heap.size := ⟨_, rfl⟩
  rw [← hw1, ← ho] at HS0 HG
  rw [← hw1, ← ho]
  have HO := Lib.hid (show W.heap.size ≤ o from by omega)
  clear hw1 ho
  go_wp2_with fail
  refine HG.out.mono ?_
  intro x w2 hx
  clear HG
  cases R with
  | error e =>
    obtain ⟨rfl, hF⟩ := (show x = .returned (.tuple #[Ul.none.val (.slice none 0 0), .int .i64 e]) ∧ Frm [o + 1] w1 w2 from hx)
    have he : e ≠ 0 := HE.out e rfl
    have e0 : (e == 0) = false := beq_eq_false_iff_ne.2 he
    have hz : Blk w2 o 29 #[.int .u8 0, .int .u8 0, .int .u8 0, .int .u8 0, .int .u8 0, .int .u8 0, .int .u8 0, .int .u8 0, .int .u16 0, .bool false, .slice none 0 0] := hF.blk (HS0.out.blk 1 rfl) (by simp)
    have HF := Lib.hid (HS0.out.frm.after hF (fun g hg => .inr (by have := HO.out; simp at hg; omega)))
    have HS1 := Lib.hid ((((Sep.init W).add HF.out (r := blkR o 29 #[.int .u8 0, .int .u8 0, .int .u8 0, .int .u8 0, .int .u8 0, .int .u8 0, .int .u8 0, .int .u8 0, .int .u16 0, .bool false, .slice none 0 0]) hz (by have := HO.out; simpa [blkR] using this)).alloc #[.int .u8 0, .int .u8 0, .int .u8 0, .int .u8 0, .int .u8 0, .int .u8 0, .int .u8 0, .int .u8 0, .int .u16 0, .bool false, .slice none 0 0] 29).alloc #[.int .u8 0, .int .u8 0, .int .u8 0, .int .u8 0, .int .u8 0, .int .u8 0, .int .u8 0, .int .u8 0, .int .u16 0, .bool false, .slice none 0 0] 29)
    simp only [World.size_alloc] at HS1
    clear hF hx he hz HF HS0 HE
    simp only [Ul.val, Ul.cells, Ul.none]
    go_upto_region 5 with fail
    obtain ⟨w3, hw3⟩ : ∃ w3, w3 = (w2.alloc (.cells #[.int .u8 0, .int .u8 0, .int .u8 0, .int .u8 0, .int .u8 0, .int .u8 0, .int .u8 0, .int .u8 0, .int .u16 0, .bool false, .slice none 0 0] 29)).alloc (.cells #[.int .u8 0, .int .u8 0, .int .u8 0, .int .u8 0, .int .u8 0, .int .u8 0, .int .u8 0, .int .u8 0, .int .u16 0, .bool false, .slice none 0 0] 29) := ⟨_, rfl⟩
    obtain ⟨p, hp⟩ : ∃ p, p = w2.heap.size := ⟨_, rfl⟩
    rw [← hw3, ← hp] at HS1
    rw [← hw3, ← hp]
    clear hw3 hp
    have hq := HS1.out.blk 0 rfl
    have hz := HS1.out.blk 2 rfl
    have q0 := hq.cell 0 rfl
    have q1 := hq.cell 1 rfl
    have q2 := hq.cell 2 rfl
    have q3 := hq.cell 3 rfl
    have q4 := hq.cell 4 rfl
    have q5 := hq.cell 5 rfl
    have q6 := hq.cell 6 rfl
    have q7 := hq.cell 7 rfl
    have q8 := hq.cell 8 rfl
    have q9 := hq.cell 9 rfl
    have q10 := hq.cell 10 rfl
    have z0 := hz.cell 0 rfl
    have z1 := hz.cell 1 rfl
    have z2 := hz.cell 2 rfl
    have z3 := hz.cell 3 rfl
    have z4 := hz.cell 4 rfl
    have z5 := hz.cell 5 rfl
    have z6 := hz.cell 6 rfl
    have z7 := hz.cell 7 rfl
    have z8 := hz.cell 8 rfl
    have z9 := hz.cell 9 rfl
    have z10 := hz.cell 10 rfl
    have f0 := hz.free 0
    have f1 := hz.free 1
    have f2 := hz.free 2
    have f3 := hz.free 3
    have f4 := hz.free 4
    have f5 := hz.free 5
    have f6 := hz.free 6
    have f7 := hz.free 7
    have f8 := hz.free 8
    have f9 := hz.free 9
    have f10 := hz.free 10
    go_wp2_with fail
    obtain ⟨w4, hw4⟩ : ∃ w4, w4 = (((((((((((w3.setCell ⟨o, 0, none⟩ (.int .u8 0)).setCell ⟨o, 1, none⟩ (.int .u8 0)).setCell ⟨o, 2, none⟩ (.int .u8 0)).setCell ⟨o, 3, none⟩ (.int .u8 0)).setCell ⟨o, 4, none⟩ (.int .u8 0)).setCell ⟨o, 5, none⟩ (.int .u8 0)).setCell ⟨o, 6, none⟩ (.int .u8 0)).setCell ⟨o, 7, none⟩ (.int .u8 0)).setCell ⟨o, 8, none⟩ (.int .u16 0)).setCell ⟨o, 9, none⟩ (.bool false)).setCell ⟨o, 10, none⟩ (.slice none 0 0)) := ⟨_, rfl⟩
    have HS2 := Lib.hid (show Sep [] W w4 [blkR (p + 1) 29 #[.int .u8 0, .int .u8 0, .int .u8 0, .int .u8 0, .int .u8 0, .int .u8 0, .int .u8 0, .int .u8 0, .int .u16 0, .bool false, .slice none 0 0], blkR p 29 #[.int .u8 0, .int .u8 0, .int .u8 0, .int .u8 0, .int .u8 0, .int .u8 0, .int .u8 0, .int .u8 0, .int .u16 0, .bool false, .slice none 0 0], blkR o 29 #[.int .u8 0, .int .u8 0, .int .u8 0, .int .u8 0, .int .u8 0, .int .u8 0, .int .u8 0, .int .u8 0, .int .u16 0, .bool false, .slice none 0 0]] from hw4 ▸ HS1.out.puts 2 rfl [.int .u8 0, .int .u8 0, .int .u8 0, .int .u8 0, .int .u8 0, .int .u8 0, .int .u8 0, .int .u8 0, .int .u16 0, .bool false, .slice none 0 0] rfl)
    rw [← hw4]
    clear hw4 HS1 hq hz z0 z1 z2 z3 z4 z5 z6 z7 z8 z9 z10 q0 q1 q2 q3 q4 q5 q6 q7 q8 q9 q10 f0 f1 f2 f3 f4 f5 f6 f7 f8 f9 f10
    have hz := HS2.out.blk 2 rfl
    have z0 := hz.cell 0 rfl
    have z1 := hz.cell 1 rfl
    have z2 := hz.cell 2 rfl
    have z3 := hz.cell 3 rfl
    have z4 := hz.cell 4 rfl
    have z5 := hz.cell 5 rfl
    have z6 := hz.cell 6 rfl
    have z7 := hz.cell 7 rfl
    have z8 := hz.cell 8 rfl
    have z9 := hz.cell 9 rfl
    have z10 := hz.cell 10 rfl
    refine bodyPost_ret (v := .tuple #[.agg #[.int .u8 0, .int .u8 0, .int .u8 0, .int .u8 0, .int .u8 0, .int .u8 0, .int .u8 0, .int .u8 0, .int .u16 0, .bool false, .slice none 0 0], .int .i64 0, .int .i64 e]) ?_ rfl ⟨rfl, HS2.out.frm⟩
    simp [results, Tryd.results43, go_sem, z0, z1, z2, z3, z4, z5, z6, z7, z8, z9, z10]
  | ok X =>
    obtain ⟨va, vn, vc, qs, hq, rfl, hS⟩ := (show ∃ va vn vc qs, qs.map LvV.lv = X.Ls ∧ x = .returned (.tuple #[X.val (.slice va vn vc), .int .i64 0]) ∧ Sep [o + 1] w1 w2 [blkR (o + 1) 114 #[.slice a zs.length c, .int .i64 ((zs.length : Int) : Int)], lbR 44 (.slice va vn vc) qs] from hx)
    obtain ⟨h0, h1, h2, h3, h4, h5, h6, h7, b, lg, Ls⟩ := X
    have HQ := Lib.hid hq
    clear hq
    have HS1 := Lib.hid (show Sep [] W (w2.alloc (.cells #[.int .u8 h0, .int .u8 h1, .int .u8 h2, .int .u8 h3, .int .u8 h4, .int .u8 h5, .int .u8 h6, .int .u8 h7, .int .u16 b, .bool lg, .slice va vn vc] 29)) [blkR w2.heap.size 29 #[.int .u8 h0, .int .u8 h1, .int .u8 h2, .int .u8 h3, .int .u8 h4, .int .u8 h5, .int .u8 h6, .int .u8 h7, .int .u16 b, .bool lg, .slice va vn vc], blkR (o + 1) 114 #[.slice a zs.length c, .int .i64 ((zs.length : Int) : Int)], lbR 44 (.slice va vn vc) qs, blkR o 29 #[.int .u8 0, .int .u8 0, .int .u8 0, .int .u8 0, .int .u8 0, .int .u8 0, .int .u8 0, .int .u8 0, .int .u16 0, .bool false, .slice none 0 0]] from (HS0.out.callMany hS (by simp [blkR])).alloc #[.int .u8 h0, .int .u8 h1, .int .u8 h2, .int .u8 h3, .int .u8 h4, .int .u8 h5, .int .u8 h6, .int .u8 h7, .int .u16 b, .bool lg, .slice va vn vc] 29)
    have HOP := Lib.hid (show o < w2.heap.size from (HS0.out.callMany hS (by simp [blkR])).lt 2 rfl o (by simp [blkR]))
    clear hS hx HS0 HE
    simp only [Ul.val, Ul.cells]
    go_upto_region 6 with fail
    obtain ⟨w3, hw3⟩ : ∃ w3, w3 = w2.alloc (.cells #[.int .u8 h0, .int .u8 h1, .int .u8 h2, .int .u8 h3, .int .u8 h4, .int .u8 h5, .int .u8 h6, .int .u8 h7, .int .u16 b, .bool lg, .slice va vn vc] 29) := ⟨_, rfl⟩
    obtain ⟨p, hp⟩ : ∃ p, p = w2.heap.size := ⟨_, rfl⟩
    rw [← hw3, ← hp] at HS1
    rw [← hw3, ← hp]
    have HPO := Lib.hid (show o < p from hp ▸ HOP.out)
    clear hw3 hp
    refine region_segsQ (G := [o]) [0, 1, 2, 3, 4, 5, 6, 7] [5] put_panic (by decide) (by kernel_rfl) (by kernel_rfl) (by kernel_rfl) (by kernel_rfl) (by kernel_rfl) (by kernel_rfl) (by kernel_rfl) ?_
    simp only [remOf, List.filterMap_cons, List.filterMap_nil, List.getElem?_cons_zero, List.getElem?_cons_succ]
    have HSd := Lib.hid HS1.out.drew
    obtain ⟨w4, hw4⟩ : ∃ w4, w4 = w3.drew := ⟨_, rfl⟩
    rw [← hw4] at HSd
    rw [← hw4]
    clear hw4 HS1
    unfold wpSegs
    simp only [List.take_succ_cons, List.take_zero, List.drop_succ_cons, List.drop_zero]
    have hpo : p ∉ [o] ∧ o + 1 ∉ [o] := by
      have := HPO.out
      simp
      omega
    have n1 : Nonempty (Cls (fun v => Frm [o] w4 v)) := ⟨⟨_, Frm.refl _ _⟩⟩
    have HQ := Lib.hid (fun x : Cls (fun v => Frm [o] w4 v) => x.ok.blk (HSd.out.blk 0 rfl) hpo.1)
    have r1 := fun x : Cls (fun v => Frm [o] w4 v) => (x.ok.blk (HSd.out.blk 1 rfl) hpo.2).cell 1 rfl
    have q0 := fun x : Cls (fun v => Frm [o] w4 v) => (HQ.out x).cell 0 rfl
    have q1 := fun x : Cls (fun v => Frm [o] w4 v) => (HQ.out x).cell 1 rfl
    have q2 := fun x : Cls (fun v => Frm [o] w4 v) => (HQ.out x).cell 2 rfl
    have q3 := fun x : Cls (fun v => Frm [o] w4 v) => (HQ.out x).cell 3 rfl
    have q4 := fun x : Cls (fun v => Frm [o] w4 v) => (HQ.out x).cell 4 rfl
    have q5 := fun x : Cls (fun v => Frm [o] w4 v) => (HQ.out x).cell 5 rfl
    have q6 := fun x : Cls (fun v => Frm [o] w4 v) => (HQ.out x).cell 6 rfl
    have q7 := fun x : Cls (fun v => Frm [o] w4 v) => (HQ.out x).cell 7 rfl
    have q8 := fun x : Cls (fun v => Frm [o] w4 v) => (HQ.out x).cell 8 rfl
    have q9 := fun x : Cls (fun v => Frm [o] w4 v) => (HQ.out x).cell 9 rfl
    have q10 := fun x : Cls (fun v => Frm [o] w4 v) => (HQ.out x).cell 10 rfl
    repeat (go_big_quiet_step (fail))
    refine wpQuiet_nil ?_
    refine only_step (fun K' hK => ?_)
    clear n1 r1 q0 q1 q2 q3 q4 q5 q6 q7 q8 q9 q10
    have hz := HSd.out.blk 3 rfl
    have z0 := hz.cell 0 rfl
    have z1 := hz.cell 1 rfl
    have z2 := hz.cell 2 rfl
    have z3 := hz.cell 3 rfl
    have z4 := hz.cell 4 rfl
    have z5 := hz.cell 5 rfl
    have z6 := hz.cell 6 rfl
    have z7 := hz.cell 7 rfl
    have z8 := hz.cell 8 rfl
    have z9 := hz.cell 9 rfl
    have z10 := hz.cell 10 rfl
    have f0 := hz.free 0
    have f1 := hz.free 1
    have f2 := hz.free 2
    have f3 := hz.free 3
    have f4 := hz.free 4
    have f5 := hz.free 5
    have f6 := hz.free 6
    have f7 := hz.free 7
    have f8 := hz.free 8
    have f9 := hz.free 9
    have f10 := hz.free 10
    go_wp2_with fail
    obtain ⟨w5, hw5⟩ : ∃ w5, w5 = (((((((((((w4.setCell ⟨o, 0, none⟩ (.int .u8 h0)).setCell ⟨o, 1, none⟩ (.int .u8 h1)).setCell ⟨o, 2, none⟩ (.int .u8 h2)).setCell ⟨o, 3, none⟩ (.int .u8 h3)).setCell ⟨o, 4, none⟩ (.int .u8 h4)).setCell ⟨o, 5, none⟩ (.int .u8 h5)).setCell ⟨o, 6, none⟩ (.int .u8 h6)).setCell ⟨o, 7, none⟩ (.int .u8 h7)).setCell ⟨o, 8, none⟩ (.int .u16 b)).setCell ⟨o, 9, none⟩ (.bool lg)).setCell ⟨o, 10, none⟩ (.slice va vn vc)) := ⟨_, rfl⟩
    have HS2 := Lib.hid (show Sep [] W w5 [blkR p 29 #[.int .u8 h0, .int .u8 h1, .int .u8 h2, .int .u8 h3, .int .u8 h4, .int .u8 h5, .int .u8 h6, .int .u8 h7, .int .u16 b, .bool lg, .slice va vn vc], blkR (o + 1) 114 #[.slice a zs.length c, .int .i64 ((zs.length : Int) : Int)], lbR 44 (.slice va vn vc) qs, blkR o 29 #[.int .u8 h0, .int .u8 h1, .int .u8 h2, .int .u8 h3, .int .u8 h4, .int .u8 h5, .int .u8 h6, .int .u8 h7, .int .u16 b, .bool lg, .slice va vn vc]] from hw5 ▸ HSd.out.puts 3 rfl [.int .u8 h0, .int .u8 h1, .int .u8 h2, .int .u8 h3, .int .u8 h4, .int .u8 h5, .int .u8 h6, .int .u8 h7, .int .u16 b, .bool lg, .slice va vn vc] rfl)
    have HFo := Lib.hid (show Frm [o] w4 w5 from hw5 ▸ frm_putAll o [.int .u8 h0, .int .u8 h1, .int .u8 h2, .int .u8 h3, .int .u8 h4, .int .u8 h5, .int .u8 h6, .int .u8 h7, .int .u16 b, .bool lg, .slice va vn vc] 0 w4)
    rw [← hw5]
    clear hw5 HSd HQ hz z0 z1 z2 z3 z4 z5 z6 z7 z8 z9 z10 f0 f1 f2 f3 f4 f5 f6 f7 f8 f9 f10
    refine hK.out _ _ ⟨HFo.out, ?_⟩
    clear hK HFo
    unfold wpSegs
    have n1 : Nonempty (Cls (fun v => Frm [o] w5 v)) := ⟨⟨_, Frm.refl _ _⟩⟩
    change wpQuiet _ _ _ _ (_ :: _ :: []) _
    repeat (go_big_quiet_step (fail))
    refine wpQuiet_nil ?_
    clear n1
    go_wp2_with fail
    have hz := HS2.out.blk 3 rfl
    have z0 := hz.cell 0 rfl
    have z1 := hz.cell 1 rfl
    have z2 := hz.cell 2 rfl
    have z3 := hz.cell 3 rfl
    have z4 := hz.cell 4 rfl
    have z5 := hz.cell 5 rfl
    have z6 := hz.cell 6 rfl
    have z7 := hz.cell 7 rfl
    have z8 := hz.cell 8 rfl
    have z9 := hz.cell 9 rfl
    have z10 := hz.cell 10 rfl
    refine bodyPost_ret (v := .tuple #[.agg #[.int .u8 h0, .int .u8 h1, .int .u8 h2, .int .u8 h3, .int .u8 h4, .int .u8 h5, .int .u8 h6, .int .u8 h7, .int .u16 b, .bool lg, .slice va vn vc], .int .i64 (zs.length : Int), .int .i64 0]) ?_ rfl ⟨va, vn, vc, qs, HQ.out, rfl, HS2.out.at_ [2] (by decide) rfl⟩
    simp [results, Tryd.results43, go_sem, z0, z1, z2, z3, z4, z5, z6, z7, z8, z9, z10]

end Go.Proofs.YtjflcijiaennkaaDoor
