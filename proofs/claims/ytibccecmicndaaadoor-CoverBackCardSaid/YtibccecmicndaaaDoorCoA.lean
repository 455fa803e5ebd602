/-
  THE WALK of cover.Each's iterator: a range over a function within an iterator.
-/
import Derived.Test.YtibccecmicndaaaDoorMaJ
import Derived.Test.YtibccecmicndaaaDoorRqt
import Derived.BigQuiet
import Derived.Deep.QuietTactic
set_option linter.unusedVariables false
set_option linter.unusedSimpArgs false
namespace Go.Proofs.YtibccecmicndaaaDoor
open Go.RowKit Go.Maps Go.Shelf
attribute [local go_sem] Oper.semAt_some

theorem roundIn_any {m m' lb : Nat} {P : Program} {l : Nat} {f : FuncId} {tmps : Array Value} {assign body : Code} {w : World} {R : Ending → World → Prop} (h : RoundIn Fence.wide m P l f tmps assign body w R) : RoundIn (Fence.wide.inRound lb) m' P l f tmps assign body w R :=
  ⟨h.1, fun c cs _ => h.2 c cs (room_wide _)⟩
def adN (b i : Nat) : Nat := (b + i) % 65536
set_option maxHeartbeats 1000000 in
theorem adN_c (b i : Nat) (w : World) (hb : b < 65536) (hi : i < 65536) : Calls Tryd.prog 50 #[.int .u16 (b : Int), .int .i64 (i : Int)] w fun e w' => e = .returned (.int .u16 (adN b i : Int)) ∧ w = w' := by
  have e1 : IntKind.u16.wrap (i : Int) = (i : Int) := by rw [IntKind.wrap_u16]; omega
  have e2 : IntKind.u16.wrap ((b : Int) + (i : Int)) = (adN b i : Int) := by rw [IntKind.wrap_u16]; unfold adN; omega
  go_enter Tryd.func50, Tryd.ntmps50
  go_wp2_with fail
  go_ret
  exact ⟨rfl, rfl⟩

set_option maxRecDepth 100000 in
set_option maxHeartbeats 4000000 in
theorem each_seq (n : Nat) (hn : 6 ≤ n) (p q : Nat) (h l b : Nat) (h0 : h < 18446744073709551616) (h1 : l < 18446744073709551616) (hb : b < 65536) (w : World) :
    SeqF n Tryd.prog 48 #[.pointer (some ⟨p, 0, none⟩), .pointer (some ⟨q, 0, none⟩)] (fun x : Nat => #[.int .i64 x, .int .u16 (adN b x : Int)])
      (fun W => W.cell? ⟨p, 0, none⟩ = some (.int .u64 (h : Int)) ∧ W.cell? ⟨p, 1, none⟩ = some (.int .u64 (l : Int)) ∧ W.cell? ⟨q, 0, none⟩ = some (.int .u16 (b : Int)))
      (fun pre x _ => (pre ++ [x]) <+: bitsOf h l) (fun ys => ys = bitsOf h l) (fun pre => pre <+: bitsOf h l) w := by
  intro yl J Jx F0 W hW bJ bJx hQ hF0 hY hJ0
  obtain ⟨hc0, hc1, hc2⟩ := hQ _ _ _ hJ0
  have HSq := Lib.hid (fun p W => bits_seq (n - 1) (by omega) p h l h0 h1 W)
  have HPl := Lib.hid (fun (pre : List Nat) (x : Nat) (hx : (pre ++ [x]) <+: bitsOf h l) => bitsOf_lt (h := h) (l := l) (hx.subset (show x ∈ pre ++ [x] by simp)))
  have HBi := Lib.hid (fun W => bits_c h l W)
  obtain ⟨B, hB⟩ : ∃ B, B = bitsOf h l := ⟨_, rfl⟩
  rw [← hB] at hY HSq HPl ⊢
  have HY := Lib.hid hY
  have HQ := Lib.hid hQ
  have HBJ := Lib.hid bJ
  have HBX := Lib.hid bJx
  have HF0 := Lib.hid hF0
  have HJ0 := Lib.hid hJ0
  have hn1 : 1 ≤ n := by omega
  unfold mV at HBi
  clear hB hQ bJ bJx hY hF0 hJ0 hW h0 h1
  refine callsIn_of_wp_marks Tryd.func48 rfl trivial ?_ rfl
  simp only [Tryd.ntmps48, List.size_toArray, List.length_cons, List.length_nil, Nat.reduceAdd, Nat.reduceSub, Array.replicate_succ, Array.replicate_zero, List.push_toArray, List.append_toArray, List.nil_append, List.cons_append]
  gi_upto_region 1 with fail
  have hj1 := HBJ.out.more _ _ _ (W.alloc (.cells #[.func (.yield yl) #[] #[]] 75)) W.heap.size HJ0.out (World.grownBy_alloc _ _ none) (Nat.le_refl _) (by simp)
  have hb1 := Blk.made W 75 #[.func (.yield yl) #[] #[]]
  have hyF : W.heap.size ∉ F0 := fun h => by have := HF0.out _ h; omega
  have hFl : ∀ m ∈ W.heap.size :: F0, m < (W.alloc (.cells #[.func (.yield yl) #[] #[]] 75)).heap.size := fun m hm => by
    rcases List.mem_cons.1 hm with rfl | hm
    · simp
    · have := HF0.out m hm; simp; omega
  obtain ⟨w1, hw1⟩ : ∃ w1, w1 = W.alloc (.cells #[.func (.yield yl) #[] #[]] 75) := ⟨_, rfl⟩
  obtain ⟨y, hy⟩ : ∃ y, y = W.heap.size := ⟨_, rfl⟩
  rw [← hw1, ← hy] at hj1 hb1 hFl
  rw [← hy] at hyF
  rw [← hw1, ← hy]
  have HJ1 := Lib.hid hj1
  have HB1 := Lib.hid hb1
  have HFl := Lib.hid hFl
  have HyF := Lib.hid hyF
  clear hj1 hb1 hyF hFl hw1 hy hc0 hc1 hc2 HF0 HJ0
  obtain ⟨c0, c1, c2⟩ := HQ.out _ _ _ HJ1.out
  gi_wp2_with fail
  refine ⟨trivial, (callsIn_wide.2 (HBi.out _)).mono ?_⟩
  rintro e w2 ⟨rfl, hw2⟩
  have hj2 := HBJ.out.more _ _ _ w2 w1.heap.size HJ1.out (by rw [hw2]; exact World.grownBy_alloc _ _ none) (Nat.le_refl _) (by rw [hw2]; simp)
  have hb2 : Blk w2 w1.heap.size 27 #[.int .u64 (h : Int), .int .u64 (l : Int)] := by rw [hw2]; exact Blk.made _ _ _
  have hb3 : Blk w2 y 75 #[.func (.yield yl) #[] #[]] := by rw [hw2]; exact HB1.out.alloc _
  have hrF : w1.heap.size ∉ y :: F0 := fun h => by have := HFl.out _ h; omega
  have hFl2 : ∀ m ∈ w1.heap.size :: y :: F0, m < w2.heap.size := fun m hm => by
    rw [hw2]
    rcases List.mem_cons.1 hm with rfl | hm
    · simp
    · have := HFl.out m hm; simp; omega
  obtain ⟨r, hr⟩ : ∃ r, r = w1.heap.size := ⟨_, rfl⟩
  rw [← hr] at hj2 hb2 hrF hFl2 ⊢
  have HJ2 := Lib.hid hj2
  have HB2 := Lib.hid hb2
  have HB3 := Lib.hid hb3
  have HRF := Lib.hid hrF
  have HFl2 := Lib.hid hFl2
  clear hj2 hb2 hb3 hrF hFl2 hr hw2 c0 c1 c2 HJ1 HB1 HFl HBi
  gi_wp2_with fail
  refine range_f (n := n) hn1 (gf := 55) (lb := _) rfl (enters_of Tryd.func55 (by kernel_rfl) rfl) (HSq.out r w2) (Below.refl _ _) (fun _ => rfl) (fun _ _ _ _ _ _ h => h) (r :: y :: F0) HFl2.out
    (fun pre F X => (Blk X r 27 #[.int .u64 (h : Int), .int .u64 (l : Int)] ∧ Blk X y 75 #[.func (.yield yl) #[] #[]]) ∧ J pre F X)
    (fun cd pre F X => cd = .ret ∧ Jx pre F X) ?hI ?hIx ?hQ2 ?h0 ?round ?done ?stop
  case hI =>
    refine ⟨fun b F X Y hj hg => ⟨⟨hj.1.1.grown hg (by simp), hj.1.2.grown hg (by simp)⟩, HBJ.out.grow _ _ _ _ hj.2 hg⟩, fun b F X Y m hj hg k1 k2 => ⟨⟨hj.1.1.grown hg (by simp), hj.1.2.grown hg (by simp)⟩, HBJ.out.more _ _ _ _ _ hj.2 hg k1 k2⟩, fun b F X Y m hj hm hn0 hg => ?_⟩
    have n1 : r ≠ m := fun e => hn0 (by simp [e])
    have n2 : y ≠ m := fun e => hn0 (by simp [e])
    exact ⟨⟨hj.1.1.grown hg (by simpa using n1), hj.1.2.grown hg (by simpa using n2)⟩, HBJ.out.put _ _ _ _ _ hj.2 hm (fun h => hn0 (by simp [h])) hg⟩
  case hIx =>
    exact fun cd => ⟨fun b F X Y hj hg => ⟨hj.1, HBX.out.grow _ _ _ _ hj.2 hg⟩, fun b F X Y m hj hg k1 k2 => ⟨hj.1, HBX.out.more _ _ _ _ _ hj.2 hg k1 k2⟩, fun b F X Y m hj hm hn0 hg => ⟨hj.1, HBX.out.put _ _ _ _ _ hj.2 hm (fun h => hn0 (by simp [h])) hg⟩⟩
  case hQ2 =>
    intro pre F X hj
    exact ⟨hj.1.1.cell 0 rfl, hj.1.1.cell 1 rfl⟩
  case h0 => exact ⟨⟨HB2.out, HB3.out⟩, HJ2.out⟩
  case round =>
    rintro lb pre F x X Xb K ⟨⟨hk1, hk2⟩, hj⟩ hF hx hK
    obtain ⟨_, _, cb⟩ := HQ.out _ _ _ hj
    have hxl := HPl.out _ _ hx
    have HKx := Lib.hid hK
    have HXb := Lib.hid (And.intro hk1 (And.intro hk2 hj))
    have cy := hk2.cell 0 rfl
    have HF := Lib.hid hF
    have HX := Lib.hid hx
    clear hK hk1 hk2 hj hF hx
    gi_wp2
    refine HKx.out _ ?_
    clear HKx
    gi_upto_region 3 with fail
    have q0 := fun z : Cls (fun v => ∃ k, v = Xb.drewN k) => (show z.world.cell? ⟨y, 0, none⟩ = some (.func (.yield yl) #[] #[]) from by obtain ⟨k, hk⟩ := z.ok; rw [hk]; exact cy)
    have q1 := fun z : Cls (fun v => ∃ k, v = Xb.drewN k) => (show z.world.cell? ⟨q, 0, none⟩ = some (.int .u16 (b : Int)) from by obtain ⟨k, hk⟩ := z.ok; rw [hk]; exact cb)
    have n1 : Nonempty (Cls (fun v => ∃ k, v = Xb.drewN k)) := ⟨⟨Xb, 0, rfl⟩⟩
    have HAd := Lib.hid (fun X => adN_c b x X hb (by omega))
    clear cy cb
    refine region_round_tail (S := fun v => ∃ k, v = Xb.drewN k) 5 ⟨1, rfl⟩ (by kernel_rfl) (by kernel_rfl) ?_
    simp only [List.take_succ_cons, List.take_zero, List.drop_succ_cons, List.drop_zero]
    repeat (go_big_quiet_step ((rename_i z; go_at_call 50; exact call_same z.ok (HAd.out _))))
    refine wpQuiet_nil ?_
    rintro X2 ⟨k, hX2⟩
    have hgr : Xb.grownBy X2 none := by rw [hX2]; exact grown_drewN (grown_refl _ _) k
    have hj2 := HBJ.out.grow _ _ _ _ HXb.out.2.2 hgr
    have HKp := Lib.hid (show KpF (r :: y :: F0) F Xb X2 from ⟨hgr.size, fun m hm _ => by rw [hX2]; rfl⟩)
    have HB4 := Lib.hid (And.intro (HXb.out.1.grown hgr (by simp)) (HXb.out.2.1.grown hgr (by simp)))
    obtain ⟨fn, tmps, assign, body, hy, hRd⟩ := HY.out pre F x X2 hj2 (fun m hm => HF.out m (by simp [hm])) HX.out
    have HRd := Lib.hid hRd
    clear hRd hj2 hgr hX2 n1 q0 q1 HAd HXb
    gi_wp2
    refine ⟨(fun h => by cases h), (roundIn_any HRd.out).mono ?_⟩
    rintro e W4 ⟨hk, (⟨rfl, hJ4⟩ | ⟨rfl, hJx⟩)⟩
    · have HJ4 := Lib.hid hJ4
      have HK4 := Lib.hid hk
      clear hk hJ4 hy HRd
      gi_wp2
      have k1 := HK4.out.2 r (HF.out r (by simp)) (fun h => HRF.out (by simp [h]))
      have k2 := HK4.out.2 y (HF.out y (by simp)) HyF.out
      exact ⟨HKp.out.trans ⟨HK4.out.1, fun m hm h => HK4.out.2 m hm (fun h2 => h (by simp [h2]))⟩, ⟨k1.trans HB4.out.1, k2.trans HB4.out.2⟩, HJ4.out⟩
    · have HJx := Lib.hid hJx
      have HK4 := Lib.hid hk
      clear hk hJx hy HRd
      gi_wp2
      exact ⟨HKp.out.trans ⟨HK4.out.1, fun m hm h => HK4.out.2 m hm (fun h2 => h (by simp [h2]))⟩, rfl, HJx.out⟩
  case done =>
    rintro D xs F X hD hDF hF rfl ⟨_, hj⟩ hK
    have HJ := Lib.hid hj
    have HK := Lib.hid hK
    have HF := Lib.hid hF
    clear hj hK hF
    gi_wp2_with fail
    refine ⟨by simp, .inl ⟨_, _, rfl, run_takeDeferred HK.out, ?_⟩⟩
    exact ⟨_, results_none rfl _ _ _, ⟨_, rfl⟩, .inl ⟨_, F, rfl, fun m hm => HF.out m (by simp [hm]), HBJ.out.put _ _ _ _ D HJ.out hDF (fun h => by have := HFl2.out D (by simp [h]); omega) (grownBy_putObj' _ _ _)⟩⟩
  case stop =>
    rintro D cd pre F X hD hDF hF hp ⟨rfl, hj⟩ hK
    have HJ := Lib.hid hj
    have HK := Lib.hid hK
    have HF := Lib.hid hF
    clear hj hK hF
    gi_wp2_with fail
    refine ⟨by simp, .inl ⟨_, _, rfl, run_takeDeferred HK.out, ?_⟩⟩
    exact ⟨_, results_none rfl _ _ _, ⟨_, rfl⟩, .inr ⟨pre, F, hp, fun m hm => HF.out m (by simp [hm]), HBX.out.put _ _ _ _ D HJ.out hDF (fun h => by have := HFl2.out D (by simp [h]); omega) (grownBy_putObj' _ _ _)⟩⟩

end Go.Proofs.YtibccecmicndaaaDoor
