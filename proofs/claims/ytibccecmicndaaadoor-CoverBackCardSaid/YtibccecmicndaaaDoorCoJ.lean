/-
  THE WALK of the document's example.
-/
import Derived.Test.YtibccecmicndaaaDoorCoI
import Derived.Test.YtibccecmicndaaaDoorSgs
set_option linter.unusedVariables false
set_option linter.unusedSimpArgs false
namespace Go.Proofs.YtibccecmicndaaaDoor
open Go.RowKit Go.Maps Go.Shelf
attribute [local go_sem] Oper.semAt_some

/-- The table that the library's functions read. -/
def Tabs (w : World) : Prop := TabAt 0 Lib.deBruijn64tab w ∧ 0 < w.heap.size
theorem Tabs.frm {w w' : World} (h : Tabs w) (hf : Frm [] w w') : Tabs w' :=
  ⟨fun j hj => by rw [hf.cell h.2 (by simp)]; exact h.1 j hj, Nat.lt_of_lt_of_le h.2 hf.size⟩
theorem RdV.of_blk {w : World} {b : Nat} {t : TypeId} {vs : List Value} (h : Blk w b t vs.toArray) : RdV w (some ⟨b, 0, none⟩) vs := fun i v hv => ⟨b, 0, rfl, h.lt, by
  rw [Nat.zero_add]
  exact h.cell i (by simpa using hv)⟩
theorem pre2 {α : Type} {a b x : α} {pre : List α} (h : (pre ++ [x]) <+: [a, b]) : (pre = [] ∧ x = a) ∨ (pre = [a] ∧ x = b) := by
  obtain ⟨t, ht⟩ := h
  match pre, ht with
  | [], ht => simp at ht; exact .inl ⟨rfl, ht.1⟩
  | [p], ht => simp at ht; exact .inr ⟨by rw [ht.1], ht.2.1⟩
  | p :: q :: s, ht => simp at ht

def exM : Nat := 11529215046068469760
theorem exBits : bitsOf 11529215046068469760 0 = [0, 2] := by decide +kernel
theorem exBits1 : bitsOf 1 0 = [63] := by decide +kernel
theorem exOf (B H L E : Int) : True := trivial
theorem ex1 : coB [1, 65535] = 65535 ∧ coH [1, 65535] = 11529215046068469760 ∧ coL [1, 65535] = 0 ∧ coE [1, 65535] = 0 := by decide +kernel
theorem ex2 : coB [] = 0 ∧ coH [] = 0 ∧ coL [] = 0 ∧ coE [] = 4 := by decide +kernel
theorem ex3 : coB [1, 1] = 0 ∧ coH [1, 1] = 0 ∧ coL [1, 1] = 0 ∧ coE [1, 1] = 5 := by decide +kernel
theorem ex4 : frH 5 [4] = 0 ∧ frL 5 [4] = 0 ∧ frE 5 [4] = 31 := by decide +kernel
theorem ex5 : ofH [0, 2] = 11529215046068469760 ∧ ofL [0, 2] = 0 := by decide +kernel
theorem ex6 : ofH [15] = 281474976710656 ∧ ofL [15] = 0 := by decide +kernel
theorem ex7 : ndN (laN 11529215046068469760 0) = 15 := by rw [laN_eq (by decide) (by decide)]; decide +kernel
theorem ex8 : ndN (laN 281474976710656 0) = 16 := by rw [laN_eq (by decide) (by decide)]; decide +kernel
theorem ex9 : ndN (laN 0 0) = 0 := by rw [laN_eq (by decide) (by decide)]; decide +kernel
theorem ex10 : (decide (ahN 65535 1 < 128) && bt 11529215046068469760 0 (ahN 65535 1)) = true := by decide +kernel
theorem ex11 : (decide (ahN 65535 0 < 128) && bt 11529215046068469760 0 (ahN 65535 0)) = false := by decide +kernel
theorem ex12 : fiL (fun x => ((adN 65535 x : Nat) : Int) == 1) [0, 2] = [0] := by decide +kernel
def exN (pre : List Nat) : Int := pre.foldl (fun (n : Int) (i : Nat) => n + (10 * (i : Int) + (adN 65535 i : Int) % 8)) 0

set_option maxRecDepth 100000 in
set_option maxHeartbeats 16000000 in
theorem alive_c (w : World) (hT : Tabs w) : Calls Tryd.prog 7 #[] w fun e w' => e = .returned (.bool true) ∧ Frm [] w w' := by
  have hnl : ∀ (f : Fn) (x y : Array Value) (w : World), (binOp .eql 58 (.func f x y) .nilFunc).run Tryd.prog w = .ok (.bool false) w := fun _ _ _ _ => rfl
  have HT := Lib.hid hT
  clear hT
  refine (callsIn_wide (n := 9)).1 ?_
  refine callsIn_of_wp_marks Tryd.func7 rfl trivial ?_ rfl
  simp only [Tryd.ntmps7, List.size_toArray, List.length_cons, List.length_nil, Nat.reduceAdd, Nat.reduceSub, Array.replicate_succ, Array.replicate_zero, List.push_toArray, List.append_toArray, List.nil_append, List.cons_append]
  gi_wp2_with fail
  have HS0 := Lib.hid ((Sep.init w).alloc #[.int .u16 1, .int .u16 65535] 22)
  obtain ⟨w1, hw1⟩ : ∃ w1, w1 = w.alloc (.cells #[.int .u16 1, .int .u16 65535] 22) := ⟨_, rfl⟩
  rw [← hw1] at HS0 ⊢
  have ho := cof_c (some ⟨w.heap.size, 0, none⟩) 2 [1, 65535] w1 (RdI.of_blk (zs := [1, 65535]) (HS0.out.blk 0 rfl) rfl) (by decide) (by decide)
  rw [ex1.1, ex1.2.1, ex1.2.2.1, ex1.2.2.2] at ho
  have HO := Lib.hid ho
  unfold mV at HO
  clear hw1 ho
  refine ⟨trivial, (callsIn_wide.2 HO.out).mono ?_⟩
  rintro e w2 ⟨rfl, hf⟩
  have HS1 := Lib.hid (((Sep.init w).keep (HS0.out.frm.trans hf)).alloc #[.int .u64 11529215046068469760, .int .u64 0] 27)
  clear hf HO HS0
  gi_upto_region 2 with fail
  obtain ⟨q, hq⟩ : ∃ q, q = w2.heap.size := ⟨_, rfl⟩
  obtain ⟨w3, hw3⟩ : ∃ w3, w3 = w2.alloc (.cells #[.int .u64 11529215046068469760, .int .u64 0] 27) := ⟨_, rfl⟩
  rw [← hw3, ← hq] at HS1
  rw [← hw3, ← hq]
  clear hw3 hq
  have HO2 := Lib.hid (fun X => (show Calls Tryd.prog 19 #[.slice none 0 0] X fun e w' => e = .returned (.tuple #[.int .u16 0, .agg #[.int .u64 0, .int .u64 0], .int .i64 4]) ∧ Frm [] X w' from by
    have h := cof_c none 0 [] X (RdI.nil _ _ _) (by decide) (by decide)
    rw [ex2.1, ex2.2.1, ex2.2.2.1, ex2.2.2.2] at h
    exact h))
  gi_wp2_with fail
  refine ⟨trivial, (callsIn_wide.2 (HO2.out _)).mono ?_⟩
  rintro e w4 ⟨rfl, hf⟩
  have HS2 := Lib.hid ((HS1.out.keep hf).skip (.cells #[.int .u64 0, .int .u64 0] 27))
  clear hf HO2 HS1
  gi_upto_region 3 with fail
  obtain ⟨w5, hw5⟩ : ∃ w5, w5 = w4.alloc (.cells #[.int .u64 0, .int .u64 0] 27) := ⟨_, rfl⟩
  rw [← hw5] at HS2
  rw [← hw5]
  clear hw5
  have HO3 := Lib.hid (fun X => (show Calls Tryd.prog 19 #[.slice (some ⟨World.heap X |>.size, 0, none⟩) 2 2] (X.alloc (.cells #[.int .u16 1, .int .u16 1] 22)) fun e w' => e = .returned (.tuple #[.int .u16 0, .agg #[.int .u64 0, .int .u64 0], .int .i64 5]) ∧ Frm [] (X.alloc (.cells #[.int .u16 1, .int .u16 1] 22)) w' from by
    have h := cof_c (some ⟨X.heap.size, 0, none⟩) 2 [1, 1] (X.alloc (.cells #[.int .u16 1, .int .u16 1] 22)) (RdI.of_blk (zs := [1, 1]) (Blk.made _ _ _) rfl) (by decide) (by decide)
    rw [ex3.1, ex3.2.1, ex3.2.2.1, ex3.2.2.2] at h
    exact h))
  gi_wp2_with fail
  refine ⟨trivial, (callsIn_wide.2 (HO3.out _)).mono ?_⟩
  rintro e w6 ⟨rfl, hf⟩
  have HS3 := Lib.hid (((HS2.out.skip _).keep hf).skip (.cells #[.int .u64 0, .int .u64 0] 27))
  clear hf HO3 HS2
  gi_upto_region 4 with fail
  obtain ⟨w7, hw7⟩ : ∃ w7, w7 = w6.alloc (.cells #[.int .u64 0, .int .u64 0] 27) := ⟨_, rfl⟩
  rw [← hw7] at HS3
  rw [← hw7]
  clear hw7
  have HO4 := Lib.hid (fun X => (show Calls Tryd.prog 21 #[.int .u16 5, .slice (some ⟨World.heap X |>.size, 0, none⟩) 1 1] (X.alloc (.cells #[.int .u16 4] 22)) fun e w' => e = .returned (.tuple #[.agg #[.int .u64 0, .int .u64 0], .int .i64 31]) ∧ Frm [] (X.alloc (.cells #[.int .u16 4] 22)) w' from by
    have h := from_c (some ⟨X.heap.size, 0, none⟩) 1 5 [4] (X.alloc (.cells #[.int .u16 4] 22)) (RdI.of_blk (zs := [4]) (Blk.made _ _ _) rfl) (by decide) (by decide) (by decide) (by decide)
    rw [ex4.1, ex4.2.1, ex4.2.2] at h
    exact h))
  gi_wp2_with fail
  refine ⟨trivial, (callsIn_wide.2 (HO4.out _)).mono ?_⟩
  rintro e w8 ⟨rfl, hf⟩
  have HS4 := Lib.hid (((HS3.out.skip _).keep hf).skip (.cells #[.int .u64 0, .int .u64 0] 27))
  clear hf HO4 HS3
  gi_upto_region 5 with fail
  obtain ⟨w9, hw9⟩ : ∃ w9, w9 = w8.alloc (.cells #[.int .u64 0, .int .u64 0] 27) := ⟨_, rfl⟩
  rw [← hw9] at HS4
  rw [← hw9]
  clear hw9
  have HS5 := Lib.hid (HS4.out.alloc #[.int .i64 0] 3)
  obtain ⟨p, hp⟩ : ∃ p, p = w9.heap.size := ⟨_, rfl⟩
  rw [← hp] at HS5
  gi_upto_region 6 with fail
  rw [← hp]
  clear hp
  obtain ⟨wa, hwa⟩ : ∃ wa, wa = w9.alloc (.cells #[.int .i64 0] 3) := ⟨_, rfl⟩
  rw [← hwa] at HS5
  rw [← hwa]
  clear hwa
  have c0 : wa.cell? ⟨q, 0, none⟩ = some (.int .u64 11529215046068469760) := (HS5.out.blk 1 rfl).cell 0 rfl
  have c1 : wa.cell? ⟨q, 1, none⟩ = some (.int .u64 0) := (HS5.out.blk 1 rfl).cell 1 rfl
  have HE := Lib.hid (fun X => each_c 65535 11529215046068469760 0 X)
  unfold mV at HE
  gi_wp2_with fail
  refine ⟨trivial, (callsIn_wide.2 (HE.out _)).mono ?_⟩
  rintro e wb ⟨rfl, hwb⟩
  have HS6 := Lib.hid (show Sep [] w wb _ from hwb ▸ (HS5.out.alloc #[.int .u16 65535] 22).alloc #[.int .u64 11529215046068469760, .int .u64 0] 27)
  simp only [World.size_alloc] at HS6
  obtain ⟨r, hr⟩ : ∃ r, r = wa.heap.size := ⟨_, rfl⟩
  rw [← hr] at HS6 ⊢
  clear c0 c1 HE hr hwb HS5 HS4
  gi_wp2_with fail
  have hseq := each_seq 8 (by omega) (r + 1) r 11529215046068469760 0 65535 (by decide) (by decide) (by decide) wb
  rw [exBits] at hseq
  have HSq := Lib.hid hseq
  have hsz := HS6.out.frm.size
  clear hseq
  refine range_f (n := 9) (by omega) (gf := 48) (lb := _) rfl (enters_of Tryd.func48 (by kernel_rfl) rfl) HSq.out (Below.refl _ _) (fun _ => rfl) (fun _ _ _ _ _ _ h => h) [] (by simp)
    (fun pre F W => Sep [] w W (frgR F W :: [blkR (r + 1) 27 #[.int .u64 11529215046068469760, .int .u64 0], blkR r 22 #[.int .u16 65535], blkR p 3 #[.int .i64 (exN pre)], blkR q 27 #[.int .u64 11529215046068469760, .int .u64 0]]))
    (fun _ _ _ _ => False) (bears_sep [] _) (fun _ => ⟨fun _ _ _ _ h _ => h, fun _ _ _ _ _ h _ _ _ => h, fun _ _ _ _ _ h _ _ _ => h⟩) ?hQ ?h0 ?round ?done (fun _ _ _ _ _ _ _ _ _ h => h.elim)
  case hQ =>
    rintro pre F W hS
    exact ⟨(hS.blk 1 rfl).cell 0 rfl, (hS.blk 1 rfl).cell 1 rfl, (hS.blk 2 rfl).cell 0 rfl⟩
  case h0 => exact (HS6.out.add (r := frgR [] wb) (Frm.refl _ _) (by intro k hk; cases hk) (by simp [frgR]))
  case round =>
    rintro lb pre F x W Wb K hS hF hx hK
    have HKx := Lib.hid hK
    have HX := Lib.hid hx
    have HS := Lib.hid hS
    clear hK hx hS hF
    gi_wp2
    refine HKx.out _ ?_
    clear HKx
    rcases pre2 HX.out with ⟨rfl, rfl⟩ | ⟨rfl, rfl⟩
    · have cg : Wb.cell? ⟨p, 0, none⟩ = some (.int .i64 0) := (HS.out.blk 3 rfl).cell 0 rfl
      have cf := (HS.out.blk 3 rfl).free 0
      have ea : adN 65535 0 = 65535 := by decide +kernel
      have HS5 := Lib.hid (HS.out.put 3 rfl 0 (.int .i64 (exN [0])))
      clear HX
      gi_wp2
      rw [show wrap64 (wrap64 (bits BinOp.and IntKind.i64 65535 7)) = exN [0] from by decide +kernel]
      exact ⟨kpF_of (by simp) HS5.out, HS5.out.pin⟩
    · have cg : Wb.cell? ⟨p, 0, none⟩ = some (.int .i64 7) := (HS.out.blk 3 rfl).cell 0 rfl
      have cf := (HS.out.blk 3 rfl).free 0
      have ea : adN 65535 2 = 1 := by decide +kernel
      have HS5 := Lib.hid (HS.out.put 3 rfl 0 (.int .i64 (exN [0, 2])))
      clear HX
      gi_wp2
      rw [show wrap64 (7 + wrap64 (20 + bits BinOp.and IntKind.i64 1 7)) = exN [0, 2] from by decide +kernel]
      exact ⟨kpF_of (by simp) HS5.out, HS5.out.pin⟩
  case done =>
    rintro D xs F W hD hDF hF rfl hS hK
    have HK := Lib.hid hK
    have HS := Lib.hid hS
    have HF := Lib.hid (Nat.le_trans hsz hD)
    clear hS hK hD hsz HSq HS6
    gi_upto_region 13 with fail
    have HTb := Lib.hid (fun X (hf : Frm [] W X) => HT.out.frm (HS.out.frm.trans hf))
    have HSf := Lib.hid (fun X (hf : Frm [] W X) => (show X.cell? ⟨q, 0, none⟩ = some (.int .u64 11529215046068469760) ∧ X.cell? ⟨q, 1, none⟩ = some (.int .u64 0) ∧ X.cell? ⟨p, 0, none⟩ = some (.int .i64 28) from
      ⟨(hf.blk (HS.out.blk 4 rfl) (by simp)).cell 0 rfl, (hf.blk (HS.out.blk 4 rfl) (by simp)).cell 1 rfl, (hf.blk (HS.out.blk 3 rfl) (by simp)).cell 0 rfl⟩))
    have hme : ∀ X, (binOp .eql 27 (.agg #[.int .u64 11529215046068469760, .int .u64 0]) (.agg #[.int .u64 11529215046068469760, .int .u64 0])).run Tryd.prog X = .ok (.bool true) X := fun X => meql _ _ _ _ X
    have HC := Lib.hid (Frm.refl [] W)
    obtain ⟨x0, hx0⟩ : ∃ x0, x0 = W := ⟨_, rfl⟩
    have HW := Lib.hid hx0
    have HC := Lib.hid (show Frm [] W x0 from hx0 ▸ Frm.refl [] W)
    rw [← hx0]
    clear hx0
    obtain ⟨c0, c1, c2⟩ := HSf.out x0 HC.out
    have hmi := missA_c 65535 11529215046068469760 0 x0 (by decide) (by decide) (by decide)
    rw [exBits, ex12] at hmi
    unfold mV at hmi
    have HMi := Lib.hid hmi
    clear hmi
    gi_wp2_with fail
    refine ⟨trivial, (callsIn_wide.2 HMi.out).mono ?_⟩
    rintro e x1 ⟨v, rfl, hS⟩
    replace HC := Lib.hid (HC.out.trans hS.frm)
    obtain ⟨g, vc, rfl⟩ := own_slice (hS.own 0 rfl) (by decide)
    have HMc := Lib.hid (fun X (hf : Frm [] x1 X) => (show X.cell? ⟨g, 0, none⟩ = some (.int .u16 65535) from by
      rw [hf.cell ((hS.own 0 rfl).lt g rfl).2 (by simp)]
      exact own_cell2 (hS.own 0 rfl) (j := 0) rfl))
    clear HMi hS c0 c1 c2
    have HD := Lib.hid (Frm.refl [] x1)
    gi_upto_region 14 with fail
    refine wpIn_wide.2 ?_
    simp only [List.append_eq, List.cons_append, List.nil_append]
    refine region_segs (G := []) [4, 0, 25, 5, 5, 3, 0, 0, 4, 5, 4] (by decide) (by kernel_rfl) (by kernel_rfl) (by kernel_rfl) (by kernel_rfl) (by kernel_rfl) (by kernel_rfl) ?_
    obtain ⟨y0, hy0⟩ : ∃ y0, y0 = x1.drew := ⟨_, rfl⟩
    replace HC := Lib.hid (show Frm [] W y0 from hy0 ▸ HC.out.drew)
    replace HD := Lib.hid (show Frm [] x1 y0 from hy0 ▸ HD.out.drew)
    rw [← hy0]
    clear hy0
    unfold wpSegs
    simp only [List.take_succ_cons, List.take_zero, List.drop_succ_cons, List.drop_zero]
    have n1 : Nonempty (Cls (fun v => Frm [] (y0) v)) := ⟨⟨_, Frm.refl _ _⟩⟩
    have q0 := fun x : Cls (fun v => Frm [] (y0) v) => (HSf.out x.world (HC.out.trans x.ok)).1
    have q1 := fun x : Cls (fun v => Frm [] (y0) v) => (HSf.out x.world (HC.out.trans x.ok)).2.1
    have q2 := fun x : Cls (fun v => Frm [] (y0) v) => (HSf.out x.world (HC.out.trans x.ok)).2.2
    repeat (go_big_quiet_step (fail))
    refine wpQuiet_nil ?_
    refine only_step (fun K' hK => ?_)
    clear q0 q1 q2 n1
    go_wp2_with fail
    refine hK.out _ _ ⟨(Frm.refl _ _).alloc _, ?_⟩
    clear hK
    replace HC := Lib.hid (HC.out.alloc (.cells #[.int .i64 0, .int .i64 2] 3))
    replace HD := Lib.hid (HD.out.alloc (.cells #[.int .i64 0, .int .i64 2] 3))
    unfold wpSegs
    simp only [List.take_succ_cons, List.take_zero, List.drop_succ_cons, List.drop_zero]
    have n1 : Nonempty (Cls (fun v => Frm [] (y0.alloc (.cells #[.int .i64 0, .int .i64 2] 3)) v)) := ⟨⟨_, Frm.refl _ _⟩⟩
    have q0 := fun x : Cls (fun v => Frm [] (y0.alloc (.cells #[.int .i64 0, .int .i64 2] 3)) v) => (HSf.out x.world (HC.out.trans x.ok)).1
    have q1 := fun x : Cls (fun v => Frm [] (y0.alloc (.cells #[.int .i64 0, .int .i64 2] 3)) v) => (HSf.out x.world (HC.out.trans x.ok)).2.1
    have q2 := fun x : Cls (fun v => Frm [] (y0.alloc (.cells #[.int .i64 0, .int .i64 2] 3)) v) => (HSf.out x.world (HC.out.trans x.ok)).2.2
    repeat (go_big_quiet_step (fail))
    refine wpQuiet_nil ?_
    refine only_step (fun K' hK => ?_)
    clear q0 q1 q2 n1
    have hc : Calls Tryd.prog 33 #[.slice (some ⟨y0.heap.size, 0, none⟩) 2 2] (y0.alloc (.cells #[.int .i64 0, .int .i64 2] 3)) fun e w' => e = .returned (.agg #[.int .u64 11529215046068469760, .int .u64 0]) ∧ Frm [] (y0.alloc (.cells #[.int .i64 0, .int .i64 2] 3)) w' := by
      have h := of_c (some ⟨y0.heap.size, 0, none⟩) 2 [0, 2] (y0.alloc (.cells #[.int .i64 0, .int .i64 2] 3)) (RdV.of_blk (vs := [.int .i64 0, .int .i64 2]) (Blk.made _ _ _)) (by decide) (by decide)
      rw [ex5.1, ex5.2] at h
      exact h
    have HQ := Lib.hid hc
    clear hc
    go_wp2_with fail
    refine HQ.out.mono ?_
    rintro e y1 ⟨rfl, hf⟩
    replace HC := Lib.hid (HC.out.trans hf)
    replace HD := Lib.hid (HD.out.trans hf)
    have HF1 := Lib.hid hf
    clear HQ hf
    go_wp2_with fail
    refine hK.out _ _ ⟨HF1.out, ?_⟩
    clear hK HF1
    unfold wpSegs
    simp only [List.take_succ_cons, List.take_zero, List.drop_succ_cons, List.drop_zero]
    have n1 : Nonempty (Cls (fun v => Frm [] (y1) v)) := ⟨⟨_, Frm.refl _ _⟩⟩
    have q0 := fun x : Cls (fun v => Frm [] (y1) v) => (HSf.out x.world (HC.out.trans x.ok)).1
    have q1 := fun x : Cls (fun v => Frm [] (y1) v) => (HSf.out x.world (HC.out.trans x.ok)).2.1
    have q2 := fun x : Cls (fun v => Frm [] (y1) v) => (HSf.out x.world (HC.out.trans x.ok)).2.2
    repeat (go_big_quiet_step (fail))
    refine wpQuiet_nil ?_
    refine only_step (fun K' hK => ?_)
    clear q0 q1 q2 n1
    have hc : Calls Tryd.prog 13 #[.int .u16 65535, .agg #[.int .u64 11529215046068469760, .int .u64 0]] y1 fun e w' => ∃ a c, e = .returned (.slice a 2 c) ∧ Frm [] y1 w' := by
      have h := seqs_c 65535 11529215046068469760 0 y1 (by decide) (by decide) (by decide)
      rw [exBits] at h
      refine h.mono ?_
      rintro e w' ⟨v, rfl, hS⟩
      obtain ⟨a, c, rfl, _⟩ := own_cases (hS.own 0 rfl)
      exact ⟨a, c, rfl, hS.frm⟩
    have HQ := Lib.hid hc
    clear hc
    go_wp2_with fail
    refine HQ.out.mono ?_
    rintro e y2 ⟨a1, c9, rfl, hf⟩
    replace HC := Lib.hid (HC.out.trans hf)
    replace HD := Lib.hid (HD.out.trans hf)
    have HF1 := Lib.hid hf
    clear HQ hf
    go_wp2_with fail
    refine hK.out _ _ ⟨HF1.out, ?_⟩
    clear hK HF1
    unfold wpSegs
    simp only [List.take_succ_cons, List.take_zero, List.drop_succ_cons, List.drop_zero]
    have n1 : Nonempty (Cls (fun v => Frm [] (y2) v)) := ⟨⟨_, Frm.refl _ _⟩⟩
    have q0 := fun x : Cls (fun v => Frm [] (y2) v) => (HSf.out x.world (HC.out.trans x.ok)).1
    have q1 := fun x : Cls (fun v => Frm [] (y2) v) => (HSf.out x.world (HC.out.trans x.ok)).2.1
    have q2 := fun x : Cls (fun v => Frm [] (y2) v) => (HSf.out x.world (HC.out.trans x.ok)).2.2
    repeat (go_big_quiet_step (fail))
    refine wpQuiet_nil ?_
    refine only_step (fun K' hK => ?_)
    clear q0 q1 q2 n1
    have hc : Calls Tryd.prog 14 #[.agg #[.int .u8 0, .int .u8 0, .int .u8 0, .int .u8 0, .int .u8 0, .int .u8 0, .int .u8 0, .int .u8 0, .int .u16 5, .int .u64 1, .int .u64 0, .slice none 0 0]] y2 fun e w' => ∃ a c, e = .returned (.slice a 1 c) ∧ Frm [] y2 w' := by
      have h := repair_c 5 1 0 y2 (by decide) (by decide) (by decide)
      rw [exBits1] at h
      refine h.mono ?_
      rintro e w' ⟨v, rfl, hS⟩
      obtain ⟨a, c, rfl, _⟩ := own_cases (hS.own 0 rfl)
      exact ⟨a, c, rfl, hS.frm⟩
    have HQ := Lib.hid hc
    clear hc
    go_wp2_with fail
    refine HQ.out.mono ?_
    rintro e y3 ⟨a2, c8, rfl, hf⟩
    replace HC := Lib.hid (HC.out.trans hf)
    replace HD := Lib.hid (HD.out.trans hf)
    have HF1 := Lib.hid hf
    clear HQ hf
    go_wp2_with fail
    refine hK.out _ _ ⟨HF1.out, ?_⟩
    clear hK HF1
    unfold wpSegs
    simp only [List.take_succ_cons, List.take_zero, List.drop_succ_cons, List.drop_zero]
    have n1 : Nonempty (Cls (fun v => Frm [] (y3) v)) := ⟨⟨_, Frm.refl _ _⟩⟩
    have q0 := fun x : Cls (fun v => Frm [] (y3) v) => (HSf.out x.world (HC.out.trans x.ok)).1
    have q1 := fun x : Cls (fun v => Frm [] (y3) v) => (HSf.out x.world (HC.out.trans x.ok)).2.1
    have q2 := fun x : Cls (fun v => Frm [] (y3) v) => (HSf.out x.world (HC.out.trans x.ok)).2.2
    repeat (go_big_quiet_step (fail))
    refine wpQuiet_nil ?_
    refine only_step (fun K' hK => ?_)
    clear q0 q1 q2 n1
    have hc : Calls Tryd.prog 17 #[.agg #[.int .u64 11529215046068469760, .int .u64 0]] y3 fun e w' => e = .returned (.int .i64 15) ∧ Frm [] y3 w' := by
      have h := needs_c 11529215046068469760 0 y3 (by decide) (by decide) (HTb.out _ HC.out).1 (HTb.out _ HC.out).2
      rw [ex7] at h
      exact h
    have HQ := Lib.hid hc
    clear hc
    go_wp2_with fail
    refine HQ.out.mono ?_
    rintro e y4 ⟨rfl, hf⟩
    replace HC := Lib.hid (HC.out.trans hf)
    replace HD := Lib.hid (HD.out.trans hf)
    have HF1 := Lib.hid hf
    clear HQ hf
    go_wp2_with fail
    refine hK.out _ _ ⟨HF1.out, ?_⟩
    clear hK HF1
    unfold wpSegs
    simp only [List.take_succ_cons, List.take_zero, List.drop_succ_cons, List.drop_zero]
    have n1 : Nonempty (Cls (fun v => Frm [] (y4) v)) := ⟨⟨_, Frm.refl _ _⟩⟩
    have q0 := fun x : Cls (fun v => Frm [] (y4) v) => (HSf.out x.world (HC.out.trans x.ok)).1
    have q1 := fun x : Cls (fun v => Frm [] (y4) v) => (HSf.out x.world (HC.out.trans x.ok)).2.1
    have q2 := fun x : Cls (fun v => Frm [] (y4) v) => (HSf.out x.world (HC.out.trans x.ok)).2.2
    repeat (go_big_quiet_step (fail))
    refine wpQuiet_nil ?_
    refine only_step (fun K' hK => ?_)
    clear q0 q1 q2 n1
    go_wp2_with fail
    refine hK.out _ _ ⟨(Frm.refl _ _).alloc _, ?_⟩
    clear hK
    replace HC := Lib.hid (HC.out.alloc (.cells #[.int .i64 15] 3))
    replace HD := Lib.hid (HD.out.alloc (.cells #[.int .i64 15] 3))
    unfold wpSegs
    simp only [List.take_succ_cons, List.take_zero, List.drop_succ_cons, List.drop_zero]
    have n1 : Nonempty (Cls (fun v => Frm [] (y4.alloc (.cells #[.int .i64 15] 3)) v)) := ⟨⟨_, Frm.refl _ _⟩⟩
    have q0 := fun x : Cls (fun v => Frm [] (y4.alloc (.cells #[.int .i64 15] 3)) v) => (HSf.out x.world (HC.out.trans x.ok)).1
    have q1 := fun x : Cls (fun v => Frm [] (y4.alloc (.cells #[.int .i64 15] 3)) v) => (HSf.out x.world (HC.out.trans x.ok)).2.1
    have q2 := fun x : Cls (fun v => Frm [] (y4.alloc (.cells #[.int .i64 15] 3)) v) => (HSf.out x.world (HC.out.trans x.ok)).2.2
    repeat (go_big_quiet_step (fail))
    refine wpQuiet_nil ?_
    refine only_step (fun K' hK => ?_)
    clear q0 q1 q2 n1
    have hc : Calls Tryd.prog 33 #[.slice (some ⟨y4.heap.size, 0, none⟩) 1 1] (y4.alloc (.cells #[.int .i64 15] 3)) fun e w' => e = .returned (.agg #[.int .u64 281474976710656, .int .u64 0]) ∧ Frm [] (y4.alloc (.cells #[.int .i64 15] 3)) w' := by
      have h := of_c (some ⟨y4.heap.size, 0, none⟩) 1 [15] (y4.alloc (.cells #[.int .i64 15] 3)) (RdV.of_blk (vs := [.int .i64 15]) (Blk.made _ _ _)) (by decide) (by decide)
      rw [ex6.1, ex6.2] at h
      exact h
    have HQ := Lib.hid hc
    clear hc
    go_wp2_with fail
    refine HQ.out.mono ?_
    rintro e y5 ⟨rfl, hf⟩
    replace HC := Lib.hid (HC.out.trans hf)
    replace HD := Lib.hid (HD.out.trans hf)
    have HF1 := Lib.hid hf
    clear HQ hf
    go_wp2_with fail
    refine hK.out _ _ ⟨HF1.out, ?_⟩
    clear hK HF1
    unfold wpSegs
    simp only [List.take_succ_cons, List.take_zero, List.drop_succ_cons, List.drop_zero]
    have n1 : Nonempty (Cls (fun v => Frm [] (y5) v)) := ⟨⟨_, Frm.refl _ _⟩⟩
    have q0 := fun x : Cls (fun v => Frm [] (y5) v) => (HSf.out x.world (HC.out.trans x.ok)).1
    have q1 := fun x : Cls (fun v => Frm [] (y5) v) => (HSf.out x.world (HC.out.trans x.ok)).2.1
    have q2 := fun x : Cls (fun v => Frm [] (y5) v) => (HSf.out x.world (HC.out.trans x.ok)).2.2
    repeat (go_big_quiet_step (fail))
    refine wpQuiet_nil ?_
    refine only_step (fun K' hK => ?_)
    clear q0 q1 q2 n1
    have hc : Calls Tryd.prog 17 #[.agg #[.int .u64 281474976710656, .int .u64 0]] y5 fun e w' => e = .returned (.int .i64 16) ∧ Frm [] y5 w' := by
      have h := needs_c 281474976710656 0 y5 (by decide) (by decide) (HTb.out _ HC.out).1 (HTb.out _ HC.out).2
      rw [ex8] at h
      exact h
    have HQ := Lib.hid hc
    clear hc
    go_wp2_with fail
    refine HQ.out.mono ?_
    rintro e y6 ⟨rfl, hf⟩
    replace HC := Lib.hid (HC.out.trans hf)
    replace HD := Lib.hid (HD.out.trans hf)
    have HF1 := Lib.hid hf
    clear HQ hf
    go_wp2_with fail
    refine hK.out _ _ ⟨HF1.out, ?_⟩
    clear hK HF1
    unfold wpSegs
    simp only [List.take_succ_cons, List.take_zero, List.drop_succ_cons, List.drop_zero]
    have n1 : Nonempty (Cls (fun v => Frm [] (y6) v)) := ⟨⟨_, Frm.refl _ _⟩⟩
    have q0 := fun x : Cls (fun v => Frm [] (y6) v) => (HSf.out x.world (HC.out.trans x.ok)).1
    have q1 := fun x : Cls (fun v => Frm [] (y6) v) => (HSf.out x.world (HC.out.trans x.ok)).2.1
    have q2 := fun x : Cls (fun v => Frm [] (y6) v) => (HSf.out x.world (HC.out.trans x.ok)).2.2
    repeat (go_big_quiet_step (fail))
    refine wpQuiet_nil ?_
    refine only_step (fun K' hK => ?_)
    clear q0 q1 q2 n1
    have hc : Calls Tryd.prog 17 #[.agg #[.int .u64 0, .int .u64 0]] y6 fun e w' => e = .returned (.int .i64 0) ∧ Frm [] y6 w' := by
      have h := needs_c 0 0 y6 (by decide) (by decide) (HTb.out _ HC.out).1 (HTb.out _ HC.out).2
      rw [ex9] at h
      exact h
    have HQ := Lib.hid hc
    clear hc
    go_wp2_with fail
    refine HQ.out.mono ?_
    rintro e y7 ⟨rfl, hf⟩
    replace HC := Lib.hid (HC.out.trans hf)
    replace HD := Lib.hid (HD.out.trans hf)
    have HF1 := Lib.hid hf
    clear HQ hf
    go_wp2_with fail
    refine hK.out _ _ ⟨HF1.out, ?_⟩
    clear hK HF1
    unfold wpSegs
    simp only [List.take_succ_cons, List.take_zero, List.drop_succ_cons, List.drop_zero]
    have n1 : Nonempty (Cls (fun v => Frm [] (y7) v)) := ⟨⟨_, Frm.refl _ _⟩⟩
    have q0 := fun x : Cls (fun v => Frm [] (y7) v) => (HSf.out x.world (HC.out.trans x.ok)).1
    have q1 := fun x : Cls (fun v => Frm [] (y7) v) => (HSf.out x.world (HC.out.trans x.ok)).2.1
    have q2 := fun x : Cls (fun v => Frm [] (y7) v) => (HSf.out x.world (HC.out.trans x.ok)).2.2
    repeat (go_big_quiet_step (fail))
    refine wpQuiet_nil ?_
    refine only_step (fun K' hK => ?_)
    clear q0 q1 q2 n1
    have hc : Calls Tryd.prog 16 #[.int .u16 65535, .agg #[.int .u64 11529215046068469760, .int .u64 0], .int .u16 1] y7 fun e w' => e = .returned (.bool true) ∧ Frm [] y7 w' := by
      have h := chas_c 65535 11529215046068469760 0 1 y7 (by decide) (by decide) (by decide) (by decide)
      rw [ex10] at h
      exact h
    have HQ := Lib.hid hc
    clear hc
    go_wp2_with fail
    refine HQ.out.mono ?_
    rintro e y8 ⟨rfl, hf⟩
    replace HC := Lib.hid (HC.out.trans hf)
    replace HD := Lib.hid (HD.out.trans hf)
    have HF1 := Lib.hid hf
    clear HQ hf
    go_wp2_with fail
    refine hK.out _ _ ⟨HF1.out, ?_⟩
    clear hK HF1
    unfold wpSegs
    simp only [List.take_succ_cons, List.take_zero, List.drop_succ_cons, List.drop_zero]
    have n1 : Nonempty (Cls (fun v => Frm [] (y8) v)) := ⟨⟨_, Frm.refl _ _⟩⟩
    have q0 := fun x : Cls (fun v => Frm [] (y8) v) => (HSf.out x.world (HC.out.trans x.ok)).1
    have q1 := fun x : Cls (fun v => Frm [] (y8) v) => (HSf.out x.world (HC.out.trans x.ok)).2.1
    have q2 := fun x : Cls (fun v => Frm [] (y8) v) => (HSf.out x.world (HC.out.trans x.ok)).2.2
    repeat (go_big_quiet_step (fail))
    refine wpQuiet_nil ?_
    refine only_step (fun K' hK => ?_)
    clear q0 q1 q2 n1
    have hc : Calls Tryd.prog 16 #[.int .u16 65535, .agg #[.int .u64 11529215046068469760, .int .u64 0], .int .u16 0] y8 fun e w' => e = .returned (.bool false) ∧ Frm [] y8 w' := by
      have h := chas_c 65535 11529215046068469760 0 0 y8 (by decide) (by decide) (by decide) (by decide)
      rw [ex11] at h
      exact h
    have HQ := Lib.hid hc
    clear hc
    go_wp2_with fail
    refine HQ.out.mono ?_
    rintro e y9 ⟨rfl, hf⟩
    replace HC := Lib.hid (HC.out.trans hf)
    replace HD := Lib.hid (HD.out.trans hf)
    have HF1 := Lib.hid hf
    clear HQ hf
    go_wp2_with fail
    refine hK.out _ _ ⟨HF1.out, ?_⟩
    clear hK HF1
    unfold wpSegs
    have n1 : Nonempty (Cls (fun v => Frm [] (y9) v)) := ⟨⟨_, Frm.refl _ _⟩⟩
    have q3 := fun x : Cls (fun v => Frm [] (y9) v) => HMc.out x.world (HD.out.trans x.ok)
    repeat (go_big_quiet_step (fail))
    refine wpQuiet_nil ?_
    refine NoPanic.normal ?_
    clear q3 n1
    have hlt : D < W.heap.size := (Array.getElem?_eq_some_iff.1 HK.out).1
    have HK3 := Lib.hid ((HC.out.block D hlt (by simp)).trans HK.out)
    have HF3 := Lib.hid (HS.out.frm.trans HC.out)
    clear hlt HK HC HD HS HSf HTb HT HMc hme hnl HW
    gi_wp2
    exact slot_end1 (results_tmp rfl _ _ _) HK3.out HF3.out HF.out (fun h => ⟨rfl, h⟩) rfl

end Go.Proofs.YtibccecmicndaaaDoor
