/-
  THE WALK of the document's example.
-/
import Derived.Test.YtlkhjffbhcjdfaaDoorMaM
import Derived.Test.YtlkhjffbhcjdfaaDoorSeq
set_option linter.unusedVariables false
set_option linter.unusedSimpArgs false
namespace Go.Proofs.YtlkhjffbhcjdfaaDoor
open Go.RowKit Go.Maps Go.Shelf
attribute [local go_sem] Oper.semAt_some

set_option maxRecDepth 100000 in
set_option maxHeartbeats 8000000 in
theorem alive_c (w : World) (hT : Tabs w) : Calls Tryd.prog 8 #[] w fun e w' => e = .returned (.bool true) ∧ Frm [] w w' := by
  have hnl : ∀ (f : Fn) (x y : Array Value) (w : World), (binOp .eql 52 (.func f x y) .nilFunc).run Tryd.prog w = .ok (.bool false) w := fun _ _ _ _ => rfl
  have HT := Lib.hid hT
  clear hT
  refine (callsIn_wide (n := 8)).1 ?_
  refine callsIn_of_wp_marks Tryd.func8 rfl trivial ?_ rfl
  simp only [Tryd.ntmps8, List.size_toArray, List.length_cons, List.length_nil, Nat.reduceAdd, Nat.reduceSub, Array.replicate_succ, Array.replicate_zero, List.push_toArray, List.append_toArray, List.nil_append, List.cons_append]
  gi_wp2_with fail
  have HS0 := Lib.hid ((Sep.init w).alloc #[.int .i64 0, .int .i64 2, .int .i64 128, .int .i64 (-1)] 3)
  obtain ⟨w1, hw1⟩ : ∃ w1, w1 = w.alloc (.cells #[.int .i64 0, .int .i64 2, .int .i64 128, .int .i64 (-1)] 3) := ⟨_, rfl⟩
  rw [← hw1] at HS0 ⊢
  have hof := of_c (some ⟨w.heap.size, 0, none⟩) 4 [0, 2, 128, -1] w1 (RdV.of_blk (vs := [.int .i64 0, .int .i64 2, .int .i64 128, .int .i64 (-1)]) (HS0.out.blk 0 rfl)) (by decide) (by intro z hz; simp at hz; omega)
  rw [exOfH, exOfL] at hof
  have HOf := Lib.hid hof
  unfold mV at HOf
  clear hw1 hof
  refine ⟨trivial, (callsIn_wide.2 HOf.out).mono ?_⟩
  rintro e w2 ⟨rfl, hf⟩
  have HS1 := Lib.hid (((Sep.init w).keep (HS0.out.frm.trans hf)).alloc #[.int .u64 11529215046068469760, .int .u64 0] 26)
  clear hf HOf HS0
  gi_upto_region 3 with fail
  obtain ⟨q, hq⟩ : ∃ q, q = w2.heap.size := ⟨_, rfl⟩
  have HS2 := Lib.hid (HS1.out.alloc #[.int .i64 0] 3)
  simp only [World.size_alloc] at HS2
  obtain ⟨w3, hw3⟩ : ∃ w3, w3 = (w2.alloc (.cells #[.int .u64 11529215046068469760, .int .u64 0] 26)).alloc (.cells #[.int .i64 0] 3) := ⟨_, rfl⟩
  rw [← hw3, ← hq] at HS2
  rw [← hw3, ← hq]
  clear hw3 hq HS1
  have c0 : w3.cell? ⟨q, 0, none⟩ = some (.int .u64 11529215046068469760) := (HS2.out.blk 1 rfl).cell 0 rfl
  have c1 : w3.cell? ⟨q, 1, none⟩ = some (.int .u64 0) := (HS2.out.blk 1 rfl).cell 1 rfl
  have HB := Lib.hid (fun X => bits_c 11529215046068469760 0 X)
  unfold mV at HB
  gi_wp2_with fail
  refine ⟨trivial, (callsIn_wide.2 (HB.out _)).mono ?_⟩
  rintro e w4 ⟨rfl, hw4⟩
  have HS3 := Lib.hid (show Sep [] w w4 _ from hw4 ▸ HS2.out.alloc #[.int .u64 11529215046068469760, .int .u64 0] 26)
  obtain ⟨r, hr⟩ : ∃ r, r = w3.heap.size := ⟨_, rfl⟩
  rw [← hr] at HS3 ⊢
  clear c0 c1 HB hr hw4 HS2
  gi_wp2_with fail
  have hseq := bits_seq 7 (by omega) r 11529215046068469760 0 (by decide) (by decide) w4
  rw [exBits] at hseq
  have HSq := Lib.hid hseq
  have hsz := HS3.out.frm.size
  clear hseq
  refine range_f (n := 8) (by omega) (gf := 46) (lb := _) rfl (enters_of Tryd.func46 (by kernel_rfl) rfl) HSq.out (Below.refl _ _) (fun _ => rfl) (fun _ _ _ _ _ _ h => h) [] (by simp)
    (fun pre F W => Sep [] w W (frgR F W :: [blkR r 26 #[.int .u64 11529215046068469760, .int .u64 0], blkR (q + 1) 3 #[.int .i64 (exN pre)], blkR q 26 #[.int .u64 11529215046068469760, .int .u64 0]]))
    (fun _ _ _ _ => False) (bears_sep [] _) (fun _ => ⟨fun _ _ _ _ h _ => h, fun _ _ _ _ _ h _ _ _ => h, fun _ _ _ _ _ h _ _ _ => h⟩) ?hQ ?h0 ?round ?done (fun _ _ _ _ _ _ _ _ _ h => h.elim)
  case hQ =>
    rintro pre F W hS
    exact ⟨(hS.blk 1 rfl).cell 0 rfl, (hS.blk 1 rfl).cell 1 rfl⟩
  case h0 => exact (HS3.out.add (r := frgR [] w4) (Frm.refl _ _) (by intro k hk; cases hk) (by simp [frgR]))
  case round =>
    rintro l pre F x W Wb K hS _ hx hK
    have HKx := Lib.hid hK
    have HX := Lib.hid hx
    have HS := Lib.hid hS
    clear hK hx hS
    gi_wp2
    refine HKx.out _ ?_
    clear HKx
    rcases pre2 HX.out with ⟨rfl, rfl⟩ | ⟨rfl, rfl⟩
    · have cg : Wb.cell? ⟨q + 1, 0, none⟩ = some (.int .i64 0) := (HS.out.blk 2 rfl).cell 0 rfl
      have cf := (HS.out.blk 2 rfl).free 0
      have HS5 := Lib.hid (HS.out.put 2 rfl 0 (.int .i64 (exN [0])))
      clear HX
      gi_wp2
      exact ⟨kpF_of (by simp) HS5.out, HS5.out.pin⟩
    · have cg : Wb.cell? ⟨q + 1, 0, none⟩ = some (.int .i64 1) := (HS.out.blk 2 rfl).cell 0 rfl
      have cf := (HS.out.blk 2 rfl).free 0
      have HS5 := Lib.hid (HS.out.put 2 rfl 0 (.int .i64 (exN [0, 2])))
      clear HX
      gi_wp2
      exact ⟨kpF_of (by simp) HS5.out, HS5.out.pin⟩
  case done =>
    rintro D xs F W hD hDF _ rfl hS hK
    have HK := Lib.hid hK
    have HS := Lib.hid hS
    have HF := Lib.hid (Nat.le_trans hsz hD)
    clear hS hK hD hsz HSq HS3
    gi_upto_region 9 with fail
    refine wpIn_wide.2 ?_
    have HTb := Lib.hid (HT.out.frm HS.out.frm)
    have HSf := Lib.hid (fun X (hf : Frm [] W X) => (show X.cell? ⟨q, 0, none⟩ = some (.int .u64 11529215046068469760) ∧ X.cell? ⟨q, 1, none⟩ = some (.int .u64 0) ∧ X.cell? ⟨q + 1, 0, none⟩ = some (.int .i64 14) from
      ⟨(hf.blk (HS.out.blk 3 rfl) (by simp)).cell 0 rfl, (hf.blk (HS.out.blk 3 rfl) (by simp)).cell 1 rfl, (hf.blk (HS.out.blk 2 rfl) (by simp)).cell 0 rfl⟩))
    have HC := Lib.hid ((Frm.refl [] W).drew)
    have hme : ∀ X, (binOp .eql 26 (.agg #[.int .u64 11529215046068469760, .int .u64 0]) (.agg #[.int .u64 11529215046068469760, .int .u64 0])).run Tryd.prog X = .ok (.bool true) X := fun X => meql _ _ _ _ X
    simp only [List.append_eq, List.cons_append, List.nil_append]
    refine wp_region_noPanic ?_
    refine region_seq_held 82 (fun X => X.cell? ⟨q, 0, none⟩ = some (.int .u64 11529215046068469760) ∧ X.cell? ⟨q, 1, none⟩ = some (.int .u64 0) ∧ X.cell? ⟨q + 1, 0, none⟩ = some (.int .i64 14)) #[true, true, true, true, true, true, true, true, true, true, true, true, true, true, true, true, true, true, true, true, true, true, true, true, true, true, true, true, true, true, true, true, true, true, true, true, true, true, true, true, true, true, true, true, true, true, true, true, true, true, true, true, true, true, true, true, true, true, true, true, true, true, true, true, true, true, true, true, true, true, true, true, true, true, true, true, true, true, true, true, true, true, false, false, false, false, false, false, false, false, false, false, false, false, false, false, false, false, false] (by decide) (by kernel_rfl) (by kernel_rfl) (by decide) ?_
    simp only [List.take_succ_cons, List.take_zero]
    obtain ⟨x0, hx0⟩ : ∃ x0, x0 = W.drew := ⟨_, rfl⟩
    rw [← hx0] at HC ⊢
    clear hx0
    obtain ⟨c0, c1, c2⟩ := HSf.out x0 HC.out
    go_wp2_with fail
    refine (exC0 W x0 HTb.out HC.out).mono ?_
    rintro e x1 ⟨rfl, hf⟩
    replace HC := Lib.hid (HC.out.trans hf)
    clear hf c0 c1 c2
    obtain ⟨c0, c1, c2⟩ := HSf.out x1 HC.out
    go_wp2_with fail
    refine (exC1 W x1 HTb.out HC.out).mono ?_
    rintro e x2 ⟨rfl, hf⟩
    replace HC := Lib.hid (HC.out.trans hf)
    clear hf c0 c1 c2
    obtain ⟨c0, c1, c2⟩ := HSf.out x2 HC.out
    go_wp2_with fail
    refine (exC2 W x2 HTb.out HC.out).mono ?_
    rintro e x3 ⟨rfl, hf⟩
    replace HC := Lib.hid (HC.out.trans hf)
    clear hf c0 c1 c2
    obtain ⟨c0, c1, c2⟩ := HSf.out x3 HC.out
    go_wp2_with fail
    refine (exC3 W x3 HTb.out HC.out).mono ?_
    rintro e x4 ⟨rfl, hf⟩
    replace HC := Lib.hid (HC.out.trans hf)
    clear hf c0 c1 c2
    obtain ⟨c0, c1, c2⟩ := HSf.out x4 HC.out
    go_wp2_with fail
    refine (exC4 W x4 HTb.out HC.out).mono ?_
    rintro e x5 ⟨rfl, hf⟩
    replace HC := Lib.hid (HC.out.trans hf)
    clear hf c0 c1 c2
    obtain ⟨c0, c1, c2⟩ := HSf.out x5 HC.out
    go_wp2_with fail
    refine (exC5 W x5 HTb.out HC.out).mono ?_
    rintro e x6 ⟨rfl, hf⟩
    replace HC := Lib.hid (HC.out.trans hf)
    clear hf c0 c1 c2
    obtain ⟨c0, c1, c2⟩ := HSf.out x6 HC.out
    go_wp2_with fail
    refine (exC6 W x6 HTb.out HC.out).mono ?_
    rintro e x7 ⟨rfl, hf⟩
    replace HC := Lib.hid (HC.out.trans hf)
    clear hf c0 c1 c2
    obtain ⟨c0, c1, c2⟩ := HSf.out x7 HC.out
    go_wp2_with fail
    refine (exCL W x7 HC.out).mono ?_
    rintro e x8 ⟨al, cl, rfl, hf⟩
    replace HC := Lib.hid (HC.out.trans hf)
    clear hf c0 c1 c2
    obtain ⟨c0, c1, c2⟩ := HSf.out x8 HC.out
    go_wp2_with fail
    refine (exC7 W x8 HTb.out HC.out).mono ?_
    rintro e x9 ⟨rfl, hf⟩
    replace HC := Lib.hid (HC.out.trans hf)
    clear hf c0 c1 c2
    obtain ⟨c0, c1, c2⟩ := HSf.out x9 HC.out
    go_wp2_with fail
    refine (exC8 W x9 HTb.out HC.out).mono ?_
    rintro e x10 ⟨rfl, hf⟩
    replace HC := Lib.hid (HC.out.trans hf)
    clear hf c0 c1 c2
    obtain ⟨c0, c1, c2⟩ := HSf.out x10 HC.out
    go_wp2_with fail
    refine (exC9 W x10 HTb.out HC.out).mono ?_
    rintro e x11 ⟨rfl, hf⟩
    replace HC := Lib.hid (HC.out.trans hf)
    clear hf c0 c1 c2
    obtain ⟨c0, c1, c2⟩ := HSf.out x11 HC.out
    go_wp2_with fail
    refine (exC8 W x11 HTb.out HC.out).mono ?_
    rintro e x12 ⟨rfl, hf⟩
    replace HC := Lib.hid (HC.out.trans hf)
    clear hf c0 c1 c2
    obtain ⟨c0, c1, c2⟩ := HSf.out x12 HC.out
    go_wp2_with fail
    refine (exC10 W x12 HTb.out HC.out).mono ?_
    rintro e x13 ⟨rfl, hf⟩
    replace HC := Lib.hid (HC.out.trans hf)
    clear hf c0 c1 c2
    obtain ⟨c0, c1, c2⟩ := HSf.out x13 HC.out
    go_wp2_with fail
    refine (exC11 W x13 HTb.out HC.out).mono ?_
    rintro e x14 ⟨rfl, hf⟩
    replace HC := Lib.hid (HC.out.trans hf)
    clear hf c0 c1 c2
    obtain ⟨c0, c1, c2⟩ := HSf.out x14 HC.out
    go_wp2_with fail
    refine (exC12 W x14 HTb.out HC.out).mono ?_
    rintro e x15 ⟨rfl, hf⟩
    replace HC := Lib.hid (HC.out.trans hf)
    clear hf c0 c1 c2
    obtain ⟨c0, c1, c2⟩ := HSf.out x15 HC.out
    go_wp2_with fail
    refine (exC13 W x15 HTb.out HC.out).mono ?_
    rintro e x16 ⟨rfl, hf⟩
    replace HC := Lib.hid (HC.out.trans hf)
    clear hf c0 c1 c2
    obtain ⟨c0, c1, c2⟩ := HSf.out x16 HC.out
    go_wp2_with fail
    refine (exC14 W x16 HTb.out HC.out).mono ?_
    rintro e x17 ⟨rfl, hf⟩
    replace HC := Lib.hid (HC.out.trans hf)
    clear hf c0 c1 c2
    obtain ⟨c0, c1, c2⟩ := HSf.out x17 HC.out
    go_wp2_with fail
    refine (exC15 W x17 HTb.out HC.out).mono ?_
    rintro e x18 ⟨rfl, hf⟩
    replace HC := Lib.hid (HC.out.trans hf)
    clear hf c0 c1 c2
    obtain ⟨c0, c1, c2⟩ := HSf.out x18 HC.out
    go_wp2_with fail
    refine (exC16 W x18 HTb.out HC.out).mono ?_
    rintro e x19 ⟨rfl, hf⟩
    replace HC := Lib.hid (HC.out.trans hf)
    clear hf c0 c1 c2
    obtain ⟨c0, c1, c2⟩ := HSf.out x19 HC.out
    go_wp2_with fail
    clear c0 c1 c2
    refine held_take (i := 82) (d := 102) (v := (.agg #[.int .u64 11529215046068469760, .int .u64 0])) rfl (by kernel_rfl) (by kernel_rfl) (by kernel_rfl) (by kernel_rfl) (fun _ _ _ h => h.elim) (Or.inl ⟨by kernel_rfl, fun wy hSw => ?_⟩) (HSf.out _ HC.out) ?_
    · obtain ⟨s0, s1, s2⟩ := hSw
      go_simp
    try simp only [Act.put, List.setIfInBounds_toArray, List.set_cons_zero, List.set_cons_succ]
    refine held_take (i := 83) (d := 103) (v := (.agg #[.int .u64 11529215046068469760, .int .u64 0])) rfl (by kernel_rfl) (by kernel_rfl) (by kernel_rfl) (by kernel_rfl) (fun _ _ _ h => h.elim) (Or.inl ⟨by kernel_rfl, fun wy hSw => ?_⟩) (HSf.out _ HC.out) ?_
    · obtain ⟨s0, s1, s2⟩ := hSw
      go_simp
    try simp only [Act.put, List.setIfInBounds_toArray, List.set_cons_zero, List.set_cons_succ]
    refine wpAnyH_ready (rs := [84]) (by kernel_rfl) (by simp) ?_
    refine AllReadyH.cons rfl (fun K hK => ?_) AllReadyH.nil
    go_simp
    go_wp2_with fail
    refine (exC17 W x19 HTb.out HC.out).mono ?_
    rintro e x20 ⟨rfl, hf⟩
    replace HC := Lib.hid (HC.out.trans hf)
    clear hf
    refine hK.out _ _ (HSf.out _ HC.out) (fun _ => ?_)
    clear hK
    try simp only [Act.put, List.setIfInBounds_toArray, List.set_cons_zero, List.set_cons_succ]
    refine wpAnyH_ready (rs := [85]) (by kernel_rfl) (by simp) ?_
    refine AllReadyH.cons rfl (fun K hK => ?_) AllReadyH.nil
    go_simp
    go_wp2_with fail
    refine (exC18 W x20 HTb.out HC.out).mono ?_
    rintro e x21 ⟨rfl, hf⟩
    replace HC := Lib.hid (HC.out.trans hf)
    clear hf
    refine hK.out _ _ (HSf.out _ HC.out) (fun _ => ?_)
    clear hK
    try simp only [Act.put, List.setIfInBounds_toArray, List.set_cons_zero, List.set_cons_succ]
    refine held_take (i := 86) (d := 106) (v := (.bool true)) rfl (by kernel_rfl) (by kernel_rfl) (by kernel_rfl) (by kernel_rfl) (fun _ _ _ h => h.elim) (Or.inl ⟨by kernel_rfl, fun wy hSw => ?_⟩) (HSf.out _ HC.out) ?_
    · obtain ⟨s0, s1, s2⟩ := hSw
      go_simp
    try simp only [Act.put, List.setIfInBounds_toArray, List.set_cons_zero, List.set_cons_succ]
    refine held_take (i := 87) (d := 107) (v := (.bool true)) rfl (by kernel_rfl) (by kernel_rfl) (by kernel_rfl) (by kernel_rfl) (fun _ _ _ h => h.elim) (Or.inl ⟨by kernel_rfl, fun wy hSw => ?_⟩) (HSf.out _ HC.out) ?_
    · obtain ⟨s0, s1, s2⟩ := hSw
      go_simp
    try simp only [Act.put, List.setIfInBounds_toArray, List.set_cons_zero, List.set_cons_succ]
    refine held_take (i := 88) (d := 108) (v := (.bool true)) rfl (by kernel_rfl) (by kernel_rfl) (by kernel_rfl) (by kernel_rfl) (fun _ _ _ h => h.elim) (Or.inl ⟨by kernel_rfl, fun wy hSw => ?_⟩) (HSf.out _ HC.out) ?_
    · obtain ⟨s0, s1, s2⟩ := hSw
      go_simp
    try simp only [Act.put, List.setIfInBounds_toArray, List.set_cons_zero, List.set_cons_succ]
    refine held_take (i := 89) (d := 109) (v := (.agg #[.int .u64 11529215046068469760, .int .u64 0])) rfl (by kernel_rfl) (by kernel_rfl) (by kernel_rfl) (by kernel_rfl) (fun _ _ _ h => h.elim) (Or.inl ⟨by kernel_rfl, fun wy hSw => ?_⟩) (HSf.out _ HC.out) ?_
    · obtain ⟨s0, s1, s2⟩ := hSw
      go_simp
    try simp only [Act.put, List.setIfInBounds_toArray, List.set_cons_zero, List.set_cons_succ]
    refine held_take (i := 95) (d := 115) (v := (.agg #[.int .u64 11529215046068469760, .int .u64 0])) rfl (by kernel_rfl) (by kernel_rfl) (by kernel_rfl) (by kernel_rfl) (fun _ _ _ h => h.elim) (Or.inl ⟨by kernel_rfl, fun wy hSw => ?_⟩) (HSf.out _ HC.out) ?_
    · obtain ⟨s0, s1, s2⟩ := hSw
      go_simp
    try simp only [Act.put, List.setIfInBounds_toArray, List.set_cons_zero, List.set_cons_succ]
    refine wpAnyH_ready (rs := [90]) (by kernel_rfl) (by simp) ?_
    refine AllReadyH.cons rfl (fun K hK => ?_) AllReadyH.nil
    go_simp
    go_wp2_with fail
    refine hK.out _ _ (HSf.out _ (HC.out.alloc _)) (fun _ => ?_)
    clear hK
    try simp only [Act.put, List.setIfInBounds_toArray, List.set_cons_zero, List.set_cons_succ]
    refine wpAnyH_ready (rs := [91]) (by kernel_rfl) (by simp) ?_
    refine AllReadyH.cons rfl (fun K hK => ?_) AllReadyH.nil
    go_simp
    go_wp2_with fail
    refine (exCO W x21 HC.out).mono ?_
    rintro e x22 ⟨rfl, hf⟩
    replace HC := Lib.hid (HC.out.trans hf)
    clear hf
    refine hK.out _ _ (HSf.out _ HC.out) (fun _ => ?_)
    clear hK
    try simp only [Act.put, List.setIfInBounds_toArray, List.set_cons_zero, List.set_cons_succ]
    refine wpAnyH_ready (rs := [92]) (by kernel_rfl) (by simp) ?_
    refine AllReadyH.cons rfl (fun K hK => ?_) AllReadyH.nil
    go_simp
    go_wp2_with fail
    refine (exC19 W x22 HTb.out HC.out).mono ?_
    rintro e x23 ⟨rfl, hf⟩
    replace HC := Lib.hid (HC.out.trans hf)
    clear hf
    refine hK.out _ _ (HSf.out _ HC.out) (fun _ => ?_)
    clear hK
    try simp only [Act.put, List.setIfInBounds_toArray, List.set_cons_zero, List.set_cons_succ]
    refine wpAnyH_ready (rs := [93]) (by kernel_rfl) (by simp) ?_
    refine AllReadyH.cons rfl (fun K hK => ?_) AllReadyH.nil
    go_simp
    go_wp2_with fail
    refine (exC20 W x23 HTb.out HC.out).mono ?_
    rintro e x24 ⟨rfl, hf⟩
    replace HC := Lib.hid (HC.out.trans hf)
    clear hf
    refine hK.out _ _ (HSf.out _ HC.out) (fun _ => ?_)
    clear hK
    try simp only [Act.put, List.setIfInBounds_toArray, List.set_cons_zero, List.set_cons_succ]
    refine wpAnyH_ready (rs := [94]) (by kernel_rfl) (by simp) ?_
    refine AllReadyH.cons rfl (fun K hK => ?_) AllReadyH.nil
    go_simp
    go_wp2_with fail
    refine (exC21 W x24 HTb.out HC.out).mono ?_
    rintro e x25 ⟨rfl, hf⟩
    replace HC := Lib.hid (HC.out.trans hf)
    clear hf
    refine hK.out _ _ (HSf.out _ HC.out) (fun _ => ?_)
    clear hK
    try simp only [Act.put, List.setIfInBounds_toArray, List.set_cons_zero, List.set_cons_succ]
    refine held_take (i := 96) (d := 116) (v := (.bool true)) rfl (by kernel_rfl) (by kernel_rfl) (by kernel_rfl) (by kernel_rfl) (fun _ _ _ h => h.elim) (Or.inl ⟨by kernel_rfl, fun wy hSw => ?_⟩) (HSf.out _ HC.out) ?_
    · obtain ⟨s0, s1, s2⟩ := hSw
      go_simp
    try simp only [Act.put, List.setIfInBounds_toArray, List.set_cons_zero, List.set_cons_succ]
    refine held_take (i := 97) (d := 117) (v := (.bool true)) rfl (by kernel_rfl) (by kernel_rfl) (by kernel_rfl) (by kernel_rfl) (fun _ _ _ h => h.elim) (Or.inl ⟨by kernel_rfl, fun wy hSw => ?_⟩) (HSf.out _ HC.out) ?_
    · obtain ⟨s0, s1, s2⟩ := hSw
      go_simp
    try simp only [Act.put, List.setIfInBounds_toArray, List.set_cons_zero, List.set_cons_succ]
    refine held_take (i := 98) (d := 0) (v := (.bool true)) rfl (by kernel_rfl) (by kernel_rfl) (by kernel_rfl) (by kernel_rfl) (fun _ _ _ h => h.elim) (Or.inl ⟨by kernel_rfl, fun wy hSw => ?_⟩) (HSf.out _ HC.out) ?_
    · obtain ⟨s0, s1, s2⟩ := hSw
      go_simp
    try simp only [Act.put, List.setIfInBounds_toArray, List.set_cons_zero, List.set_cons_succ]
    refine wpAnyH_done (by kernel_rfl) ?_ _
    refine NoPanic.normal ?_
    have hlt : D < W.heap.size := (Array.getElem?_eq_some_iff.1 HK.out).1
    have HK3 := Lib.hid ((HC.out.block D hlt (by simp)).trans HK.out)
    have HF3 := Lib.hid (HS.out.frm.trans HC.out)
    clear hlt HK HC HS HSf HTb HT hme hnl
    gi_wp2
    exact slot_end1 (results_tmp rfl _ _ _) HK3.out HF3.out HF.out (fun h => ⟨rfl, h⟩) rfl

end Go.Proofs.YtlkhjffbhcjdfaaDoor
