/-
  THE WALKS of cover.Each, cover.Seqs.
-/
import Derived.Test.YtibccecmicndaaaDoorCoA
set_option linter.unusedVariables false
set_option linter.unusedSimpArgs false
namespace Go.Proofs.YtibccecmicndaaaDoor
open Go.RowKit Go.Maps Go.Shelf
attribute [local go_sem] Oper.semAt_some

set_option maxHeartbeats 1000000 in
theorem each_c (b h l : Nat) (w : World) :
    Calls Tryd.prog 29 #[.int .u16 (b : Int), mV h l] w fun e w' => e = .returned (.func (.func 48) #[] #[.pointer (some ⟨w.heap.size + 1, 0, none⟩), .pointer (some ⟨w.heap.size, 0, none⟩)]) ∧
      w' = (w.alloc (.cells #[.int .u16 (b : Int)] 22)).alloc (.cells #[.int .u64 (h : Int), .int .u64 (l : Int)] 27) := by
  unfold mV
  go_enter Tryd.func29, Tryd.ntmps29
  go_wp2_with fail
  go_ret
  exact ⟨rfl, rfl⟩

/-- The number that lies x ahead of the base. -/
def encU (b : Nat) (x : Nat) : Value := .int .u16 (adN b x : Int)
theorem info_u16 : (Tryd.prog.info? 22).map (fun i => (i.zero, i.size, i.bytes)) = some (some (.int .u16 0), 1, 2) := by kernel_rfl

set_option maxRecDepth 100000 in
set_option maxHeartbeats 4000000 in
theorem seqs_c (b h l : Nat) (w : World) (hb : b < 65536) (h0 : h < 18446744073709551616) (h1 : l < 18446744073709551616) :
    Calls Tryd.prog 13 #[.int .u16 (b : Int), mV h l] w fun e w' => ∃ v, e = .returned v ∧ Sep [] w w' [ownR 22 1 v (bitsOf h l).length ((bitsOf h l).map (encU b))] := by
  obtain ⟨i0, hi, hz0, hz1, hz2⟩ := info_parts info_u16
  have HE := Lib.hid (fun W => each_c b h l W)
  have HSq := Lib.hid (fun p q W => each_seq 7 (by omega) p q h l b h0 h1 hb W)
  have HS0 := Lib.hid (((Sep.init w).alloc #[.int .u64 (h : Int), .int .u64 (l : Int)] 27).alloc #[.slice none 0 0] 24)
  have HPl := Lib.hid (fun (pre : List Nat) (x : Nat) (hx : (pre ++ [x]) <+: bitsOf h l) => pre_len hx)
  obtain ⟨R, hR⟩ : ∃ R, R = bitsOf h l := ⟨_, rfl⟩
  rw [← hR] at HSq HPl ⊢
  clear hR h0 h1
  unfold mV at *
  refine (callsIn_wide (n := 8)).1 ?_
  refine callsIn_of_wp_marks Tryd.func13 rfl trivial ?_ rfl
  simp only [Tryd.ntmps13, List.size_toArray, List.length_cons, List.length_nil, Nat.reduceAdd, Nat.reduceSub, Array.replicate_succ, Array.replicate_zero, List.push_toArray, List.append_toArray, List.nil_append, List.cons_append]
  gi_upto_region 2 with fail
  obtain ⟨w1, hw1⟩ : ∃ w1, w1 = (w.alloc (.cells #[.int .u64 (h : Int), .int .u64 (l : Int)] 27)).alloc (.cells #[.slice none 0 0] 24) := ⟨_, rfl⟩
  obtain ⟨o, ho⟩ : ∃ o, o = w.heap.size := ⟨_, rfl⟩
  simp only [World.size_alloc] at HS0
  rw [← hw1, ← ho] at HS0
  rw [← hw1, ← ho]
  have c0 := (HS0.out.blk 1 rfl).cell 0 rfl
  have c1 := (HS0.out.blk 1 rfl).cell 1 rfl
  clear hw1 ho
  gi_wp2_with fail
  refine ⟨trivial, (callsIn_wide.2 (HE.out _)).mono ?_⟩
  rintro e w2 ⟨rfl, hw2⟩
  have HS1 := Lib.hid (show Sep [] w w2 _ from hw2 ▸ (((HS0.out.add (Frm.refl _ _) (r := ownR 22 1 (.slice none 0 0) 0 []) (own_nil1 _ _) (by simp [ownR, Value.ownBlock])).alloc #[.int .u16 (b : Int)] 22).alloc #[.int .u64 (h : Int), .int .u64 (l : Int)] 27))
  simp only [World.size_alloc] at HS1
  obtain ⟨q, hq⟩ : ∃ q, q = w1.heap.size := ⟨_, rfl⟩
  rw [← hq] at HS1 ⊢
  clear hq hw2 c0 c1 HE HS0
  gi_wp2_with fail
  have hfr := HS1.out.frm
  refine range_f (n := 8) (by omega) (gf := 48) (lb := _) rfl (enters_of Tryd.func48 (by kernel_rfl) rfl) (HSq.out (q + 1) q w2) (Below.refl _ _) (fun _ => rfl) (fun _ _ _ _ _ _ h => h) [] (by simp)
    (fun pre F W => ∃ v, Sep [] w W (frgR F W :: [blkR (q + 1) 27 #[.int .u64 (h : Int), .int .u64 (l : Int)], blkR q 22 #[.int .u16 (b : Int)], ownR 22 1 v pre.length (pre.map (encU b)), blkR (o + 1) 24 #[v]]))
    (fun _ _ _ _ => False) (bears_ex fun v => bears_sep [] _) (fun _ => ⟨fun _ _ _ _ h _ => h, fun _ _ _ _ _ h _ _ _ => h, fun _ _ _ _ _ h _ _ _ => h⟩) ?hQ ?h0 ?round ?done (fun _ _ _ _ _ _ _ _ _ h => h.elim)
  case hQ =>
    rintro pre F W ⟨v, hS⟩
    exact ⟨(hS.blk 1 rfl).cell 0 rfl, (hS.blk 1 rfl).cell 1 rfl, (hS.blk 2 rfl).cell 0 rfl⟩
  case h0 =>
    exact ⟨_, (HS1.out.sub (show List.Sublist [_, _, _, _] _ from by
      refine List.Sublist.cons_cons _ (List.Sublist.cons_cons _ (List.Sublist.cons_cons _ (List.Sublist.cons_cons _ (List.nil_sublist _)))))).add (r := frgR [] w2) (Frm.refl _ _) (by intro k hk; cases hk) (by simp [frgR])⟩
  case round =>
    rintro lb pre F x W Wb K ⟨v, hS⟩ _ hx hK
    have HKx := Lib.hid hK
    have HS := Lib.hid hS
    have hpl := HPl.out _ _ hx
    have co : _ = some v := (HS.out.blk 4 rfl).cell 0 rfl
    clear hK hS hx hfr
    gi_wp2_with fail
    refine HKx.out _ ?_
    clear HKx
    gi_wp2_with (gi_at_builtin; refine wpListIn_append_sep rfl _ _ 24 rfl 3 22 i0 (.int .u16 0) 2 Tryd.underlying24 hi hz0 hz1 hz2 rfl _ _ _ rfl (HS.out.skip _) rfl _ 1 (.int .u16 (adN b x : Int)) rfl (World.cell?_alloc_at _ _ _ _ rfl) rfl (by unfold maxLen; omega) (by omega) ?_; intro g4 c4 w4 hS4 hsz4; have f4 := (hS4.blk 4 rfl).free 0; have c5 : _ = some v := (hS4.blk 4 rfl).cell 0 rfl; have HS4 := Lib.hid hS4; clear hS4)
    have h5 := HS4.out.put 4 rfl 0 (.slice (some ⟨g4, 0, none⟩) (pre.length + 1) c4)
    refine ⟨kpF_of (by have := hsz4; simp at this ⊢; omega) h5, .slice (some ⟨g4, 0, none⟩) (pre.length + 1) c4, ?_⟩
    rw [List.length_append, List.map_append]
    exact h5.pin
  case done =>
    rintro D xs F W hD hDF _ rfl ⟨v, hS⟩ hK
    have HS := Lib.hid hS
    have HK := Lib.hid hK
    have co : _ = some v := (HS.out.blk 4 rfl).cell 0 rfl
    clear hS hK
    gi_wp2
    refine ⟨by simp, .inl ⟨_, _, rfl, run_takeDeferred HK.out, ?_⟩⟩
    refine ⟨_, results_tmp rfl _ _ _, _, rfl, ?_⟩
    have h := (bears_sep (S := []) (w0 := w) [] (fun _ : Unit => [blkR (q + 1) 27 #[.int .u64 (h : Int), .int .u64 (l : Int)], blkR q 22 #[.int .u16 (b : Int)], ownR 22 1 v xs.length (xs.map (encU b)), blkR (o + 1) 24 #[v]])).put () F W _ D HS.out hDF (by simp) (grownBy_putObj' W D (.deferred none))
    exact h.only 3 rfl

end Go.Proofs.YtibccecmicndaaaDoor
