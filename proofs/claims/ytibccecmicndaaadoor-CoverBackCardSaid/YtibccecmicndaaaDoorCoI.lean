/-
  THE WALKS of cover.Missing, of the two functions that the laws hand it. Printed by gen_coi.py.
-/
import Derived.Test.YtibccecmicndaaaDoorCoG
set_option linter.unusedVariables false
set_option linter.unusedSimpArgs false
namespace Go.Proofs.YtibccecmicndaaaDoor
open Go.RowKit Go.Maps Go.Shelf
attribute [local go_sem] Oper.semAt_some

set_option maxHeartbeats 1000000 in
theorem one_c (x : Int) (w : World) : Calls Tryd.prog 32 #[.int .u16 x] w fun e w' => e = .returned (.bool (x == 1)) ∧ w = w' := by
  go_enter Tryd.func32, Tryd.ntmps32
  go_wp2_with fail
  go_ret
  exact ⟨rfl, rfl⟩

set_option maxHeartbeats 1000000 in
theorem known_c (k : Nat) (ka : Option Addr) (kc : Nat) (known : List Int) (x : Int) (w : World) (hc : w.cell? ⟨k, 0, none⟩ = some (.slice ka known.length kc)) (rd : RdI .u16 w ka known) (hl : known.length ≤ 1000) :
    Calls Tryd.prog 10 #[.int .u16 x, .pointer (some ⟨k, 0, none⟩)] w fun e w' => e = .returned (.bool (decide (x ∈ known))) ∧ w = w' := by
  have HI := Lib.hid (rin_c ka kc known x w rd (by omega))
  clear rd
  go_enter Tryd.func10, Tryd.ntmps10
  go_wp2_with fail
  refine HI.out.mono ?_
  rintro e w' ⟨rfl, rfl⟩
  go_wp2_with fail
  go_ret
  exact ⟨rfl, rfl⟩

/-- Those of the bits R whose numbers are not known. -/
def fiL (q : Nat → Bool) (R : List Nat) : List Nat := R.filter fun x => !q x
theorem fiL_snoc (q : Nat → Bool) (R : List Nat) (x : Nat) : fiL q (R ++ [x]) = fiL q R ++ if q x = true then [] else [x] := by
  unfold fiL
  rw [List.filter_append]
  cases h : q x <;> simp [h]
theorem fiL_len (q : Nat → Bool) (R : List Nat) : (fiL q R).length ≤ R.length := List.length_filter_le _ _

set_option maxRecDepth 100000 in
set_option maxHeartbeats 8000000 in
theorem missA_c (b h l : Nat) (w : World) (hb : b < 65536) (h0 : h < 18446744073709551616) (h1 : l < 18446744073709551616) :
    Calls Tryd.prog 9 #[.int .u16 (b : Int), mV h l, .func (.func 32) #[] #[]] w fun e w' => ∃ v, e = .returned v ∧ Sep [] w w' [ownR 22 1 v (fiL (fun x => ((adN b x : Nat) : Int) == 1) (bitsOf h l)).length ((fiL (fun x => ((adN b x : Nat) : Int) == 1) (bitsOf h l)).map (encU b))] := by
  obtain ⟨i0, hi, hz0, hz1, hz2⟩ := info_parts info_u16
  have HE := Lib.hid (fun W => each_c b h l W)
  have HSq := Lib.hid (fun p q W => each_seq 7 (by omega) p q h l b h0 h1 hb W)
  have HS0 := Lib.hid ((((Sep.init w).alloc #[.int .u64 (h : Int), .int .u64 (l : Int)] 27).alloc #[.func (.func 32) #[] #[]] 31).alloc #[.slice none 0 0] 24)
  have HPl := Lib.hid (fun (pre : List Nat) (x : Nat) (hx : (pre ++ [x]) <+: bitsOf h l) => pre_len hx)
  obtain ⟨q, hq⟩ : ∃ q : Nat → Bool, q = (fun x => ((adN b x : Nat) : Int) == 1) := ⟨_, rfl⟩
  have HCl := Lib.hid (fun (x : Nat) (X : World) (hX : Below w.heap.size w X) => (show Calls Tryd.prog 32 (#[.int .u16 (adN b x : Int)] ++ #[]) X fun e w' => e = .returned (.bool (q x)) ∧ X = w' from by rw [hq]; exact one_c _ X))
  rw [← hq]
  obtain ⟨R, hR⟩ : ∃ R, R = bitsOf h l := ⟨_, rfl⟩
  rw [← hR] at HSq HPl ⊢
  clear hR h0 h1 hq 
  simp only [List.append_toArray, List.cons_append, List.nil_append] at HCl
  unfold mV at *
  refine (callsIn_wide (n := 8)).1 ?_
  refine callsIn_of_wp_marks Tryd.func9 rfl trivial ?_ rfl
  simp only [Tryd.ntmps9, List.size_toArray, List.length_cons, List.length_nil, Nat.reduceAdd, Nat.reduceSub, Array.replicate_succ, Array.replicate_zero, List.push_toArray, List.append_toArray, List.nil_append, List.cons_append]
  gi_upto_region 2 with fail
  obtain ⟨w1, hw1⟩ : ∃ w1, w1 = ((w.alloc (.cells #[.int .u64 (h : Int), .int .u64 (l : Int)] 27)).alloc (.cells #[.func (.func 32) #[] #[]] 31)).alloc (.cells #[.slice none 0 0] 24) := ⟨_, rfl⟩
  obtain ⟨o, ho⟩ : ∃ o, o = w.heap.size := ⟨_, rfl⟩
  simp only [World.size_alloc] at HS0
  rw [← hw1, ← ho] at HS0
  rw [← hw1, ← ho]
  have c0 := (HS0.out.blk 2 rfl).cell 0 rfl
  have c1 := (HS0.out.blk 2 rfl).cell 1 rfl
  clear hw1 ho
  gi_wp2_with fail
  refine ⟨trivial, (callsIn_wide.2 (HE.out _)).mono ?_⟩
  rintro e w2 ⟨rfl, hw2⟩
  have HS1 := Lib.hid (show Sep [] w w2 _ from hw2 ▸ (((HS0.out.add (Frm.refl _ _) (r := ownR 22 1 (.slice none 0 0) 0 []) (own_nil1 _ _) (by simp [ownR, Value.ownBlock])).alloc #[.int .u16 (b : Int)] 22).alloc #[.int .u64 (h : Int), .int .u64 (l : Int)] 27))
  simp only [World.size_alloc] at HS1
  obtain ⟨r, hr⟩ : ∃ r, r = w1.heap.size := ⟨_, rfl⟩
  rw [← hr] at HS1 ⊢
  clear hr hw2 c0 c1 HE HS0
  gi_wp2_with fail
  have hfr := HS1.out.frm
  refine range_f (n := 8) (by omega) (gf := 48) (lb := _) rfl (enters_of Tryd.func48 (by kernel_rfl) rfl) (HSq.out (r + 1) r w2) (Below.refl _ _) (fun _ => rfl) (fun _ _ _ _ _ _ h => h) [] (by simp)
    (fun pre F W => ∃ v, Sep [] w W (frgR F W :: [blkR (r + 1) 27 #[.int .u64 (h : Int), .int .u64 (l : Int)], blkR r 22 #[.int .u16 (b : Int)], ownR 22 1 v (fiL q pre).length ((fiL q pre).map (encU b)), blkR (o + 1 + 1) 24 #[v], blkR (o + 1) 31 #[.func (.func 32) #[] #[]]]))
    (fun _ _ _ _ => False) (bears_ex fun v => bears_sep [] _) (fun _ => ⟨fun _ _ _ _ h _ => h, fun _ _ _ _ _ h _ _ _ => h, fun _ _ _ _ _ h _ _ _ => h⟩) ?hQ ?h0 ?round ?done (fun _ _ _ _ _ _ _ _ _ h => h.elim)
  case hQ =>
    rintro pre F W ⟨v, hS⟩
    exact ⟨(hS.blk 1 rfl).cell 0 rfl, (hS.blk 1 rfl).cell 1 rfl, (hS.blk 2 rfl).cell 0 rfl⟩
  case h0 =>
    exact ⟨_, (HS1.out.sub (show List.Sublist [_, _, _, _, _] _ from by
      refine List.Sublist.cons_cons _ (List.Sublist.cons_cons _ (List.Sublist.cons_cons _ (List.Sublist.cons_cons _ (List.Sublist.cons_cons _ (List.nil_sublist _))))))).add (r := frgR [] w2) (Frm.refl _ _) (by intro k hk; cases hk) (by simp [frgR])⟩
  case round =>
    rintro lb pre F x W Wb K ⟨v, hS⟩ hF hx hK
    have HKx := Lib.hid hK
    have HS := Lib.hid hS
    have hpl := HPl.out _ _ hx
    have hfl := fiL_len q pre
    have HSn := Lib.hid (fiL_snoc q pre x)
    have HC := Lib.hid (HCl.out x Wb hS.frm.below)
    obtain ⟨y, hy⟩ : ∃ y, y = q x := ⟨_, rfl⟩
    rw [← hy] at HSn HC
    obtain ⟨Y, hY⟩ : ∃ Y, Y = fiL q pre := ⟨_, rfl⟩
    rw [← hY] at HSn hfl HS
    obtain ⟨n, hn⟩ : ∃ n, n = Y.length := ⟨_, rfl⟩
    rw [← hn] at hfl HS
    have HN := Lib.hid hn
    have co : _ = some v := (HS.out.blk 4 rfl).cell 0 rfl
    have cf : _ = some (Value.func (.func 32) #[] #[]) := (HS.out.blk 5 rfl).cell 0 rfl
    clear hK hS hx hfr hF hy hY hn
    gi_wp2_with fail
    refine HKx.out _ ?_
    clear HKx
    gi_wp2_with fail
    refine ⟨trivial, (CallsIn.inRound lb (callsIn_wide.2 HC.out)).mono ?_⟩
    rintro e w3 ⟨rfl, rfl⟩
    cases y
    · gi_wp2_with (gi_at_builtin; refine wpListIn_append_sep rfl _ _ 24 rfl 3 22 i0 (.int .u16 0) 2 Tryd.underlying24 hi hz0 hz1 hz2 rfl _ _ _ rfl (HS.out.skip _) rfl _ 1 (.int .u16 (adN b x : Int)) rfl (World.cell?_alloc_at _ _ _ _ rfl) rfl (by unfold maxLen; omega) (by omega) ?_; intro g4 c4 w4 hS4 hsz4; have f4 := (hS4.blk 4 rfl).free 0; have c5 : _ = some v := (hS4.blk 4 rfl).cell 0 rfl; have HS4 := Lib.hid hS4; clear hS4)
      have h5 := HS4.out.put 4 rfl 0 (.slice (some ⟨g4, 0, none⟩) (n + 1) c4)
      refine ⟨kpF_of (by have := hsz4; simp at this ⊢; omega) h5, .slice (some ⟨g4, 0, none⟩) (n + 1) c4, ?_⟩
      rw [HSn.out, show ∀ (p : Prop) (h : Decidable p), ¬ p → (if p then ([] : List Nat) else [x]) = [x] from fun p h hp => if_neg hp, List.length_append, List.map_append, ← HN.out]
      · exact h5.pin
      · first | exact not_false | decide
    · gi_wp2_with fail
      refine ⟨kpF_of (Nat.le_refl _) HS.out, v, ?_⟩
      rw [HSn.out, show ∀ (p : Prop) (h : Decidable p), p → (if p then ([] : List Nat) else [x]) = [] from fun p h hp => if_pos hp, List.append_nil, ← HN.out]
      · exact HS.out.pin
      · first | exact trivial | rfl
  case done =>
    rintro D xs F W hD hDF _ rfl ⟨v, hS⟩ hK
    have HS := Lib.hid hS
    have HK := Lib.hid hK
    have co : _ = some v := (HS.out.blk 4 rfl).cell 0 rfl
    clear hS hK
    gi_wp2
    refine ⟨by simp, .inl ⟨_, _, rfl, run_takeDeferred HK.out, ?_⟩⟩
    refine ⟨_, results_tmp rfl _ _ _, _, rfl, ?_⟩
    have h := (bears_sep (S := []) (w0 := w) [] (fun _ : Unit => [blkR (r + 1) 27 #[.int .u64 (h : Int), .int .u64 (l : Int)], blkR r 22 #[.int .u16 (b : Int)], ownR 22 1 v (fiL q xs).length ((fiL q xs).map (encU b)), blkR (o + 1 + 1) 24 #[v], blkR (o + 1) 31 #[.func (.func 32) #[] #[]]])).put () F W _ D HS.out hDF (by simp) (grownBy_putObj' W D (.deferred none))
    exact h.only 3 rfl

set_option maxRecDepth 100000 in
set_option maxHeartbeats 8000000 in
theorem missM_c (b h l : Nat) (k : Nat) (ka : Option Addr) (kc : Nat) (known : List Int) (w : World) (hk : k < w.heap.size) (hc : w.cell? ⟨k, 0, none⟩ = some (.slice ka known.length kc)) (rd : RdI .u16 w ka known) (hl : known.length ≤ 1000) (hb : b < 65536) (h0 : h < 18446744073709551616) (h1 : l < 18446744073709551616) :
    Calls Tryd.prog 9 #[.int .u16 (b : Int), mV h l, .func (.func 10) #[] #[.pointer (some ⟨k, 0, none⟩)]] w fun e w' => ∃ v, e = .returned v ∧ Sep [] w w' [ownR 22 1 v (fiL (fun x => decide (((adN b x : Nat) : Int) ∈ known)) (bitsOf h l)).length ((fiL (fun x => decide (((adN b x : Nat) : Int) ∈ known)) (bitsOf h l)).map (encU b))] := by
  obtain ⟨i0, hi, hz0, hz1, hz2⟩ := info_parts info_u16
  have HE := Lib.hid (fun W => each_c b h l W)
  have HSq := Lib.hid (fun p q W => each_seq 7 (by omega) p q h l b h0 h1 hb W)
  have HS0 := Lib.hid ((((Sep.init w).alloc #[.int .u64 (h : Int), .int .u64 (l : Int)] 27).alloc #[.func (.func 10) #[] #[.pointer (some ⟨k, 0, none⟩)]] 31).alloc #[.slice none 0 0] 24)
  have HPl := Lib.hid (fun (pre : List Nat) (x : Nat) (hx : (pre ++ [x]) <+: bitsOf h l) => pre_len hx)
  obtain ⟨q, hq⟩ : ∃ q : Nat → Bool, q = (fun x => decide (((adN b x : Nat) : Int) ∈ known)) := ⟨_, rfl⟩
  have HCl := Lib.hid (fun (x : Nat) (X : World) (hX : Below w.heap.size w X) => (show Calls Tryd.prog 10 (#[.int .u16 (adN b x : Int)] ++ #[.pointer (some ⟨k, 0, none⟩)]) X fun e w' => e = .returned (.bool (q x)) ∧ X = w' from by rw [hq]; exact known_c k ka kc known _ X ((hX.cell (p := ⟨k, 0, none⟩) hk).trans hc) (rd.below hX) hl))
  rw [← hq]
  obtain ⟨R, hR⟩ : ∃ R, R = bitsOf h l := ⟨_, rfl⟩
  rw [← hR] at HSq HPl ⊢
  clear hR h0 h1 hq hk hc rd hl
  simp only [List.append_toArray, List.cons_append, List.nil_append] at HCl
  unfold mV at *
  refine (callsIn_wide (n := 8)).1 ?_
  refine callsIn_of_wp_marks Tryd.func9 rfl trivial ?_ rfl
  simp only [Tryd.ntmps9, List.size_toArray, List.length_cons, List.length_nil, Nat.reduceAdd, Nat.reduceSub, Array.replicate_succ, Array.replicate_zero, List.push_toArray, List.append_toArray, List.nil_append, List.cons_append]
  gi_upto_region 2 with fail
  obtain ⟨w1, hw1⟩ : ∃ w1, w1 = ((w.alloc (.cells #[.int .u64 (h : Int), .int .u64 (l : Int)] 27)).alloc (.cells #[.func (.func 10) #[] #[.pointer (some ⟨k, 0, none⟩)]] 31)).alloc (.cells #[.slice none 0 0] 24) := ⟨_, rfl⟩
  obtain ⟨o, ho⟩ : ∃ o, o = w.heap.size := ⟨_, rfl⟩
  simp only [World.size_alloc] at HS0
  rw [← hw1, ← ho] at HS0
  rw [← hw1, ← ho]
  have c0 := (HS0.out.blk 2 rfl).cell 0 rfl
  have c1 := (HS0.out.blk 2 rfl).cell 1 rfl
  clear hw1 ho
  gi_wp2_with fail
  refine ⟨trivial, (callsIn_wide.2 (HE.out _)).mono ?_⟩
  rintro e w2 ⟨rfl, hw2⟩
  have HS1 := Lib.hid (show Sep [] w w2 _ from hw2 ▸ (((HS0.out.add (Frm.refl _ _) (r := ownR 22 1 (.slice none 0 0) 0 []) (own_nil1 _ _) (by simp [ownR, Value.ownBlock])).alloc #[.int .u16 (b : Int)] 22).alloc #[.int .u64 (h : Int), .int .u64 (l : Int)] 27))
  simp only [World.size_alloc] at HS1
  obtain ⟨r, hr⟩ : ∃ r, r = w1.heap.size := ⟨_, rfl⟩
  rw [← hr] at HS1 ⊢
  clear hr hw2 c0 c1 HE HS0
  gi_wp2_with fail
  have hfr := HS1.out.frm
  refine range_f (n := 8) (by omega) (gf := 48) (lb := _) rfl (enters_of Tryd.func48 (by kernel_rfl) rfl) (HSq.out (r + 1) r w2) (Below.refl _ _) (fun _ => rfl) (fun _ _ _ _ _ _ h => h) [] (by simp)
    (fun pre F W => ∃ v, Sep [] w W (frgR F W :: [blkR (r + 1) 27 #[.int .u64 (h : Int), .int .u64 (l : Int)], blkR r 22 #[.int .u16 (b : Int)], ownR 22 1 v (fiL q pre).length ((fiL q pre).map (encU b)), blkR (o + 1 + 1) 24 #[v], blkR (o + 1) 31 #[.func (.func 10) #[] #[.pointer (some ⟨k, 0, none⟩)]]]))
    (fun _ _ _ _ => False) (bears_ex fun v => bears_sep [] _) (fun _ => ⟨fun _ _ _ _ h _ => h, fun _ _ _ _ _ h _ _ _ => h, fun _ _ _ _ _ h _ _ _ => h⟩) ?hQ ?h0 ?round ?done (fun _ _ _ _ _ _ _ _ _ h => h.elim)
  case hQ =>
    rintro pre F W ⟨v, hS⟩
    exact ⟨(hS.blk 1 rfl).cell 0 rfl, (hS.blk 1 rfl).cell 1 rfl, (hS.blk 2 rfl).cell 0 rfl⟩
  case h0 =>
    exact ⟨_, (HS1.out.sub (show List.Sublist [_, _, _, _, _] _ from by
      refine List.Sublist.cons_cons _ (List.Sublist.cons_cons _ (List.Sublist.cons_cons _ (List.Sublist.cons_cons _ (List.Sublist.cons_cons _ (List.nil_sublist _))))))).add (r := frgR [] w2) (Frm.refl _ _) (by intro k hk; cases hk) (by simp [frgR])⟩
  case round =>
    rintro lb pre F x W Wb K ⟨v, hS⟩ hF hx hK
    have HKx := Lib.hid hK
    have HS := Lib.hid hS
    have hpl := HPl.out _ _ hx
    have hfl := fiL_len q pre
    have HSn := Lib.hid (fiL_snoc q pre x)
    have HC := Lib.hid (HCl.out x Wb hS.frm.below)
    obtain ⟨y, hy⟩ : ∃ y, y = q x := ⟨_, rfl⟩
    rw [← hy] at HSn HC
    obtain ⟨Y, hY⟩ : ∃ Y, Y = fiL q pre := ⟨_, rfl⟩
    rw [← hY] at HSn hfl HS
    obtain ⟨n, hn⟩ : ∃ n, n = Y.length := ⟨_, rfl⟩
    rw [← hn] at hfl HS
    have HN := Lib.hid hn
    have co : _ = some v := (HS.out.blk 4 rfl).cell 0 rfl
    have cf : _ = some (Value.func (.func 10) #[] #[.pointer (some ⟨k, 0, none⟩)]) := (HS.out.blk 5 rfl).cell 0 rfl
    clear hK hS hx hfr hF hy hY hn
    gi_wp2_with fail
    refine HKx.out _ ?_
    clear HKx
    gi_wp2_with fail
    refine ⟨trivial, (CallsIn.inRound lb (callsIn_wide.2 HC.out)).mono ?_⟩
    rintro e w3 ⟨rfl, rfl⟩
    cases y
    · gi_wp2_with (gi_at_builtin; refine wpListIn_append_sep rfl _ _ 24 rfl 3 22 i0 (.int .u16 0) 2 Tryd.underlying24 hi hz0 hz1 hz2 rfl _ _ _ rfl (HS.out.skip _) rfl _ 1 (.int .u16 (adN b x : Int)) rfl (World.cell?_alloc_at _ _ _ _ rfl) rfl (by unfold maxLen; omega) (by omega) ?_; intro g4 c4 w4 hS4 hsz4; have f4 := (hS4.blk 4 rfl).free 0; have c5 : _ = some v := (hS4.blk 4 rfl).cell 0 rfl; have HS4 := Lib.hid hS4; clear hS4)
      have h5 := HS4.out.put 4 rfl 0 (.slice (some ⟨g4, 0, none⟩) (n + 1) c4)
      refine ⟨kpF_of (by have := hsz4; simp at this ⊢; omega) h5, .slice (some ⟨g4, 0, none⟩) (n + 1) c4, ?_⟩
      rw [HSn.out, show ∀ (p : Prop) (h : Decidable p), ¬ p → (if p then ([] : List Nat) else [x]) = [x] from fun p h hp => if_neg hp, List.length_append, List.map_append, ← HN.out]
      · exact h5.pin
      · first | exact not_false | decide
    · gi_wp2_with fail
      refine ⟨kpF_of (Nat.le_refl _) HS.out, v, ?_⟩
      rw [HSn.out, show ∀ (p : Prop) (h : Decidable p), p → (if p then ([] : List Nat) else [x]) = [] from fun p h hp => if_pos hp, List.append_nil, ← HN.out]
      · exact HS.out.pin
      · first | exact trivial | rfl
  case done =>
    rintro D xs F W hD hDF _ rfl ⟨v, hS⟩ hK
    have HS := Lib.hid hS
    have HK := Lib.hid hK
    have co : _ = some v := (HS.out.blk 4 rfl).cell 0 rfl
    clear hS hK
    gi_wp2
    refine ⟨by simp, .inl ⟨_, _, rfl, run_takeDeferred HK.out, ?_⟩⟩
    refine ⟨_, results_tmp rfl _ _ _, _, rfl, ?_⟩
    have h := (bears_sep (S := []) (w0 := w) [] (fun _ : Unit => [blkR (r + 1) 27 #[.int .u64 (h : Int), .int .u64 (l : Int)], blkR r 22 #[.int .u16 (b : Int)], ownR 22 1 v (fiL q xs).length ((fiL q xs).map (encU b)), blkR (o + 1 + 1) 24 #[v], blkR (o + 1) 31 #[.func (.func 10) #[] #[.pointer (some ⟨k, 0, none⟩)]]])).put () F W _ D HS.out hDF (by simp) (grownBy_putObj' W D (.deferred none))
    exact h.only 3 rfl

end Go.Proofs.YtibccecmicndaaaDoor
