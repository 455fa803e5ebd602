/-
  THE WALKS of mask.Bits, slices.AppendSeq, slices.Collect, mask.List.
-/
import Derived.Test.YtlkhjffbhcjdfaaDoorMaI
import Derived.Test.YtlkhjffbhcjdfaaDoorSpi
import Derived.Test.YtlkhjffbhcjdfaaDoorCel
set_option linter.unusedVariables false
set_option linter.unusedSimpArgs false
namespace Go.Proofs.YtlkhjffbhcjdfaaDoor
open Go.RowKit Go.Maps Go.Shelf
attribute [local go_sem] Oper.semAt_some

def encI (x : Nat) : Value := .int .i64 x
theorem own_nil1 (w : World) (e : TypeId) : w.ownsRow 0 e 1 (.slice none 0 0) 0 [] := ⟨by simp, .inl ⟨rfl, rfl⟩⟩
theorem info_int : (Tryd.prog.info? 3).map (fun i => (i.zero, i.size, i.bytes)) = some (some (.int .i64 0), 1, 8) := by kernel_rfl
theorem own_cases {w : World} {base e size : Nat} {v : Value} {n : Nat} {xs : List Value} (h : w.ownsRow base e size v n xs) : ∃ a c, v = .slice a n c ∧ (a = none → c = 0) := by
  rcases h.2 with ⟨rfl, h0⟩ | ⟨g, c, cur, rfl, _, _, hc, _⟩
  · exact ⟨none, 0, by rw [h0], fun _ => rfl⟩
  · exact ⟨_, c, rfl, fun h => by cases h⟩
theorem bears_ex {α β : Type} {F0 : List Nat} {J : α → β → List Nat → World → Prop} (h : ∀ v, Bears F0 (J v)) : Bears F0 (fun b F W => ∃ v, J v b F W) :=
  ⟨fun b F X Y ⟨v, hj⟩ hg => ⟨v, (h v).grow _ _ _ _ hj hg⟩, fun b F X Y m ⟨v, hj⟩ hg h1 h2 => ⟨v, (h v).more _ _ _ _ _ hj hg h1 h2⟩, fun b F X Y m ⟨v, hj⟩ hm h0 hg => ⟨v, (h v).put _ _ _ _ _ hj hm h0 hg⟩⟩
theorem pre_len {pre : List Nat} {x h l : Nat} (e : (pre ++ [x]) <+: bitsOf h l) : pre.length + 1 ≤ 128 := by
  have h1 := e.length_le
  have h2 : (bitsOf h l).length ≤ 128 := by unfold bitsOf; exact Nat.le_trans (List.length_filter_le _ _) (by simp)
  simp at h1
  omega

set_option maxHeartbeats 1000000 in
theorem bits_c (h l : Nat) (w : World) :
    Calls Tryd.prog 37 #[mV h l] w fun e w' => e = .returned (.func (.func 46) #[] #[.pointer (some ⟨w.heap.size, 0, none⟩)]) ∧ w' = w.alloc (.cells #[.int .u64 (h : Int), .int .u64 (l : Int)] 26) := by
  unfold mV
  go_enter Tryd.func37, Tryd.ntmps37
  go_wp2_with fail
  go_ret
  exact ⟨rfl, rfl⟩

set_option maxRecDepth 100000 in
set_option maxHeartbeats 4000000 in
theorem appseq_c (p h l : Nat) (w : World) (h0 : h < 18446744073709551616) (h1 : l < 18446744073709551616) (hp : p < w.heap.size) (hc0 : w.cell? ⟨p, 0, none⟩ = some (.int .u64 (h : Int))) (hc1 : w.cell? ⟨p, 1, none⟩ = some (.int .u64 (l : Int))) :
    Calls Tryd.prog 48 #[.slice none 0 0, .func (.func 46) #[] #[.pointer (some ⟨p, 0, none⟩)]] w fun e w' => ∃ v, e = .returned v ∧ Sep [] w w' [ownR 3 1 v (bitsOf h l).length ((bitsOf h l).map encI)] := by
  obtain ⟨i0, hi, hz0, hz1, hz2⟩ := info_parts info_int
  have HP := Lib.hid (fun W (hb : Below w.heap.size w W) => (show W.cell? ⟨p, 0, none⟩ = some (.int .u64 (h : Int)) ∧ W.cell? ⟨p, 1, none⟩ = some (.int .u64 (l : Int)) from ⟨(hb.cell (p := ⟨p, 0, none⟩) hp).trans hc0, (hb.cell (p := ⟨p, 1, none⟩) hp).trans hc1⟩))
  have HSq := Lib.hid (fun W => bits_seq 6 (by omega) p h l h0 h1 W)
  have HS0 := Lib.hid (((Sep.init w).alloc #[.slice none 0 0] 23).add (Frm.refl _ _) (r := ownR 3 1 (.slice none 0 0) 0 []) (own_nil1 _ _) (by simp [ownR, Value.ownBlock]))
  obtain ⟨R, hR⟩ : ∃ R, R = bitsOf h l := ⟨_, rfl⟩
  have HPl := Lib.hid (fun (pre : List Nat) (x : Nat) (hx : (pre ++ [x]) <+: bitsOf h l) => pre_len hx)
  rw [← hR] at HSq HPl ⊢
  clear hc0 hc1 hp hR h0 h1
  refine (callsIn_wide (n := 7)).1 ?_
  refine callsIn_of_wp_marks Tryd.func48 rfl trivial ?_ rfl
  simp only [Tryd.ntmps48, List.size_toArray, List.length_cons, List.length_nil, Nat.reduceAdd, Nat.reduceSub, Array.replicate_succ, Array.replicate_zero, List.push_toArray, List.append_toArray, List.nil_append, List.cons_append]
  gi_wp2_with fail
  obtain ⟨w1, hw1⟩ : ∃ w1, w1 = w.alloc (.cells #[.slice none 0 0] 23) := ⟨_, rfl⟩
  obtain ⟨o, ho⟩ : ∃ o, o = w.heap.size := ⟨_, rfl⟩
  rw [← hw1, ← ho] at HS0
  rw [← hw1, ← ho]
  clear hw1 ho
  have hfr := HS0.out.frm
  refine range_f (n := 7) (by omega) (gf := 46) (lb := _) rfl (enters_of Tryd.func46 (by kernel_rfl) rfl) (HSq.out w1) (Below.refl _ _) (fun _ => rfl) (fun _ _ _ _ _ _ h => h) [] (by simp)
    (fun pre F W => ∃ v, Sep [] w W (frgR F W :: [ownR 3 1 v pre.length (pre.map encI), blkR o 23 #[v]]))
    (fun _ _ _ _ => False) (bears_ex fun v => bears_sep [] _) (fun _ => ⟨fun _ _ _ _ h _ => h, fun _ _ _ _ _ h _ _ _ => h, fun _ _ _ _ _ h _ _ _ => h⟩) ?hQ ?h0 ?round ?done (fun _ _ _ _ _ _ _ _ _ h => h.elim)
  case hQ =>
    rintro pre F W ⟨v, hS⟩
    exact HP.out W hS.frm.below
  case h0 =>
    exact ⟨_, HS0.out.add (r := frgR [] w1) (Frm.refl _ _) (by intro k hk; cases hk) (by simp [frgR])⟩
  case round =>
    rintro l pre F x W Wb K ⟨v, hS⟩ _ hx hK
    have HKx := Lib.hid hK
    have HS := Lib.hid hS
    have hpl := HPl.out _ _ hx
    have co : _ = some v := (HS.out.blk 2 rfl).cell 0 rfl
    clear hK hS hx hfr
    gi_wp2_with fail
    refine HKx.out _ ?_
    clear HKx
    gi_wp2_with (gi_at_builtin; refine wpListIn_append_sep rfl _ _ 23 rfl 1 3 i0 (.int .i64 0) 8 Tryd.underlying23 hi hz0 hz1 hz2 rfl _ _ _ rfl (HS.out.skip _) rfl _ 1 (.int .i64 x) rfl (World.cell?_alloc_at _ _ _ _ rfl) rfl (by unfold maxLen; omega) (by omega) ?_; intro g4 c4 w4 hS4 hsz4; have f4 := (hS4.blk 2 rfl).free 0; have c5 : _ = some v := (hS4.blk 2 rfl).cell 0 rfl; have HS4 := Lib.hid hS4; clear hS4)
    have h5 := HS4.out.put 2 rfl 0 (.slice (some ⟨g4, 0, none⟩) (pre.length + 1) c4)
    refine ⟨kpF_of (by have := hsz4; simp at this ⊢; omega) h5, .slice (some ⟨g4, 0, none⟩) (pre.length + 1) c4, ?_⟩
    rw [List.length_append, List.map_append]
    exact h5.pin
  case done =>
    rintro D xs F W hD hDF _ rfl ⟨v, hS⟩ hK
    have HS := Lib.hid hS
    have HK := Lib.hid hK
    have co : _ = some v := (HS.out.blk 2 rfl).cell 0 rfl
    clear hS hK
    gi_wp2
    refine ⟨by simp, .inl ⟨_, _, rfl, run_takeDeferred HK.out, ?_⟩⟩
    refine ⟨_, results_tmp rfl _ _ _, _, rfl, ?_⟩
    have h := (bears_sep (S := []) (w0 := w) [] (fun _ : Unit => [ownR 3 1 v xs.length (xs.map encI), blkR o 23 #[v]])).put () F W _ D HS.out hDF (by simp) (grownBy_putObj' W D (.deferred none))
    exact h.only 1 rfl

set_option maxRecDepth 100000 in
set_option maxHeartbeats 2000000 in
theorem collect_c (p h l : Nat) (w : World) (h0 : h < 18446744073709551616) (h1 : l < 18446744073709551616) (hp : p < w.heap.size) (hc0 : w.cell? ⟨p, 0, none⟩ = some (.int .u64 (h : Int))) (hc1 : w.cell? ⟨p, 1, none⟩ = some (.int .u64 (l : Int))) :
    Calls Tryd.prog 43 #[.func (.func 46) #[] #[.pointer (some ⟨p, 0, none⟩)]] w fun e w' => ∃ v, e = .returned v ∧ Sep [] w w' [ownR 3 1 v (bitsOf h l).length ((bitsOf h l).map encI)] := by
  have HC := Lib.hid (appseq_c p h l w h0 h1 hp hc0 hc1)
  obtain ⟨R, hR⟩ : ∃ R, R = bitsOf h l := ⟨_, rfl⟩
  rw [← hR] at HC ⊢
  clear hR h0 h1 hp hc0 hc1
  go_enter Tryd.func43, Tryd.ntmps43
  go_wp2_with fail
  refine HC.out.mono ?_
  rintro e w' ⟨v, rfl, hS⟩
  have HS := Lib.hid hS
  clear hS
  go_wp2_with fail
  go_ret
  exact ⟨v, rfl, HS.out⟩

set_option maxRecDepth 100000 in
set_option maxHeartbeats 2000000 in
theorem list_c (h l : Nat) (w : World) (h0 : h < 18446744073709551616) (h1 : l < 18446744073709551616) :
    Calls Tryd.prog 21 #[mV h l] w fun e w' => ∃ a c, e = .returned (.slice a (bitsOf h l).length c) ∧ Sep [] w w' [ownR 3 1 (.slice a (bitsOf h l).length c) (bitsOf h l).length ((bitsOf h l).map encI)] := by
  have HB := Lib.hid (fun W => bits_c h l W)
  have HC := Lib.hid (fun p W => collect_c p h l W h0 h1)
  have HS0 := Lib.hid ((Sep.init w).alloc #[.int .u64 (h : Int), .int .u64 (l : Int)] 26)
  obtain ⟨R, hR⟩ : ∃ R, R = bitsOf h l := ⟨_, rfl⟩
  rw [← hR] at HC ⊢
  clear hR h0 h1
  unfold mV at *
  go_enter Tryd.func21, Tryd.ntmps21
  obtain ⟨w1, hw1⟩ : ∃ w1, w1 = w.alloc (.cells #[.int .u64 (h : Int), .int .u64 (l : Int)] 26) := ⟨_, rfl⟩
  rw [← hw1] at HS0
  have HW := Lib.hid hw1
  have c0 := (HS0.out.blk 0 rfl).cell 0 rfl
  have c1 := (HS0.out.blk 0 rfl).cell 1 rfl
  clear hw1
  go_upto_region 1 with fail
  rw [← HW.out]
  clear HW
  go_wp2_with fail
  refine (HB.out _).mono ?_
  rintro e w' ⟨rfl, rfl⟩
  have HS1 := Lib.hid (HS0.out.alloc #[.int .u64 (h : Int), .int .u64 (l : Int)] 26)
  have hb := HS1.out.blk 0 rfl
  have hc := Lib.hid (HC.out w1.heap.size _ hb.lt (hb.cell 0 rfl) (hb.cell 1 rfl))
  clear hb HB HC c0 c1
  go_wp2_with fail
  refine hc.out.mono ?_
  rintro e w3 ⟨v, rfl, hS⟩
  obtain ⟨a, c, rfl, _⟩ := own_cases (hS.own 0 rfl)
  have h9 := (HS1.out.frm.trans hS.frm)
  have hS2 : Sep [] w w3 [ownR 3 1 (.slice a R.length c) R.length (R.map encI)] := by
    refine ⟨h9, hS.holds, hS.apart, fun r hr k hk => ?_⟩
    rcases hS.mine r hr k hk with h | h
    · exact .inl h
    · exact .inr (Nat.le_trans HS1.out.frm.size h)
  have HS := Lib.hid hS2
  clear hS hS2 hc h9
  go_wp2_with fail
  go_ret
  exact ⟨a, c, rfl, HS.out⟩

end Go.Proofs.YtlkhjffbhcjdfaaDoor
