/-
  THE WALK of the law TableRanges.
-/
import Derived.Test.YthholboipbfklaaTaG
import Derived.Test.YthholboipbfklaaRq
import Derived.Sort.QuietIn
import Derived.Stop.RegionWithIn
import Derived.Sort.CutIn
set_option linter.unusedVariables false
set_option linter.unusedSimpArgs false
namespace Go.Proofs.Ythholboipbfklaa
open Go.RowKit Go.Shelf
attribute [local go_sem] Oper.semAt_some

/-- The last count that came. -/
def lst (pre : List (Nat × Int)) : Int := match pre.getLast? with | some y => y.2 | none => -1
theorem lst_snoc (pre : List (Nat × Int)) (x : Nat × Int) : lst (pre ++ [x]) = x.2 := by simp [lst]
theorem lst_rng {c : Nat → Int} (c0 : ∀ i, 0 ≤ c i) (m : Nat) : lst (rng c m) = lastOf c m := by
  induction m with
  | zero => rfl
  | succ m ih =>
    have e : lastOf c (m + 1) = c m := by unfold lastOf; rw [if_neg (by omega)]; rfl
    by_cases h : c m = lastOf c m
    · rw [rng_no c0 h, ih, e, h]
    · rw [rng_yes c0 h, lst_snoc, e]
theorem rng_at {c : Nat → Int} (c0 : ∀ i, 0 ≤ c i) {m : Nat} {pre : List (Nat × Int)} {x : Nat × Int} (h : (pre ++ [x]) <+: rng c m) : ∃ l, l < m ∧ x = (l, c l) ∧ pre = rng c l ∧ c l ≠ lastOf c l := by
  induction m with
  | zero => simp [rng] at h
  | succ m ih =>
    by_cases hc : c m = lastOf c m
    · rw [rng_no c0 hc] at h
      obtain ⟨l, h1, h2⟩ := ih h
      exact ⟨l, by omega, h2⟩
    · rw [rng_yes c0 hc] at h
      rcases List.prefix_concat_iff.1 h with h | h
      · obtain ⟨h1, h2⟩ := List.append_inj' h rfl
        simp at h2
        exact ⟨m, by omega, h2, h1, hc⟩
      · obtain ⟨l, h1, h2⟩ := ih h
        exact ⟨l, by omega, h2⟩
theorem rng_len (c : Nat → Int) (m : Nat) : (rng c m).length ≤ m := by
  induction m with
  | zero => simp [rng]
  | succ m ih => rw [rng]; split <;> simp <;> omega
theorem rng_some (c : Nat → Int) (m : Nat) : 0 < (rng c (m + 1)).length ∧ (rng c (m + 1)).length ≤ m + 1 := by
  refine ⟨?_, rng_len c _⟩
  induction m with
  | zero => simp [rng]
  | succ m ih => rw [rng]; simp; omega
theorem lastOf_le {kind k : Int} (l : Nat) : lastOf (cnt kind k) l ≤ cnt kind k l := by
  unfold lastOf
  split
  · have := (tcount_bd kind l k).1
    unfold cnt; omega
  · exact tcount_mono kind k (by omega)

/-- What stands in memory behind the values pre. -/
structure TrI (w : World) (g h M : Nat) (kind k : Int) (pre : List (Nat × Int)) (W : World) : Prop where
  sep : Sep [] w W [blkR (h + 1) 3 #[.int .i64 pre.length], blkR h 3 #[.int .i64 (lst pre)], blkR (g + 1 + 1 + 1) 4 #[.bool false], blkR (g + 1 + 1) 3 #[.int .i64 (1 + (M : Int))], blkR (g + 1) 3 #[.int .i64 k], blkR g 3 #[.int .i64 kind]]
theorem TrI.abides {w X Y : World} {g h M : Nat} {kind k : Int} {pre : List (Nat × Int)} {row : Option Nat} (hS : TrI w g h M kind k pre X) (hg : X.grownBy Y row) (hr : ∀ r, row = some r → w.heap.size ≤ r ∧ ∃ o : Obj, X.heap[r]? = some o ∧ o.isCells = false) : TrI w g h M kind k pre Y := by
  refine ⟨hS.sep.abides hg hr (fun r hrr => ?_)⟩
  simp at hrr
  rcases hrr with rfl | rfl | rfl | rfl | rfl | rfl
  · exact blk_cells (hS.sep.blk 0 rfl)
  · exact blk_cells (hS.sep.blk 1 rfl)
  · exact blk_cells (hS.sep.blk 2 rfl)
  · exact blk_cells (hS.sep.blk 3 rfl)
  · exact blk_cells (hS.sep.blk 4 rfl)
  · exact blk_cells (hS.sep.blk 5 rfl)

theorem results_cell1 {P : Program} {fn : Func} {p : Tmp} {ty : TypeId} (h : fn.results = #[.cell p ty]) (tmps : Array Value) (w : World) (g : Nat) (v : Value)
    (hp : tmps.getD p undef = .pointer (some ⟨g, 0, none⟩)) (hl : (loadVar ty ⟨g, 0, none⟩).run P w = .ok v w) : (results fn tmps).run P w = .ok v w := by
  have hp' : tmps[p]?.getD undef = .pointer (some ⟨g, 0, none⟩) := by simpa using hp
  simp [results, h, hp', asAddr, hl]
theorem load_bool (w : World) (g : Nat) (b : Bool) (h : w.cell? ⟨g, 0, none⟩ = some (.bool b)) : (loadVar 4 ⟨g, 0, none⟩).run Try.prog w = .ok (.bool b) w := by
  simp [loadVar, go_sem, h]
theorem no_cells {W : World} {D g : Nat} {t : TypeId} {cs : Array Value} {x : Option (List Deferred)} (hK : W.heap[D]? = some (.deferred x)) (hb : Blk W g t cs) (e : D = g) : False := by
  subst e
  unfold Blk at hb
  rw [hK] at hb
  cases hb
theorem ranges_end {w W : World} {g D : Nat} {L : List Res} {t : TypeId} {tmps : Array Value} {fn : Func}
    (hr : fn.results = #[.cell 6 4]) (hK : W.heap[D]? = some (.deferred (some []))) (hS : Sep [] w W L) (hi : L[2]? = some (blkR g t #[.bool true])) (hD : w.heap.size ≤ D)
    (hp : tmps.getD 6 undef = .pointer (some ⟨g, 0, none⟩)) :
    bodyPostM Fence.wide 6 Try.prog fn (fun e w' => e = Ending.returned (Value.bool true) ∧ Below w.heap.size w w') Exit.ret { tmps := tmps, defers := [{ target := Target.collected D, args := #[] }] } W := by
  have hgD : g ≠ D := fun e => by
    subst e
    have := hS.blk 2 hi
    unfold Blk at this
    rw [hK] at this
    cases this
  refine ⟨by simp, .inl ⟨_, _, rfl, run_takeDeferred hK, ?_⟩⟩
  have hb : Blk (W.putObj D (.deferred none)) g t #[.bool true] := (World.putObj_heap_other (fun e => hgD e)).trans (hS.blk 2 hi)
  refine ⟨_, results_cell1 hr _ _ g (.bool true) hp (load_bool _ _ _ (hb.cell 0 rfl)), rfl, ?_⟩
  have hf := (hS.only 2 hi).abides (grownBy_putObj' W D (.deferred none)) (fun r e => by cases e; exact ⟨hD, _, hK, rfl⟩) (fun r hr => by simp at hr; subst hr; exact blk_cells (hS.blk 2 hi))
  exact hf.frm.below

set_option maxRecDepth 100000 in
set_option maxHeartbeats 8000000 in
theorem tableRanges_w (w : World) (kind : Int) (wkd : (Lit.int .i64 kind).wf = true) (k : Int) (wk : (Lit.int .i64 k).wf = true) (most : Int) (wm : (Lit.int .i64 most).wf = true) :
    Calls Try.prog 5 #[.int .i64 kind, .int .i64 k, .int .i64 most] w fun e w' => e = .returned (.bool true) ∧ Below w.heap.size w w' := by
  obtain ⟨M', hM'⟩ : ∃ z, bits .and .i64 most 63 = z := ⟨_, rfl⟩
  have hMb := and_i64 most 63 (by omega) (by omega)
  rw [hM'] at hMb
  obtain ⟨M, hM⟩ : ∃ M : Nat, M' = (M : Int) := ⟨M'.toNat, by omega⟩
  subst hM
  obtain ⟨m0, m1⟩ := hMb
  clear wkd wk wm
  have HS0 := Lib.hid (((((Sep.init w).alloc #[.int .i64 kind] 3).alloc #[.int .i64 k] 3).alloc #[.int .i64 most] 3).alloc #[.bool false] 4)
  simp only [World.size_alloc] at HS0
  obtain ⟨g, hg⟩ : ∃ g, g = w.heap.size := ⟨_, rfl⟩
  obtain ⟨w0, hw0⟩ : ∃ w0, w0 = (((w.alloc (.cells #[.int .i64 kind] 3)).alloc (.cells #[.int .i64 k] 3)).alloc (.cells #[.int .i64 most] 3)).alloc (.cells #[.bool false] 4) := ⟨_, rfl⟩
  rw [← hg, ← hw0] at HS0
  refine (callsIn_wide (n := 6)).1 ?_
  refine callsIn_of_wp_marks Try.func5 rfl trivial ?_ rfl
  simp only [Try.ntmps5, List.size_toArray, List.length_cons, List.length_nil, Nat.reduceAdd, Nat.reduceSub, Array.replicate_succ, Array.replicate_zero, List.push_toArray, List.append_toArray, List.nil_append, List.cons_append]
  gi_wp2_with fail
  rw [← hg, ← hw0]
  clear hg hw0
  refine ⟨trivial, (callsIn_wide.2 (alive_c w0)).mono ?_⟩
  rintro e w1 ⟨rfl, hf⟩
  have HS1 := Lib.hid (HS0.out.keep hf)
  have cm := (HS1.out.blk 1 rfl).cell 0 rfl
  have cf := (HS1.out.blk 1 rfl).free 0
  have ck := (HS1.out.blk 2 rfl).cell 0 rfl
  have ckd := (HS1.out.blk 3 rfl).cell 0 rfl
  clear hf
  gi_upto_region 5 with fail
  have HS2 := Lib.hid (((HS1.out.put 1 rfl 0 (.int .i64 (1 + (M : Int)))).alloc #[.int .i64 (-1)] 3).alloc #[.int .i64 0] 3)
  obtain ⟨h, hh⟩ : ∃ h, h = w1.heap.size := ⟨_, rfl⟩
  obtain ⟨w2, hw2⟩ : ∃ w2, w2 = ((w1.setCell ⟨g + 1 + 1, 0, none⟩ (.int .i64 (1 + (M : Int)))).alloc (.cells #[.int .i64 (-1)] 3)).alloc (.cells #[.int .i64 0] 3) := ⟨_, rfl⟩
  simp only [World.size_alloc, World.size_setCell] at HS2
  rw [← hw2, ← hh] at HS2
  rw [← hw2, ← hh]
  clear cm cf ck ckd hw2 hh
  have ck := (HS2.out.blk 4 rfl).cell 0 rfl
  have ckd := (HS2.out.blk 5 rfl).cell 0 rfl
  gi_wp2_with fail
  clear ck ckd
  refine ⟨trivial, (callsIn_wide.2 (ranges_c kind k _)).mono ?_⟩
  rintro e w3 ⟨rfl, rfl⟩
  have HSq := Lib.hid (ranges_seq2 5 (by omega) kind k w2)
  have HS3 := Lib.hid ((HS2.out.skip (.cells #[.int .i64 kind] 3)).skip (.cells #[.int .i64 k] 3))
  gi_wp2_with fail
  obtain ⟨w3, hw3⟩ : ∃ w3, w3 = (w2.alloc (.cells #[.int .i64 kind] 3)).alloc (.cells #[.int .i64 k] 3) := ⟨_, rfl⟩
  rw [← hw3] at HSq
  rw [← hw3] at HS3
  rw [← hw3]
  clear hw3 HS2 HS1 HS0
  have z0 := HS3.out.lt 0 rfl (h + 1) (by simp [blkR])
  have z1 := HS3.out.lt 1 rfl h (by simp [blkR])
  have z2 := HS3.out.lt 2 rfl (g + 1 + 1 + 1) (by simp [blkR])
  have hws := HS3.out.frm.size
  obtain ⟨c, hc⟩ : ∃ c, c = cnt kind k := ⟨_, rfl⟩
  have HC := Lib.hid hc
  rw [← hc] at HSq
  clear hc
  have c0 : ∀ i, 0 ≤ c i := fun i => by rw [HC.out]; exact (tcount_bd _ _ _).1
  obtain ⟨R, hR⟩ : ∃ R, R = rng c 256 := ⟨_, rfl⟩
  have HAt := Lib.hid (show ∀ (pre : List (Nat × Int)) (x : Nat × Int), (pre ++ [x]) <+: R → ∃ l, l < 256 ∧ x = (l, c l) ∧ pre = rng c l ∧ c l ≠ lastOf c l from fun pre x h => rng_at c0 (hR ▸ h))
  have HRn := Lib.hid (show 0 < R.length ∧ R.length ≤ 256 from hR ▸ rng_some c 255)
  have HRl := Lib.hid (show lst R = tcount kind 255 k by rw [hR, lst_rng c0, HC.out]; rfl)
  rw [← hR] at HSq
  clear hR
  refine range_g (n := 6) (by omega) (gf := 20) (lb := _) rfl (enters_of Try.func20 (by kernel_rfl) rfl) HSq.out (fun _ _ => trivial) (fun _ _ _ _ _ _ _ _ => trivial) (Below.refl _ _) (fun _ => rfl) (fun _ _ _ _ _ _ _ _ _ _ h => h)
    (fun pre _ W => TrI w g h M kind k pre W) (fun cd pre W => cd = .exit 0 ∧ pre.length = 1 + M ∧ TrI w g h M kind k pre W) ?hI ?hIx ?h0 ?round ?done ?stop
  case hI =>
    rintro pre B X Y row hS hg hr
    exact hS.abides hg (fun r e => ⟨by have := (hr r e).1; omega, (hr r e).2⟩)
  case hIx =>
    rintro cd pre X Y row ⟨h1, h2, hS⟩ hg hr
    exact ⟨h1, h2, hS.abides hg (fun r e => ⟨by have := (hr r e).1; omega, (hr r e).2⟩)⟩
  case h0 => exact ⟨HS3.out⟩
  case round =>
    rintro l pre B x W Wb K hS hx hK
    have HKx := Lib.hid hK
    have HX := Lib.hid hx
    have HS := Lib.hid hS.1
    clear hK hx hS
    gi_wp2
    refine HKx.out _ ?_
    clear HKx
    obtain ⟨L, hL, rfl, rfl, hne⟩ := HAt.out _ _ HX.out
    have hp := lst_rng c0 L
    obtain ⟨v, hv⟩ : ∃ v, v = c L := ⟨_, rfl⟩
    have HN := Lib.hid (lst_snoc (rng c L) (L, v))
    obtain ⟨p, hpe⟩ : ∃ p, p = lst (rng c L) := ⟨_, rfl⟩
    obtain ⟨n, hn⟩ : ∃ n, n = (rng c L).length := ⟨_, rfl⟩
    have e1 : decide (v ≤ p) = false := by
      rw [decide_eq_false_iff_not, hv, hpe, hp]
      have := lastOf_le (kind := kind) (k := k) L
      rw [← HC.out] at this
      omega
    have e2 : (tcount kind L k != v) = false := by rw [hv, HC.out]; simp [cnt]
    have hcase : (L = 0 ∧ p = -1 ∧ (tcount kind 0 k != v) = false) ∨ (decide (0 < L) = true ∧ ((L : Int) == 0) = false ∧ (tcount kind ((L : Int) - 1) k != p) = false ∧ IntKind.i64.wrap ((L : Int) - 1) = (L : Int) - 1) := by
      by_cases h0 : L = 0
      · subst h0; exact .inl ⟨rfl, by rw [hpe, hp]; rfl, e2⟩
      · refine .inr ⟨by rw [decide_eq_true_iff]; omega, by rw [beq_eq_false_iff_ne]; omega, ?_, IntWalk.i64_in _ (by omega)⟩
        rw [hpe, hp, HC.out]
        unfold lastOf cnt
        rw [if_neg h0, show ((L - 1 : Nat) : Int) = (L : Int) - 1 from by omega]
        simp
    have hlen : n + 1 = (rng c L ++ [(L, v)]).length := by rw [hn]; simp
    rw [← hpe, ← hn] at HS
    have HLen := Lib.hid hlen
    have hnb : n ≤ 256 := by have := rng_len c L; omega
    have cs7 := (HS.out.blk 1 rfl).cell 0 rfl
    have cs3 := (HS.out.blk 5 rfl).cell 0 rfl
    have cs4 := (HS.out.blk 4 rfl).cell 0 rfl
    dsimp only
    rw [← hv]
    have HV := Lib.hid hv
    clear hp hv hpe hn hne HX hlen
    have hgo : ∀ W' : World, Sep [] w W' [blkR (h + 1) 3 #[.int .i64 ((n : Int) + 1)], blkR h 3 #[.int .i64 v], blkR (g + 1 + 1 + 1) 4 #[.bool false], blkR (g + 1 + 1) 3 #[.int .i64 (1 + (M : Int))], blkR (g + 1) 3 #[.int .i64 k], blkR g 3 #[.int .i64 kind]] → TrI w g h M kind k (rng c L ++ [(L, v)]) W' := fun W' hW' => by
      refine ⟨?_⟩
      rw [← HLen.out, HN.out]
      exact hW'
    have HGo := Lib.hid hgo
    clear hgo
    rcases hcase with ⟨rfl, rfl, e6⟩ | ⟨e3, e4, e5, e6⟩
    all_goals
      gi_wp2_with fail
      refine region_round_quiet (by kernel_rfl) (by kernel_rfl) ?_
      repeat (go_big_quiet_step ((exact Calls.quiet_of_same (same_of (tcount_c _ _ _ _)))))
      refine wpQuiet_nil ?_
      intro _ hw'
      obtain ⟨nq, hw''⟩ := hw'
      subst hw''
      have HS7 := Lib.hid (HS.out.drewN nq)
      obtain ⟨w7, hw7⟩ : ∃ w7, w7 = Wb.drewN nq := ⟨_, rfl⟩
      have HK7 := Lib.hid (show KeepsFrom w3.heap.size Wb w7 from hw7 ▸ KeepsFrom.of_grownBy (grown_drewN (grown_refl Wb none) nq) (fun j e => by cases e))
      rw [← hw7] at HS7 ⊢
      clear cs7 cs3 cs4 HS hw7 e6
      have p7 := (HS7.out.blk 1 rfl).cell 0 rfl
      have f7 := (HS7.out.blk 1 rfl).free 0
      have HS8 := Lib.hid (HS7.out.put 1 rfl 0 (.int .i64 v))
      have HK8 := Lib.hid (HK7.out.trans (KeepsFrom.of_grownBy (grown_put (grown_refl w7 (some h)) 0 (.int .i64 v)) (fun j e => by cases e; omega)))
      gi_upto_region 11 with fail
      obtain ⟨w8, hw8⟩ : ∃ w8, w8 = w7.setCell ⟨h, 0, none⟩ (.int .i64 v) := ⟨_, rfl⟩
      rw [← hw8] at HS8 HK8 ⊢
      clear p7 f7 hw8 HS7 HK7
      have p8 := (HS8.out.blk 0 rfl).cell 0 rfl
      have f8 := (HS8.out.blk 0 rfl).free 0
      have HS9 := Lib.hid (HS8.out.put 0 rfl 0 (.int .i64 ((n : Int) + 1)))
      have HK9 := Lib.hid (HK8.out.trans (KeepsFrom.of_grownBy (grown_put (grown_refl w8 (some (h + 1))) 0 (.int .i64 ((n : Int) + 1))) (fun j e => by cases e; omega)))
      gi_upto_region 12 with fail
      obtain ⟨w9, hw9⟩ : ∃ w9, w9 = w8.setCell ⟨h + 1, 0, none⟩ (.int .i64 ((n : Int) + 1)) := ⟨_, rfl⟩
      rw [← hw9] at HS9 HK9 ⊢
      clear p8 f8 hw9 HS8 HK8
      have p9 := (HS9.out.blk 0 rfl).cell 0 rfl
      have q9 := (HS9.out.blk 3 rfl).cell 0 rfl
      by_cases hm : n = M
      · subst hm
        have b9 : ((n : Int) + 1 == 1 + (n : Int)) = true := by rw [beq_iff_eq]; omega
        gi_wp2_with fail
        exact ⟨HK9.out, rfl, by rw [← HLen.out]; omega, HGo.out _ HS9.out⟩
      · have b9 : ((n : Int) + 1 == 1 + (M : Int)) = false := by rw [beq_eq_false_iff_ne]; omega
        gi_wp2_with fail
        exact ⟨HK9.out, trivial, HGo.out _ HS9.out⟩
  case done =>
    rintro D xs B W hD rfl hS hK
    have HS := Lib.hid hS.1
    have HK := Lib.hid hK
    have HN2 := Lib.hid (show (W.setCell ⟨g + 1 + 1 + 1, 0, none⟩ (.bool true)).heap[D]? = some (.deferred (some [])) from (Below.heap_setCell W _ _ D (fun e => no_cells HK.out (HS.out.blk 2 rfl) e)).trans HK.out)
    have cn := (HS.out.blk 0 rfl).cell 0 rfl
    have cl := (HS.out.blk 1 rfl).cell 0 rfl
    have cm := (HS.out.blk 3 rfl).cell 0 rfl
    have cr := (HS.out.blk 2 rfl).cell 0 rfl
    have fr := (HS.out.blk 2 rfl).free 0
    have ck := (HS.out.blk 4 rfl).cell 0 rfl
    have ckd := (HS.out.blk 5 rfl).cell 0 rfl
    obtain ⟨N, hN⟩ : ∃ N, N = xs.length := ⟨_, rfl⟩
    obtain ⟨p, hp⟩ : ∃ p, p = lst xs := ⟨_, rfl⟩
    rw [← hp, ← hN] at HS
    rw [← hN] at cn
    rw [← hp] at cl
    have b1 : (tcount kind 255 k == p) = true := by rw [hp, HRl.out]; simp
    have n1 : decide (0 < N) = true := by rw [decide_eq_true_iff, hN]; exact HRn.out.1
    have n2 : N ≤ 256 := by rw [hN]; exact HRn.out.2
    clear hS hK hN hp
    by_cases hm : N = 1 + M
    · have b0 : ((N : Int) == 1 + (M : Int)) = true := by rw [beq_iff_eq]; omega
      clear hm
      gi_wp2_with fail
      exact ranges_end rfl (HN2.out) (HS.out.put 2 rfl 0 (.bool true)) rfl (by omega) rfl
    · have b0 : ((N : Int) == 1 + (M : Int)) = false := by rw [beq_eq_false_iff_ne]; omega
      clear hm
      gi_wp2_with fail
      refine wpIn_wide.2 ?_
      refine region_tail 9 (by kernel_rfl) (by kernel_rfl) ?_
      simp only [List.take_succ_cons, List.take_zero, List.drop_succ_cons, List.drop_zero]
      repeat (first | still_step | still_call (same_of (tcount_c _ _ _ _)))
      refine wpStill_nil ?_
      change wpList _ _ _ _ _ W.drew
      go_wp2_with fail
      gi_wp2_with fail
      exact ranges_end rfl (HN2.out) (HS.out.put 2 rfl 0 (.bool true)).drew rfl (by omega) rfl
  case stop =>
    rintro D cd pre W hD hpre ⟨rfl, hlen, hS⟩ hK
    have HS := Lib.hid hS.1
    have HK := Lib.hid hK
    have HN2 := Lib.hid (show (W.setCell ⟨g + 1 + 1 + 1, 0, none⟩ (.bool true)).heap[D]? = some (.deferred (some [])) from (Below.heap_setCell W _ _ D (fun e => no_cells HK.out (HS.out.blk 2 rfl) e)).trans HK.out)
    have cn := (HS.out.blk 0 rfl).cell 0 rfl
    have cm := (HS.out.blk 3 rfl).cell 0 rfl
    have cr := (HS.out.blk 2 rfl).cell 0 rfl
    have fr := (HS.out.blk 2 rfl).free 0
    have b0 : ((pre.length : Int) == 1 + (M : Int)) = true := by rw [beq_iff_eq]; omega
    clear hS hK hlen
    gi_wp2_with fail
    exact ranges_end rfl (HN2.out) (HS.out.put 2 rfl 0 (.bool true)) rfl (by omega) rfl

end Go.Proofs.Ythholboipbfklaa
