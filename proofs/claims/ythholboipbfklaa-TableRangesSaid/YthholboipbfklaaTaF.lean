/-
  THE WALK of the document's example.
-/
import Derived.Test.YthholboipbfklaaTaE
set_option linter.unusedVariables false
set_option linter.unusedSimpArgs false
namespace Go.Proofs.Ythholboipbfklaa
open Go.RowKit Go.Shelf
attribute [local go_sem] Oper.semAt_some

theorem exRng : rng (cnt 0 2) 256 = [(0, 0), (1, 1), (103, 2)] := by decide +kernel
theorem exL1 : isLeast 0 10 2 21 true := .inl ⟨rfl, 21, by decide, rfl, by decide +kernel, by decide +kernel⟩
theorem exL2 : isLeast 0 3 4 0 false := .inr ⟨rfl, rfl, by decide +kernel⟩
theorem pre3 {α : Type} {a b c x : α} {pre : List α} (h : (pre ++ [x]) <+: [a, b, c]) : (pre = [] ∧ x = a) ∨ (pre = [a] ∧ x = b) ∨ (pre = [a, b] ∧ x = c) := by
  obtain ⟨t, ht⟩ := h
  match pre, ht with
  | [], ht => simp at ht; exact .inl ⟨rfl, ht.1⟩
  | [p], ht => simp at ht; exact .inr (.inl ⟨by rw [ht.1], ht.2.1⟩)
  | [p, q], ht => simp at ht; exact .inr (.inr ⟨by rw [ht.1, ht.2.1], ht.2.2.1⟩)
  | p :: q :: r :: s, ht => simp at ht
theorem store1 {S : List Nat} {w0 w : World} {g : Nat} {t : TypeId} {v : Value} {u y : Int} (h : Sep S w0 w [blkR g t #[v]]) (hu : u = y) : Sep S w0 (w.setCell ⟨g, 0, none⟩ (.int .i64 u)) [blkR g t #[.int .i64 y]] := hu ▸ h.put 0 rfl 0 _
def exN (pre : List (Nat × Int)) : Int := pre.foldl (fun a x => a * 1000 + x.1 * 10 + x.2) 0

set_option maxRecDepth 100000 in
set_option maxHeartbeats 8000000 in
theorem alive_c (w : World) : Calls Try.prog 7 #[] w fun e w' => e = .returned (.bool true) ∧ Frm [] w w' := by
  have hnl : ∀ (f : Fn) (x y : Array Value) (w : World), (binOp .eql 33 (.func f x y) .nilFunc).run Try.prog w = .ok (.bool false) w := fun _ _ _ _ => rfl
  refine (callsIn_wide (n := 6)).1 ?_
  refine callsIn_of_wp_marks Try.func7 rfl trivial ?_ rfl
  simp only [Try.ntmps7, List.size_toArray, List.length_cons, List.length_nil, Nat.reduceAdd, Nat.reduceSub, Array.replicate_succ, Array.replicate_zero, List.push_toArray, List.append_toArray, List.nil_append, List.cons_append]
  gi_wp2_with fail
  refine ⟨trivial, (callsIn_wide.2 (least_c 0 10 2 w)).mono ?_⟩
  rintro e w1 ⟨l, b, rfl, hl, hf⟩
  obtain ⟨rfl, rfl⟩ := hl.one exL1
  have HS1 := Lib.hid ((Sep.init w).keep hf)
  clear hf hl
  gi_wp2_with fail
  refine ⟨trivial, (callsIn_wide.2 (least_c 0 3 4 _)).mono ?_⟩
  rintro e w2 ⟨l, b, rfl, hl, hf⟩
  obtain ⟨rfl, rfl⟩ := hl.one exL2
  have HS2 := Lib.hid (((HS1.out.keep hf).alloc #[.int .i64 0] 3))
  clear hf hl HS1
  gi_wp2_with fail
  refine ⟨trivial, (callsIn_wide.2 (ranges_c 0 2 _)).mono ?_⟩
  rintro e w3 ⟨rfl, rfl⟩
  have hseq := ranges_seq2 5 (by omega) 0 2 (w2.alloc (.cells #[.int .i64 0] 3))
  rw [exRng] at hseq
  have HSq := Lib.hid hseq
  have HS3 := Lib.hid ((HS2.out.skip (.cells #[.int .i64 0] 3)).skip (.cells #[.int .i64 2] 3))
  clear hseq HS2
  gi_wp2_with fail
  obtain ⟨w3, hw3⟩ : ∃ w3, w3 = ((w2.alloc (.cells #[.int .i64 0] 3)).alloc (.cells #[.int .i64 0] 3)).alloc (.cells #[.int .i64 2] 3) := ⟨_, rfl⟩
  obtain ⟨g, hg⟩ : ∃ g, g = w2.heap.size := ⟨_, rfl⟩
  simp only [World.size_alloc] at HSq
  rw [← hw3, ← hg] at HSq
  rw [← hw3, ← hg] at HS3
  rw [← hw3, ← hg]
  have hsz : w3.heap.size = g + 3 := by rw [hw3, hg]; simp
  have hws := HS3.out.frm.size
  clear hw3 hg
  refine range_g (n := 6) (by omega) (gf := 20) (lb := _) rfl (enters_of Try.func20 (by kernel_rfl) rfl) HSq.out (fun _ _ => trivial) (fun _ _ _ _ _ _ _ _ => trivial) (Below.refl _ _) (fun _ => rfl) (fun _ _ _ _ _ _ _ _ _ _ h => h)
    (fun pre _ W => Sep [] w W [blkR g 3 #[.int .i64 (exN pre)]]) (fun _ _ _ => False) ?hI (fun _ _ _ _ _ h => h.elim) HS3.out ?round ?done (fun _ _ _ _ _ _ h => h.elim)
  case hI =>
    rintro pre B X Y row hS hg hr
    refine hS.abides hg (fun r e => ⟨by have := (hr r e).1; omega, (hr r e).2⟩) (fun r hrr => ?_)
    simp at hrr
    subst hrr
    exact blk_cells (hS.blk 0 rfl)
  case round =>
    rintro l pre B x W Wb K hS hx hK
    have HKx := Lib.hid hK
    have HX := Lib.hid hx
    have HS := Lib.hid hS
    clear hK hx hS
    gi_wp2
    refine HKx.out _ ?_
    clear HKx
    rcases pre3 HX.out with ⟨rfl, rfl⟩ | ⟨rfl, rfl⟩ | ⟨rfl, rfl⟩
    all_goals
      have cg := (HS.out.blk 0 rfl).cell 0 rfl
      have cf := (HS.out.blk 0 rfl).free 0
      clear HX
      gi_wp2
      refine ⟨KeepsFrom.of_grownBy (grown_put (grown_refl Wb (some g)) 0 _) (fun j e => by cases e; omega), trivial, ?_⟩
      exact store1 HS.out (by decide +kernel)
  case done =>
    rintro D xs B W hD rfl hS hK
    have HS := Lib.hid hS
    have HK := Lib.hid hK
    have cg := (HS.out.blk 0 rfl).cell 0 rfl
    clear hS hK
    have HF := Lib.hid (Frm.refl [] W)
    gi_wp2_with fail
    refine ⟨trivial, (callsIn_wide.2 (tcount_c 0 26 10 _)).mono ?_⟩
    rintro e w' ⟨rfl, rfl⟩
    rw [show tcount 0 26 10 = 2 from by decide]
    gi_wp2_with fail
    refine ⟨trivial, (callsIn_wide.2 (tcount_c 1 26 10 _)).mono ?_⟩
    rintro e w' ⟨rfl, rfl⟩
    rw [show tcount 1 26 10 = 2 from by decide]
    gi_wp2_with fail
    refine ⟨trivial, (callsIn_wide.2 (tcount_c 0 0 10 _)).mono ?_⟩
    rintro e w' ⟨rfl, rfl⟩
    rw [show tcount 0 0 10 = 0 from by decide]
    gi_wp2_with fail
    refine ⟨trivial, (callsIn_wide.2 (row_c 0 10 _)).mono ?_⟩
    rintro e w5 ⟨rfl, hf⟩
    have HS5 := Lib.hid (HS.out.keep hf)
    have HF5 := Lib.hid (HF.out.trans hf)
    obtain ⟨C, hC⟩ : ∃ C, C = arr fun l => tcount 0 l 10 := ⟨_, rfl⟩
    have hix : ∀ w, (Instr.index 26 (.agg C) (.int .i64 26)).run Try.prog w = .ok (.int .i64 2) w := fun w => by
      rw [hC]
      exact arr_index (fun l => tcount 0 l 10) 26 (by omega) w
    rw [← hC]
    clear hC hf cg
    gi_wp2_with fail
    refine ⟨trivial, (callsIn_wide.2 (table_c 1 _)).mono ?_⟩
    rintro e w6 ⟨a6, c6, rfl, _, hf⟩
    have HS6 := Lib.hid (HS5.out.keep hf)
    have HF6 := Lib.hid (HF5.out.trans hf)
    clear hf hix
    gi_wp2_with fail
    refine ⟨trivial, (callsIn_wide.2 (table_c 1 _)).mono ?_⟩
    rintro e w7 ⟨a7, c7, rfl, hrd, hf⟩
    have HS7 := Lib.hid (HS6.out.keep hf)
    have HF7 := Lib.hid (HF6.out.trans hf)
    obtain ⟨b7, o7, rfl, _, hc7⟩ := hrd 10 (arr fun l => tcount 1 l 10).toList (by simp [tblL])
    have hc8 := hc7 26 (.int .i64 2) (by rw [Array.getElem?_toList, arr_get _ 26 (by omega)]; rfl)
    have hc9 : w7.cell? ⟨b7, o7 + 2586, none⟩ = some (.int .i64 2) := hc8
    have hc10 : w7.cell? ⟨b7, o7 + 2560 + 26, none⟩ = some (.int .i64 2) := hc8
    clear hf hrd hc7 hc8
    gi_wp2_with fail
    clear hc9 hc10
    refine ⟨trivial, (callsIn_wide.2 (cost_c 0 26 10 _)).mono ?_⟩
    rintro e w' ⟨rfl, rfl⟩
    rw [show (if upTo 10 48 = 0 then 0 else tcount 0 26 10 * 100 / upTo 10 48) = 20 from by decide +kernel]
    have cg7 := (HS7.out.blk 0 rfl).cell 0 rfl
    rw [show exN [(0, 0), (1, 1), (103, 2)] = 12032 from by decide] at cg7
    gi_wp2_with fail
    have hK' : w7.heap[D]? = some (.deferred (some [])) := (HF7.out.block D (Array.getElem?_eq_some_iff.1 HK.out).1 (by simp)).trans HK.out
    refine ⟨by simp, .inl ⟨_, _, rfl, run_takeDeferred hK', ?_⟩⟩
    refine ⟨_, results_tmp rfl _ _ _, rfl, ?_⟩
    refine (HS7.out.abides (grownBy_putObj' w7 D (.deferred none)) (fun r e => ?_) (fun r hr => ?_)).frm
    · cases e
      exact ⟨by omega, _, hK', rfl⟩
    · simp at hr
      subst hr
      exact blk_cells (HS7.out.blk 0 rfl)

end Go.Proofs.Ythholboipbfklaa
