/-
  THE WALK of the document's example.
-/
import Derived.Test.YtdcpimnjdggabaaErG
import Derived.Test.YtdcpimnjdggabaaEqSD
set_option linter.unusedVariables false
set_option linter.unusedSimpArgs false
namespace Go.Proofs.Ytdcpimnjdggabaa
open Go.RowKit Go.Maps Go.Shelf
attribute [local go_sem] Oper.semAt_some

theorem RdV.of_blk {w : World} {b : Nat} {t : TypeId} {vs : List Value} (h : Blk w b t vs.toArray) : RdV w (some ⟨b, 0, none⟩) vs := fun i v hv => ⟨b, 0, rfl, h.lt, by
  rw [Nat.zero_add]
  exact h.cell i (by simpa using hv)⟩

def exRs (g : Nat) : List (Row Int) := [⟨some ⟨g + 1, 0, none⟩, 2, [1, 2]⟩, ⟨some ⟨g + 1 + 1, 0, none⟩, 2, [2, 3]⟩, ⟨some ⟨g + 1 + 1 + 1, 0, none⟩, 3, [3, 4, 5]⟩]
def exE : List (List Int) := [[1, 2], [2, 3], [3, 4, 5]]
theorem exPeel : peel [1] exE = [(2, 0), (3, 1)] := by decide +kernel
theorem exKeys : keysI [1] (peel [1] exE) = [1, 2, 3] := by decide +kernel
theorem exStk : stk (clo [1] exE) exE = [[4, 5]] := by decide +kernel
theorem exPl1 : plb [2, 3] [1, 2] exE = true := by decide +kernel
theorem exPl2 : plb [4] [1] exE = false := by decide +kernel
theorem exOk (x : Int) (h : 0 ≤ x ∧ x ≤ 100) : okI x := by
  show (Lit.int .i64 x).wf = true
  exact WalkArith.wf_i64 (by omega)
theorem pre2 {α : Type} {a b x : α} {pre : List α} (h : (pre ++ [x]) <+: [a, b]) : (pre = [] ∧ x = a) ∨ (pre = [a] ∧ x = b) := by
  obtain ⟨t, ht⟩ := h
  match pre, ht with
  | [], ht => simp at ht; exact .inl ⟨rfl, ht.1⟩
  | [p], ht => simp at ht; exact .inr ⟨by rw [ht.1], ht.2.1⟩
  | p :: q :: s, ht => simp at ht
theorem strOk (c : UInt8) : okS ⟨#[c]⟩ := by
  show (ByteArray.mk #[c]).size ≤ maxLen
  have : (ByteArray.mk #[c]).size = 1 := rfl
  rw [this]
  unfold maxLen
  omega
theorem exStr : (keysS [⟨#[97]⟩] (peel [⟨#[97]⟩] [[⟨#[97]⟩, ⟨#[98]⟩]])).length = 2 := by decide +kernel
def exN (pre : List (Int × Nat)) : Int := pre.foldl (fun a x => a * 100 + x.1 * 10 + x.2) 0

set_option maxRecDepth 100000 in
set_option maxHeartbeats 8000000 in
theorem alive_c (w : World) : Calls Try.prog 7 #[] w fun e w' => e = .returned (.bool true) ∧ Frm [] w w' := by
  have hnl : ∀ (f : Fn) (x y : Array Value) (w : World), (binOp .eql 29 (.func f x y) .nilFunc).run Try.prog w = .ok (.bool false) w := fun _ _ _ _ => rfl
  have hnot : ∀ (x : Bool) (w : World), (Op.unary .not (.bool x)).run Try.prog w = .ok (.bool (!x)) w := fun _ _ => rfl
  refine (callsIn_wide (n := 8)).1 ?_
  refine callsIn_of_wp_marks Try.func7 rfl trivial ?_ rfl
  simp only [Try.ntmps7, List.size_toArray, List.length_cons, List.length_nil, Nat.reduceAdd, Nat.reduceSub, Array.replicate_succ, Array.replicate_zero, List.push_toArray, List.append_toArray, List.nil_append, List.cons_append]
  gi_wp2_with fail
  have HS1 := Lib.hid ((((((Sep.init w).alloc #[.int .i64 1] 3).alloc #[.int .i64 1, .int .i64 2] 3).alloc #[.int .i64 2, .int .i64 3] 3).alloc #[.int .i64 3, .int .i64 4, .int .i64 5] 3).alloc #[.slice (some ⟨w.heap.size + 1, 0, none⟩) 2 2, .slice (some ⟨w.heap.size + 1 + 1, 0, none⟩) 2 2, .slice (some ⟨w.heap.size + 1 + 1 + 1, 0, none⟩) 3 3] 22)
  simp only [World.size_alloc] at HS1
  obtain ⟨w1, hw1⟩ : ∃ w1, w1 = ((((w.alloc (.cells #[.int .i64 1] 3)).alloc (.cells #[.int .i64 1, .int .i64 2] 3)).alloc (.cells #[.int .i64 2, .int .i64 3] 3)).alloc (.cells #[.int .i64 3, .int .i64 4, .int .i64 5] 3)).alloc (.cells #[.slice (some ⟨w.heap.size + 1, 0, none⟩) 2 2, .slice (some ⟨w.heap.size + 1 + 1, 0, none⟩) 2 2, .slice (some ⟨w.heap.size + 1 + 1 + 1, 0, none⟩) 3 3] 22) := ⟨_, rfl⟩
  obtain ⟨g, hg⟩ : ∃ g, g = w.heap.size := ⟨_, rfl⟩
  rw [← hw1, ← hg] at HS1
  rw [← hw1, ← hg]
  clear hw1 hg
  have HRb := Lib.hid (show RdZ w1 (some ⟨g, 0, none⟩) [1] from RdV.of_blk (vs := [.int .i64 1]) (HS1.out.blk 4 rfl))
  have HRr := Lib.hid (show RdRows (Value.int .i64) w1 (some ⟨g + 1 + 1 + 1 + 1, 0, none⟩) (exRs g) from ⟨RdV.of_blk (vs := (exRs g).map Row.val) (HS1.out.blk 0 rfl), fun r hr => by
    rcases List.mem_cons.1 hr with rfl | hr
    · exact RdV.of_blk (vs := [.int .i64 1, .int .i64 2]) (HS1.out.blk 3 rfl)
    · rcases List.mem_cons.1 hr with rfl | hr
      · exact RdV.of_blk (vs := [.int .i64 2, .int .i64 3]) (HS1.out.blk 2 rfl)
      · rcases List.mem_cons.1 hr with rfl | hr
        · exact RdV.of_blk (vs := [.int .i64 3, .int .i64 4, .int .i64 5]) (HS1.out.blk 1 rfl)
        · cases hr⟩)
  have hE : (exRs g).map (·.xs) = exE := rfl
  have HOk := Lib.hid (show ∀ r ∈ exRs g, r.xs.length ≤ 1000 ∧ ∀ x ∈ r.xs, okI x from fun r hr => by
    rcases List.mem_cons.1 hr with rfl | hr
    · exact ⟨by simp, fun x hx => exOk x (by simp at hx; omega)⟩
    · rcases List.mem_cons.1 hr with rfl | hr
      · exact ⟨by simp, fun x hx => exOk x (by simp at hx; omega)⟩
      · rcases List.mem_cons.1 hr with rfl | hr
        · exact ⟨by simp, fun x hx => exOk x (by simp at hx; omega)⟩
        · cases hr)
  have HBo := Lib.hid (show ∀ x ∈ ([1] : List Int), okI x from fun x hx => exOk x (by simp at hx; omega))
  have hcl := closureI_c (some ⟨g, 0, none⟩) 1 [1] (some ⟨g + 1 + 1 + 1 + 1, 0, none⟩) 3 (exRs g) w1 HRb.out HRr.out (by show 3 ≤ 1000; decide) HOk.out (by decide) HBo.out (by rw [hE]; decide)
  rw [hE, exKeys] at hcl
  have HCl := Lib.hid hcl
  have HF1 := Lib.hid HS1.out.frm
  clear hcl hE HS1
  refine ⟨trivial, (callsIn_wide.2 HCl.out).mono ?_⟩
  rintro e w2 ⟨m, rfl, hS⟩
  have HS2 := Lib.hid (hS.alloc #[.int .i64 0] 3)
  clear hS HCl
  gi_wp2_with fail
  refine ⟨trivial, (callsIn_wide.2 (peelI_c (some ⟨g, 0, none⟩) 1 1 (some ⟨g + 1 + 1 + 1 + 1, 0, none⟩) 3 3 _)).mono ?_⟩
  rintro e w3 ⟨rfl, rfl⟩
  have HS3 := Lib.hid ((HS2.out.alloc #[.slice (some ⟨g, 0, none⟩) 1 1] 22).alloc #[.slice (some ⟨g + 1 + 1 + 1 + 1, 0, none⟩) 3 3] 23)
  simp only [World.size_alloc] at HS3
  gi_wp2_with fail
  obtain ⟨w3, hw3⟩ : ∃ w3, w3 = ((w2.alloc (.cells #[.int .i64 0] 3)).alloc (.cells #[.slice (some ⟨g, 0, none⟩) 1 1] 22)).alloc (.cells #[.slice (some ⟨g + 1 + 1 + 1 + 1, 0, none⟩) 3 3] 23) := ⟨_, rfl⟩
  obtain ⟨o, ho⟩ : ∃ o, o = w2.heap.size := ⟨_, rfl⟩
  rw [← hw3, ← ho] at HS3
  rw [← hw3, ← ho]
  clear hw3 ho HS2
  have hseq := peelI_seq 7 (by omega) (o + 1) (o + 1 + 1) (some ⟨g, 0, none⟩) 1 [1] (some ⟨g + 1 + 1 + 1 + 1, 0, none⟩) 3 (exRs g) w3 (by show 3 ≤ 1000; decide) HOk.out (by decide) HBo.out (by show exE.flatten.length ≤ 100000; decide)
  rw [show (exRs g).map (·.xs) = exE from rfl, exPeel] at hseq
  have HSq := Lib.hid hseq
  have hsz := HS3.out.frm.size
  clear hseq
  refine range_f (n := 8) (by omega) (gf := 20) (lb := _) rfl (enters_of Try.func20 (by kernel_rfl) rfl) HSq.out (Below.refl _ _) (fun _ => rfl) (fun _ _ _ _ _ _ h => h) [] (by simp)
    (fun pre F W => Sep [] w1 W (frgR F W :: [blkR (o + 1 + 1) 23 #[.slice (some ⟨g + 1 + 1 + 1 + 1, 0, none⟩) 3 3], blkR (o + 1) 22 #[.slice (some ⟨g, 0, none⟩) 1 1], blkR o 3 #[.int .i64 (exN pre)], mapR Try.prog 3 m (setKv (Value.int .i64) [1, 2, 3])]))
    (fun _ _ _ _ => False) (bears_sep [] _) (fun _ => ⟨fun _ _ _ _ h _ => h, fun _ _ _ _ _ h _ _ _ => h, fun _ _ _ _ _ h _ _ _ => h⟩) ?hQ ?h0 ?round ?done (fun _ _ _ _ _ _ _ _ _ h => h.elim)
  case hQ =>
    intro pre F W hS
    exact ⟨(hS.blk 2 rfl).cell 0 rfl, (hS.blk 1 rfl).cell 0 rfl, HRb.out.below hS.frm.below, HRr.out.below hS.frm.below⟩
  case h0 => exact (HS3.out.add (r := frgR [] w3) (Frm.refl _ _) (by intro k hk; cases hk) (by simp [frgR]))
  case round =>
    rintro l pre F x W Wb K hS _ hx hK
    have HKx := Lib.hid hK
    have HX := Lib.hid hx
    have HS := Lib.hid hS
    clear hK hx hS
    gi_wp2
    refine HKx.out _ ?_
    clear HKx
    rcases pre2 HX.out with ⟨rfl, rfl⟩ | ⟨rfl, rfl⟩
    · have cg : Wb.cell? ⟨o, 0, none⟩ = some (.int .i64 0) := (HS.out.blk 3 rfl).cell 0 rfl
      have cf := (HS.out.blk 3 rfl).free 0
      have HS5 := Lib.hid (show Sep [] w1 (Wb.setCell ⟨o, 0, none⟩ (.int .i64 20)) (frgR F Wb :: [blkR (o + 1 + 1) 23 #[.slice (some ⟨g + 1 + 1 + 1 + 1, 0, none⟩) 3 3], blkR (o + 1) 22 #[.slice (some ⟨g, 0, none⟩) 1 1], blkR o 3 #[.int .i64 (exN [(2, 0)])], mapR Try.prog 3 m (setKv (Value.int .i64) [1, 2, 3])]) from HS.out.put 3 rfl 0 (.int .i64 20))
      clear HX
      gi_wp2
      exact ⟨kpF_of (by simp) HS5.out, HS5.out.pin⟩
    · have cg : Wb.cell? ⟨o, 0, none⟩ = some (.int .i64 20) := (HS.out.blk 3 rfl).cell 0 rfl
      have cf := (HS.out.blk 3 rfl).free 0
      have HS5 := Lib.hid (show Sep [] w1 (Wb.setCell ⟨o, 0, none⟩ (.int .i64 2031)) (frgR F Wb :: [blkR (o + 1 + 1) 23 #[.slice (some ⟨g + 1 + 1 + 1 + 1, 0, none⟩) 3 3], blkR (o + 1) 22 #[.slice (some ⟨g, 0, none⟩) 1 1], blkR o 3 #[.int .i64 (exN [(2, 0), (3, 1)])], mapR Try.prog 3 m (setKv (Value.int .i64) [1, 2, 3])]) from HS.out.put 3 rfl 0 (.int .i64 2031))
      clear HX
      gi_wp2
      exact ⟨kpF_of (by simp) HS5.out, HS5.out.pin⟩
  case done =>
    rintro D xs F W hD hDF _ rfl hS hK
    have HK := Lib.hid hK
    have hst := stuck_c (some ⟨g, 0, none⟩) 1 [1] (some ⟨g + 1 + 1 + 1 + 1, 0, none⟩) 3 (exRs g) W (HRb.out.below hS.frm.below) (HRr.out.below hS.frm.below) (by decide) (by show 3 ≤ 1000; decide) HOk.out HBo.out (by show exE.flatten.length ≤ 50000; decide)
    rw [show (exRs g).map (·.xs) = exE from rfl, exStk] at hst
    have HSt := Lib.hid hst
    have HS := Lib.hid hS
    clear hS hK hst
    gi_wp2_with fail
    refine ⟨trivial, (callsIn_wide.2 HSt.out).mono ?_⟩
    rintro e W2 ⟨as_, cs_, rows, rfl, hrw, hrr, hf⟩
    obtain ⟨r, rfl⟩ : ∃ r, rows = [r] := by
      cases rows with
      | nil => simp at hrw
      | cons r t =>
        cases t with
        | nil => exact ⟨r, rfl⟩
        | cons _ _ => simp at hrw
    obtain ⟨ra, rc, rxs⟩ := r
    obtain rfl : rxs = [4, 5] := by simpa using hrw
    obtain ⟨sb, so, rfl, _, hc1⟩ := hrr.1 0 (.slice ra 2 rc) rfl
    obtain ⟨tb, tO, x, hx, rfl, _, hc2⟩ := RdZ.at_ (zs := [4, 5]) (show RdZ W2 ra [4, 5] from hrr.2 ⟨ra, rc, [4, 5]⟩ (by simp)) (j := 0) (by decide)
    obtain rfl : x = 4 := hx
    rw [Nat.add_zero] at hc1 hc2
    have HS2 := Lib.hid (HS.out.keep hf)
    have HG2 := Lib.hid hf
    have hk3 := set_look (HS2.out.get 4 rfl) injI keyedI Try.underlying34 (zeroBI _) 3 (keyOf_int_mk Try.underlying3 (exOk 3 (by omega)))
    rw [show isIn ([1, 2, 3] : List Int) 3 = true from by decide] at hk3
    have hk4 := set_look (HS2.out.get 4 rfl) injI keyedI Try.underlying34 (zeroBI _) 4 (keyOf_int_mk Try.underlying3 (exOk 4 (by omega)))
    rw [show isIn ([1, 2, 3] : List Int) 4 = false from by decide] at hk4
    have hlen : (Builtin.len_ #[34] 3 #[.map (some m)]).run Try.prog W2 = .ok (.int .i64 3) W2 := set_len (HS2.out.get 4 rfl) Try.underlying34 3
    have cg : W2.cell? ⟨o, 0, none⟩ = some (.int .i64 2031) := (HS2.out.blk 3 rfl).cell 0 rfl
    clear hrw hrr hf HS HSt
    gi_wp2_with fail
    clear hk3 hk4 hlen cg hc1 hc2
    have HF2 := Lib.hid HS2.out.frm
    have HS3 := Lib.hid (((Sep.init W2).alloc #[.int .i64 2, .int .i64 3] 3).alloc #[.int .i64 1, .int .i64 2] 3)
    simp only [World.size_alloc] at HS3
    obtain ⟨W3, hW3⟩ : ∃ W3, W3 = (W2.alloc (.cells #[.int .i64 2, .int .i64 3] 3)).alloc (.cells #[.int .i64 1, .int .i64 2] 3) := ⟨_, rfl⟩
    rw [← hW3] at HS3 ⊢
    have HF3 := Lib.hid (HF2.out.trans HS3.out.frm)
    have HG3 := Lib.hid (HG2.out.trans HS3.out.frm)
    have hp1 := peelable_c (some ⟨W2.heap.size, 0, none⟩) 2 [2, 3] (some ⟨W2.heap.size + 1, 0, none⟩) 2 [1, 2] (some ⟨g + 1 + 1 + 1 + 1, 0, none⟩) 3 (exRs g) W3 (RdV.of_blk (vs := [.int .i64 2, .int .i64 3]) (HS3.out.blk 1 rfl)) (RdV.of_blk (vs := [.int .i64 1, .int .i64 2]) (HS3.out.blk 0 rfl)) (HRr.out.below HF3.out.below)
      (by decide) (by decide) (by show 3 ≤ 1000; decide) HOk.out (fun x hx => exOk x (by simp at hx; omega)) (fun x hx => exOk x (by simp at hx; omega)) (by show exE.flatten.length ≤ 50000; decide)
    rw [show (exRs g).map (·.xs) = exE from rfl, exPl1] at hp1
    have HP1 := Lib.hid hp1
    clear hW3 hp1
    refine ⟨trivial, (callsIn_wide.2 HP1.out).mono ?_⟩
    rintro e W4 ⟨rfl, hf⟩
    have HF4 := Lib.hid (HF3.out.trans hf)
    have HG4 := Lib.hid (HG3.out.trans hf)
    have HS4 := Lib.hid ((Sep.init W4).alloc #[.int .i64 4] 3)
    clear hf HP1 HS3
    gi_wp2_with fail
    obtain ⟨W5, hW5⟩ : ∃ W5, W5 = W4.alloc (.cells #[.int .i64 4] 3) := ⟨_, rfl⟩
    rw [← hW5] at HS4 ⊢
    have HF5 := Lib.hid (HF4.out.trans HS4.out.frm)
    have HG5 := Lib.hid (HG4.out.trans HS4.out.frm)
    have hp2 := peelable_c (some ⟨W4.heap.size, 0, none⟩) 1 [4] (some ⟨g, 0, none⟩) 1 [1] (some ⟨g + 1 + 1 + 1 + 1, 0, none⟩) 3 (exRs g) W5 (RdV.of_blk (vs := [.int .i64 4]) (HS4.out.blk 0 rfl)) (HRb.out.below HF5.out.below) (HRr.out.below HF5.out.below)
      (by decide) (by decide) (by show 3 ≤ 1000; decide) HOk.out (fun x hx => exOk x (by simp at hx; omega)) HBo.out (by show exE.flatten.length ≤ 50000; decide)
    rw [show (exRs g).map (·.xs) = exE from rfl, exPl2] at hp2
    have HP2 := Lib.hid hp2
    clear hW5 hp2
    refine ⟨trivial, (callsIn_wide.2 HP2.out).mono ?_⟩
    rintro e W6 ⟨rfl, hf⟩
    have HF6 := Lib.hid (HF5.out.trans hf)
    have HG6 := Lib.hid (HG5.out.trans hf)
    have HS6 := Lib.hid ((((Sep.init W6).alloc #[.string ⟨#[97]⟩] 9).alloc #[.string ⟨#[97]⟩, .string ⟨#[98]⟩] 9).alloc #[.slice (some ⟨W6.heap.size + 1, 0, none⟩) 2 2] 46)
    simp only [World.size_alloc] at HS6
    clear hf HP2 HS4
    gi_wp2_with fail
    obtain ⟨W7, hW7⟩ : ∃ W7, W7 = ((W6.alloc (.cells #[.string ⟨#[97]⟩] 9)).alloc (.cells #[.string ⟨#[97]⟩, .string ⟨#[98]⟩] 9)).alloc (.cells #[.slice (some ⟨W6.heap.size + 1, 0, none⟩) 2 2] 46) := ⟨_, rfl⟩
    rw [← hW7] at HS6 ⊢
    have HF7 := Lib.hid (HF6.out.trans HS6.out.frm)
    have HG7 := Lib.hid (HG6.out.trans HS6.out.frm)
    have hcs := closureS_c (some ⟨W6.heap.size, 0, none⟩) 1 [⟨#[97]⟩] (some ⟨W6.heap.size + 1 + 1, 0, none⟩) 1 [⟨some ⟨W6.heap.size + 1, 0, none⟩, 2, [⟨#[97]⟩, ⟨#[98]⟩]⟩] W7 (RdV.of_blk (vs := [.string ⟨#[97]⟩]) (HS6.out.blk 2 rfl))
      ⟨RdV.of_blk (vs := [.slice (some ⟨W6.heap.size + 1, 0, none⟩) 2 2]) (HS6.out.blk 0 rfl), fun r hr => by simp at hr; subst hr; exact RdV.of_blk (vs := [.string ⟨#[97]⟩, .string ⟨#[98]⟩]) (HS6.out.blk 1 rfl)⟩
      (by simp) (fun r hr => by simp at hr; subst hr; exact ⟨by simp, fun x hx => by simp at hx; rcases hx with rfl | rfl <;> exact strOk _⟩) (by simp) (fun x hx => by simp at hx; subst hx; exact strOk _) (by simp)
    have HCs := Lib.hid hcs
    clear hW7 hcs
    refine ⟨trivial, (callsIn_wide.2 HCs.out).mono ?_⟩
    rintro e W8 ⟨ms, rfl, hS8⟩
    have hlen2 : (Builtin.len_ #[44] 3 #[.map (some ms)]).run Try.prog W8 = .ok (.int .i64 2) W8 := by
      have h := set_len (hS8.get 0 rfl) Try.underlying44 3
      simp only [List.map_cons, List.map_nil] at h
      rw [exStr] at h
      exact h
    have HF8 := Lib.hid (HF7.out.trans hS8.frm)
    have HG8 := Lib.hid (HG7.out.trans hS8.frm)
    clear HCs hS8
    gi_wp2_with fail
    have hK8 : W8.heap[D]? = some (.deferred (some [])) := (HG8.out.block D (Array.getElem?_eq_some_iff.1 HK.out).1 (by simp)).trans HK.out
    refine ⟨by simp, .inl ⟨_, _, rfl, run_takeDeferred hK8, ?_⟩⟩
    refine ⟨_, results_tmp rfl _ _ _, rfl, ?_⟩
    have h1 := HF1.out.size
    exact (HF1.out.trans HF8.out).after (Frm.of_grown (grownBy_putObj' W8 D (.deferred none))) (fun k hk => by simp at hk; subst hk; exact .inr (by omega))

end Go.Proofs.Ytdcpimnjdggabaa
