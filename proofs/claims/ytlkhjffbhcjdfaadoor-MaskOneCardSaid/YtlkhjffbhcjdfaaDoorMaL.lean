/-
  THE WALK of mask.Text.
-/
import Derived.Test.YtlkhjffbhcjdfaaDoorMaK
import Derived.Test.YtlkhjffbhcjdfaaDoorMkr
import Derived.Test.YtlkhjffbhcjdfaaDoorShl
import Derived.Lib.ItoaLen
set_option linter.unusedVariables false
set_option linter.unusedSimpArgs false
namespace Go.Proofs.YtlkhjffbhcjdfaaDoor
open Go.RowKit Go.Maps Go.Shelf
attribute [local go_sem] Oper.semAt_some

theorem pow10_global : ∃ g, Tryd.prog.globalNamed "internal/strconv.uint64pow10" = some g := ⟨1, by kernel_rfl⟩
def PowTab (w : World) : Prop := Lib.TabIs Tryd.prog w "internal/strconv.uint64pow10" .u64 Lib.pow10Tab
theorem PowTab.below {w w' : World} (h : PowTab w) (hb : Below w.heap.size w w') : PowTab w' := by
  obtain ⟨g, hg⟩ := pow10_global
  unfold PowTab Lib.TabIs World.var? at h ⊢
  rw [hg] at h ⊢
  simp only [Option.bind_some] at h ⊢
  have hlt : g < w.heap.size := by
    rcases Nat.lt_or_ge g w.heap.size with h' | h'
    · exact h'
    · rw [Array.getElem?_eq_none h'] at h; cases h
  rw [hb.block g hlt]
  exact h

/-- A number in words; the words of a mask's bits. -/
def itB (x : Int) : ByteArray := ⟨(Lib.itoa x).toArray⟩
def itB' (x : Nat) : ByteArray := itB x
def encS (x : Nat) : Value := .string (itB x)
def txL (xs : List Nat) : List UInt8 := Lib.join (xs.map fun x : Nat => Lib.itoa (x : Int)) [44]
def txB (xs : List Nat) : ByteArray := ⟨(txL xs).toArray⟩
theorem itoa_c (x : Int) (w : World) (h0 : -9223372036854775808 ≤ x) (h1 : x ≤ 9223372036854775807) (hT : PowTab w) : Calls Tryd.prog 44 #[.int .i64 x] w fun e w' => e = .returned (.string (itB x)) ∧ Frm [] w w' := by
  refine (Tryd.strconv_Itoa x h0 h1 w hT).mono ?_
  rintro e w' ⟨rfl, k, os, rfl⟩
  refine ⟨rfl, rfl, rfl, rfl, by simp [Go.Sort.grow, World.drewN], fun k hk _ => ?_⟩
  show (w.heap ++ os)[k]? = _
  rw [Array.getElem?_append_left hk]
theorem lens_le (xs : List (List UInt8)) (h : ∀ x ∈ xs, x.length ≤ 21) : Lib.lens xs ≤ 21 * xs.length := by
  induction xs with
  | nil => simp [Lib.lens]
  | cons x xs ih =>
    have h1 := h x (by simp)
    have h2 := ih (fun y hy => h y (by simp [hy]))
    simp only [Lib.lens, List.map_cons, List.sum_cons, List.length_cons] at h2 ⊢
    omega
theorem txL_len (xs : List Nat) (h : xs.length ≤ 128) (h2 : ∀ x ∈ xs, x < 128) : (txL xs).length ≤ 10000 := by
  unfold txL
  have h3 : ∀ y ∈ xs.map fun x : Nat => Lib.itoa (x : Int), y.length ≤ 21 := fun y hy => by
    obtain ⟨x, hx, rfl⟩ := List.mem_map.1 hy
    have := h2 x hx
    exact Lib.itoa_length_le _ (by omega) (by omega)
  have h4 := lens_le _ h3
  cases hxs : xs.map fun x : Nat => Lib.itoa (x : Int) with
  | nil => simp [Lib.join_nil]
  | cons y ys =>
    rw [Lib.join_length, ← hxs]
    have h5 : xs.length = ys.length + 1 := by have := congrArg List.length hxs; simpa using this
    simp only [List.length_cons, List.length_nil, List.length_map] at h4 ⊢
    omega
theorem bools_len (h l : Nat) : (bitsOf h l).length ≤ 128 := by unfold bitsOf; exact Nat.le_trans (List.length_filter_le _ _) (by simp)
theorem join_c (v : Value) (k : Nat) (xs : List Nat) (w : World) (h : w.ownsRow 0 9 1 v k (xs.map encS)) (hl : xs.length ≤ 128) (h2 : ∀ x ∈ xs, x < 128) :
    Calls Tryd.prog 45 #[v, .string ⟨#[44]⟩] w fun e w' => e = .returned (.string (txB xs)) ∧ Frm [] w w' := by
  have hk : k = xs.length := by have := h.1; simpa using this.symm
  subst hk
  have hj : (xs.map itB').map (·.data.toList) = xs.map fun x : Nat => Lib.itoa (x : Int) := by
    rw [List.map_map]; exact List.map_congr_left fun x _ => by simp [itB', itB]
  rcases h.2 with ⟨rfl, h0⟩ | ⟨g, cap, cur, rfl, hb, hh, hc, _⟩
  · obtain rfl : xs = [] := List.length_eq_zero_iff.1 h0
    refine (Tryd.strings_Join_none none 0 ⟨#[44]⟩ w).mono ?_
    rintro e w' ⟨rfl, rfl⟩
    exact ⟨rfl, Frm.refl _ _⟩
  · have := Tryd.strings_Join g 0 cap (xs.map itB') ⟨#[44]⟩ w (fun j x hx => ?_) (Array.getElem?_eq_some_iff.1 hh).1 (by simp; omega) (by simpa using hc) (by rw [hj]; have := txL_len xs hl h2; unfold txL at this; simpa using Nat.le_trans this (by omega))
    · rw [hj, List.length_map] at this
      exact this.mono fun e w' ⟨he, hb⟩ => ⟨he, Frm.of_below hb⟩
    · have h3 := h.cells (g := g) rfl j (.string x) (by rw [List.getElem?_map] at hx ⊢; cases hz : xs[j]? with
        | none => rw [hz] at hx; cases hx
        | some z => rw [hz] at hx; simp at hx; subst hx; rfl)
      have hadd : (⟨g, 0, none⟩ : Addr).add j = ⟨g, 0 + j, none⟩ := by unfold Addr.add; split <;> simp_all
      rw [hadd] at h3
      exact h3

/-- What is said of the slots of the loop's region. -/
def txT (x : Nat) (s : Value) (d : Nat) (v : Value) (W : World) : Prop :=
  (d = 8 → v = s) ∧ (d = 9 → v = .int .i64 (x : Int)) ∧ (d = 10 → v = encS x) ∧ (d = 11 → ∃ g, v = .slice (some ⟨g, 0, none⟩) 1 1 ∧ Blk W g 9 #[encS x])
theorem txT_frm {x : Nat} {s : Value} (d : Nat) (v : Value) (w w' : World) (hf : Frm [] w w') (h : txT x s d v w) : txT x s d v w' :=
  ⟨h.1, h.2.1, h.2.2.1, fun hd => by obtain ⟨g, hv, hb⟩ := h.2.2.2 hd; exact ⟨g, hv, hf.blk hb (by simp)⟩⟩
theorem txT_8 {x : Nat} {s v : Value} {W : World} (h : v = s) : txT x s 8 v W := ⟨(fun _ => h), (fun h => absurd h (by decide)), (fun h => absurd h (by decide)), (fun h => absurd h (by decide))⟩
theorem txT_9 {x : Nat} {s v : Value} {W : World} (h : v = .int .i64 (x : Int)) : txT x s 9 v W := ⟨(fun h => absurd h (by decide)), (fun _ => h), (fun h => absurd h (by decide)), (fun h => absurd h (by decide))⟩
theorem txT_10 {x : Nat} {s v : Value} {W : World} (h : v = encS x) : txT x s 10 v W := ⟨(fun h => absurd h (by decide)), (fun h => absurd h (by decide)), (fun _ => h), (fun h => absurd h (by decide))⟩
theorem txT_11 {x : Nat} {s v : Value} {W : World} (h : ∃ g, v = .slice (some ⟨g, 0, none⟩) 1 1 ∧ Blk W g 9 #[encS x]) : txT x s 11 v W := ⟨(fun h => absurd h (by decide)), (fun h => absurd h (by decide)), (fun h => absurd h (by decide)), (fun _ => h)⟩
theorem wp_enter {P : Program} {o : Oper} {a : Act} {w : World} {K : Act → World → Prop} {Q : Exit → Act → World → Prop} (f : FuncId) (args : Array Value) (h : (execOp a.eval o).run P w = .ok (.enter f args) w) (R : Ending → World → Prop) (hc : Calls P f args w R)
    (hK : ∀ e w', R e w' → ∃ v, e = .returned v ∧ K (a.put o.dst v) w') : o.wp P a w K Q := by
  unfold Oper.wp
  rw [h]
  refine hc.mono fun e w' hr => ?_
  obtain ⟨v, rfl, hk⟩ := hK e w' hr
  exact hk
theorem info_str : (Tryd.prog.info? 9).map (fun i => (i.zero, i.size, i.bytes)) = some (some (.string ⟨#[]⟩), 1, 16) := by kernel_rfl

set_option maxRecDepth 100000 in
set_option maxHeartbeats 4000000 in
theorem text_c (h l : Nat) (w : World) (h0 : h < 18446744073709551616) (h1 : l < 18446744073709551616) (hT : PowTab w) :
    Calls Tryd.prog 27 #[mV h l] w fun e w' => e = .returned (.string (txB (bitsOf h l))) ∧ Frm [] w w' := by
  obtain ⟨i0, hi, hz0, hz1, hz2⟩ := info_parts info_str
  have HT := Lib.hid hT
  have HB := Lib.hid (fun W => bits_c h l W)
  have HSq := Lib.hid (fun p W => bits_seq 6 (by omega) p h l h0 h1 W)
  have HS0 := Lib.hid (((Sep.init w).alloc #[.int .u64 (h : Int), .int .u64 (l : Int)] 26).alloc #[.slice none 0 0] 60)
  have HPl := Lib.hid (fun (pre : List Nat) (x : Nat) (hx : (pre ++ [x]) <+: bitsOf h l) => And.intro (pre_len hx) (bitsOf_lt (h := h) (l := l) (hx.subset (show x ∈ pre ++ [x] by simp))))
  have HLn := Lib.hid (And.intro (bools_len h l) (fun x (hx : x ∈ bitsOf h l) => bitsOf_lt hx))
  obtain ⟨R, hR⟩ : ∃ R, R = bitsOf h l := ⟨_, rfl⟩
  rw [← hR] at HSq HPl HLn ⊢
  clear hR h0 h1 hT
  unfold mV at *
  refine (callsIn_wide (n := 7)).1 ?_
  refine callsIn_of_wp_marks Tryd.func27 rfl trivial ?_ rfl
  simp only [Tryd.ntmps27, List.size_toArray, List.length_cons, List.length_nil, Nat.reduceAdd, Nat.reduceSub, Array.replicate_succ, Array.replicate_zero, List.push_toArray, List.append_toArray, List.nil_append, List.cons_append]
  gi_upto_region 2 with fail
  obtain ⟨w1, hw1⟩ : ∃ w1, w1 = (w.alloc (.cells #[.int .u64 (h : Int), .int .u64 (l : Int)] 26)).alloc (.cells #[.slice none 0 0] 60) := ⟨_, rfl⟩
  obtain ⟨o, ho⟩ : ∃ o, o = w.heap.size := ⟨_, rfl⟩
  simp only [World.size_alloc] at HS0
  rw [← hw1, ← ho] at HS0
  rw [← hw1, ← ho]
  have c0 := (HS0.out.blk 1 rfl).cell 0 rfl
  have c1 := (HS0.out.blk 1 rfl).cell 1 rfl
  clear hw1 ho
  gi_wp2_with fail
  refine ⟨trivial, (callsIn_wide.2 (HB.out _)).mono ?_⟩
  rintro e w2 ⟨rfl, rfl⟩
  clear c0 c1
  have HS1 := Lib.hid (((HS0.out.add (Frm.refl _ _) (r := ownR 9 1 (.slice none 0 0) 0 []) (own_nil1 _ _) (by simp [ownR, Value.ownBlock])).alloc #[.int .u64 (h : Int), .int .u64 (l : Int)] 26))
  obtain ⟨q, hq⟩ : ∃ q, q = w1.heap.size := ⟨_, rfl⟩
  rw [← hq] at HS1
  rw [← hq]
  clear hq
  gi_wp2_with fail
  obtain ⟨w2, hw2⟩ : ∃ w2, w2 = w1.alloc (.cells #[.int .u64 (h : Int), .int .u64 (l : Int)] 26) := ⟨_, rfl⟩
  rw [← hw2] at HS1
  rw [← hw2]
  clear hw2 HB HS0
  have hfr := HS1.out.frm
  refine range_f (n := 7) (by omega) (gf := 46) (lb := _) rfl (enters_of Tryd.func46 (by kernel_rfl) rfl) (HSq.out q w2) (Below.refl _ _) (fun _ => rfl) (fun _ _ _ _ _ _ h => h) [] (by simp)
    (fun pre F W => ∃ v, Sep [] w W (frgR F W :: [blkR q 26 #[.int .u64 (h : Int), .int .u64 (l : Int)], ownR 9 1 v pre.length (pre.map encS), blkR (o + 1) 60 #[v]]))
    (fun _ _ _ _ => False) (bears_ex fun v => bears_sep [] _) (fun _ => ⟨fun _ _ _ _ h _ => h, fun _ _ _ _ _ h _ _ _ => h, fun _ _ _ _ _ h _ _ _ => h⟩) ?hQ ?h0 ?round ?done (fun _ _ _ _ _ _ _ _ _ h => h.elim)
  case hQ =>
    rintro pre F W ⟨v, hS⟩
    exact ⟨(hS.blk 1 rfl).cell 0 rfl, (hS.blk 1 rfl).cell 1 rfl⟩
  case h0 =>
    exact ⟨_, (HS1.out.sub (show List.Sublist [_, _, _] _ from by
      refine List.Sublist.cons_cons _ (List.Sublist.cons_cons _ (List.Sublist.cons_cons _ (List.nil_sublist _))))).add (r := frgR [] w2) (Frm.refl _ _) (by intro k hk; cases hk) (by simp [frgR])⟩
  case round =>
    rintro l' pre F x W Wb K ⟨v, hS⟩ _ hx hK
    have HKx := Lib.hid hK
    have HS := Lib.hid hS
    obtain ⟨hpl, hxl⟩ := HPl.out _ _ hx
    have HI := Lib.hid (fun X (hf : Frm [] Wb X) => itoa_c (x : Int) X (by omega) (by omega) (HT.out.below (hS.frm.trans hf).below))
    have co : _ = some v := (HS.out.blk 3 rfl).cell 0 rfl
    clear hK hS hx hfr
    gi_wp2_with fail
    refine HKx.out _ ?_
    clear HKx
    gi_upto_region 4 with fail
    refine region_round (by kernel_rfl) (by kernel_rfl) (fun h => ?_) (region_makes_any 4 (fun X => Sep [] w X [frgR F Wb, blkR q 26 #[.int .u64 (h : Int), .int .u64 (l : Int)], ownR 9 1 v pre.length (pre.map encS), blkR (o + 1) 60 #[v]] ∧ Frm [] Wb X) (txT x v)
      (fun X Y hf h => ⟨h.1.keep hf, h.2.trans hf⟩) txT_frm ⟨HS.out.drew, (Frm.refl _ _).drew⟩ (by kernel_rfl) (by kernel_rfl) ?_ ?_)
    · obtain ⟨_, _, h⟩ := h
      exact h
    · have eg := enters_of Tryd.func44 (by kernel_rfl) rfl
      refine List.forall_mem_cons.2 ⟨?_, List.forall_mem_cons.2 ⟨?_, List.forall_mem_cons.2 ⟨?_, List.forall_mem_cons.2 ⟨?_, ?_⟩⟩⟩⟩
      · intro u A X K hu ha hv hd hK
        have e3 : A.tmps[3]?.getD undef = .pointer (some ⟨o + 1, 0, none⟩) := (eval_tmp A 3).symm.trans (ha 3 rfl)
        have k0 : _ = some v := (hv.1.blk 3 rfl).cell 0 rfl
        exact wp_run v X (by simp [execOp, go_sem, e3, k0]) (hK _ _ (Frm.refl _ _) (txT_8 rfl))
      · intro u A X K hu ha hv hd hK
        have e4 : A.tmps[4]?.getD undef = .int .i64 (x : Int) := (eval_tmp A 4).symm.trans (ha 4 rfl)
        exact wp_run (.int .i64 (x : Int)) X (by simp [execOp, go_sem, e4]) (hK _ _ (Frm.refl _ _) (txT_9 rfl))
      · intro u A X K hu ha hv hd hK
        have e9 : A.tmps[9]?.getD undef = .int .i64 (x : Int) := ((eval_tmp A 9).symm.trans (hu 9 rfl)).trans ((hd ⟨1, .data⟩ (by simp) rfl _ _ rfl rfl).2.1 rfl)
        refine wp_enter 44 #[.int .i64 (x : Int)] (by simp [execOp, resolve, invoke, go_sem, e9, eg]) _ (HI.out X hv.2) ?_
        rintro e w' ⟨rfl, hf⟩
        exact ⟨_, rfl, hK _ _ hf (txT_10 rfl)⟩
      · intro u A X K hu ha hv hd hK
        have e10 : A.tmps[10]?.getD undef = encS x := ((eval_tmp A 10).symm.trans (hu 10 rfl)).trans ((hd ⟨2, .data⟩ (by simp) rfl _ _ rfl rfl).2.2.1 rfl)
        exact wp_run (.slice (some ⟨X.heap.size, 0, none⟩) 1 1) (X.alloc (.cells #[encS x] 9)) (by simp [execOp, go_sem, e10, encS]) (hK _ _ ((Frm.refl _ _).alloc _) (txT_11 ⟨_, rfl, Blk.made _ _ _⟩))
      · exact fun o ho => absurd ho List.not_mem_nil
    · intro u X hv hd
      have h8 := (hd _ (List.mem_of_getElem? (i := 0) rfl) 8 rfl).1 rfl
      obtain ⟨g, h11, hb11⟩ := (hd _ (List.mem_of_getElem? (i := 3) rfl) 11 rfl).2.2.2 rfl
      have HV := Lib.hid hv
      have HSz := Lib.hid hv.2.size
      refine wpList_append_siz rfl (.tmp 8) (.tmp 11) 60 rfl 2 9 i0 (.string ⟨#[]⟩) 16 Tryd.underlying60 hi hz0 hz1 hz2 rfl v _ _ h8 HV.out.1 rfl g 1 (encS x) h11 (hb11.cell 0 rfl) rfl (by unfold maxLen; omega) (by omega) ?_
      intro g4 c4 w4 hS4 hsz4
      have f4 := (hS4.blk 3 rfl).free 0
      have c5 : _ = some v := (hS4.blk 3 rfl).cell 0 rfl
      have HS4 := Lib.hid hS4
      clear hS4 hv hd hb11 h8 h11 HSq HPl HLn HT HI
      simp only [List.take_succ_cons, List.take_zero, fills, Option.getD_some]
      go_wp2
      have h5 := HS4.out.put 3 rfl 0 (.slice (some ⟨g4, 0, none⟩) (pre.length + 1) c4)
      refine ⟨kpF_of (by have h1 := HSz.out; simp at h1 ⊢; omega) h5, .slice (some ⟨g4, 0, none⟩) (pre.length + 1) c4, ?_⟩
      rw [List.length_append, List.map_append]
      exact h5.pin
  case done =>
    rintro D xs F W hD hDF _ rfl ⟨v, hS⟩ hK
    have h9 := (bears_sep (S := []) (w0 := w) [] (fun _ : Unit => [blkR q 26 #[.int .u64 (h : Int), .int .u64 (l : Int)], ownR 9 1 v xs.length (xs.map encS), blkR (o + 1) 60 #[v]])).put () F W _ D hS hDF (by simp) (grownBy_putObj' W D (.deferred none))
    have HS := Lib.hid hS
    have HS9 := Lib.hid h9
    have HK := Lib.hid hK
    have co : _ = some v := (HS.out.blk 3 rfl).cell 0 rfl
    have hj := join_c v xs.length xs W (HS.out.own 2 rfl) HLn.out.1 HLn.out.2
    have HJ := Lib.hid hj
    clear hS hK h9 hj
    have HF2 := Lib.hid (And.intro hfr hD)
    clear hfr hD
    gi_wp2_with fail
    refine ⟨trivial, (callsIn_wide.2 HJ.out).mono ?_⟩
    rintro e W3 ⟨rfl, hf⟩
    have hlt : D < W.heap.size := (Array.getElem?_eq_some_iff.1 HK.out).1
    have HK3 := Lib.hid ((hf.block D hlt (by simp)).trans HK.out)
    have HF3 := Lib.hid (HS.out.frm.trans hf)
    clear hf hlt HS HS9 HK HJ
    gi_wp2_with fail
    exact slot_end1 (results_tmp rfl _ _ _) HK3.out HF3.out (Nat.le_trans HF2.out.1.size HF2.out.2) (fun h => ⟨rfl, h⟩) rfl

end Go.Proofs.YtlkhjffbhcjdfaaDoor
