/-
  THE WALK of mask.Bits and of its iterator.
-/
import Derived.Test.YtibccecmicndaaaDoorMaP
import Derived.Test.YtibccecmicndaaaDoorRnf
import Derived.Sort.CutIn
import Derived.Sort.LoopGhostIn
set_option linter.unusedVariables false
set_option linter.unusedSimpArgs false
namespace Go.Proofs.YtibccecmicndaaaDoor
open Go.RowKit Go.Maps Go.Shelf
attribute [local go_sem] Oper.semAt_some

set_option maxRecDepth 100000 in
set_option maxHeartbeats 4000000 in
theorem bits_seq (n : Nat) (hn : 4 ≤ n) (p : Nat) (h l : Nat) (h0 : h < 18446744073709551616) (h1 : l < 18446744073709551616) (w : World) :
    SeqF n Tryd.prog 55 #[.pointer (some ⟨p, 0, none⟩)] (fun x : Nat => #[.int .i64 x])
      (fun W => W.cell? ⟨p, 0, none⟩ = some (.int .u64 (h : Int)) ∧ W.cell? ⟨p, 1, none⟩ = some (.int .u64 (l : Int)))
      (fun pre x _ => (pre ++ [x]) <+: bitsOf h l) (fun ys => ys = bitsOf h l) (fun pre => pre <+: bitsOf h l) w := by
  intro yl J Jx F0 W hW bJ bJx hQ hF0 hY hJ0
  obtain ⟨hc0, hc1⟩ := hQ _ _ _ hJ0
  obtain ⟨B, hB⟩ : ∃ B, B = bitsOf h l := ⟨_, rfl⟩
  rw [← hB] at hY ⊢
  have hj1 := bJ.more _ _ _ (W.alloc (.cells #[.int .u64 (h : Int), .int .u64 (l : Int)] 27)) W.heap.size hJ0 (World.grownBy_alloc _ _ none) (Nat.le_refl _) (by simp)
  have hgF : W.heap.size ∉ F0 := fun k => by have := hF0 _ k; omega
  have HB1 := Lib.hid (Blk.made W 27 #[.int .u64 (h : Int), .int .u64 (l : Int)])
  have HJ1 := Lib.hid hj1
  have HGF := Lib.hid hgF
  have HBs := Lib.hid hB
  have HBJ := Lib.hid bJ
  have HY := Lib.hid hY
  have HLt := Lib.hid (And.intro h0 h1)
  have hn1 : 1 ≤ n := by omega
  have HF0 := Lib.hid hF0
  clear hB hQ bJ bJx hY hF0 hJ0 hj1 hgF h0 h1 hW
  refine callsIn_of_wp Tryd.func55 rfl trivial ?_ rfl
  simp only [Tryd.ntmps55, List.size_toArray, List.length_cons, List.length_nil, Nat.reduceAdd, Nat.reduceSub, Array.replicate_succ, Array.replicate_zero, List.push_toArray, List.append_toArray, List.nil_append, List.cons_append]
  gi_wp2_with fail
  gi_loopg [3] B.length (fun gk s wr => ∃ (pre : List Nat) (h' l' g : Nat) (F : List Nat), s = .pointer (some ⟨g, 0, none⟩) ∧ pre ++ bitsOf h' l' = B ∧ gk = (bitsOf h' l').length ∧ h' < 18446744073709551616 ∧ l' < 18446744073709551616 ∧
      Blk wr g 27 #[.int .u64 (h' : Int), .int .u64 (l' : Int)] ∧ g ∈ F ∧ g ∉ F0 ∧ (∀ m ∈ F0, m ∈ F) ∧ W.heap.size ≤ wr.heap.size ∧ J pre F wr)
  case atStart => exact ⟨[], h, l, _, _, rfl, HBs.out.symm, by rw [HBs.out], HLt.out.1, HLt.out.2, HB1.out, by simp, HGF.out, fun m hm => by simp [hm], by simp, HJ1.out⟩
  case round =>
    obtain ⟨pre, h', l', g, F, rfl, hpre, hgk, b0, b1, hblk, hgF, hg0, hF, hsz, hJ⟩ := hrel
    have HSz := Lib.hid hsz
    have c0 := hblk.cell 0 rfl
    have c1 := hblk.cell 1 rfl
    have HP := Lib.hid hpre
    have HGk := Lib.hid hgk
    have HBl := Lib.hid hblk
    have HG := Lib.hid (And.intro hgF hg0)
    have HF := Lib.hid hF
    have HJ := Lib.hid hJ
    have HFi := Lib.hid (fun X => first_c h' l' X b0 b1)
    have HLb := Lib.hid (And.intro b0 b1)
    rw [fiN_eq b0 b1] at HFi
    clear hpre hgk hblk hgF hg0 hF hsz hJ HB1 HJ1 HGF
    unfold mV at HFi
    gi_wp2_with fail
    refine ⟨trivial, (callsIn_wide.2 (HFi.out _)).mono ?_⟩
    rintro e w1 ⟨rfl, hf⟩
    have HJ1 := Lib.hid (HBJ.out.grow _ _ _ _ HJ.out (grown_of_below hf.below none))
    have HB1 := Lib.hid (hf.blk HBl.out (by simp))
    have HSz1 := Lib.hid (Nat.le_trans HSz.out hf.size)
    clear hf c0 c1
    cases hbits : bitsOf h' l' with
    | nil =>
      have HN := Lib.hid hbits
      clear hbits
      have e1 : firstOf [] = -1 := rfl
      rw [e1]
      clear e1
      have hpre : pre = B := by have := HP.out; rw [HN.out, List.append_nil] at this; exact this
      subst hpre
      gi_wp2_with fail
      refine ⟨fun f h => (by cases h), ?_⟩
      gi_wp2_with fail
      (try simp only [Exit.inBlock, Exit.then])
      refine bodyPost_ret (results_none rfl _ _ _) rfl ?_
      exact ⟨⟨_, rfl⟩, .inl ⟨_, F, rfl, HF.out, HJ1.out⟩⟩
    | cons i t =>
      have e1 : firstOf (i :: t) = (i : Int) := rfl
      rw [e1]
      have hi : i < 128 := bitsOf_lt (h := h') (l := l') (by rw [hbits]; simp)
      have hx : (pre ++ [i]) <+: B := by rw [← HP.out, hbits]; exact ⟨t, by simp⟩
      have ht := bitsOf_tail hbits
      obtain ⟨fn, tmps, assign, body, hy, hRd⟩ := HY.out pre F i w1 HJ1.out HF.out hx
      have HRd := Lib.hid hRd
      have HN := Lib.hid hbits
      have HX := Lib.hid hx
      have HT := Lib.hid ht
      have i2 : ((i : Int) < 0) = False := by simp

      clear hbits hx ht hRd e1
      gi_wp2
      refine HRd.out.mono ?_
      rintro e W4 ⟨hk, (⟨rfl, hJ4⟩ | ⟨rfl, hJx⟩)⟩
      · have HSz4 := Lib.hid (Nat.le_trans HSz1.out hk.1)
        have HJ4 := Lib.hid hJ4
        have HB4 := Lib.hid (show Blk W4 g _ _ from (hk.2 g HG.out.1 HG.out.2).trans HB1.out)
        have c0 := HB4.out.cell 0 rfl
        have c1 := HB4.out.cell 1 rfl
        have HJB := Lib.hid (fun w2 (h : Frm [] W4 w2) => HBJ.out.grow _ _ _ _ HJ4.out (grown_of_below h.below none))
        have HWo := Lib.hid (fun X => without_c h' l' (i : Int) X HLb.out.1 HLb.out.2 (by omega) (by omega))
        unfold mV at HWo
        have HL1 := Lib.hid (And.intro (less_lt h' (18446744073709551615 - bH (i : Int)) HLb.out.1) (less_lt l' (18446744073709551615 - bL (i : Int)) HLb.out.2))
        obtain ⟨h2, hh2⟩ : ∃ h2, h2 = h' &&& (18446744073709551615 - bH (i : Int)) := ⟨_, rfl⟩
        obtain ⟨l2, hl2⟩ : ∃ l2, l2 = l' &&& (18446744073709551615 - bL (i : Int)) := ⟨_, rfl⟩
        rw [← hh2, ← hl2] at HWo HT HL1
        clear hk hJ4 hy HRd hh2 hl2
        gi_wp2_with fail
        refine ⟨trivial, (callsIn_wide.2 (HWo.out _)).mono ?_⟩
        rintro e w5 ⟨rfl, hf⟩
        have hj5 := HJB.out _ hf
        have hb5 := hf.blk HB4.out (by simp)
        have HJ5 := Lib.hid hj5
        have HSz5 := Lib.hid (Nat.le_trans HSz4.out hf.size)
        have HB5 := Lib.hid hb5
        have c0 := hb5.cell 0 rfl
        have c1 := hb5.cell 1 rfl
        have f0 := hb5.free 0
        have f1 := hb5.free 1
        clear hf hj5 hb5 HWo
        clear c0 c1
        have c0 := HB5.out.cell 0 rfl
        have c1 := HB5.out.cell 1 rfl
        gi_wp2_with fail
        have hg0 : w5.heap.size ∉ F0 := fun h => by have := HF0.out _ h; have := HSz5.out; omega
        have hj6 := HBJ.out.put _ _ _ ((w5.setCell ⟨g, 0, none⟩ (.int .u64 (h2 : Int))).setCell ⟨g, 1, none⟩ (.int .u64 (l2 : Int))) g HJ5.out HG.out.1 HG.out.2 (grown_put (grown_put (grown_refl _ _) 0 _) 1 _)
        have hj7 := HBJ.out.more _ _ _ _ w5.heap.size hj6 (World.grownBy_alloc _ (.cells #[.int .u64 (h2 : Int), .int .u64 (l2 : Int)] 27) none) (by simp) (by simp)
        have hb7 := Blk.made ((w5.setCell ⟨g, 0, none⟩ (.int .u64 (h2 : Int))).setCell ⟨g, 1, none⟩ (.int .u64 (l2 : Int))) 27 #[.int .u64 (h2 : Int), .int .u64 (l2 : Int)]
        simp only [World.size_setCell] at hb7
        gi_roundg t.length
        case rel => exact ⟨pre ++ [i], h2, l2, w5.heap.size, _, rfl, by rw [HT.out, List.append_assoc, ← HP.out, HN.out]; rfl, by rw [HT.out], HL1.out.1, HL1.out.2, hb7, by simp, hg0, fun m hm => by simp [HF.out m hm], by have := HSz5.out; simp; omega, hj7⟩
        case measure =>
          have h4 := HGk.out
          rw [HN.out] at h4
          simp at h4
          omega
      · have HJx := Lib.hid hJx
        clear hk hJx hy HRd
        gi_wp2
        (try simp only [Exit.inBlock, Exit.then])
        refine bodyPost_ret (results_none rfl _ _ _) rfl ?_
        exact ⟨⟨_, rfl⟩, .inr ⟨_, F, HX.out, HF.out, HJx.out⟩⟩

end Go.Proofs.YtibccecmicndaaaDoor
