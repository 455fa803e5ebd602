/-
  THE WALK of the law WireEach.
-/
import Derived.Test.YtdkbibfgebfeaaaWiK
import Derived.Test.YtdkbibfgebfeaaaWiI
set_option linter.unusedVariables false
set_option linter.unusedSimpArgs false
namespace Go.Proofs.Ytdkbibfgebfeaaa
open Go.RowKit

theorem gots_rdP {w : World} {v : Value} {gs : List GtV} (hg : (gotsR v gs).P w) (hb : (bodR gs).P w) (hB : ∀ g ∈ gs, g.B.length ≤ 1000000) : ∃ a c, v = .slice a gs.length c ∧ RdG w a gs := by
  obtain ⟨a, c, h1, _, _, _, h5, _⟩ := RdS.of_own (rows := gs.map GtV.row) hg (fun r hr => by obtain ⟨g, _, rfl⟩ := List.mem_map.1 hr; rfl) (by decide) (List.length_map _).symm
  rw [List.length_map] at h1
  refine ⟨a, c, h1, h5, fun g hg => ?_⟩
  have hb := hb (sumR g.bv g.B) (List.mem_map.2 ⟨g, hg, rfl⟩)
  obtain ⟨p, c', e1, _, e2⟩ := RdI.of_own hb
  exact ⟨p, c', e1, e2, hB g hg⟩
/-- A cell of a row of the call's own. -/
theorem own_cell {w : World} {base e : Nat} {a : Option Addr} {n c : Nat} {vs : List Value} (h : w.ownsRow base e 1 (.slice a n c) n vs) {i : Nat} {v : Value} (hi : vs[i]? = some v) : ∃ g, a = some ⟨g, 0, none⟩ ∧ w.cell? ⟨g, i, none⟩ = some v := by
  rcases h.2 with ⟨h1, h2⟩ | ⟨g, cap, cur, hv, _⟩
  · have := h.1
    rw [h2] at this
    have : vs = [] := List.eq_nil_of_length_eq_zero (by simpa using this)
    subst this
    simp at hi
  · injection hv with h1 h2 h3
    subst h1
    refine ⟨g, rfl, ?_⟩
    have := h.cells (g := g) rfl i v hi
    rw [add_addr, Nat.zero_add] at this
    exact this

set_option maxRecDepth 100000 in
set_option maxHeartbeats 16000000 in
theorem wireEachA_w (w : World) (a : Option Addr) (c : Nat) (zs : List Int) (hb : Bytes w a c zs) (hz : zs.length ≤ 300) (ad : Option Addr) (cs : Nat) (ss : List Stp) (hs : Steps w ad ss) (hsl : ss.length ≤ 10) (most : Int) :
    Calls Try.prog 5 #[.slice a zs.length c, .slice ad ss.length cs, .int .i64 most] w fun e w' => e = .returned (.bool true) ∧ Below w.heap.size w w' := by
  have HB := Lib.hid (fun X (hX : Frm [] w X) => hb.frm hX)
  have HSt := Lib.hid (fun X (hX : Frm [] w X) => hs.frm hX)
  clear hb hs
  have t1 : decide (300 < (zs.length : Int)) = false := by rw [decide_eq_false_iff_not]; omega
  have t2 : decide (10 < (ss.length : Int)) = false := by rw [decide_eq_false_iff_not]; omega
  go_enter Try.func5, Try.ntmps5
  go_wp2_with fail
  refine (alive_c _).mono ?_
  rintro e w1 ⟨rfl, hF⟩
  have HS1 := Lib.hid ((Sep.init w).keep hF)
  clear hF
  go_wp2_with fail
  refine (parse_c ad ss.length cs w1).mono ?_
  rintro e w3 ⟨rfl, rfl⟩
  have HS3 := Lib.hid (HS1.out.skip (.cells #[.slice ad ss.length cs] 22))
  have HK3 := Lib.hid (Blk.made w1 22 #[.slice ad ss.length cs])
  obtain ⟨w3, hw3⟩ : ∃ w3, w3 = w1.alloc (.cells #[.slice ad ss.length cs] 22) := ⟨_, rfl⟩
  rw [← hw3] at HS3 HK3 ⊢
  clear hw3
  have HOs := Lib.hid (eachO_small (zs := zs) (ss := ss) (most := most))
  obtain ⟨o, ho⟩ : ∃ o, o = eachO zs ss most := ⟨_, rfl⟩
  obtain ⟨E, hE⟩ : ∃ E, E = eachE zs ss most := ⟨_, rfl⟩
  have HC3 := Lib.hid (each_v (HB.out _ HS3.out.frm) (HSt.out _ HS3.out.frm) HK3.out most)
  have HW3 := Lib.hid (fun X hX => reach_v (HB.out X hX) (cs := cs) (HSt.out X hX) most)
  rw [← ho, ← hE] at HC3
  rw [← ho] at HOs
  simp only [← ho, ← hE] at HW3
  clear ho hE
  go_wp2_with fail
  refine HC3.out.mono ?_
  rintro e w4 ⟨v4, m4, hm4, rfl, hS4⟩
  obtain ⟨a4, c4, rfl, j1, j2⟩ := own_shape (hS4.own 0 rfl)
  have hbig : m4.length ≤ 9223372036854775807 := own_le (hS4.own 0 rfl)
  have HS4 := Lib.hid (HS3.out.more hS4)
  have HG4 := Lib.hid hm4
  clear hS4 hm4 HC3 j1 j2
  go_wp2_with fail
  refine (HW3.out _ HS4.out.frm).mono ?_
  rintro e w5 ⟨v5, m5, hm5, rfl, hS5⟩
  obtain ⟨a5, c5, rfl, j1, j2⟩ := own_shape (hS5.own 0 rfl)
  have HS5 := Lib.hid (HS4.out.more hS5)
  have hl : m4.length = m5.length := by have := congrArg List.length (HG4.out.trans hm5.symm); simpa using this
  have HG5 := Lib.hid hm5
  have l1 : m4.length ≤ m5.length := by omega
  have l2 : m5.length ≤ m4.length := by omega
  have t3 : ((m4.length : Int) != (m5.length : Int)) = false := by simp; omega
  clear hS5 hm5 hl HW3 j1 j2
  go_wp2_with fail
  go_loopw [49] (fun i wr => ∃ k : Nat, k ≤ m4.length ∧ i = .int .i64 k ∧ Sep [] w wr [ownR 23 1 (.slice a5 m5.length c5) m5.length (m5.map EV.val), manyR (m5.flatMap EV.thg), ownR 23 1 (.slice a4 m4.length c4) m4.length (m4.map EV.val), manyR (m4.flatMap EV.thg)]) (fun i _ => m4.length - (intOf i).toNat)
  case atStart => exact ⟨0, Nat.zero_le _, rfl, HS5.out⟩
  case round =>
    obtain ⟨k, hk, rfl, hS⟩ := hrel
    have HT := Lib.hid hS
    clear hS
    obtain ⟨wo, hwo⟩ : ∃ wo : World, wo = wr := ⟨_, rfl⟩
    rw [← hwo] at HT ⊢
    clear hwo
    by_cases hlt : k < m4.length
    · obtain ⟨x, hx⟩ : ∃ x, m4[k]? = some x := ⟨_, List.getElem?_eq_getElem hlt⟩
      obtain ⟨y, hy⟩ : ∃ y, m5[k]? = some y := ⟨_, List.getElem?_eq_getElem (by omega)⟩
      have hxy : x.pl = y.pl := by
        have h := congrArg (fun l => l[k]?) (HG4.out.trans HG5.out.symm)
        simp only [List.getElem?_map, hx, hy, Option.map_some, Option.some.injEq] at h
        exact h
      have hxo : x.pl ∈ o := by rw [← HG4.out]; exact List.mem_map.2 ⟨x, List.mem_of_getElem? hx, rfl⟩
      obtain ⟨hlen, hsm⟩ := HOs.out _ hxo
      obtain ⟨g4, rfl, cx⟩ := own_cell (HT.out.own 2 rfl) (i := k) (v := x.val) (by rw [List.getElem?_map, hx]; rfl)
      obtain ⟨g5, rfl, cy⟩ := own_cell (HT.out.own 0 rfl) (i := k) (v := y.val) (by rw [List.getElem?_map, hy]; rfl)
      have hs1 : ∀ g ∈ x.gs, g.B.length ≤ 1000000 := fun g hg => by have := hsm g.gt (List.mem_map.2 ⟨g, hg, rfl⟩); simp only [GtV.gt] at this; omega
      have hs2 : ∀ g ∈ y.gs, g.B.length ≤ 1000000 := fun g hg => by have := hsm g.gt (by rw [hxy]; exact List.mem_map.2 ⟨g, hg, rfl⟩); simp only [GtV.gt] at this; omega
      have thx : ∀ r ∈ x.thg, r ∈ m4.flatMap EV.thg := fun r hr => List.mem_flatMap.2 ⟨x, List.mem_of_getElem? hx, hr⟩
      have thy : ∀ r ∈ y.thg, r ∈ m5.flatMap EV.thg := fun r hr => List.mem_flatMap.2 ⟨y, List.mem_of_getElem? hy, hr⟩
      have HC : Hid (∀ n : Nat, Calls Try.prog 18 #[x.val, y.val] (wo.drewN n) fun e w' => e = .returned (.bool true) ∧ ∃ m, w' = (wo.drewN n).drewN m) := Lib.hid (fun n => by
        obtain ⟨p1, q1, e1, r1⟩ := gots_rdP (((HT.out.drewN n).get 3 rfl) _ (thx (gotsR (.slice x.a x.n x.c) x.gs) (by simp [EV.thg]))) (((HT.out.drewN n).get 3 rfl) _ (thx (bodR x.gs) (by simp [EV.thg]))) hs1
        obtain ⟨p2, q2, e2, r2⟩ := gots_rdP (((HT.out.drewN n).get 1 rfl) _ (thy (gotsR (.slice y.a y.n y.c) y.gs) (by simp [EV.thg]))) (((HT.out.drewN n).get 1 rfl) _ (thy (bodR y.gs) (by simp [EV.thg]))) hs2
        have h := gsame_c p1 p2 q1 q2 x.gs y.gs (wo.drewN n) r1 r2 (by have : x.pl.length = x.gs.length := List.length_map _; omega) hxy
        rw [← e1, ← e2] at h
        exact h)
      have i1 : (0 : Int) ≤ (k : Int) := by omega
      have i2 : (k : Int) < (m4.length : Int) := by omega
      have i3 : (k : Int) < (m5.length : Int) := by omega
      unfold EV.val at cx cy HC
      clear hx hy hxy hxo hlen hsm hs1 hs2 thx thy
      go_wp2_with fail
      go_quiet ((go_at_call 18; exact Calls.quiet_of (HC.out _)))
      go_wp2_with fail
      go_roundw
      case rel => exact ⟨k + 1, by omega, by go_num, HT.out.drewN _⟩
      case measure => simp [intOf]; omega
    · obtain rfl : k = m4.length := by omega
      go_wp2_with fail
      go_ret
      exact ⟨rfl, HT.out.frm.below⟩

set_option maxRecDepth 100000 in
set_option maxHeartbeats 4000000 in
theorem wireEachB_w (w : World) (a : Option Addr) (c n : Nat) (ad : Option Addr) (cs m : Nat) (most : Int) (hn : n ≤ 9223372036854775807) (hm : m ≤ 9223372036854775807) (h : 300 < n ∨ 10 < m) :
    Calls Try.prog 5 #[.slice a n c, .slice ad m cs, .int .i64 most] w fun e w' => e = .returned (.bool true) ∧ Below w.heap.size w w' := by
  by_cases h1 : 300 < n
  · have t1 : decide (300 < (n : Int)) = true := by rw [decide_eq_true_iff]; omega
    clear h h1
    go_enter Try.func5, Try.ntmps5
    go_wp2_with fail
    refine (alive_c _).mono ?_
    rintro e w1 ⟨rfl, hF⟩
    have HF := Lib.hid hF
    clear hF
    go_wp2_with fail
    go_ret
    exact ⟨rfl, HF.out.below⟩
  · have t1 : decide (300 < (n : Int)) = false := by rw [decide_eq_false_iff_not]; omega
    have t2 : decide (10 < (m : Int)) = true := by rw [decide_eq_true_iff]; omega
    clear h h1
    go_enter Try.func5, Try.ntmps5
    go_wp2_with fail
    refine (alive_c _).mono ?_
    rintro e w1 ⟨rfl, hF⟩
    have HF := Lib.hid hF
    clear hF
    go_wp2_with fail
    go_ret
    exact ⟨rfl, HF.out.below⟩

theorem wireEach_w (w : World) (a : Option Addr) (c : Nat) (zs : List Int) (lc : zs.length ≤ c) (mc : c ≤ maxLen) (nc : a = none → c = 0) (rd : RdI .u8 w a zs) (wf : ∀ x ∈ zs, (Lit.int .u8 x).wf = true)
    (ad : Option Addr) (cs : Nat) (ss : List Stp) (lc2 : ss.length ≤ cs) (mc2 : cs ≤ maxLen) (rd2 : RdS 2 w ad (ss.map Stp.row)) (wf2 : ∀ s ∈ ss, s.ok) (most : Int) (wm : (Lit.int .i64 most).wf = true) :
    Calls Try.prog 5 #[.slice a zs.length c, .slice ad ss.length cs, .int .i64 most] w fun e w' => e = .returned (.bool true) ∧ Below w.heap.size w w' := by
  unfold maxLen at mc mc2
  by_cases h : 300 < zs.length ∨ 10 < ss.length
  · exact wireEachB_w w a c zs.length ad cs ss.length most (by omega) (by omega) h
  · exact wireEachA_w w a c zs ⟨rd, byt_wf wf, lc, mc, nc, by omega⟩ (by omega) ad cs ss ⟨rd2, by omega, fun s hs => (wf2 s hs).2⟩ (by omega) most

end Go.Proofs.Ytdkbibfgebfeaaa
