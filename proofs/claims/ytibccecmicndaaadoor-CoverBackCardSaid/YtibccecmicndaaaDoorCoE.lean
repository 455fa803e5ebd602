/-
  THE WALKS of cover.Repair, cover.From, cover.Of.
-/
import Derived.Test.YtibccecmicndaaaDoorRma
import Derived.Test.YtibccecmicndaaaDoorMaK
import Derived.Test.YtibccecmicndaaaDoorPrm
set_option linter.unusedVariables false
set_option linter.unusedSimpArgs false
namespace Go.Proofs.YtibccecmicndaaaDoor
open Go.RowKit

/-- A repair with a head of zeros and without a body. -/
def rpV (b h l : Nat) : Value := .agg #[.int .u8 0, .int .u8 0, .int .u8 0, .int .u8 0, .int .u8 0, .int .u8 0, .int .u8 0, .int .u8 0, .int .u16 (b : Int), .int .u64 (h : Int), .int .u64 (l : Int), .slice none 0 0]

set_option maxRecDepth 100000 in
set_option maxHeartbeats 4000000 in
theorem repair_c (b h l : Nat) (w : World) (hb : b < 65536) (h0 : h < 18446744073709551616) (h1 : l < 18446744073709551616) :
    Calls Tryd.prog 14 #[rpV b h l] w fun e w' => ∃ v, e = .returned v ∧ Sep [] w w' [ownR 22 1 v (bitsOf h l).length ((bitsOf h l).map (encU b))] := by
  have HQ := Lib.hid (fun W => seqs_c b h l W hb h0 h1)
  have HS := Lib.hid ((Sep.init w).alloc #[.int .u8 0, .int .u8 0, .int .u8 0, .int .u8 0, .int .u8 0, .int .u8 0, .int .u8 0, .int .u8 0, .int .u16 (b : Int), .int .u64 (h : Int), .int .u64 (l : Int), .slice none 0 0] 38)
  unfold rpV mV at *
  clear h0 h1 hb
  go_enter Tryd.func14, Tryd.ntmps14
  go_upto_region 1 with fail
  have c0 := (HS.out.blk 0 rfl).cell 8 rfl
  have c1 := (HS.out.blk 0 rfl).cell 9 rfl
  have c2 := (HS.out.blk 0 rfl).cell 10 rfl
  go_wp2_with fail
  refine (HQ.out _).mono ?_
  rintro e w2 ⟨v, rfl, hS⟩
  have H2 := Lib.hid (sep_rebase HS.out.frm hS)
  clear hS c0 c1 c2
  go_wp2_with fail
  go_ret
  exact ⟨v, rfl, H2.out⟩

/-- How far each number is ahead of b. -/
def dsL (b : Int) (ns : List Int) : List Int := ns.map fun n => ah16 n b
def inS (d : Int) : Bool := decide (0 ≤ d ∧ d < 109)
def twB (l : List Int) : Bool := !decide l.Nodup
theorem twB_snoc (l : List Int) (x : Int) : twB (l ++ [x]) = (twB l || decide (x ∈ l)) := by
  unfold twB
  by_cases h1 : l.Nodup <;> by_cases h2 : x ∈ l <;> simp [List.nodup_append, h1, h2]
  intro y hy e
  exact h2 (e ▸ hy)
/-- The error that From gives; the mask's halves. -/
def frE (b : Int) (ns : List Int) : Int := if (dsL b ns).all inS = false then 31 else if ns.length = 0 then 4 else if twB (dsL b ns) = true then 5 else 0
def frH (b : Int) (ns : List Int) : Nat := if frE b ns = 0 then ofH (dsL b ns) else 0
def frL (b : Int) (ns : List Int) : Nat := if frE b ns = 0 then ofL (dsL b ns) else 0
theorem frE_out {b : Int} {ns : List Int} (h : ∃ d ∈ dsL b ns, inS d = false) : frE b ns = 31 ∧ frH b ns = 0 ∧ frL b ns = 0 := by
  have h1 : (dsL b ns).all inS = false := by
    obtain ⟨d, hd, h⟩ := h
    rw [List.all_eq_false]; exact ⟨d, hd, by rw [h]; simp⟩
  have h2 : frE b ns = 31 := if_pos h1
  exact ⟨h2, by unfold frH; rw [if_neg (by rw [h2]; decide)], by unfold frL; rw [if_neg (by rw [h2]; decide)]⟩
theorem frE_none {b : Int} {ns : List Int} (h : ns.length = 0) : frE b ns = 4 ∧ frH b ns = 0 ∧ frL b ns = 0 := by
  have h0 : ns = [] := List.length_eq_zero_iff.1 h
  subst h0
  have h2 : frE b [] = 4 := rfl
  exact ⟨h2, by unfold frH; rw [if_neg (by rw [h2]; decide)], by unfold frL; rw [if_neg (by rw [h2]; decide)]⟩
theorem frE_in {b : Int} {ns : List Int} (h : ∀ d ∈ dsL b ns, inS d = true) (h0 : ns.length ≠ 0) : (twB (dsL b ns) = true → frE b ns = 5 ∧ frH b ns = 0 ∧ frL b ns = 0) ∧ (twB (dsL b ns) = false → frE b ns = 0 ∧ frH b ns = ofH (dsL b ns) ∧ frL b ns = ofL (dsL b ns)) := by
  have h1 : ¬ (dsL b ns).all inS = false := by rw [List.all_eq_true.2 h]; decide
  refine ⟨fun ht => ?_, fun ht => ?_⟩
  · have h2 : frE b ns = 5 := by unfold frE; rw [if_neg h1, if_neg h0, if_pos ht]
    exact ⟨h2, by unfold frH; rw [if_neg (by rw [h2]; decide)], by unfold frL; rw [if_neg (by rw [h2]; decide)]⟩
  · have h2 : frE b ns = 0 := by unfold frE; rw [if_neg h1, if_neg h0, if_neg (by rw [ht]; decide)]
    exact ⟨h2, by unfold frH; rw [if_pos h2], by unfold frL; rw [if_pos h2]⟩

theorem has_of (ds : List Int) (x : Int) (hx : inS x = true) : decide (ofH ds &&& bH x ≠ 0 ∨ ofL ds &&& bL x ≠ 0) = decide (x ∈ ds) := by
  have h := of_decide_eq_true hx
  obtain ⟨k, rfl⟩ : ∃ k : Nat, x = (k : Int) := ⟨x.toNat, by omega⟩
  rw [has_bt, Int.toNat_natCast, bt_of ds k (by omega), decide_eq_true (show 0 ≤ (k : Int) ∧ (k : Int) < 128 by omega), Bool.true_and]

set_option maxRecDepth 100000 in
set_option maxHeartbeats 4000000 in
theorem from_c (a : Option Addr) (c : Nat) (b : Int) (ns : List Int) (w : World) (rd : RdI .u16 w a ns) (hl : ns.length ≤ 100000) (hn : ∀ n ∈ ns, 0 ≤ n ∧ n ≤ 65535) (b0 : 0 ≤ b) (b1 : b ≤ 65535) :
    Calls Tryd.prog 21 #[.int .u16 b, .slice a ns.length c] w fun e w' => e = .returned (.tuple #[mV (frH b ns) (frL b ns), .int .i64 (frE b ns)]) ∧ Frm [] w w' := by
  have HR := Lib.hid rd
  have HN := Lib.hid hn
  have HS0 := Lib.hid (((Sep.init w).alloc #[.int .u64 0, .int .u64 0] 27).alloc #[.int .u64 0, .int .u64 0] 27)
  clear rd hn
  go_enter Tryd.func21, Tryd.ntmps21
  go_upto_region 2 with fail
  obtain ⟨w1, hw1⟩ : ∃ w1, w1 = (w.alloc (.cells #[.int .u64 0, .int .u64 0] 27)).alloc (.cells #[.int .u64 0, .int .u64 0] 27) := ⟨_, rfl⟩
  obtain ⟨p, hp⟩ : ∃ p, p = w.heap.size := ⟨_, rfl⟩
  simp only [World.size_alloc] at HS0
  rw [← hw1, ← hp] at HS0
  rw [← hw1, ← hp]
  clear hw1 hp
  go_wp2_with fail
  go_loopw [7, 13] (fun t i wr => ∃ j : Nat, j ≤ ns.length ∧ i = .int .i64 j ∧ t = .bool (twB ((dsL b ns).take j)) ∧ (∀ d ∈ (dsL b ns).take j, inS d = true) ∧ Sep [] w wr [blkR (p + 1) 27 #[.int .u64 (ofH ((dsL b ns).take j) : Int), .int .u64 (ofL ((dsL b ns).take j) : Int)], blkR p 27 #[.int .u64 0, .int .u64 0]]) (fun _ i _ => ns.length - (intOf i).toNat)
  case atStart => exact ⟨0, Nat.zero_le _, rfl, rfl, by simp, HS0.out⟩
  case round =>
    obtain ⟨j, hj, rfl, rfl, hin, hS⟩ := hrel
    have HS := Lib.hid hS
    have HIn := Lib.hid hin
    clear hin
    by_cases hlt : j < ns.length
    · obtain ⟨g, off, x, hx, rfl, hb, hc⟩ := (HR.out.below hS.frm.below).at_ j hlt
      have i0 : (0 : Int) ≤ (j : Int) := by omega
      have i1 : (j : Int) < (ns.length : Int) := by omega
      obtain ⟨x0, x1⟩ := HN.out x (List.mem_of_getElem? hx)
      have hdx : (dsL b ns)[j]? = some (ah16 x b) := by unfold dsL; rw [List.getElem?_map, hx]; rfl
      have hds : (dsL b ns).take (j + 1) = (dsL b ns).take j ++ [ah16 x b] := by rw [List.take_add_one, hdx]; rfl
      have hdi := ah16_in x b
      have HA := Lib.hid (fun W => ahead_c x b W x0 x1 b0 b1)
      obtain ⟨d, hd⟩ : ∃ d, d = ah16 x b := ⟨_, rfl⟩
      rw [← hd] at hdx hds hdi
      simp only [← hd] at HA
      have hdm : d ∈ dsL b ns := List.mem_of_getElem? hdx
      clear hd hx
      by_cases hs : inS d = true
      · have hs' := of_decide_eq_true hs
        have t0 : decide (d < 0) = false := decide_eq_false (by omega)
        have t1 : decide (109 ≤ d) = false := decide_eq_false (by omega)
        have hH := ofH_lt ((dsL b ns).take j)
        have hL := ofL_lt ((dsL b ns).take j)
        have hha := has_of ((dsL b ns).take j) d hs
        have htw := twB_snoc ((dsL b ns).take j) d
        have hoH := ofH_snoc ((dsL b ns).take j) d
        have hoL := ofL_snoc ((dsL b ns).take j) d
        rw [← hds] at htw hoH hoL
        have HIn2 := Lib.hid (show ∀ z ∈ (dsL b ns).take (j + 1), inS z = true from fun z hz => by
          rw [hds] at hz
          rcases List.mem_append.1 hz with hz | hz
          · exact HIn.out z hz
          · rw [List.mem_singleton.1 hz]; exact hs)
        obtain ⟨t, ht⟩ : ∃ t, t = twB ((dsL b ns).take j) := ⟨_, rfl⟩
        obtain ⟨H, hHH⟩ : ∃ H, H = ofH ((dsL b ns).take j) := ⟨_, rfl⟩
        obtain ⟨L, hLL⟩ : ∃ L, L = ofL ((dsL b ns).take j) := ⟨_, rfl⟩
        obtain ⟨y, hy⟩ : ∃ y, y = decide (d ∈ (dsL b ns).take j) := ⟨_, rfl⟩
        rw [← ht, ← hy] at htw
        rw [← hHH] at hoH hH
        rw [← hLL] at hoL hL
        rw [← hHH, ← hLL] at HS
        rw [← hHH, ← hLL, ← hy] at hha
        rw [← ht]
        have HHa := Lib.hid (fun X => (show Calls Tryd.prog 24 #[mV H L, .int .i64 d] X fun e w' => e = .returned (.bool y) ∧ Frm [] X w' from hha ▸ has_c H L d X hH hL (by omega) (by omega)))
        have HW := Lib.hid (fun X => with_c H L d X hH hL (by omega) (by omega))
        have HTw := Lib.hid (And.intro htw (And.intro hoH hoL))
        unfold mV at HW HHa
        clear htw hoH hoL hha hH hL hHH hLL hy ht hs hs' hds hdx hdm hdi HIn hb
        have c0 := (HS.out.blk 0 rfl).cell 0 rfl
        have c1 := (HS.out.blk 0 rfl).cell 1 rfl
        clear hS
        cases t
        · go_wp2_with fail
          refine (HA.out _).mono ?_
          rintro e w2 ⟨rfl, rfl⟩
          go_wp2_with fail
          refine (HHa.out _).mono ?_
          rintro e w2 ⟨rfl, hf⟩
          have HS2 := Lib.hid (HS.out.keep hf)
          clear hf c0 c1
          have c0 := (HS2.out.blk 0 rfl).cell 0 rfl
          have c1 := (HS2.out.blk 0 rfl).cell 1 rfl
          go_wp2_with fail
          refine (HW.out _).mono ?_
          rintro e w3 ⟨rfl, hf⟩
          have HS3 := Lib.hid (HS2.out.keep hf)
          clear hf c0 c1
          have c0 := (HS3.out.blk 0 rfl).cell 0 rfl
          have c1 := (HS3.out.blk 0 rfl).cell 1 rfl
          have f0 := (HS3.out.blk 0 rfl).free 0
          have f1 := (HS3.out.blk 0 rfl).free 1
          go_wp2_with fail
          have h5 := (HS3.out.put 0 rfl 0 (.int .u64 ((H ||| bH d : Nat) : Int))).put 0 rfl 1 (.int .u64 ((L ||| bL d : Nat) : Int))
          go_roundw
          case rel => exact ⟨j + 1, by omega, by go_num, by rw [HTw.out.1]; rfl, HIn2.out, by rw [HTw.out.2.1, HTw.out.2.2]; exact h5⟩
          case measure => simp [intOf]; omega
        · go_wp2_with fail
          refine (HA.out _).mono ?_
          rintro e w2 ⟨rfl, rfl⟩
          go_wp2_with fail
          refine (HW.out _).mono ?_
          rintro e w3 ⟨rfl, hf⟩
          have HS3 := Lib.hid (HS.out.keep hf)
          clear hf c0 c1
          have c0 := (HS3.out.blk 0 rfl).cell 0 rfl
          have c1 := (HS3.out.blk 0 rfl).cell 1 rfl
          have f0 := (HS3.out.blk 0 rfl).free 0
          have f1 := (HS3.out.blk 0 rfl).free 1
          go_wp2_with fail
          have h5 := (HS3.out.put 0 rfl 0 (.int .u64 ((H ||| bH d : Nat) : Int))).put 0 rfl 1 (.int .u64 ((L ||| bL d : Nat) : Int))
          go_roundw
          case rel => exact ⟨j + 1, by omega, by go_num, by rw [HTw.out.1]; rfl, HIn2.out, by rw [HTw.out.2.1, HTw.out.2.2]; exact h5⟩
          case measure => simp [intOf]; omega
      · have hs0 : inS d = false := by simpa using hs
        have hsn : ¬ (0 ≤ d ∧ d < 109) := of_decide_eq_false hs0
        have HE := Lib.hid (frE_out (b := b) (ns := ns) ⟨d, hdm, hs0⟩)
        have d0 := (HS.out.blk 1 rfl).cell 0 rfl
        have d1 := (HS.out.blk 1 rfl).cell 1 rfl
        have f0 := (HS.out.blk 1 rfl).free 0
        have f1 := (HS.out.blk 1 rfl).free 1
        obtain ⟨t, ht⟩ : ∃ t, t = twB ((dsL b ns).take j) := ⟨_, rfl⟩
        rw [← ht]
        clear hs hs0 hdx hds hdm HIn hb hS ht
        by_cases hd0 : d < 0
        · have t0 : decide (d < 0) = true := decide_eq_true hd0
          clear hsn hd0
          go_wp2_with fail
          refine (HA.out _).mono ?_
          rintro e w2 ⟨rfl, rfl⟩
          go_wp2_with fail
          have h5 := (HS.out.put 1 rfl 0 (.int .u64 0)).put 1 rfl 1 (.int .u64 0)
          have e0 := (h5.blk 1 rfl).cell 0 rfl
          have e1 := (h5.blk 1 rfl).cell 1 rfl
          obtain ⟨wx, hwx⟩ : ∃ wx, wx = (wr.setCell ⟨p, 0, none⟩ (.int .u64 0)).setCell ⟨p, 1, none⟩ (.int .u64 0) := ⟨_, rfl⟩
          rw [← hwx] at h5 e0 e1 ⊢
          rw [HE.out.1, HE.out.2.1, HE.out.2.2]
          refine bodyPost_ret (v := .tuple #[.agg #[.int .u64 0, .int .u64 0], .int .i64 31]) ?_ rfl ⟨rfl, h5.frm⟩
          simp [results, Tryd.results21, go_sem, e0, e1]
        · have t0 : decide (d < 0) = false := decide_eq_false hd0
          have t1 : decide (109 ≤ d) = true := decide_eq_true (by omega)
          clear hsn hd0
          go_wp2_with fail
          refine (HA.out _).mono ?_
          rintro e w2 ⟨rfl, rfl⟩
          go_wp2_with fail
          have h5 := (HS.out.put 1 rfl 0 (.int .u64 0)).put 1 rfl 1 (.int .u64 0)
          have e0 := (h5.blk 1 rfl).cell 0 rfl
          have e1 := (h5.blk 1 rfl).cell 1 rfl
          obtain ⟨wx, hwx⟩ : ∃ wx, wx = (wr.setCell ⟨p, 0, none⟩ (.int .u64 0)).setCell ⟨p, 1, none⟩ (.int .u64 0) := ⟨_, rfl⟩
          rw [← hwx] at h5 e0 e1 ⊢
          rw [HE.out.1, HE.out.2.1, HE.out.2.2]
          refine bodyPost_ret (v := .tuple #[.agg #[.int .u64 0, .int .u64 0], .int .i64 31]) ?_ rfl ⟨rfl, h5.frm⟩
          simp [results, Tryd.results21, go_sem, e0, e1]
    · obtain rfl : j = ns.length := by omega
      have htk : (dsL b ns).take ns.length = dsL b ns := List.take_of_length_le (by simp [dsL])
      rw [htk] at HS HIn ⊢
      have c0 := (HS.out.blk 0 rfl).cell 0 rfl
      have c1 := (HS.out.blk 0 rfl).cell 1 rfl
      have d0 := (HS.out.blk 1 rfl).cell 0 rfl
      have d1 := (HS.out.blk 1 rfl).cell 1 rfl
      have f0 := (HS.out.blk 1 rfl).free 0
      have f1 := (HS.out.blk 1 rfl).free 1
      clear hS htk
      by_cases hz : ns.length = 0
      · have hzb : ((ns.length : Int) == 0) = true := beq_iff_eq.2 (by omega)
        have HE := Lib.hid (frE_none (b := b) (ns := ns) hz)
        obtain ⟨t, ht⟩ : ∃ t, t = twB (dsL b ns) := ⟨_, rfl⟩
        rw [← ht]
        clear hz ht
        go_wp2_with fail
        have h5 := (HS.out.put 1 rfl 0 (.int .u64 0)).put 1 rfl 1 (.int .u64 0)
        have e0 := (h5.blk 1 rfl).cell 0 rfl
        have e1 := (h5.blk 1 rfl).cell 1 rfl
        obtain ⟨wx, hwx⟩ : ∃ wx, wx = (wr.setCell ⟨p, 0, none⟩ (.int .u64 0)).setCell ⟨p, 1, none⟩ (.int .u64 0) := ⟨_, rfl⟩
        rw [← hwx] at h5 e0 e1 ⊢
        rw [HE.out.1, HE.out.2.1, HE.out.2.2]
        refine bodyPost_ret (v := .tuple #[.agg #[.int .u64 0, .int .u64 0], .int .i64 4]) ?_ rfl ⟨rfl, h5.frm⟩
        simp [results, Tryd.results21, go_sem, e0, e1]
      · have hzb : ((ns.length : Int) == 0) = false := beq_eq_false_iff_ne.2 (by omega)
        have HE := Lib.hid (frE_in (b := b) (ns := ns) HIn.out hz)
        obtain ⟨t, ht⟩ : ∃ t, t = twB (dsL b ns) := ⟨_, rfl⟩
        rw [← ht] at HE ⊢
        obtain ⟨H, hH⟩ : ∃ H, H = ofH (dsL b ns) := ⟨_, rfl⟩
        obtain ⟨L, hL⟩ : ∃ L, L = ofL (dsL b ns) := ⟨_, rfl⟩
        rw [← hH, ← hL] at HE
        rw [← hH, ← hL] at HS
        rw [← hH] at c0
        rw [← hL] at c1
        clear hz ht hH hL HIn
        cases t
        · have HE2 := Lib.hid (HE.out.2 rfl)
          go_wp2_with fail
          have h5 := (HS.out.put 1 rfl 0 (.int .u64 (H : Int))).put 1 rfl 1 (.int .u64 (L : Int))
          have e0 := (h5.blk 1 rfl).cell 0 rfl
          have e1 := (h5.blk 1 rfl).cell 1 rfl
          obtain ⟨wx, hwx⟩ : ∃ wx, wx = (wr.setCell ⟨p, 0, none⟩ (.int .u64 (H : Int))).setCell ⟨p, 1, none⟩ (.int .u64 (L : Int)) := ⟨_, rfl⟩
          rw [← hwx] at h5 e0 e1 ⊢
          rw [HE2.out.1, HE2.out.2.1, HE2.out.2.2]
          refine bodyPost_ret (v := .tuple #[.agg #[.int .u64 (H : Int), .int .u64 (L : Int)], .int .i64 0]) ?_ rfl ⟨rfl, h5.frm⟩
          simp [results, Tryd.results21, go_sem, e0, e1]
        · have HE2 := Lib.hid (HE.out.1 rfl)
          go_wp2_with fail
          have h5 := (HS.out.put 1 rfl 0 (.int .u64 0)).put 1 rfl 1 (.int .u64 0)
          have e0 := (h5.blk 1 rfl).cell 0 rfl
          have e1 := (h5.blk 1 rfl).cell 1 rfl
          obtain ⟨wx, hwx⟩ : ∃ wx, wx = (wr.setCell ⟨p, 0, none⟩ (.int .u64 0)).setCell ⟨p, 1, none⟩ (.int .u64 0) := ⟨_, rfl⟩
          rw [← hwx] at h5 e0 e1 ⊢
          rw [HE2.out.1, HE2.out.2.1, HE2.out.2.2]
          refine bodyPost_ret (v := .tuple #[.agg #[.int .u64 0, .int .u64 0], .int .i64 5]) ?_ rfl ⟨rfl, h5.frm⟩
          simp [results, Tryd.results21, go_sem, e0, e1]

/-- The error that Of gives; its base, its mask. -/
def coE (ns : List Int) : Int := if 109 ≤ spanN ns then 31 else frE (spanL ns) ns
def coB (ns : List Int) : Int := if coE ns = 0 then spanL ns else 0
def coH (ns : List Int) : Nat := if 109 ≤ spanN ns then 0 else frH (spanL ns) ns
def coL (ns : List Int) : Nat := if 109 ≤ spanN ns then 0 else frL (spanL ns) ns
theorem fr_zero {b : Int} {ns : List Int} (h : frE b ns ≠ 0) : frH b ns = 0 ∧ frL b ns = 0 := ⟨if_neg h, if_neg h⟩
theorem spanL_in (ns : List Int) (hn : ∀ n ∈ ns, 0 ≤ n ∧ n ≤ 65535) : 0 ≤ spanL ns ∧ spanL ns ≤ 65535 := by
  unfold spanL
  split
  · omega
  · unfold add16; omega
theorem frE_cases (b : Int) (ns : List Int) : frE b ns = 31 ∨ frE b ns = 4 ∨ frE b ns = 5 ∨ frE b ns = 0 := by
  unfold frE
  split
  · exact .inl rfl
  · split
    · exact .inr (.inl rfl)
    · split
      · exact .inr (.inr (.inl rfl))
      · exact .inr (.inr (.inr rfl))

set_option maxRecDepth 100000 in
set_option maxHeartbeats 4000000 in
theorem cof_c (a : Option Addr) (c : Nat) (ns : List Int) (w : World) (rd : RdI .u16 w a ns) (hl : ns.length ≤ 100000) (hn : ∀ n ∈ ns, 0 ≤ n ∧ n ≤ 65535) :
    Calls Tryd.prog 19 #[.slice a ns.length c] w fun e w' => e = .returned (.tuple #[.int .u16 (coB ns), mV (coH ns) (coL ns), .int .i64 (coE ns)]) ∧ Frm [] w w' := by
  have HSp := Lib.hid (fun W hW => span_c a c ns W (rd.below hW) hl hn)
  have hsp := spanL_in ns hn
  have HF := Lib.hid (fun W hW => from_c a c (spanL ns) ns W (rd.below hW) hl hn hsp.1 hsp.2)
  have HS := Lib.hid ((Sep.init w).alloc #[.int .u64 0, .int .u64 0] 27)
  have HB := Lib.hid (show coB ns = if coE ns = 0 then spanL ns else 0 from rfl)
  have HE := Lib.hid (show coE ns = if 109 ≤ spanN ns then 31 else frE (spanL ns) ns from rfl)
  have HH := Lib.hid (show coH ns = if 109 ≤ spanN ns then 0 else frH (spanL ns) ns from rfl)
  have HL := Lib.hid (show coL ns = if 109 ≤ spanN ns then 0 else frL (spanL ns) ns from rfl)
  have HZ := Lib.hid (fr_zero (b := spanL ns) (ns := ns))
  have hfc := frE_cases (spanL ns) ns
  obtain ⟨B, hB⟩ : ∃ B, B = coB ns := ⟨_, rfl⟩
  obtain ⟨E, hE⟩ : ∃ E, E = coE ns := ⟨_, rfl⟩
  obtain ⟨H, hH⟩ : ∃ H, H = coH ns := ⟨_, rfl⟩
  obtain ⟨L, hL⟩ : ∃ L, L = coL ns := ⟨_, rfl⟩
  obtain ⟨b, hb⟩ : ∃ b, b = spanL ns := ⟨_, rfl⟩
  obtain ⟨s, hs⟩ : ∃ s, s = spanN ns := ⟨_, rfl⟩
  obtain ⟨fe, hfe⟩ : ∃ fe, fe = frE b ns := ⟨_, rfl⟩
  obtain ⟨fh, hfh⟩ : ∃ fh, fh = frH b ns := ⟨_, rfl⟩
  obtain ⟨fl, hfl⟩ : ∃ fl, fl = frL b ns := ⟨_, rfl⟩
  simp only [← hb, ← hs, ← hfe, ← hfh, ← hfl] at HSp HF
  rw [← hB, ← hE, ← hb] at HB
  rw [← hE, ← hb, ← hs, ← hfe] at HE
  rw [← hH, ← hb, ← hs, ← hfh] at HH
  rw [← hL, ← hb, ← hs, ← hfl] at HL
  rw [← hb, ← hfe, ← hfh, ← hfl] at HZ
  rw [← hb, ← hfe] at hfc
  rw [← hB, ← hE, ← hH, ← hL]
  clear hB hE hH hL hb hs hfe hfh hfl hsp rd hn
  unfold mV at HF
  go_enter Tryd.func19, Tryd.ntmps19
  go_upto_region 1 with fail
  have d0 := (HS.out.blk 0 rfl).cell 0 rfl
  have d1 := (HS.out.blk 0 rfl).cell 1 rfl
  have f0 := (HS.out.blk 0 rfl).free 0
  have f1 := (HS.out.blk 0 rfl).free 1
  have hsf := HS.out.frm
  obtain ⟨w1, hw1⟩ : ∃ w1, w1 = w.alloc (.cells #[.int .u64 0, .int .u64 0] 27) := ⟨_, rfl⟩
  obtain ⟨p, hp⟩ : ∃ p, p = w.heap.size := ⟨_, rfl⟩
  rw [← hw1, ← hp] at HS d0 d1 f0 f1
  rw [← hw1] at hsf
  rw [← hw1, ← hp]
  have HFr := Lib.hid hsf
  clear hw1 hp hsf
  go_wp2_with fail
  refine (HSp.out _ HFr.out.below).mono ?_
  rintro e w' ⟨rfl, rfl⟩
  by_cases h1 : 109 ≤ s
  · have t1 : decide (109 ≤ s) = true := decide_eq_true h1
    have hE : E = 31 := by rw [HE.out, if_pos h1]
    have hB : B = 0 := by rw [HB.out, hE]; rfl
    have hH : H = 0 := by rw [HH.out, if_pos h1]
    have hL : L = 0 := by rw [HL.out, if_pos h1]
    subst hE hB hH hL
    clear h1
    go_wp2_with fail
    have h5 := (HS.out.put 0 rfl 0 (.int .u64 0)).put 0 rfl 1 (.int .u64 0)
    have e0 := (h5.blk 0 rfl).cell 0 rfl
    have e1 := (h5.blk 0 rfl).cell 1 rfl
    obtain ⟨wx, hwx⟩ : ∃ wx, wx = (w1.setCell ⟨p, 0, none⟩ (.int .u64 0)).setCell ⟨p, 1, none⟩ (.int .u64 0) := ⟨_, rfl⟩
    rw [← hwx] at h5 e0 e1 ⊢
    refine bodyPost_ret (v := .tuple #[.int .u16 0, .agg #[.int .u64 0, .int .u64 0], .int .i64 31]) ?_ rfl ⟨rfl, h5.frm⟩
    simp [results, Tryd.results19, go_sem, e0, e1]
  · have t1 : decide (109 ≤ s) = false := decide_eq_false h1
    have hE : E = fe := by rw [HE.out, if_neg h1]
    have hH : H = fh := by rw [HH.out, if_neg h1]
    have hL : L = fl := by rw [HL.out, if_neg h1]
    subst hE hH hL
    clear h1 HE HH HL
    go_wp2_with fail
    refine (HF.out _ HFr.out.below).mono ?_
    rintro e w2 ⟨rfl, hf⟩
    have HS2 := Lib.hid ((HS.out.keep hf).alloc #[.int .u64 (H : Int), .int .u64 (L : Int)] 27)
    clear hf d0 d1 f0 f1
    have d0 := (HS2.out.blk 1 rfl).cell 0 rfl
    have d1 := (HS2.out.blk 1 rfl).cell 1 rfl
    have f0 := (HS2.out.blk 1 rfl).free 0
    have f1 := (HS2.out.blk 1 rfl).free 1
    have o0 := (HS2.out.blk 0 rfl).cell 0 rfl
    have o1 := (HS2.out.blk 0 rfl).cell 1 rfl
    by_cases hz : E = 0
    · subst hz
      have hB : B = b := by rw [HB.out, if_pos rfl]
      subst hB
      clear hfc HB HZ
      go_wp2_with fail
      go_region
      go_wp2_with fail
      have h5 := ((HS2.out.put 1 rfl 0 (.int .u64 (H : Int))).put 1 rfl 1 (.int .u64 (L : Int))).drew
      have e0 := (h5.blk 1 rfl).cell 0 rfl
      have e1 := (h5.blk 1 rfl).cell 1 rfl
      obtain ⟨wx, hwx⟩ : ∃ wx, wx = (((w2.alloc (.cells #[.int .u64 (H : Int), .int .u64 (L : Int)] 27)).setCell ⟨p, 0, none⟩ (.int .u64 (H : Int))).setCell ⟨p, 1, none⟩ (.int .u64 (L : Int))).drew := ⟨_, rfl⟩
      rw [← hwx] at h5 e0 e1 ⊢
      refine bodyPost_ret (v := .tuple #[.int .u16 B, .agg #[.int .u64 (H : Int), .int .u64 (L : Int)], .int .i64 0]) ?_ rfl ⟨rfl, h5.frm⟩
      simp [results, Tryd.results19, go_sem, e0, e1]
    · have hzb : (E == 0) = false := beq_eq_false_iff_ne.2 hz
      obtain ⟨zH, zL⟩ := HZ.out hz
      have hB : B = 0 := by rw [HB.out, if_neg hz]
      subst hB
      have HzH := Lib.hid (And.intro zH zL)
      clear hz HB HZ hfc zH zL
      go_wp2_with fail
      have h5 := (HS2.out.put 1 rfl 0 (.int .u64 0)).put 1 rfl 1 (.int .u64 0)
      have e0 := (h5.blk 1 rfl).cell 0 rfl
      have e1 := (h5.blk 1 rfl).cell 1 rfl
      obtain ⟨wx, hwx⟩ : ∃ wx, wx = ((w2.alloc (.cells #[.int .u64 (H : Int), .int .u64 (L : Int)] 27)).setCell ⟨p, 0, none⟩ (.int .u64 0)).setCell ⟨p, 1, none⟩ (.int .u64 0) := ⟨_, rfl⟩
      rw [← hwx] at h5 e0 e1 ⊢
      rw [HzH.out.1, HzH.out.2]
      refine bodyPost_ret (v := .tuple #[.int .u16 0, .agg #[.int .u64 0, .int .u64 0], .int .i64 E]) ?_ rfl ⟨rfl, h5.frm⟩
      simp [results, Tryd.results19, go_sem, e0, e1]

end Go.Proofs.YtibccecmicndaaaDoor
