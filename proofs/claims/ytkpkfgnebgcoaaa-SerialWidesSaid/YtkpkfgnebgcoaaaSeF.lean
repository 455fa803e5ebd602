/-
  THE WALK of the law SerialWides.
-/
import Derived.Test.YtkpkfgnebgcoaaaSeC
import Derived.Deep.RegionHeld3
import Derived.Deep.DeepCutAuto
set_option linter.unusedVariables false
set_option linter.unusedSimpArgs false
namespace Go.Proofs.Ytkpkfgnebgcoaaa
open Go.RowKit

theorem wOuts_nth (ns : List Int) (k : Nat) (n : Int) (hn : ns[k]? = some n) : ∀ h, (wOuts h ns)[k]? = some (wOut (wHis h (ns.take k)) n) := by
  induction ns generalizing k with
  | nil => simp at hn
  | cons m r ih =>
    intro h
    cases k with
    | zero => simp at hn; subst hn; rfl
    | succ k => simp at hn; simp [wOuts, wHis, ih k hn]

set_option maxRecDepth 100000 in
set_option maxHeartbeats 16000000 in
theorem serialWides_w (w : World) (a : Option Addr) (cap : Nat) (ns : List Int) (lc : ns.length ≤ cap) (mc : cap ≤ maxLen) (rd : RdI .u16 w a ns) (ws : ∀ x ∈ ns, (Lit.int .u16 x).wf = true) (ask : Int) (wa : (Lit.int .u16 ask).wf = true) :
    Calls Try.prog 4 #[.slice a ns.length cap, .int .u16 ask] w fun e w' => e = .returned (.bool true) ∧ Below w.heap.size w w' := by
  unfold maxLen at mc
  obtain ⟨a0, a1⟩ := u16_wf wa
  have HR := Lib.hid rd
  have HN := Lib.hid (fun x (hx : x ∈ ns) => u16_wf (ws x hx))
  clear wa rd ws
  by_cases hbig : 200 < ns.length
  · go_enter Try.func4, Try.ntmps4
    go_wp2_with fail
    refine (alive_c _).mono ?_
    rintro e w1 ⟨rfl, hf⟩
    have HF := Lib.hid hf
    clear hf
    go_wp2_with fail
    go_ret
    exact ⟨rfl, HF.out.below⟩
  · have hl : ns.length ≤ 200 := by omega
    clear hbig
    go_enter Try.func4, Try.ntmps4
    go_wp2_with fail
    refine (alive_c _).mono ?_
    rintro e w1 ⟨rfl, hf⟩
    have HS := Lib.hid (((Sep.init w).keep hf).alloc #[wHead (-1), wFlag (-1)] 34)
    clear hf
    go_wp2_with fail
    refine (rwide_c a cap ns _ (HR.out.below HS.out.frm.below) (by omega) HN.out).mono ?_
    rintro e w2 ⟨v, rfl, hO⟩
    have HS2 := Lib.hid (HS.out.add hO.frm (r := ownR 2 1 v ns.length ((wOuts (-1) ns).map (Value.int .i64))) (hO.own 0 rfl) (fun k hk => by
      have h1 := hO.mine _ (List.mem_singleton.2 rfl) k hk
      simpa using h1))
    clear hO
    have hwl := wOuts_length (-1) ns
    have hown := HS2.out.own 0 rfl
    rw [← hwl] at hown
    obtain ⟨a2, cap2, hv, hc2, _⟩ := RdI.of_own hown
    rw [hwl] at hv hc2
    have HWL := Lib.hid hwl
    clear hown hwl
    subst hv
    go_wp2_with fail
    go_loopw [7, 19] (fun h i wr => ∃ (k : Nat), k ≤ ns.length ∧ i = .int .i64 k ∧ h = wHead (wHis (-1) (ns.take k)) ∧ Sep [] w wr [ownR 2 1 (.slice a2 ns.length cap2) ns.length ((wOuts (-1) ns).map (Value.int .i64)), blkR w1.heap.size 34 #[wHead (wHis (-1) (ns.take k)), wFlag (wHis (-1) (ns.take k))]]) (fun _ i _ => ns.length - (intOf i).toNat)
    case atStart => exact ⟨0, Nat.zero_le _, rfl, rfl, HS2.out⟩
    case round =>
      obtain ⟨k, hk, rfl, rfl, hS⟩ := hrel
      have HS3 := Lib.hid hS
      clear hS
      obtain ⟨h, hh⟩ : ∃ h, h = wHis (-1) (ns.take k) := ⟨_, rfl⟩
      have hwin : WIn h k := by
        have := (WIn.start 0).rows (ns.take k) (fun n hn => HN.out n (List.mem_of_mem_take hn))
        rw [← hh, Nat.zero_add, List.length_take, Nat.min_eq_left hk] at this
        exact this
      rw [← hh] at HS3 ⊢
      by_cases hlt : k < ns.length
      · obtain ⟨b, off, n, hn, rfl, hb, cn⟩ := (HR.out.below HS3.out.frm.below).at_ k hlt
        obtain ⟨n0, n1⟩ := HN.out n (List.mem_of_getElem? hn)
        have hnx : wHis (-1) (ns.take (k + 1)) = wHi h n := by rw [List.take_add_one, hn, hh]; exact wHis_snoc _ _ _
        have hwo := wOuts_nth ns k n hn (-1)
        rw [← hh] at hwo
        obtain ⟨O, hO⟩ : ∃ O, O = wOut h n := ⟨_, rfl⟩
        rw [← hO] at hwo
        have hoo := hwin.out n n0 n1
        rw [← hO] at hoo
        obtain ⟨o0, o1⟩ := hoo
        have hcell : ∀ W : World, W.ownsRow 0 2 1 (.slice a2 ns.length cap2) ns.length ((wOuts (-1) ns).map (Value.int .i64)) → ∃ g, a2 = some ⟨g, 0, none⟩ ∧ W.cell? ⟨g, k, none⟩ = some (.int .i64 O) := fun W hW => by
          have hW2 := hW
          have hwl := HWL.out
          generalize ns.length = N at hW hwl hW2
          subst hwl
          obtain ⟨a3, cap3, hv3, _, hrd⟩ := RdI.of_own hW
          injection hv3 with e1 e2 e3
          subst e1
          obtain ⟨g, off', e4, _, hc⟩ := hrd k O hwo
          rcases hW2.2 with ⟨e5, _⟩ | ⟨g', c', cur, e5, _⟩
          · injection e5 with e5; rw [e4] at e5; cases e5
          · injection e5 with e5
            rw [e4] at e5
            injection e5 with e5
            injection e5 with e6 e7
            subst e6 e7
            rw [Nat.zero_add] at hc
            exact ⟨_, e4, hc⟩
        obtain ⟨g, hg, c0⟩ := hcell wr (HS3.out.own 0 rfl)
        subst hg
        have HCell : Hid (∀ W : World, Sep [] w W [ownR 2 1 (.slice (some ⟨g, 0, none⟩) ns.length cap2) ns.length ((wOuts (-1) ns).map (Value.int .i64)), blkR w1.heap.size 34 #[wHead (wHi h n), wFlag (wHi h n)]] → W.cell? ⟨g, k, none⟩ = some (.int .i64 O)) := Lib.hid fun W hW => by
          obtain ⟨g2, e, hc⟩ := hcell W (hW.own 0 rfl)
          injection e with e
          injection e with e
          rw [e]
          exact hc
        have HNX := Lib.hid hnx
        have HO := Lib.hid hO
        have HW := Lib.hid hwin
        clear hn hnx hwo hO hcell hwin hb hh
        go_wp2_with fail
        refine (peek_c w1.heap.size 34 _ h ask k _ (HS3.out.blk 1 rfl) rfl rfl HW.out (by omega) a0 a1).mono ?_
        rintro e w' ⟨rfl, m, rfl⟩
        have HS4 := Lib.hid (HS3.out.drewN m)
        go_upto_region 12 with fail
        go_cut [45] (fun c wx => c = .bool false ∧ Sep [] w wx [ownR 2 1 (.slice (some ⟨g, 0, none⟩) ns.length cap2) ns.length ((wOuts (-1) ns).map (Value.int .i64)), blkR w1.heap.size 34 #[wHead (wHi h n), wFlag (wHi h n)]])
        case first =>
          have i0 : (0 : Int) ≤ (k : Int) := by omega
          have i1 : (k : Int) < (ns.length : Int) := by omega
          have hfl : wFlag (wHi h n) = .bool true := by unfold wFlag; have := (HW.out.step n n0 n1).2.1; simp; omega
          have HFl := Lib.hid hfl
          clear hfl
          go_region_held3 (fun v => v.cell? ⟨g, k, none⟩ = some (.int .i64 O)) (first | assumption | go_keep)
            (first
              | (go_at_call 21; refine (peek_c w1.heap.size 34 _ h n k _ (by exact HS4.out.drew.blk 1 rfl) rfl rfl HW.out (by omega) n0 n1).mono ?_; rintro e w' ⟨rfl, m2, rfl⟩; rw [← HO.out]; have HS5 := Lib.hid (HS3.out.drewN (m + 1 + m2)))
              | (go_at_call 22; refine (of_c w1.heap.size 34 _ h n k _ (by exact HS5.out.blk 1 rfl) rfl rfl HW.out (by omega) n0 n1).mono ?_; rintro e w5 ⟨rfl, hb, hfr⟩; rw [← HO.out]; have HS6 := Lib.hid (HS5.out.call 1 rfl (by exact hfr) (cs' := #[wHead (wHi h n), wFlag (wHi h n)]) hb); clear hb hfr; have hc := HCell.out _ HS6.out)
              | (go_at_call 23; refine (started_c w1.heap.size 34 _ (wHi h n) _ (HS6.out.blk 1 rfl) rfl).mono ?_; rintro e w' ⟨rfl, rfl⟩; rw [HFl.out]))
          all_goals go_wp2_with fail
          all_goals (go_meet; exact ⟨rfl, HS6.out⟩)
        case rest =>
          obtain ⟨rfl, hS6⟩ := hcut
          have HS6 := Lib.hid hS6
          have hc := HCell.out _ hS6
          clear hS6
          have i0 : (0 : Int) ≤ (k : Int) := by omega
          have i1 : (k : Int) < (ns.length : Int) := by omega
          obtain ⟨H1, hH1⟩ : ∃ H1, wHi h n = H1 := ⟨_, rfl⟩
          have hst := HW.out.step n n0 n1
          rw [hH1] at hst
          have hwh1 : wHead H1 = .int .i64 H1 := by unfold wHead; rw [if_neg (by omega)]
          obtain ⟨H0, hH0⟩ : ∃ H0, (if h < 0 then 0 else h) = H0 := ⟨_, rfl⟩
          have hwh0 : wHead h = .int .i64 H0 := by unfold wHead; rw [hH0]
          have hmx : H1 = if H0 < O then O else H0 := by
            rw [← hH1, ← hH0]
            unfold wHi
            rw [← HO.out]
            by_cases hz : h < 0
            · rw [if_pos hz, if_pos (by omega), if_pos (by omega)]
            · rw [if_neg hz]
          have HWh1 := Lib.hid hwh1
          have HMx := Lib.hid hmx
          have HH1 := Lib.hid hH1
          rw [hwh0]
          clear hH1 hH0 hst hwh1 hwh0 hmx
          by_cases hlo : H0 < O
          all_goals
            go_wp2_with fail
            refine (highest_c w1.heap.size 34 _ H1 _ (by rw [HH1.out] at HS6; exact HS6.out.blk 1 rfl) rfl).mono ?_
            rintro e w' ⟨rfl, rfl⟩
            rw [HWh1.out]
          · have he : O = H1 := by rw [HMx.out, if_pos (by omega)]
            subst he
            go_wp2_with fail
            go_roundw
            case rel => exact ⟨k + 1, by omega, by go_num, by rw [HNX.out, HH1.out, HWh1.out], by rw [HNX.out]; exact HS6.out⟩
            case measure => simp [intOf]; omega
          · have he : H0 = H1 := by rw [HMx.out, if_neg (by omega)]
            subst he
            go_wp2_with fail
            go_roundw
            case rel => exact ⟨k + 1, by omega, by go_num, by rw [HNX.out, HH1.out, HWh1.out], by rw [HNX.out]; exact HS6.out⟩
            case measure => simp [intOf]; omega
      · obtain rfl : k = ns.length := by omega
        by_cases hz : ns.length = 0
        · have hh1 : h = -1 := by
            have : ns = [] := List.eq_nil_of_length_eq_zero hz
            rw [hh, this]
            rfl
          have g1 : decide (0 < (ns.length : Int)) = false := by rw [decide_eq_false_iff_not]; omega
          have g2 : decide (0 < ns.length) = false := by rw [decide_eq_false_iff_not]; omega
          have HH := Lib.hid hh1
          clear hh hh1 hz hwin
          go_wp2_with fail
          refine (started_c w1.heap.size 34 _ h _ (HS3.out.blk 1 rfl) rfl).mono ?_
          rintro e w' ⟨rfl, rfl⟩
          rw [HH.out, show wFlag (-1) = .bool false from rfl]
          go_wp2_with fail
          refine (highest_c w1.heap.size 34 _ h _ (HS3.out.blk 1 rfl) rfl).mono ?_
          rintro e w' ⟨rfl, rfl⟩
          rw [HH.out, show wHead (-1) = .int .i64 0 from rfl]
          go_wp2_with fail
          go_ret
          exact ⟨rfl, HS3.out.frm.below⟩
        · have g1 : decide (0 < (ns.length : Int)) = true := by rw [decide_eq_true_eq]; omega
          have g2 : decide (0 < ns.length) = true := by rw [decide_eq_true_eq]; omega
          have g3 : 0 < ns.length := by omega
          clear hh hz hwin
          go_wp2_with fail
          go_ret
          exact ⟨rfl, HS3.out.frm.below⟩

end Go.Proofs.Ytkpkfgnebgcoaaa
