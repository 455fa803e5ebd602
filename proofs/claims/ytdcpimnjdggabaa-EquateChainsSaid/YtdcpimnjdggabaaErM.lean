/-
  THE WALK of the law EquateChains.
-/
import Derived.Test.YtdcpimnjdggabaaErI
import Derived.Test.YtdcpimnjdggabaaErN
import Derived.Test.YtdcpimnjdggabaaErJ
import Derived.Test.YtdcpimnjdggabaaBits
set_option linter.unusedVariables false
set_option linter.unusedSimpArgs false
namespace Go.Proofs.Ytdcpimnjdggabaa
open Go.RowKit Go.Maps

theorem below_of (x : Int) (m : Nat) (h : 0 ≤ x ∧ x ≤ m) : ∃ k : Nat, x = (k : Int) ∧ k ≤ m := ⟨x.toNat, by omega, by omega⟩

theorem ownR_some {w : World} {e size : Nat} {v : Value} {n : Nat} {xs : List Value} (h : w.ownsRow 0 e size v n xs) (hn : 0 < n) : ∃ g c, v = .slice (some ⟨g, 0, none⟩) n c := by
  rcases h.2 with ⟨_, h0⟩ | ⟨g, cap, cur, hv, _⟩
  · omega
  · exact ⟨g, cap, hv⟩

set_option maxRecDepth 100000 in
set_option maxHeartbeats 16000000 in
theorem equateChains_w (w : World) (n : Int) (wn : (Lit.int .i64 n).wf = true) (from_ : Int) (wfr : (Lit.int .i64 from_).wf = true) (gone : Int) (wgo : (Lit.int .i64 gone).wf = true)
    (a : Option Addr) (c : Nat) (os : List Int) (lo : os.length ≤ c) (mo : c ≤ maxLen) (no : a = none → c = 0) (ro : RdI .i64 w a os) (wo : ∀ x ∈ os, (Lit.int .i64 x).wf = true) :
    Calls Try.prog 6 #[.int .i64 n, .int .i64 from_, .int .i64 gone, .slice a os.length c] w fun e w' => e = .returned (.bool true) ∧ Below w.heap.size w w' := by
  have hnot : ∀ (x : Bool) (w : World), (Op.unary .not (.bool x)).run Try.prog w = .ok (.bool (!x)) w := fun _ _ => rfl
  obtain ⟨i0, hi, hz0, hz1, hz2⟩ := info_parts info_int
  obtain ⟨i1, ji, jz0, jz1, jz2⟩ := info_parts info_row
  have HO := Lib.hid ro
  have lo2 : os.length ≤ maxLen := Nat.le_trans lo mo
  unfold maxLen at lo2
  obtain ⟨nb, hnb, nb1⟩ := below_of _ 63 (and_i64 n 63 (by omega) (by omega))
  obtain ⟨fb, hfb, fb1⟩ := below_of _ 63 (and_i64 from_ 63 (by omega) (by omega))
  obtain ⟨gb, hgb, gb1⟩ := below_of _ 63 (and_i64 gone 63 (by omega) (by omega))
  clear wn wfr wgo wo lo mo no ro
  go_enter Try.func6, Try.ntmps6
  go_wp2_with fail
  refine (alive_c _).mono ?_
  rintro e w1 ⟨rfl, hf⟩
  have HF1 := Lib.hid hf
  clear hf
  by_cases hbig : 60 < os.length
  · have b1 : decide ((60 : Int) < (os.length : Int)) = true := by simp; omega
    go_wp2_with fail
    go_ret
    exact ⟨rfl, HF1.out.below⟩
  · have b1 : decide ((60 : Int) < (os.length : Int)) = false := by simp; omega
    have hol : os.length ≤ 60 := by omega
    clear hbig
    go_wp2_with fail
    obtain ⟨N, hN, hN2, hN40⟩ : ∃ N : Nat, 2 + (nb : Int) % 39 = (N : Int) ∧ 2 ≤ N ∧ N ≤ 40 := ⟨2 + nb % 39, by omega, by omega, by omega⟩
    obtain ⟨M, hM⟩ : ∃ M : Nat, M = N - 1 := ⟨_, rfl⟩
    have hM1 : 1 ≤ M := by omega
    have hMN : N = M + 1 := by omega
    have hMw : IntKind.i64.wrap ((N : Int) - 1) = (M : Int) := by rw [show (N : Int) - 1 = (M : Int) from by omega]; exact IntWalk.i64_in _ (by omega)
    have n0 : ((N : Int) == 0) = false := by rw [beq_eq_false_iff_ne]; omega
    have m0 : ((M : Int) == 0) = false := by rw [beq_eq_false_iff_ne]; omega
    rw [hN]
    clear hN hM hnb
    go_quiet (fail)
    obtain ⟨f, hf, hfN⟩ : ∃ f : Nat, (fb : Int) % ((M : Int) + 1) = (f : Int) ∧ f < M + 1 := ⟨fb % (M + 1), by push_cast; rfl, Nat.mod_lt _ (by omega)⟩
    obtain ⟨g, hg, hgM⟩ : ∃ g : Nat, (gb : Int) % (M : Int) = (g : Int) ∧ g < M := ⟨gb % M, by omega, Nat.mod_lt _ (by omega)⟩
    rw [hf, hg]
    have HMN := Lib.hid hMN
    have hM39 : M ≤ 39 := by omega
    obtain ⟨w2, hw2⟩ : ∃ w2, w2 = w1.drewN nq := ⟨_, rfl⟩
    rw [← hw2]
    have HF2 := Lib.hid (show Frm [] w w2 by rw [hw2]; exact HF1.out.drewN nq)
    have HS2 := Lib.hid (((Sep.init w2).none).made 22 1 0 #[] (Nat.zero_le _) rfl)
    clear hf hg hMN hw2 HF1 hfb hgb
    go_wp2_with fail
    go_loopw [44, 9] (fun i v wr => ∃ (k : Nat) (rows : List (Row Int)), k ≤ M ∧ i = .int .i64 k ∧ rows.length = k ∧ rows.map (·.xs) = chn k ∧ Sep [] w2 wr [ownR 22 1 v k (rows.map Row.val), manyR (rows.map rowO)]) (fun i _ _ => M - (intOf i).toNat)
    case atStart => exact ⟨0, [], Nat.zero_le _, rfl, rfl, rfl, HS2.out⟩
    case round =>
      obtain ⟨k, rows, hk, rfl, hrl, hrx, hS⟩ := hrel
      by_cases hlt : k < M
      · have HRl := Lib.hid hrl
        have HRx := Lib.hid hrx
        have HS3 := Lib.hid hS
        have k1 : (k : Int) < (M : Int) := by omega
        clear hrl hrx hS
        go_wp2_with (at_builtin; refine wpList_append_sep rfl (.tmp 47) (.tmp 52) 23 rfl 1 22 i1 (.slice none 0 0) 24 Try.underlying23 ji jz0 jz1 jz2 rfl _ _ _ rfl ((sep_lit HS3.out #[.int .i64 (k : Int), .int .i64 ((k : Int) + 1)] 3 2 (by unfold maxLen; omega) rfl).skip _) rfl _ 1 (.slice (some ⟨wr.heap.size, 0, none⟩) 2 2) rfl (World.cell?_alloc_at _ _ _ _ (by simp)) rfl (by unfold maxLen; omega) (by omega) ?_; intro g4 c4 w4 hS4; have HS4 := Lib.hid hS4; clear hS4)
        go_roundw
        case rel =>
          refine ⟨k + 1, rows ++ [⟨some ⟨wr.heap.size, 0, none⟩, 2, [(k : Int), (k : Int) + 1]⟩], by omega, by go_num, by rw [List.length_append, HRl.out]; rfl, by rw [List.map_append, HRx.out, chn_succ]; rfl, ?_⟩
          rw [List.map_append, List.map_append]
          exact Sep.into (r := rowO ⟨some ⟨wr.heap.size, 0, none⟩, 2, [(k : Int), (k : Int) + 1]⟩) HS4.out
        case measure => simp [intOf]; omega
      · obtain rfl : M = k := by omega
        obtain ⟨gh, ch, rfl⟩ := ownR_some (hS.own 0 rfl) (by omega)
        have hrow : ∀ q ∈ rows, q.xs.length = 2 := fun q hq => by
          obtain ⟨i, _, _, he⟩ := (chn_is M q.xs).1 (by rw [← hrx]; exact List.mem_map_of_mem hq)
          rw [he]; rfl
        obtain ⟨w3, hw3⟩ : ∃ w3, w3 = wr := ⟨_, rfl⟩
        rw [← hw3] at hS ⊢
        have HRl := Lib.hid hrl
        have HRx := Lib.hid hrx
        have HRow := Lib.hid hrow
        have HS3 := Lib.hid hS
        clear hrl hrx hS hlt hk hw3 hrow
        go_wp2_with fail
        go_loopw [57] (fun i wr => ∃ (k : Nat) (rs : List (Row Int)), k ≤ os.length ∧ i = .int .i64 k ∧ rs.length = M ∧ (∀ q, q ∈ rs ↔ q ∈ rows) ∧ Sep [] w2 wr [ownR 22 1 (.slice (some ⟨gh, 0, none⟩) M ch) M (rs.map Row.val), manyR (rows.map rowO)]) (fun i _ => os.length - (intOf i).toNat)
        case atStart => exact ⟨0, rows, Nat.zero_le _, rfl, HRl.out, fun _ => Iff.rfl, HS3.out⟩
        case round =>
          obtain ⟨k, rs, hk, rfl, hrl, hrm, hS⟩ := hrel
          by_cases hlt : k < os.length
          · obtain ⟨bo, oo, z, hz, hoa, hob, hoc⟩ := (HO.out.below (HF2.out.trans hS.frm).below).at_ k hlt
            subst hoa
            obtain ⟨zb, hzb, zb1⟩ := below_of _ 1023 (and_i64 z 1023 (by omega) (by omega))
            obtain ⟨A, hA, hAM⟩ : ∃ A : Nat, (k : Int) % (M : Int) = (A : Int) ∧ A < M := ⟨k % M, by omega, Nat.mod_lt _ (by omega)⟩
            obtain ⟨B, hB, hBM⟩ : ∃ B : Nat, (zb : Int) % (M : Int) = (B : Int) ∧ B < M := ⟨zb % M, by omega, Nat.mod_lt _ (by omega)⟩
            obtain ⟨x, hx⟩ : ∃ x, rs[A]? = some x := ⟨_, List.getElem?_eq_getElem (by omega)⟩
            obtain ⟨y, hy⟩ : ∃ y, rs[B]? = some y := ⟨_, List.getElem?_eq_getElem (by omega)⟩
            have k1 : (k : Int) < (os.length : Int) := by omega
            have HS4 := Lib.hid hS
            have HRm := Lib.hid hrm
            have hrl3 := hrl
            have HRl2 := Lib.hid hrl
            clear hS hrm hrl hz hob
            obtain ⟨wi, hwi⟩ : ∃ wi, wi = wr := ⟨_, rfl⟩
            rw [← hwi] at HS4 hoc ⊢
            clear hwi
            go_wp2_with fail
            go_quiet (fail)
            rw [hA, hB]
            have hS5 := HS4.out.drewN nq
            obtain ⟨wj, hwj⟩ : ∃ wj, wj = wi.drewN nq := ⟨_, rfl⟩
            rw [← hwj] at hS5 ⊢
            have cx : wj.cell? ⟨gh, A, none⟩ = some (.slice x.a x.xs.length x.c) := ((hS5.own 0 rfl).cellAt A (by omega)).trans (by rw [List.getElem?_map, hx]; rfl)
            have cy : wj.cell? ⟨gh, B, none⟩ = some (.slice y.a y.xs.length y.c) := ((hS5.own 0 rfl).cellAt B (by omega)).trans (by rw [List.getElem?_map, hy]; rfl)
            have fx := (hS5.own 0 rfl).frozenAt A
            have fy := (hS5.own 0 rfl).frozenAt B
            have gl : gh < wj.heap.size := hS5.lt 0 rfl gh (by simp [ownR, Value.ownBlock])
            have hS6 := sep_store hS5 0 rfl A (.slice y.a y.xs.length y.c)
            have cz : (wj.setCell ⟨gh, A, none⟩ (.slice y.a y.xs.length y.c)).cell? ⟨gh, B, none⟩ = some (.slice y.a y.xs.length y.c) := by
              refine ((hS6.own 0 rfl).cellAt B (by omega)).trans ?_
              rw [List.getElem?_set]
              split
              · simp [hrl3]; omega
              · rw [List.getElem?_map, hy]; rfl
            have fz : (wj.setCell ⟨gh, A, none⟩ (.slice y.a y.xs.length y.c)).frozen? ⟨gh, B, none⟩ = false := (hS6.own 0 rfl).frozenAt B
            have hS7 := sep_store hS6 0 rfl B (.slice x.a x.xs.length x.c)
            have HS7 := Lib.hid hS7
            clear hS6 hS7
            have i3 : (0 : Int) ≤ (A : Int) := by omega
            have i4 : (A : Int) < (M : Int) := by omega
            have i5 : (0 : Int) ≤ (B : Int) := by omega
            have i6 : (B : Int) < (M : Int) := by omega
            have HS5 := Lib.hid hS5
            have HX := Lib.hid hx
            have HY := Lib.hid hy
            clear hS5 hwj HS4 hx hy hoc hA hB hzb hrl3
            go_wp2_with fail
            go_region
            go_wp2_with fail
            go_roundw
            case rel =>
              refine ⟨k + 1, swp2 rs A B x y, by omega, by go_num, (swp2_len _ _ _ _ _).trans HRl2.out, fun q => (swp2_mem HX.out HY.out q).trans (HRm.out q), ?_⟩
              have h := HS7.out
              have e : (swp2 rs A B x y).map Row.val = ((rs.map Row.val).set A (.slice y.a y.xs.length y.c)).set B (.slice x.a x.xs.length x.c) := by unfold swp2; rw [List.map_set, List.map_set]; rfl
              rw [e]
              first | exact h | exact h.drew
            case measure => simp [intOf]; omega
          · obtain rfl : k = os.length := by omega
            obtain ⟨w4, hw4⟩ : ∃ w4, w4 = wr := ⟨_, rfl⟩
            rw [← hw4] at hS ⊢
            have hC : Chn (M + 1) (fun _ => True) (rs.map (·.xs)) := (chn_is M).same fun e => by
              rw [← HRx.out]
              simp only [List.mem_map]
              exact ⟨fun ⟨q, a, b⟩ => ⟨q, (hrm q).1 a, b⟩, fun ⟨q, a, b⟩ => ⟨q, (hrm q).2 a, b⟩⟩
            have HCR := Lib.hid (fun wx (hf : Frm [] w4 wx) => ChR.of (chain_rd hS (fun q hq => (hrm q).1 hq) hf) hrl hM39 hC (by omega))
            have HC := Lib.hid hC
            have HF4 := Lib.hid (HF2.out.trans hS.frm)
            clear hS hrl hrm hC hw4 HS3 HRx HRl HRow HF2 HO hlt
            go_wp2_with fail
            refine (clo1_c (by omega) (some ⟨gh, 0, none⟩) ch M rs w4 (HCR.out _ (Frm.refl _ _))).mono ?_
            rintro e w5 ⟨m5, rfl, hm5, hf5⟩
            have hl5 := keys_len1 HC.out (by omega) hm5
            have HF5 := Lib.hid hf5
            rw [← HMN.out] at hl5
            have e5 : ((N : Int) == (N : Int)) = true := by simp
            clear hm5 hf5
            go_wp2_with fail
            refine (stuck1_c (by omega) (by omega) (some ⟨gh, 0, none⟩) ch rs w5 (HCR.out _ HF5.out) HC.out).mono ?_
            rintro e w6 ⟨⟨a6, c6, rfl⟩, hf6⟩
            have HF6 := Lib.hid (HF5.out.trans hf6)
            clear hf6
            go_wp2_with fail
            refine (clo0_c (some ⟨gh, 0, none⟩) ch M rs w6 (HCR.out _ HF6.out)).mono ?_
            rintro e w7 ⟨m7, rfl, hm7, hf7⟩
            have hl7 := keys_len0 HC.out hm7
            have HF7 := Lib.hid (HF6.out.trans hf7)
            have HB7 := Lib.hid (HF4.out.trans (HF6.out.trans hf7))
            have HCR7 := Lib.hid (fun wx (hf : Frm [] w7 wx) => HCR.out wx (HF7.out.trans hf))
            have HS7 := Lib.hid ((Sep.init w7).made 22 1 0 #[] (Nat.zero_le _) rfl)
            clear hm7 hf7 HF4 HF5 HF6 HCR
            go_wp2_with fail
            clear hl5 hl7
            go_loopw [111, 16] (fun i v wr => ∃ (k : Nat), k ≤ M ∧ i = .int .i64 k ∧ Sep [] w7 wr [ownR 22 1 v (lft g (rs.take k)).length ((lft g (rs.take k)).map Row.val)]) (fun i _ _ => M - (intOf i).toNat)
            case atStart => exact ⟨0, Nat.zero_le _, rfl, HS7.out⟩
            case round =>
              obtain ⟨k, hk, rfl, hS⟩ := hrel
              have hrl7 := (HCR7.out _ (Frm.refl _ _)).len
              by_cases hlt : k < M
              · obtain ⟨b, off, r, hre, hrm, hts, hae, hb, hc, hrd⟩ := rows_at (HCR7.out _ hS.frm).rd (by omega : k < rs.length)
                cases hae
                obtain ⟨b2, o2, x, hx, ha2, hb2, hc2⟩ := hrd.at_ (j := 0) (by rw [(HCR7.out _ hS.frm).two r hrm]; omega)
                have hts2 := lft_snoc g hts x hx
                have hr2 := (HCR7.out _ hS.frm).two r hrm
                rw [ha2, hr2, Nat.zero_add] at hc
                have hc3 : wr.cell? ⟨b2, o2, none⟩ = some (.int .i64 x) := hc2
                have k1 : (k : Int) < (M : Int) := by omega
                have HS8 := Lib.hid hS
                have HTs := Lib.hid hts2
                have HR2 := Lib.hid (And.intro hr2 ha2)
                have HLn := Lib.hid (lft_len g rs k)
                have hln : (lft g (rs.take k)).length ≤ 40 := by have := lft_len g rs k; omega
                clear hts hts2 hS hrd hb hre hrm hr2 hx hb2 hrl7
                by_cases hxg : x = (g : Int)
                · have e8 : (x == (g : Int)) = true := by rw [beq_iff_eq]; exact hxg
                  have HTt := Lib.hid (HTs.out.trans (if_pos hxg))
                  clear hxg
                  go_wp2_with fail
                  go_roundw
                  case rel =>
                    refine ⟨k + 1, by omega, by go_num, ?_⟩
                    rw [HTt.out]
                    exact HS8.out
                  case measure => simp [intOf]; omega
                · have e8 : (x == (g : Int)) = false := by rw [beq_eq_false_iff_ne]; exact hxg
                  have HTt := Lib.hid (HTs.out.trans (if_neg hxg))
                  have hrv : Row.val r = .slice (some ⟨b2, o2, none⟩) 2 r.c := by unfold Row.val; rw [HR2.out.2, HR2.out.1]
                  have HRV := Lib.hid hrv
                  clear hxg hrv
                  go_wp2_with (at_builtin; refine wpList_append_sep rfl (.tmp 120) (.tmp 122) 23 rfl 0 22 i1 (.slice none 0 0) 24 Try.underlying23 ji jz0 jz1 jz2 rfl _ _ _ rfl (HS8.out.skip _) rfl _ 1 (.slice (some ⟨b2, o2, none⟩) 2 r.c) rfl (World.cell?_alloc_at _ _ _ _ rfl) rfl (by unfold maxLen; omega) (by omega) ?_; intro g4 c4 w8 hS9; have HS9 := Lib.hid hS9; clear hS9)
                  go_roundw
                  case rel =>
                    refine ⟨k + 1, by omega, by go_num, ?_⟩
                    rw [HTt.out, List.map_append, List.length_append, List.map_singleton, HRV.out]
                    exact HS9.out
                  case measure => simp [intOf]; omega
              · obtain rfl : M = k := by omega
                rw [show rs.take M = rs from by rw [← hrl7, List.take_length]] at hS
                obtain ⟨ab, cb, rfl, e1, e2, e3, hrb⟩ := RdV.of_own (hS.own 0 rfl)
                obtain ⟨L, hL⟩ : ∃ L, L = (lft g rs).length := ⟨_, rfl⟩
                have hL39 : L ≤ 39 := by
                  have := List.length_filter_le (fun r : Row Int => !(r.xs.headD 0 == (g : Int))) rs
                  unfold lft at hL
                  omega
                obtain ⟨w8, hw8⟩ : ∃ w8, w8 = wr := ⟨_, rfl⟩
                rw [← hw8] at hS hrb ⊢
                have HCh := Lib.hid (lft_chn (M := M) (g := g) HC.out)
                have HLf := Lib.hid (ChR.of (w := w8) (M := L) ⟨hrb, fun r hr => (HCR7.out _ hS.frm).rd.2 r (List.mem_filter.1 hr).1⟩ hL.symm hL39 HCh.out (by omega))
                have HF8 := Lib.hid hS.frm
                have hlm : ((lft g rs).map Row.val).length = L := by rw [List.length_map, hL]
                rw [hlm]
                clear hS e1 e2 e3 hrb hL hw8 hrl7 hlt hk HS7
                go_wp2_with fail
                refine (clo1_c (f := f) (by omega) ab cb L (lft g rs) w8 HLf.out).mono ?_
                rintro e w9 ⟨m9, rfl, hm9, hf9⟩
                have HM9 := Lib.hid hm9
                have HF9 := Lib.hid (HF8.out.trans hf9)
                clear hm9 hf9 HF8 HLf hlm
                go_wp2_with fail
                go_loop [130] (fun i => ∃ k : Nat, k ≤ N ∧ i = .int .i64 k) (fun i => N - (intOf i).toNat)
                case atStart => exact ⟨0, Nat.zero_le _, rfl⟩
                case round =>
                  obtain ⟨k, hk, rfl⟩ := hrel
                  by_cases hlt : k < N
                  · have hlk := set_look HM9.out injI keyedI Try.underlying34 (zeroBI _) (k : Int) (keyOf_int_mk Try.underlying3 (exOk (k : Int) (by omega)))
                    rw [side_is HCh.out hfN (show k < M + 1 by have := HMN.out; omega)] at hlk
                    have k1 : (k : Int) < (N : Int) := by omega
                    obtain ⟨p, hp⟩ : ∃ p, decide (k ≤ g) = p := ⟨_, rfl⟩
                    obtain ⟨q, hq⟩ : ∃ q, decide (f ≤ g) = q := ⟨_, rfl⟩
                    rw [hp, hq] at hlk
                    have hpq : ((p == q) == (p == q)) = true := by simp
                    cases p <;> cases q
                    all_goals
                      go_wp2_with fail
                      exact ⟨⟨k + 1, by omega, by go_num⟩, by simp [intOf]; omega⟩
                  · obtain rfl : N = k := by omega
                    have HSA := Lib.hid ((Sep.init w9).made 3 1 0 #[] (Nat.zero_le _) rfl)
                    have HNo := Lib.hid (HB7.out.trans HF9.out)
                    have HCR9 := Lib.hid (fun wx (hf : Frm [] w9 wx) => HCR7.out wx (HF9.out.trans hf))
                    clear hlt hk HM9 HCR7 HB7 HF7
                    go_wp2_with fail
                    go_loopw [147, 21] (fun i v wr => ∃ (k : Nat), k ≤ N ∧ i = .int .i64 k ∧ Sep [] w9 wr [ownR 3 1 v k ((upN k).map (Value.int .i64))]) (fun i _ _ => N - (intOf i).toNat)
                    case atStart => exact ⟨0, Nat.zero_le _, rfl, HSA.out⟩
                    case round =>
                      obtain ⟨k, hk, rfl, hS⟩ := hrel
                      have HSB := Lib.hid hS
                      by_cases hlt : k < N
                      · have k1 : (k : Int) < (N : Int) := by omega
                        clear hS
                        go_wp2_with (at_builtin; refine wpList_append_sep rfl (.tmp 150) (.tmp 152) 22 rfl 0 3 i0 (.int .i64 0) 8 Try.underlying22 hi hz0 hz1 hz2 rfl _ _ _ rfl (HSB.out.skip _) rfl _ 1 (.int .i64 (k : Int)) rfl (World.cell?_alloc_at _ _ _ _ rfl) rfl (by unfold maxLen; omega) (by omega) ?_; intro g4 c4 w8 hS9; have HS9 := Lib.hid hS9; clear hS9)
                        go_roundw
                        case rel =>
                          refine ⟨k + 1, by omega, by go_num, ?_⟩
                          rw [upN_succ, List.map_append, List.map_singleton]
                          exact HS9.out
                        case measure => simp [intOf]; omega
                      · obtain rfl : N = k := by omega
                        obtain ⟨gl, cl, rfl⟩ := ownR_some (hS.own 0 rfl) (by omega)
                        obtain ⟨a', c', hv, e1, e2, _, hz⟩ := RdV.of_own (hS.own 0 rfl)
                        injection hv with h1 h2 h3
                        rw [← h1] at hz
                        have hcl : N ≤ cl := by omega
                        have hcm := own_cap (hS.own 0 rfl)
                        unfold maxLen at hcm
                        have HZ := Lib.hid (show RdZ wr (some ⟨gl, 0, none⟩) (upN N) from hz)
                        have HFb := Lib.hid hS.frm
                        have HU := Lib.hid (show upN N = 0 :: upT M by rw [HMN.out]; exact upN_cons M)
                        clear hS h1 h2 h3 e1 e2 hz hlt hk HSA HSB
                        have hOk : ∀ x ∈ upN N, okI x := fun x hx => by obtain ⟨j, hj, rfl⟩ := upN_mem.1 hx; exact exOk _ (by omega)
                        have HOk := Lib.hid hOk
                        clear hOk
                        go_wp2_with fail
                        refine (pl_c (some ⟨gl, 0, none⟩) cl N (upN N) (some ⟨gl, 0, none⟩) cl N (upN N) (some ⟨gh, 0, none⟩) ch M rs wr (HCR9.out _ HFb.out) HZ.out HZ.out (upN_len _) (upN_len _) (by omega) (by omega) HOk.out HOk.out false (by rw [HMN.out]; exact plb_all HC.out)).mono ?_
                        rintro e w10 ⟨rfl, hf10⟩
                        have HF10 := Lib.hid hf10
                        clear hf10
                        have i1 : (1 : Int) ≤ (N : Int) := by omega
                        have i2 : (1 : Int) ≤ (cl : Int) := by omega
                        have i3 : (N : Int) ≤ (cl : Int) := by omega
                        have i4 : 1 ≤ N := by omega
                        have i5 : 1 ≤ cl := by omega
                        have i6 : ¬ (cl = 1) := by omega
                        have i7 : N - 1 = M := by have := HMN.out; omega
                        go_wp2_with fail
                        have hz2 := HZ.out.below HF10.out.below
                        rw [HU.out] at hz2
                        refine (pl_c (some ⟨gl, 1, none⟩) (cl - 1) M (upT M) (some ⟨gl, 0, none⟩) cl N (upN N) (some ⟨gh, 0, none⟩) ch M rs w10 (HCR9.out _ (HFb.out.trans HF10.out)) hz2.tail (HZ.out.below HF10.out.below) (upT_len _) (upN_len _) (by omega) (by omega) (fun x hx => HOk.out x (by rw [HU.out]; exact List.mem_cons_of_mem _ hx)) HOk.out true (by rw [HMN.out]; exact plb_but HC.out)).mono ?_
                        rintro e w11 ⟨rfl, hf11⟩
                        have HF11 := Lib.hid (HNo.out.trans (HFb.out.trans (HF10.out.trans hf11)))
                        clear hf11 hz2
                        go_wp2_with fail
                        go_ret
                        exact ⟨rfl, HF11.out.below⟩

end Go.Proofs.Ytdcpimnjdggabaa
