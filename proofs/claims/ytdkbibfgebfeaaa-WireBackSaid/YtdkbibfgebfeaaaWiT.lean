/-
  THE WALK of the law WireBack (printed by gen_back.py).
-/
import Derived.Test.YtdkbibfgebfeaaaWiS
import Derived.Test.YtdkbibfgebfeaaaWiN
import Derived.Test.YtdkbibfgebfeaaaBits
set_option linter.unusedVariables false
set_option linter.unusedSimpArgs false
namespace Go.Proofs.Ytdkbibfgebfeaaa
open Go.RowKit

theorem info_step : (Try.prog.info? 57).map (fun i => (i.zero, i.size, i.bytes)) = some (some (.agg #[.int .i64 0, .int .i64 0]), 2, 16) := by kernel_rfl
def stpsR (v : Value) (ss : List Stp) : Res := ownR 57 2 v ss.length (ss.map Stp.row).flatten
theorem stpsR_snoc (v : Value) (ss : List Stp) (x : Stp) : ownR 57 2 v (ss.length + 1) ((ss.map Stp.row).flatten ++ #[.int .i64 x.k, .int .i64 x.n].toList) = stpsR v (ss ++ [x]) := by simp [stpsR, Stp.row]
/-- Steps and things as the law makes them. -/
structure Made (ss : List Stp) (gs : List GtV) (k : Nat) : Prop where
  ls : ss.length = k
  fit : Fits ss gs
  n0 : ∀ s ∈ ss, s.n = 0
  bv : ∀ g ∈ gs, g.bv = .slice none 0 0
theorem Made.snoc {ss : List Stp} {gs : List GtV} {k : Nat} (h : Made ss gs k) {q N : Int} (hq : numK q = true) (h0 : 0 ≤ N) (h1 : N < 256 ^ q.toNat) : Made (ss ++ [⟨q, 0⟩]) (gs ++ [⟨N, .slice none 0 0, []⟩]) (k + 1) := by
  have hl := h.fit.1
  refine ⟨by rw [List.length_append, h.ls]; rfl, ⟨by rw [List.length_append, List.length_append, hl]; rfl, fun i s g hs hg => ?_⟩, fun s hs => ?_, fun g hg => ?_⟩
  · by_cases hi : i < ss.length
    · rw [List.getElem?_append_left hi] at hs
      rw [List.getElem?_append_left (by omega)] at hg
      exact h.fit.2 i s g hs hg
    · rw [List.getElem?_append_right (by omega)] at hs hg
      have e1 : i - ss.length = 0 := by
        have := (List.getElem?_eq_some_iff.1 hs).1
        simpa using this
      rw [e1] at hs
      rw [← hl, e1] at hg
      simp at hs hg
      subst hs hg
      exact ⟨hq, h0, h1, rfl⟩
  · rcases List.mem_append.1 hs with hs | hs
    · exact h.n0 s hs
    · simp at hs; subst hs; rfl
  · rcases List.mem_append.1 hg with hg | hg
    · exact h.bv g hg
    · simp at hg; subst hg; rfl
theorem Fits.at_ {ss : List Stp} {gs : List GtV} (h : Fits ss gs) {g : GtV} (hg : g ∈ gs) : ∃ s ∈ ss, numK s.k = true ∧ 0 ≤ g.N ∧ g.N < 256 ^ s.k.toNat ∧ g.B = [] := by
  obtain ⟨i, hi⟩ := List.getElem?_of_mem hg
  have hil : i < ss.length := by have := (List.getElem?_eq_some_iff.1 hi).1; have := h.1; omega
  have hs : ss[i]? = some ss[i] := List.getElem?_eq_getElem hil
  exact ⟨ss[i], List.getElem_mem hil, h.2 i _ g hs hi⟩
theorem Made.rdg {ss : List Stp} {gs : List GtV} {k : Nat} (h : Made ss gs k) {w : World} {a : Option Addr} (rd : RdS 2 w a (gs.map GtV.row)) : RdG w a gs :=
  ⟨rd, fun g hg => by
    obtain ⟨s, _, _, _, _, hB⟩ := h.fit.at_ hg
    rw [hB]
    exact ⟨none, 0, h.bv g hg, RdI.nil _ _ _, by simp⟩⟩
theorem Made.gots {ss : List Stp} {gs : List GtV} {k : Nat} (h : Made ss gs k) {w : World} {a : Option Addr} (rd : RdS 2 w a (gs.map GtV.row)) (n : Nat) : Gots w a gs n :=
  ⟨rd, fun g hg => by
    obtain ⟨s, _, hn, h0, h1, hB⟩ := h.fit.at_ hg
    rw [hB]
    refine ⟨none, 0, h.bv g hg, RdI.nil _ _ _, fun _ => rfl, (fun x hx => by cases hx), h0, ?_⟩
    have hk := (numK_nat hn).1
    have h2 : (256 : Nat) ^ s.k.toNat ≤ 256 ^ 8 := Nat.pow_le_pow_right (by omega) hk
    have h3 : ((256 ^ s.k.toNat : Nat) : Int) ≤ ((256 ^ 8 : Nat) : Int) := Int.ofNat_le.2 h2
    have h4 : (256 : Int) ^ s.k.toNat ≤ 18446744073709551616 := by simpa using h3
    omega, fun i g hi _ => by
    obtain ⟨s, _, _, _, _, hB⟩ := h.fit.at_ (List.mem_of_getElem? hi)
    rw [hB]
    simp⟩
theorem Made.wrote {ss : List Stp} {gs : List GtV} {k : Nat} (h : Made ss gs k) (hk : 0 < k) : 0 < (wrL ss gs ss.length).length ∧ (wrL ss gs ss.length).length ≤ 200 * k ∧ Byt (wrL ss gs ss.length) := by
  have hl := h.ls
  have hg := h.fit.1
  refine ⟨?_, ?_, ?_⟩
  · obtain ⟨r, hr⟩ := wrL_pre (ss := ss) (gs := gs) 1
    have hs : ss[0]? = some (ss[0]'(by omega)) := List.getElem?_eq_getElem (by omega)
    have hgg : gs[0]? = some (gs[0]'(by omega)) := List.getElem?_eq_getElem (by omega)
    obtain ⟨hn, _⟩ := h.fit.2 0 _ _ hs hgg
    have h1 := wrL_step hs hgg
    rw [wrO_num hn] at h1
    have h2 := (numK_nat hn).2
    rw [hr, h1, List.length_append, List.length_append, bigL_len]
    omega
  · have h1 := wrL_le (ss := ss) (gs := gs) (fun i g hi _ => by
      obtain ⟨s, _, _, _, _, hB⟩ := h.fit.at_ (List.mem_of_getElem? hi)
      rw [hB]
      simp) ss.length
    rw [hl] at h1 ⊢
    exact h1
  · intro x hx
    obtain ⟨p, hp, hxp⟩ := List.mem_flatMap.1 hx
    have hp2 := List.of_mem_zip (List.mem_of_mem_take hp)
    unfold wrO at hxp
    split at hxp
    · exact bigL_byt _ _ x hxp
    · split at hxp
      · obtain ⟨s, _, _, _, _, hB⟩ := h.fit.at_ hp2.2
        rw [hB] at hxp
        cases hxp
      · cases hxp
theorem and_u64_3 {N : Int} (h0 : 0 ≤ N) (h1 : N < 18446744073709551616) : bits .and .u64 N 3 = N % 4 :=
  bits_mask .u64 64 (by decide) (fun n a b => wrapU64 a (by simpa using b)) 2 (by decide) N h0 (by simpa using h1)

set_option maxRecDepth 100000 in
set_option maxHeartbeats 32000000 in
theorem wireBackA_w (w : World) (a : Option Addr) (c : Nat) (ns : List Int) (hr : RdI .u64 w a ns) (hb : ∀ n ∈ ns, 0 ≤ n ∧ n < 18446744073709551616) (hn0 : 0 < ns.length) (hn : ns.length ≤ 50) (cut0 : Int) :
    Calls Try.prog 7 #[.slice a ns.length c, .int .i64 cut0] w fun e w' => e = .returned (.bool true) ∧ Below w.heap.size w w' := by
  obtain ⟨i0, hi, hz0, hz1, hz2⟩ := info_parts info_got
  obtain ⟨i1, hj, hy0, hy1, hy2⟩ := info_parts info_step
  obtain ⟨i2, hl, hx0', hx1, hx2'⟩ := info_parts info_u8
  have HR := Lib.hid (fun X (hX : Frm [] w X) => hr.below hX.below)
  have HB := Lib.hid hb
  clear hr hb
  have t1 : decide (50 < (ns.length : Int)) = false := by rw [decide_eq_false_iff_not]; omega
  have t2 : ((ns.length : Int) == 0) = false := by rw [beq_eq_false_iff_ne]; omega
  go_enter Try.func7, Try.ntmps7
  go_wp2_with fail
  refine (alive_c _).mono ?_
  rintro e w1 ⟨rfl, hF⟩
  have HS1 := Lib.hid ((((Sep.init w).keep hF).made 57 2 0 #[] (by unfold maxLen; omega) rfl).made 28 2 0 #[] (by unfold maxLen; omega) rfl)
  simp only [World.size_alloc] at HS1
  clear hF
  go_wp2_with fail
  go_loopw [5, 6, 31] (fun v u i wr => ∃ (k : Nat) (ss : List Stp) (gs : List GtV) (a5 a6 : Option Addr) (c5 c6 : Nat), k ≤ ns.length ∧ v = .slice a5 k c5 ∧ u = .slice a6 k c6 ∧ i = .int .i64 k ∧ Made ss gs k ∧ Sep [] w wr [gotsR (.slice a6 k c6) gs, stpsR (.slice a5 k c5) ss]) (fun _ _ i _ => ns.length - (intOf i).toNat)
  case atStart => exact ⟨0, [], [], _, _, 0, 0, Nat.zero_le _, rfl, rfl, rfl, ⟨rfl, ⟨rfl, fun i s g h => by simp at h⟩, by simp, by simp⟩, HS1.out⟩
  case round =>
    obtain ⟨k, ss, gs, a5, a6, c5, c6, hk, rfl, rfl, rfl, hm, hS⟩ := hrel
    have HT := Lib.hid hS
    have HM := Lib.hid hm
    have l1 : ss.length ≤ k := Nat.le_of_eq hm.ls
    have l2 : gs.length ≤ k := by have := hm.ls; have := hm.fit.1; omega
    have l3 : k ≤ ss.length := Nat.le_of_eq hm.ls.symm
    have l4 : k ≤ gs.length := by have := hm.ls; have := hm.fit.1; omega
    clear hS hm
    obtain ⟨wo, hwo⟩ : ∃ wo : World, wo = wr := ⟨_, rfl⟩
    rw [← hwo] at HT ⊢
    clear hwo
    by_cases hlt : k < ns.length
    · obtain ⟨b, off, n, hx, rfl, _, cx⟩ := (HR.out _ HT.out.frm).at_ k hlt
      obtain ⟨n0, n1⟩ := HB.out n (List.mem_of_getElem? hx)
      have j1 : (0 : Int) ≤ (k : Int) := by omega
      have j2 : (k : Int) < (ns.length : Int) := by omega
      have e1 : IntKind.u64.wrap (k : Int) = (k : Int) := wrapU64 (by omega) (by omega)
      obtain ⟨m, hm⟩ : ∃ m, m = IntKind.u64.wrap ((k : Int) + n) := ⟨_, rfl⟩
      have hm0 : 0 ≤ m ∧ m < 18446744073709551616 := by
        rw [hm]
        constructor <;> (simp [IntKind.wrap, IntKind.bits, IntKind.signed]; omega)
      have e2 : IntKind.u64.wrap ((k : Int) + n) = m := hm.symm
      have e3 := and_u64_3 hm0.1 hm0.2
      have h4 : m % 4 = 0 ∨ m % 4 = 1 ∨ m % 4 = 2 ∨ m % 4 = 3 := by omega
      clear hx hm hm0
      rcases h4 with h4 | h4 | h4 | h4
      · rw [h4] at e3
        clear h4
        have HMd := Lib.hid (HM.out.snoc (q := 1) (N := n / 72057594037927936) (by rfl) (by omega) (by simp <;> omega))
        go_wp2_with (at_builtin; first | (refine wpList_append_arr rfl (.tmp 44) (.tmp 47) 22 rfl 2 57 i1 (.agg #[.int .i64 0, .int .i64 0]) 2 16 Try.underlying22 hj hy0 hy1 hy2 rfl (by decide) (.slice a5 k c5) ss.length _ rfl ((HT.out.skip (.cells #[.int .i64 1, .int .i64 2, .int .i64 4, .int .i64 8] 3)).alloc #[.int .i64 1, .int .i64 0] 57) rfl (wo.heap.size + 1) #[.int .i64 1, .int .i64 0] rfl rfl (by simpa using Blk.made (wo.alloc (.cells #[.int .i64 1, .int .i64 2, .int .i64 4, .int .i64 8] 3)) 57 #[.int .i64 1, .int .i64 0]) (by simp [Value.oneCell']) (by unfold maxLen; omega) (by omega) ?_; intro v4 w4 hS4; obtain ⟨a4, c4, rfl, x1, x2⟩ := own_shape (hS4.own 2 rfl); have HS4 := Lib.hid hS4.rest; clear hS4 x1 x2) | (refine wpList_append_arr rfl (.tmp 49) (.tmp 56) 23 rfl 1 28 i0 (.agg #[.int .u64 0, .slice none 0 0]) 2 32 Try.underlying23 hi hz0 hz1 hz2 rfl (by decide) (.slice a6 k c6) gs.length _ rfl (HS4.out.alloc #[.int .u64 (n / 72057594037927936), .slice none 0 0] 28) rfl _ #[.int .u64 (n / 72057594037927936), .slice none 0 0] rfl rfl (Blk.made _ _ _) (by simp [Value.oneCell']) (by unfold maxLen; omega) (by omega) ?_; intro v7 w7 hS7; obtain ⟨a7, c7, rfl, x1, x2⟩ := own_shape (hS7.own 1 rfl); have HS7 := Lib.hid hS7.rest; clear hS7 x1 x2))
        have hls := HM.out.ls
        have hlg := HM.out.fit.1.symm.trans hls
        have h7 := HS7.out
        have f1 := stpsR_snoc (.slice a4 (ss.length + 1) c4) ss ⟨1, 0⟩
        have f2 := gotsR_snoc (.slice a7 (gs.length + 1) c7) gs ⟨n / 72057594037927936, .slice none 0 0, []⟩
        rw [hls] at f1
        rw [hlg] at f2
        rw [hls, hlg] at h7
        rw [hls, hlg]
        have H7 := Lib.hid h7
        have HF := Lib.hid (And.intro f1 f2)
        clear hls hlg h7 f1 f2
        go_roundw
        case rel =>
          refine ⟨k + 1, ss ++ [⟨1, 0⟩], gs ++ [⟨n / 72057594037927936, .slice none 0 0, []⟩], a4, a7, c4, c7, by omega, rfl, rfl, by go_num, HMd.out, ?_⟩
          rw [← HF.out.1, ← HF.out.2]
          exact H7.out
        case measure => simp [intOf]; omega
      · rw [h4] at e3
        clear h4
        have HMd := Lib.hid (HM.out.snoc (q := 2) (N := n / 281474976710656) (by rfl) (by omega) (by simp <;> omega))
        go_wp2_with (at_builtin; first | (refine wpList_append_arr rfl (.tmp 44) (.tmp 47) 22 rfl 2 57 i1 (.agg #[.int .i64 0, .int .i64 0]) 2 16 Try.underlying22 hj hy0 hy1 hy2 rfl (by decide) (.slice a5 k c5) ss.length _ rfl ((HT.out.skip (.cells #[.int .i64 1, .int .i64 2, .int .i64 4, .int .i64 8] 3)).alloc #[.int .i64 2, .int .i64 0] 57) rfl (wo.heap.size + 1) #[.int .i64 2, .int .i64 0] rfl rfl (by simpa using Blk.made (wo.alloc (.cells #[.int .i64 1, .int .i64 2, .int .i64 4, .int .i64 8] 3)) 57 #[.int .i64 2, .int .i64 0]) (by simp [Value.oneCell']) (by unfold maxLen; omega) (by omega) ?_; intro v4 w4 hS4; obtain ⟨a4, c4, rfl, x1, x2⟩ := own_shape (hS4.own 2 rfl); have HS4 := Lib.hid hS4.rest; clear hS4 x1 x2) | (refine wpList_append_arr rfl (.tmp 49) (.tmp 56) 23 rfl 1 28 i0 (.agg #[.int .u64 0, .slice none 0 0]) 2 32 Try.underlying23 hi hz0 hz1 hz2 rfl (by decide) (.slice a6 k c6) gs.length _ rfl (HS4.out.alloc #[.int .u64 (n / 281474976710656), .slice none 0 0] 28) rfl _ #[.int .u64 (n / 281474976710656), .slice none 0 0] rfl rfl (Blk.made _ _ _) (by simp [Value.oneCell']) (by unfold maxLen; omega) (by omega) ?_; intro v7 w7 hS7; obtain ⟨a7, c7, rfl, x1, x2⟩ := own_shape (hS7.own 1 rfl); have HS7 := Lib.hid hS7.rest; clear hS7 x1 x2))
        have hls := HM.out.ls
        have hlg := HM.out.fit.1.symm.trans hls
        have h7 := HS7.out
        have f1 := stpsR_snoc (.slice a4 (ss.length + 1) c4) ss ⟨2, 0⟩
        have f2 := gotsR_snoc (.slice a7 (gs.length + 1) c7) gs ⟨n / 281474976710656, .slice none 0 0, []⟩
        rw [hls] at f1
        rw [hlg] at f2
        rw [hls, hlg] at h7
        rw [hls, hlg]
        have H7 := Lib.hid h7
        have HF := Lib.hid (And.intro f1 f2)
        clear hls hlg h7 f1 f2
        go_roundw
        case rel =>
          refine ⟨k + 1, ss ++ [⟨2, 0⟩], gs ++ [⟨n / 281474976710656, .slice none 0 0, []⟩], a4, a7, c4, c7, by omega, rfl, rfl, by go_num, HMd.out, ?_⟩
          rw [← HF.out.1, ← HF.out.2]
          exact H7.out
        case measure => simp [intOf]; omega
      · rw [h4] at e3
        clear h4
        have HMd := Lib.hid (HM.out.snoc (q := 4) (N := n / 4294967296) (by rfl) (by omega) (by simp <;> omega))
        go_wp2_with (at_builtin; first | (refine wpList_append_arr rfl (.tmp 44) (.tmp 47) 22 rfl 2 57 i1 (.agg #[.int .i64 0, .int .i64 0]) 2 16 Try.underlying22 hj hy0 hy1 hy2 rfl (by decide) (.slice a5 k c5) ss.length _ rfl ((HT.out.skip (.cells #[.int .i64 1, .int .i64 2, .int .i64 4, .int .i64 8] 3)).alloc #[.int .i64 4, .int .i64 0] 57) rfl (wo.heap.size + 1) #[.int .i64 4, .int .i64 0] rfl rfl (by simpa using Blk.made (wo.alloc (.cells #[.int .i64 1, .int .i64 2, .int .i64 4, .int .i64 8] 3)) 57 #[.int .i64 4, .int .i64 0]) (by simp [Value.oneCell']) (by unfold maxLen; omega) (by omega) ?_; intro v4 w4 hS4; obtain ⟨a4, c4, rfl, x1, x2⟩ := own_shape (hS4.own 2 rfl); have HS4 := Lib.hid hS4.rest; clear hS4 x1 x2) | (refine wpList_append_arr rfl (.tmp 49) (.tmp 56) 23 rfl 1 28 i0 (.agg #[.int .u64 0, .slice none 0 0]) 2 32 Try.underlying23 hi hz0 hz1 hz2 rfl (by decide) (.slice a6 k c6) gs.length _ rfl (HS4.out.alloc #[.int .u64 (n / 4294967296), .slice none 0 0] 28) rfl _ #[.int .u64 (n / 4294967296), .slice none 0 0] rfl rfl (Blk.made _ _ _) (by simp [Value.oneCell']) (by unfold maxLen; omega) (by omega) ?_; intro v7 w7 hS7; obtain ⟨a7, c7, rfl, x1, x2⟩ := own_shape (hS7.own 1 rfl); have HS7 := Lib.hid hS7.rest; clear hS7 x1 x2))
        have hls := HM.out.ls
        have hlg := HM.out.fit.1.symm.trans hls
        have h7 := HS7.out
        have f1 := stpsR_snoc (.slice a4 (ss.length + 1) c4) ss ⟨4, 0⟩
        have f2 := gotsR_snoc (.slice a7 (gs.length + 1) c7) gs ⟨n / 4294967296, .slice none 0 0, []⟩
        rw [hls] at f1
        rw [hlg] at f2
        rw [hls, hlg] at h7
        rw [hls, hlg]
        have H7 := Lib.hid h7
        have HF := Lib.hid (And.intro f1 f2)
        clear hls hlg h7 f1 f2
        go_roundw
        case rel =>
          refine ⟨k + 1, ss ++ [⟨4, 0⟩], gs ++ [⟨n / 4294967296, .slice none 0 0, []⟩], a4, a7, c4, c7, by omega, rfl, rfl, by go_num, HMd.out, ?_⟩
          rw [← HF.out.1, ← HF.out.2]
          exact H7.out
        case measure => simp [intOf]; omega
      · rw [h4] at e3
        clear h4
        have HMd := Lib.hid (HM.out.snoc (q := 8) (N := n) (by rfl) (by omega) (by simp <;> omega))
        go_wp2_with (at_builtin; first | (refine wpList_append_arr rfl (.tmp 44) (.tmp 47) 22 rfl 2 57 i1 (.agg #[.int .i64 0, .int .i64 0]) 2 16 Try.underlying22 hj hy0 hy1 hy2 rfl (by decide) (.slice a5 k c5) ss.length _ rfl ((HT.out.skip (.cells #[.int .i64 1, .int .i64 2, .int .i64 4, .int .i64 8] 3)).alloc #[.int .i64 8, .int .i64 0] 57) rfl (wo.heap.size + 1) #[.int .i64 8, .int .i64 0] rfl rfl (by simpa using Blk.made (wo.alloc (.cells #[.int .i64 1, .int .i64 2, .int .i64 4, .int .i64 8] 3)) 57 #[.int .i64 8, .int .i64 0]) (by simp [Value.oneCell']) (by unfold maxLen; omega) (by omega) ?_; intro v4 w4 hS4; obtain ⟨a4, c4, rfl, x1, x2⟩ := own_shape (hS4.own 2 rfl); have HS4 := Lib.hid hS4.rest; clear hS4 x1 x2) | (refine wpList_append_arr rfl (.tmp 49) (.tmp 56) 23 rfl 1 28 i0 (.agg #[.int .u64 0, .slice none 0 0]) 2 32 Try.underlying23 hi hz0 hz1 hz2 rfl (by decide) (.slice a6 k c6) gs.length _ rfl (HS4.out.alloc #[.int .u64 (n), .slice none 0 0] 28) rfl _ #[.int .u64 (n), .slice none 0 0] rfl rfl (Blk.made _ _ _) (by simp [Value.oneCell']) (by unfold maxLen; omega) (by omega) ?_; intro v7 w7 hS7; obtain ⟨a7, c7, rfl, x1, x2⟩ := own_shape (hS7.own 1 rfl); have HS7 := Lib.hid hS7.rest; clear hS7 x1 x2))
        have hls := HM.out.ls
        have hlg := HM.out.fit.1.symm.trans hls
        have h7 := HS7.out
        have f1 := stpsR_snoc (.slice a4 (ss.length + 1) c4) ss ⟨8, 0⟩
        have f2 := gotsR_snoc (.slice a7 (gs.length + 1) c7) gs ⟨n, .slice none 0 0, []⟩
        rw [hls] at f1
        rw [hlg] at f2
        rw [hls, hlg] at h7
        rw [hls, hlg]
        have H7 := Lib.hid h7
        have HF := Lib.hid (And.intro f1 f2)
        clear hls hlg h7 f1 f2
        go_roundw
        case rel =>
          refine ⟨k + 1, ss ++ [⟨8, 0⟩], gs ++ [⟨n, .slice none 0 0, []⟩], a4, a7, c4, c7, by omega, rfl, rfl, by go_num, HMd.out, ?_⟩
          rw [← HF.out.1, ← HF.out.2]
          exact H7.out
        case measure => simp [intOf]; omega
    · obtain rfl : k = ns.length := by omega
      obtain ⟨b5, d5, h1, _, _, _, rd5, _⟩ := RdS.of_own (rows := ss.map Stp.row) (HT.out.get 1 rfl) (fun r hr => by obtain ⟨g, _, rfl⟩ := List.mem_map.1 hr; rfl) (by decide) (List.length_map _).symm
      injection h1 with h1 z1 z2
      subst h1
      obtain ⟨b6, d6, h1, _, _, _, rd6, _⟩ := RdS.of_own (rows := gs.map GtV.row) (HT.out.get 0 rfl) (fun r hr => by obtain ⟨g, _, rfl⟩ := List.mem_map.1 hr; rfl) (by decide) (List.length_map _).symm
      injection h1 with h1 z3 z4
      subst h1
      have HSt := Lib.hid (fun X (hX : Frm [] wo X) => (show Steps wo a5 ss from ⟨rd5, by omega, fun s hs => by rw [HM.out.n0 s hs]; omega⟩).frm hX)
      have HG := Lib.hid (HM.out.gots rd6 ss.length)
      have HGd := Lib.hid (fun X (hX : Frm [] wo X) => (HM.out.rdg rd6).frm hX)
      have HW := Lib.hid (write_c wo a5 c5 ss (HSt.out _ (Frm.refl _ _)) a6 c6 gs HG.out (by omega))
      obtain ⟨hx0, hx11, hxb⟩ := HM.out.wrote hn0
      have HX := Lib.hid (And.intro (whole_written HM.out.fit) (And.intro (fun zs h => whole_short HM.out.fit (zs := zs) h) (whole_more HM.out.fit 0)))
      obtain ⟨xs, hxs⟩ : ∃ xs, xs = wrL ss gs ss.length := ⟨_, rfl⟩
      rw [← hxs] at HW hx0 hx11 hxb HX
      have hlg : gs.length = ns.length := HM.out.fit.1.symm.trans HM.out.ls
      have hls := HM.out.ls
      rw [hls, hlg] at HW
      have HLs := Lib.hid (And.intro hls hlg)
      have HBy := Lib.hid hxb
      have hx2 : xs.length ≤ 100000 := by have := hn; omega
      clear z1 z2 z3 z4 rd5 rd6 hxs hxb hls hlg hx11
      go_wp2_with fail
      refine HW.out.mono ?_
      rintro e w2 ⟨s, v2, rfl, hS2⟩
      have HF2 := Lib.hid hS2.frm
      have HS2 := Lib.hid hS2
      clear hS2 HW
      go_wp2_with fail
      refine (wdone_c s v2 xs w2 HS2.out (by omega)).mono ?_
      rintro e w3 ⟨v3, rfl, hS3⟩
      obtain ⟨g3, c3, rfl⟩ := row_slice (hS3.own 0 rfl) hx0
      have HF3 := Lib.hid (HF2.out.trans hS3.frm)
      have HB3 := Lib.hid (fun X (hX : Frm [] w3 X) => (bytes_own (hS3.get 0 rfl) HBy.out (by omega)).frm hX)
      clear hS3 HS2
      obtain ⟨m, hm⟩ : ∃ m, m = xs.length := ⟨_, rfl⟩
      have HMx := Lib.hid hm
      have hx0 : 0 < m := by omega
      have hx2 : m ≤ 100000 := by omega
      rw [← hm]
      clear hm
      go_wp2_with fail
      refine (parse_s a5 ns.length c5 w3).mono ?_
      rintro e w4 ⟨sb4, rfl, hk4, hF4⟩
      have HP4 := Lib.hid (read_v (cs := c5) (HB3.out _ hF4) (HSt.out _ (HF3.out.trans hF4)) (by rw [HLs.out.1]; exact hk4))
      rw [show whoO xs ss = gs.map GtV.gt by unfold whoO; rw [HX.out.1], show whoE xs ss = 0 by unfold whoE; rw [HX.out.1], ← HMx.out] at HP4
      have HF4 := Lib.hid hF4
      clear hk4 hF4
      go_wp2_with fail
      refine HP4.out.mono ?_
      rintro e w5 ⟨v5, g5, hg5, rfl, hs5, hS5⟩
      obtain ⟨q5, p5, rfl, j1, j2, j3, hr5⟩ := gots_rd hS5 1 0 rfl rfl (fun g hg => by have := hs5 g hg; omega)
      have HF5 := Lib.hid (HF4.out.trans hS5.frm)
      have h5 := gsame_c q5 a6 p5 c6 g5 gs w5 hr5 (HGd.out _ (HF3.out.trans HF5.out)) (by have := congrArg List.length hg5; rw [List.length_map, List.length_map] at this; have := HLs.out.2; omega) hg5
      rw [HLs.out.2] at h5
      have HC5 := Lib.hid h5
      clear hg5 hs5 hS5 j1 j2 j3 hr5 HP4 h5
      go_wp2_with fail
      refine HC5.out.mono ?_
      rintro e w6 ⟨rfl, m6, rfl⟩
      have HF6 := Lib.hid (HF5.out.drewN m6)
      obtain ⟨w6, hw6⟩ : ∃ w6, w6 = w5.drewN m6 := ⟨_, rfl⟩
      rw [← hw6] at HF6 ⊢
      clear hw6 HC5 HF5 HF4
      obtain ⟨z, hzz⟩ : ∃ z, bits .and .i64 cut0 1023 = z := ⟨_, rfl⟩
      have hzb := and_i64 cut0 1023 (by omega) (by omega)
      rw [hzz] at hzb
      obtain ⟨z0, z1⟩ := hzb
      obtain ⟨kc, hkc, hkl⟩ : ∃ kc : Nat, z % (m : Int) = (kc : Int) ∧ kc < m := by
        have h1 := Int.emod_nonneg z (show (m : Int) ≠ 0 by omega)
        have h2 := Int.emod_lt_of_pos z (show (0 : Int) < (m : Int) by omega)
        exact ⟨(z % (m : Int)).toNat, by omega, by omega⟩
      have hkt : Int.tmod z (m : Int) = (kc : Int) := by rw [Int.tmod_eq_emod_of_nonneg z0]; exact hkc
      have hcap : m ≤ c3 := by have := (HB3.out _ (Frm.refl _ _)).cap; have := HMx.out; omega
      have k1 : (kc : Int) ≤ (c3 : Int) := by omega
      have k2 : (kc : Int) ≤ (m : Int) := by omega
      have k3 : kc ≤ c3 := by omega
      have k4 : ¬ m = 0 := by omega
      have k5 : ((m : Int) == 0) = false := by rw [beq_eq_false_iff_ne]; omega
      have HTk := Lib.hid (show ∀ X, Frm [] w3 X → Bytes X (some ⟨g3, 0, none⟩) c3 (xs.take kc) from fun X hX => by
        have h := HB3.out X hX
        have hl : (xs.take kc).length ≤ xs.length := by rw [List.length_take]; omega
        exact ⟨h.rd.firsts kc, h.byt.take kc, Nat.le_trans hl h.cap, h.big, h.nil, Nat.le_trans hl h.sm⟩)
      have htl : (xs.take kc).length = kc := by rw [List.length_take]; have := HMx.out; omega
      have HTl := Lib.hid htl
      have HSh := Lib.hid (HX.out.2.1 (xs.take kc) (by rw [htl, ← HMx.out]; exact hkl))
      have HPa : Hid (∀ W sb, Frm [] w3 W → Blk W sb 22 #[.slice a5 ns.length c5] → Calls Try.prog 15 #[.slice (some ⟨g3, 0, none⟩) kc c3, .func (.func 43) #[] #[.pointer (some ⟨sb, 0, none⟩)]] W (ReadP W [] 20 kc)) := Lib.hid (fun W sb hW hk => by
        have h := read_v (cs := c5) (HTk.out W hW) (HSt.out W (HF3.out.trans hW)) (by rw [HLs.out.1]; exact hk)
        rw [show whoO (xs.take kc) ss = [] by unfold whoO; rw [HSh.out], show whoE (xs.take kc) ss = 20 by unfold whoE; rw [HSh.out], HTl.out] at h
        exact h)
      clear htl hkl
      go_wp2_with fail
      go_region_held3 (fun _ => True) (trivial) (first | (go_at_call 16; (with_reducible refine (parse_s a5 ns.length c5 _).mono ?_); rintro e w7 ⟨sb7, rfl, hk7, hF7⟩; have HF7 := Lib.hid (HF6.out.drew.trans hF7); have HK7 := Lib.hid hk7; clear hk7 hF7) | (go_at_call 15; (with_reducible refine (HPa.out _ _ HF7.out HK7.out).mono ?_); rintro e w8 ⟨v8, g8, hg8, rfl, hs8, hS8⟩; obtain rfl := List.map_eq_nil_iff.1 hg8; obtain ⟨a8, c8, rfl, j1, j2⟩ := own_shape (hS8.get 1 rfl); have HF8 := Lib.hid (HF7.out.trans hS8.frm); clear hg8 hs8 hS8 j1 j2))
      clear hkc hkt hzz HPa
      go_wp2_with fail
      have HC8 := Lib.hid (bcopy_c (some ⟨g3, 0, none⟩) c3 xs w8 (HB3.out _ HF8.out).rd (by have := HMx.out; omega))
      rw [← HMx.out] at HC8
      refine HC8.out.mono ?_
      rintro e w9 ⟨g9, c9, rfl, hS9⟩
      have HS9 := Lib.hid (show Sep [] w8 w9 [ownR 5 1 (.slice (some ⟨g9, 0, none⟩) m c9) m (xs.map (Value.int .u8))] by have h := hS9; unfold sumR at h; rw [← HMx.out] at h; exact h)
      clear hS9 HC8
      go_wp2_with (at_builtin; go_must (refine wpList_append_sep rfl _ _ 26 rfl 0 5 i2 (.int .u8 0) 1 Try.underlying26 hl hx0' hx1 hx2' rfl _ _ _ rfl (HS9.out.skip _) rfl _ 1 (.int .u8 0) rfl (World.cell?_alloc_at _ _ _ _ rfl) rfl (by unfold maxLen; omega) (by omega) ?_); intro g10 c10 w10 hS10; have HS10 := Lib.hid hS10; clear hS10)
      have hB10 := bytes_own (w := w10) (g := g10) (c := c10) (zs := xs ++ [0]) (by have h := HS10.out.own 0 rfl; unfold sumR; rw [List.length_append, List.length_singleton, ← HMx.out, List.map_append]; exact h) (fun x hx => by
        rcases List.mem_append.1 hx with hx | hx
        · exact HBy.out x hx
        · simp at hx; subst hx; omega) (by rw [List.length_append, List.length_singleton, ← HMx.out]; omega)
      have HB10 := Lib.hid (fun X (hX : Frm [] w10 X) => hB10.frm hX)
      have HF10 := Lib.hid (HF8.out.trans HS10.out.frm)
      clear hB10 HS10 HS9
      refine (parse_s a5 ns.length c5 w10).mono ?_
      rintro e w11 ⟨sb11, rfl, hk11, hF11⟩
      have h11 := read_v (cs := c5) (HB10.out _ hF11) (HSt.out _ (HF3.out.trans (HF10.out.trans hF11))) (by rw [HLs.out.1]; exact hk11)
      rw [show whoO (xs ++ [0]) ss = [] by unfold whoO; rw [HX.out.2.2], show whoE (xs ++ [0]) ss = 22 by unfold whoE; rw [HX.out.2.2], List.length_append, List.length_singleton, ← HMx.out] at h11
      have HC11 := Lib.hid h11
      have HF11 := Lib.hid (HF10.out.trans hF11)
      clear h11 hk11 hF11
      go_wp2_with fail
      refine HC11.out.mono ?_
      rintro e w12 ⟨v12, g12, _, rfl, _, hS12⟩
      have HE := Lib.hid (HT.out.frm.trans (HF3.out.trans (HF11.out.trans hS12.frm)))
      clear hS12
      go_wp2_with fail
      go_ret
      exact ⟨rfl, HE.out.below⟩

set_option maxRecDepth 100000 in
set_option maxHeartbeats 4000000 in
theorem wireBackB_w (w : World) (a : Option Addr) (c n : Nat) (cut0 : Int) (hn : n ≤ 9223372036854775807) (h : 50 < n ∨ n = 0) :
    Calls Try.prog 7 #[.slice a n c, .int .i64 cut0] w fun e w' => e = .returned (.bool true) ∧ Below w.heap.size w w' := by
  by_cases h1 : 50 < n
  · have t1 : decide (50 < (n : Int)) = true := by rw [decide_eq_true_iff]; omega
    clear h h1
    go_enter Try.func7, Try.ntmps7
    go_wp2_with fail
    refine (alive_c _).mono ?_
    rintro e w1 ⟨rfl, hF⟩
    have HF := Lib.hid hF
    clear hF
    go_wp2_with fail
    go_ret
    exact ⟨rfl, HF.out.below⟩
  · obtain rfl : n = 0 := by omega
    clear h h1
    go_enter Try.func7, Try.ntmps7
    go_wp2_with fail
    refine (alive_c _).mono ?_
    rintro e w1 ⟨rfl, hF⟩
    have HF := Lib.hid hF
    clear hF
    go_wp2_with fail
    go_ret
    exact ⟨rfl, HF.out.below⟩

theorem wireBack_w (w : World) (a : Option Addr) (c : Nat) (ns : List Int) (lc : ns.length ≤ c) (mc : c ≤ maxLen) (rd : RdI .u64 w a ns) (wf : ∀ x ∈ ns, (Lit.int .u64 x).wf = true) (cut0 : Int) (wm : (Lit.int .i64 cut0).wf = true) :
    Calls Try.prog 7 #[.slice a ns.length c, .int .i64 cut0] w fun e w' => e = .returned (.bool true) ∧ Below w.heap.size w w' := by
  unfold maxLen at mc
  by_cases h : 50 < ns.length ∨ ns.length = 0
  · exact wireBackB_w w a c ns.length cut0 (by omega) h
  · refine wireBackA_w w a c ns rd (fun n hn => ?_) (by omega) (by omega) cut0
    have := wf n hn
    simp [Lit.wf, IntKind.min, IntKind.max, IntKind.bits, IntKind.signed] at this
    omega

end Go.Proofs.Ytdkbibfgebfeaaa
