/-
  THE WALK of the closure of confluxlaw03.parse: what steps read.
-/
import Derived.Test.YtdkbibfgebfeaaaWiA
import Derived.Test.YtdkbibfgebfeaaaGua
import Derived.Test.YtdkbibfgebfeaaaArr
import Derived.Test.YtdkbibfgebfeaaaMany
import Derived.Test.YtdkbibfgebfeaaaPrm
import Derived.Deep.DeepCutAuto
import Derived.Deep.DeepMust
set_option linter.unusedVariables false
set_option linter.unusedSimpArgs false
namespace Go.Proofs.Ytdkbibfgebfeaaa
open Go.RowKit

/-- A step's cells. -/
def Stp.row (s : Stp) : List Value := [.int .i64 s.k, .int .i64 s.n]
/-- What a step reads, with the bytes' slice. -/
structure GtV where
  N : Int
  bv : Value
  B : List Int
def GtV.gt (g : GtV) : Gt := ⟨g.N, g.B⟩
def GtV.row (g : GtV) : List Value := [.int .u64 g.N, g.bv]
def gotsR (v : Value) (gs : List GtV) : Res := ownR 28 2 v gs.length (gs.map GtV.row).flatten
def bodR (gs : List GtV) : Res := manyR (gs.map fun g => sumR g.bv g.B)
theorem gotsR_snoc (v : Value) (gs : List GtV) (x : GtV) : ownR 28 2 v (gs.length + 1) ((gs.map GtV.row).flatten ++ #[.int .u64 x.N, x.bv].toList) = gotsR v (gs ++ [x]) := by simp [gotsR, GtV.row]
theorem info_got : (Try.prog.info? 28).map (fun i => (i.zero, i.size, i.bytes)) = some (some (.agg #[.int .u64 0, .slice none 0 0]), 2, 32) := by kernel_rfl
/-- What the closure gives. -/
def PairOk (out : List Gt) (n : Nat) (v : Value) (L : List Res) (n' : Nat) : Prop := n' = n ∧ ∃ gs : List GtV, gs.map GtV.gt = out ∧ L = [gotsR v gs, bodR gs]

theorem runL_next {zs : List Int} {ss : List Stp} {out : List Gt} {n : Nat} (h : runL zs ss = .ok (out, n)) {k : Nat} {s : Stp} (hs : ss[k]? = some s) {o : List Gt} {at_ : Nat} (hk : runL zs (ss.take k) = .ok (o, at_)) :
    ∃ N m, oneL zs at_ s = .ok (N, m) ∧ runL zs (ss.take (k + 1)) = .ok (o ++ [N], m) := by
  obtain ⟨hlt, rfl⟩ := List.getElem?_eq_some_iff.1 hs
  have h1 := runL_take zs ss k hlt
  rw [hk] at h1
  cases ho : oneL zs at_ ss[k] with
  | error e =>
    have h2 : runL zs (ss.take (k + 1)) = .error e := by rw [h1]; simp [stpL, ho]
    rw [runL_error h2] at h
    cases h
  | ok r =>
    obtain ⟨N, m⟩ := r
    exact ⟨N, m, rfl, by rw [h1]; simp [stpL, ho]⟩

theorem runL_stuck {zs : List Int} {ss : List Stp} {e : Int} (h : runL zs ss = .error e) {k : Nat} {s : Stp} (hs : ss[k]? = some s) {o : List Gt} {at_ : Nat} (hk : runL zs (ss.take k) = .ok (o, at_)) :
    (∃ N m, oneL zs at_ s = .ok (N, m) ∧ runL zs (ss.take (k + 1)) = .ok (o ++ [N], m)) ∨ oneL zs at_ s = .error e := by
  obtain ⟨hlt, rfl⟩ := List.getElem?_eq_some_iff.1 hs
  have h1 := runL_take zs ss k hlt
  rw [hk] at h1
  cases ho : oneL zs at_ ss[k] with
  | error e' =>
    have h2 : runL zs (ss.take (k + 1)) = .error e' := by rw [h1]; simp [stpL, ho]
    rw [runL_error h2] at h
    injection h with h
    subst h
    exact .inr rfl
  | ok r =>
    obtain ⟨N, m⟩ := r
    exact .inl ⟨N, m, rfl, by rw [h1]; simp [stpL, ho]⟩

set_option maxRecDepth 100000 in
set_option maxHeartbeats 8000000 in
theorem parse_ok {w : World} {sb : Nat} {ad : Option Addr} {cs : Nat} {ss : List Stp} (hb : Blk w sb 22 #[.slice ad ss.length cs]) (hr : RdS 2 w ad (ss.map Stp.row)) (hn : ss.length ≤ 100)
    (a : Option Addr) (c : Nat) (zs : List Int) (out : List Gt) (n : Nat) (ho : runL zs ss = .ok (out, n)) :
    Reads 43 #[.pointer (some ⟨sb, 0, none⟩)] w a c zs (PairOk out n) := by
  intro W g hf hg hR
  obtain ⟨i0, hi, hz0, hz1, hz2⟩ := info_parts info_got
  have hlow : ∀ k ∈ [g], w.heap.size ≤ k := by simpa using hg
  have HB := Lib.hid (fun X (hX : Frm [g] W X) => hb.low (hf.more.trans hX) hlow)
  have HRd := Lib.hid (fun X (hX : Frm [g] W X) => hr.low (hf.more.trans hX) hlow)
  have HR := Lib.hid hR
  have c0 : W.cell? ⟨sb, 0, none⟩ = some (.slice ad ss.length cs) := (HB.out W (Frm.refl _ _)).cell 0 rfl
  have HS := Lib.hid ((((Sep.enter (r := blkR g 85 #[.slice a zs.length c, .int .i64 ((0 : Nat) : Int)]) hR.blk).made 28 2 0 #[] (by unfold maxLen; omega) rfl).swap2).none)
  have HO := Lib.hid ho
  have hsb := (HB.out W (Frm.refl _ _)).lt
  clear hb hr hf hg hR hlow ho
  go_enter Try.func43, Try.ntmps43
  go_wp2_with fail
  go_loopw [4, 10] (fun v i wr => ∃ (k : Nat) (gs : List GtV) (at_ : Nat) (o : Value), k ≤ ss.length ∧ o = v ∧ i = .int .i64 k ∧ runL zs (ss.take k) = .ok (gs.map GtV.gt, at_) ∧ Sep [g] W wr [bodR gs, blkR g 85 #[.slice a zs.length c, .int .i64 (at_ : Int)], gotsR o gs]) (fun _ i _ => ss.length - (intOf i).toNat)
  case atStart => exact ⟨0, [], 0, _, Nat.zero_le _, rfl, rfl, rfl, HS.out⟩
  case round =>
    obtain ⟨k, gs, at_, v, hk, rfl, rfl, hrun, hS⟩ := hrel
    obtain ⟨hle, hgl⟩ := runL_le _ hrun
    rw [List.length_map, List.length_take] at hgl
    have HS2 := Lib.hid hS
    have HRun := Lib.hid hrun
    clear hS hrun
    by_cases hlt : k < ss.length
    · obtain ⟨s, hs⟩ : ∃ s, ss[k]? = some s := ⟨_, List.getElem?_eq_getElem hlt⟩
      obtain ⟨b, off, rfl, _, hc⟩ := HRd.out wr HS2.out.frm k s.row (by rw [List.getElem?_map, hs]; rfl)
      have d0 : wr.cell? ⟨b, off + k * 2, none⟩ = some (.int .i64 s.k) := hc 0 _ rfl
      have d1 : wr.cell? ⟨b, off + k * 2 + 1, none⟩ = some (.int .i64 s.n) := hc 1 _ rfl
      obtain ⟨N, m, hon, hrn⟩ := runL_next HO.out hs HRun.out
      obtain ⟨m0, m1⟩ := oneL_le hon hle
      have HRw := Lib.hid (HR.out.to ((HS2.out.skip (.cells #[.int .i64 s.k, .int .i64 s.n] 57)).frm) ((HS2.out.skip _).blk 1 rfl) hle)
      have HC := Lib.hid (one_ok HRw.out s N m hon)
      have HRn := Lib.hid hrn
      have i1 : (0 : Int) ≤ (k : Int) := by omega
      have i2 : (k : Int) < (ss.length : Int) := by omega
      have hgl2 : gs.length = k := by omega
      have hgl3 : gs.length ≤ 100 := by omega
      have HGl := Lib.hid hgl2
      clear hs hc hon hrn HRw hgl hgl2
      go_wp2_with fail
      refine HC.out.mono ?_
      rintro x w1 ⟨bv, rfl, _, hS1⟩
      obtain ⟨a1, p1, rfl, _, _⟩ := RdI.of_own (hS1.own 1 rfl)
      have HS3 := Lib.hid (((HS2.out.skip _).swap2).callMany hS1 (by simp [blkR]))
      clear hS1 HC
      go_wp2_with (at_builtin; go_must (refine wpList_append_arr rfl _ _ 23 rfl 4 28 i0 (.agg #[.int .u64 0, .slice none 0 0]) 2 32 Try.underlying23 hi hz0 hz1 hz2 rfl (by decide) v gs.length _ rfl (HS3.out.alloc #[.int .u64 N.N, .slice a1 N.B.length p1] 28) rfl _ #[.int .u64 N.N, .slice a1 N.B.length p1] rfl rfl (Blk.made _ _ _) (by simp [Value.oneCell']) (by unfold maxLen; omega) (by omega) ?_); intro v4 w4 hS4; have HS4 := Lib.hid hS4; clear hS4)
      go_roundw
      case rel =>
        refine ⟨k + 1, gs ++ [⟨N.N, .slice a1 N.B.length p1, N.B⟩], m, v4, by omega, rfl, by go_num, by rw [HRn.out, List.map_append]; rfl, ?_⟩
        have h := (HS4.out.tail.swap2.into).swap2
        have e := gotsR_snoc v4 gs ⟨N.N, .slice a1 N.B.length p1, N.B⟩
        unfold bodR
        rw [← e, List.map_append]
        exact h
      case measure => simp [intOf]; omega
    · obtain rfl : k = ss.length := by omega
      go_wp2_with fail
      go_ret
      have h1 := HRun.out
      rw [List.take_length, HO.out] at h1
      injection h1 with h1; injection h1 with h1 h2
      subst h1 h2
      exact ⟨v, _, n, rfl, ⟨rfl, gs, rfl, rfl⟩, hle, HS2.out.swap2.prm (List.Perm.cons _ (List.Perm.swap _ _ _))⟩

set_option maxRecDepth 100000 in
set_option maxHeartbeats 8000000 in
theorem parse_err {w : World} {sb : Nat} {ad : Option Addr} {cs : Nat} {ss : List Stp} (hb : Blk w sb 22 #[.slice ad ss.length cs]) (hr : RdS 2 w ad (ss.map Stp.row)) (hn : ss.length ≤ 100)
    (a : Option Addr) (c : Nat) (zs : List Int) (e : Int) (ho : runL zs ss = .error e) :
    Ends 43 #[.pointer (some ⟨sb, 0, none⟩)] w a c zs e := by
  intro W g hf hg hR
  obtain ⟨i0, hi, hz0, hz1, hz2⟩ := info_parts info_got
  have hlow : ∀ k ∈ [g], w.heap.size ≤ k := by simpa using hg
  have HB := Lib.hid (fun X (hX : Frm [g] W X) => hb.low (hf.more.trans hX) hlow)
  have HRd := Lib.hid (fun X (hX : Frm [g] W X) => hr.low (hf.more.trans hX) hlow)
  have HR := Lib.hid hR
  have c0 : W.cell? ⟨sb, 0, none⟩ = some (.slice ad ss.length cs) := (HB.out W (Frm.refl _ _)).cell 0 rfl
  have HS := Lib.hid ((((Sep.enter (r := blkR g 85 #[.slice a zs.length c, .int .i64 ((0 : Nat) : Int)]) hR.blk).made 28 2 0 #[] (by unfold maxLen; omega) rfl).swap2).none)
  have HO := Lib.hid ho
  have hsb := (HB.out W (Frm.refl _ _)).lt
  clear hb hr hf hg hR hlow ho
  go_enter Try.func43, Try.ntmps43
  go_wp2_with fail
  go_loopw [4, 10] (fun v i wr => ∃ (k : Nat) (gs : List GtV) (at_ : Nat) (o : Value), k ≤ ss.length ∧ o = v ∧ i = .int .i64 k ∧ runL zs (ss.take k) = .ok (gs.map GtV.gt, at_) ∧ Sep [g] W wr [bodR gs, blkR g 85 #[.slice a zs.length c, .int .i64 (at_ : Int)], gotsR o gs]) (fun _ i _ => ss.length - (intOf i).toNat)
  case atStart => exact ⟨0, [], 0, _, Nat.zero_le _, rfl, rfl, rfl, HS.out⟩
  case round =>
    obtain ⟨k, gs, at_, v, hk, rfl, rfl, hrun, hS⟩ := hrel
    obtain ⟨hle, hgl⟩ := runL_le _ hrun
    rw [List.length_map, List.length_take] at hgl
    have HS2 := Lib.hid hS
    have HRun := Lib.hid hrun
    clear hS hrun
    by_cases hlt : k < ss.length
    · obtain ⟨s, hs⟩ : ∃ s, ss[k]? = some s := ⟨_, List.getElem?_eq_getElem hlt⟩
      obtain ⟨b, off, rfl, _, hc⟩ := HRd.out wr HS2.out.frm k s.row (by rw [List.getElem?_map, hs]; rfl)
      have d0 : wr.cell? ⟨b, off + k * 2, none⟩ = some (.int .i64 s.k) := hc 0 _ rfl
      have d1 : wr.cell? ⟨b, off + k * 2 + 1, none⟩ = some (.int .i64 s.n) := hc 1 _ rfl
      rcases runL_stuck HO.out hs HRun.out with ⟨N, m, hon, hrn⟩ | hon
      · obtain ⟨m0, m1⟩ := oneL_le hon hle
        have HRw := Lib.hid (HR.out.to ((HS2.out.skip (.cells #[.int .i64 s.k, .int .i64 s.n] 57)).frm) ((HS2.out.skip _).blk 1 rfl) hle)
        have HC := Lib.hid (one_ok HRw.out s N m hon)
        have HRn := Lib.hid hrn
        have i1 : (0 : Int) ≤ (k : Int) := by omega
        have i2 : (k : Int) < (ss.length : Int) := by omega
        have hgl2 : gs.length = k := by omega
        have hgl3 : gs.length ≤ 100 := by omega
        have HGl := Lib.hid hgl2
        clear hs hc hon hrn HRw hgl hgl2
        go_wp2_with fail
        refine HC.out.mono ?_
        rintro x w1 ⟨bv, rfl, _, hS1⟩
        obtain ⟨a1, p1, rfl, _, _⟩ := RdI.of_own (hS1.own 1 rfl)
        have HS3 := Lib.hid (((HS2.out.skip _).swap2).callMany hS1 (by simp [blkR]))
        clear hS1 HC
        go_wp2_with (at_builtin; go_must (refine wpList_append_arr rfl _ _ 23 rfl 4 28 i0 (.agg #[.int .u64 0, .slice none 0 0]) 2 32 Try.underlying23 hi hz0 hz1 hz2 rfl (by decide) v gs.length _ rfl (HS3.out.alloc #[.int .u64 N.N, .slice a1 N.B.length p1] 28) rfl _ #[.int .u64 N.N, .slice a1 N.B.length p1] rfl rfl (Blk.made _ _ _) (by simp [Value.oneCell']) (by unfold maxLen; omega) (by omega) ?_); intro v4 w4 hS4; have HS4 := Lib.hid hS4; clear hS4)
        go_roundw
        case rel =>
          refine ⟨k + 1, gs ++ [⟨N.N, .slice a1 N.B.length p1, N.B⟩], m, v4, by omega, rfl, by go_num, by rw [HRn.out, List.map_append]; rfl, ?_⟩
          have h := (HS4.out.tail.swap2.into).swap2
          have e := gotsR_snoc v4 gs ⟨N.N, .slice a1 N.B.length p1, N.B⟩
          unfold bodR
          rw [← e, List.map_append]
          exact h
        case measure => simp [intOf]; omega
      · have HRw := Lib.hid (HR.out.to ((HS2.out.skip (.cells #[.int .i64 s.k, .int .i64 s.n] 57)).frm) ((HS2.out.skip _).blk 1 rfl) hle)
        have HC := Lib.hid (one_err HRw.out s e hon)
        have i1 : (0 : Int) ≤ (k : Int) := by omega
        have i2 : (k : Int) < (ss.length : Int) := by omega
        clear hs hc hon HRw hgl
        go_wp2_with fail
        refine HC.out.mono ?_
        rintro x w1 ⟨rfl, hF⟩
        exact ⟨rfl, by simp, (HS2.out.skip _).frm.trans hF⟩
    · exfalso
      obtain rfl : k = ss.length := by omega
      have h1 := HRun.out
      rw [List.take_length, HO.out] at h1
      cases h1

end Go.Proofs.Ytdkbibfgebfeaaa
