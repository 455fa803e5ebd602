/-
  THE WALK of slices.DeleteFunc.
-/
import Derived.Test.YtekjpkppfcmjdaaLiD
import Derived.Deep.DeepCutAuto
set_option linter.unusedVariables false
set_option linter.unusedSimpArgs false
namespace Go.Proofs.Ytekjpkppfcmjdaa
open Go.RowKit

theorem kept_none {ws : List Wt} (h : ∀ (i : Nat) (x : Wt), ws[i]? = some x → isO x = false) : kept ws = ws := by
  unfold kept
  rw [List.filter_eq_self]
  intro x hx
  obtain ⟨i, hi⟩ := List.getElem?_of_mem hx
  rw [h i x hi]; rfl
theorem kept_succ {ws : List Wt} {j : Nat} {x : Wt} (h : ws[j]? = some x) : kept (ws.take (j + 1)) = if x.l = 0 then kept (ws.take j) else kept (ws.take j) ++ [x] := by
  unfold kept
  rw [List.take_add_one, h, List.filter_append]
  by_cases hl : x.l = 0
  · simp [isO, hl]
  · simp [isO, hl]
theorem fst_spec {ws : List Wt} (h : fstO ws < ws.length) : ∃ x, ws[fstO ws]? = some x ∧ x.l = 0 ∧ ∀ (i : Nat) (y : Wt), i < fstO ws → ws[i]? = some y → isO y = false := by
  refine ⟨_, List.getElem?_eq_getElem h, ?_, fun i y hi hy => ?_⟩
  · have := List.findIdx_getElem (w := h)
    exact of_decide_eq_true this
  · obtain ⟨hl, rfl⟩ := List.getElem?_eq_some_iff.1 hy
    have := List.not_of_lt_findIdx (show i < ws.findIdx isO from hi)
    simpa using this
theorem fst_none {ws : List Wt} (h : ¬ fstO ws < ws.length)   : ∀ (i : Nat) (x : Wt), ws[i]? = some x → isO x = false := fun i x hx => by
  obtain ⟨hl, rfl⟩ := List.getElem?_eq_some_iff.1 hx
  have := List.not_of_lt_findIdx (show i < ws.findIdx isO from by unfold fstO at h; omega)
  simpa using this
theorem zero_late : ∀ w : World, (zeroValue 51).run Try.prog w = .ok (.agg #[.slice none 0 0, .int .i64 0]) w := fun w => by rfl
def IsS (v : Value) : Prop := ∃ p n c, v = .slice p n c
theorem IsS.one {v : Value} (h : IsS v) : v.oneCell' = true := by obtain ⟨p, n, c, rfl⟩ := h; rfl
set_option maxRecDepth 100000 in
set_option maxHeartbeats 8000000 in
theorem ldel_c {S : List Nat} {w0 w : World} {L : List Res} (v : Value) (ws : List Wt) (hS : Sep S w0 w (wtR v ws :: L)) (h1 : ∀ x ∈ ws, IsS x.b.v) (hn : ws.length ≤ 1000) :
    Calls Try.prog 27 #[v, .func (.func 28) #[] #[]] w fun e w' => ∃ v', e = .returned v' ∧ Sep S w0 w' (wtR v' (kept ws) :: L) := by
  have HI := Lib.hid (lidx_c v ws hS (fun x hx => (h1 x hx).one) hn)
  have HS := Lib.hid hS
  have H1 := Lib.hid h1
  obtain ⟨a, c, hv, hnc, -⟩ := own_shape (hS.own 0 rfl)
  subst hv
  clear hS h1
  go_enter Try.func27, Try.ntmps27
  go_wp2_with fail
  refine HI.out.mono ?_
  rintro e w1 ⟨rfl, hf⟩
  have HS1 := Lib.hid (HS.out.keep hf)
  clear hf HI HS
  by_cases hfo : fstO ws < ws.length
  · obtain ⟨x0, hx0, hz0, hlow⟩ := fst_spec hfo
    obtain ⟨i0, hi0⟩ : ∃ i, i = fstO ws := ⟨_, rfl⟩
    have hfi : fstI ws = (i0 : Int) := by unfold fstI; rw [if_pos hfo, hi0]
    rw [hfi]
    rw [← hi0] at hx0 hlow hfo
    have t0 : ((i0 : Int) == -1) = false := by rw [beq_eq_false_iff_ne]; omega
    have e1 : IntKind.i64.wrap ((i0 : Int) + 1) = (i0 : Int) + 1 := IntWalk.i64_in _ (by omega)
    have HK0 := Lib.hid (show ws.take i0 = kept (ws.take (i0 + 1)) by
      rw [kept_succ hx0, if_pos hz0, kept_none]
      intro i y hy
      rw [List.getElem?_take] at hy
      split at hy
      · exact hlow i y (by omega) hy
      · cases hy)
    obtain ⟨g, c', hv⟩ := ownk_some_addr (HS1.out.own 0 rfl) (by omega)
    injection hv with hv1 hv2 hv3
    clear hv2
    subst hv1 hv3
    clear hlow hx0 hz0 hfi hi0
    go_wp2_with fail
    go_loopw [5, 6] (fun vi vj wi => ∃ (i j : Nat) (xs : List Wt), i < j ∧ j ≤ ws.length ∧ xs.length = ws.length ∧ (∀ x ∈ xs, x ∈ ws) ∧ xs.take i = kept (ws.take j) ∧ xs.drop j = ws.drop j ∧ vi = .int .i64 (i : Int) ∧ vj = .int .i64 (j : Int) ∧ Sep S w0 wi (ownR 51 2 (.slice (some ⟨g, 0, none⟩) ws.length c) ws.length (rowsW xs) :: L)) (fun _ vj _ => ws.length - (intOf vj).toNat)
    case atStart => exact ⟨i0, i0 + 1, ws, by omega, by omega, rfl, fun x hx => hx, HK0.out, rfl, rfl, by go_num, HS1.out⟩
    case round =>
      obtain ⟨i, j, xs, hij, hj, hxl, hxm, hk, hd, rfl, rfl, hS⟩ := hrel
      have HT := Lib.hid hS
      have HXl := Lib.hid hxl
      have HXm := Lib.hid hxm
      have HK := Lib.hid hk
      have HD := Lib.hid hd
      clear hS hxl hxm hk hd HS1 HK0
      by_cases hlt : j < ws.length
      · obtain ⟨x, hx⟩ : ∃ x, xs[j]? = some x := ⟨_, List.getElem?_eq_getElem (by rw [HXl.out]; exact hlt)⟩
        have HX := Lib.hid hx
        have HXw := Lib.hid (show ws[j]? = some x by
          have h := congrArg (fun l => l[0]?) HD.out
          simp only [List.getElem?_drop, Nat.add_zero] at h
          rw [← h, HX.out])
        obtain ⟨xp, xn, xc, hxv⟩ := H1.out x (HXm.out x (List.mem_of_getElem? hx))
        have HXv := Lib.hid hxv
        have q0 := ownk_cell (HT.out.own 0 rfl) (rowsW_at hx).1
        rw [hxv] at q0
        clear hxv
        have q1 := ownk_cell (HT.out.own 0 rfl) (rowsW_at hx).2
        have t1 : decide (j < ws.length) = true := decide_eq_true (by omega)
        have i1 : (0 : Int) ≤ (j : Int) := by omega
        have i2 : (j : Int) < (ws.length : Int) := by omega
        clear hx
        go_upto_region 8 with fail
        have HS2 := Lib.hid (HT.out.alloc #[.slice xp xn xc, .int .i64 (x.l : Int)] 51)
        obtain ⟨w2, hw2⟩ : ∃ y, y = wr.alloc (.cells #[.slice xp xn xc, .int .i64 (x.l : Int)] 51) := ⟨_, rfl⟩
        obtain ⟨nb, hnb⟩ : ∃ y, y = wr.heap.size := ⟨_, rfl⟩
        rw [← hw2, ← hnb] at HS2
        rw [← hw2, ← hnb]
        clear hw2 hnb q0 q1
        have b0 := (HS2.out.blk 0 rfl).cell 0 rfl
        have b1 := (HS2.out.blk 0 rfl).cell 1 rfl
        have HC := Lib.hid (fun X => over1_c (.slice xp xn xc) x.l X rfl)
        go_wp2_with fail
        refine (HC.out _).mono ?_
        rintro e w3 ⟨rfl, hf⟩
        have HS3 := Lib.hid (HS2.out.keep hf)
        clear hf b0 b1 HS2 HC
        by_cases ho : x.l = 0
        · have t2 : decide (x.l = 0) = true := decide_eq_true ho
          have HK2 := Lib.hid (show xs.take i = kept (ws.take (j + 1)) by rw [kept_succ HXw.out, if_pos ho]; exact HK.out)
          have HD2 := Lib.hid (show xs.drop (j + 1) = ws.drop (j + 1) by
            have h := congrArg (List.drop 1) HD.out
            rw [List.drop_drop, List.drop_drop] at h
            exact h)
          have HS4 := Lib.hid HS3.out.rest
          clear ho
          go_wp2_with fail
          go_roundw
          case rel => exact ⟨i, j + 1, xs, by omega, by omega, HXl.out, HXm.out, HK2.out, HD2.out, rfl, by go_num, HS4.out⟩
          case measure => simp [intOf]; omega
        · have t2 : decide (x.l = 0) = false := decide_eq_false ho
          have HK2 := Lib.hid (show (xs.set i x).take (i + 1) = kept (ws.take (j + 1)) by
            rw [kept_succ HXw.out, if_neg ho, ← HK.out, List.take_add_one, List.take_set_of_le (Nat.le_refl _), List.getElem?_set_self (by rw [HXl.out]; omega)]
            rfl)
          have HD2 := Lib.hid (show (xs.set i x).drop (j + 1) = ws.drop (j + 1) by
            have h := congrArg (List.drop 1) HD.out
            rw [List.drop_drop, List.drop_drop] at h
            rw [List.drop_set_of_lt (by omega)]
            exact h)
          have HXl2 := Lib.hid (show (xs.set i x).length = ws.length by rw [List.length_set]; exact HXl.out)
          have HXm2 := Lib.hid (show ∀ y ∈ xs.set i x, y ∈ ws from fun y hy => by
            rcases List.mem_or_eq_of_mem_set hy with hy | hy
            · exact HXm.out y hy
            · rw [hy]; exact HXm.out x (List.mem_of_getElem? HX.out))
          have b0 := (HS3.out.blk 0 rfl).cell 0 rfl
          have b1 := (HS3.out.blk 0 rfl).cell 1 rfl
          have f0 := ownk_free (HS3.out.own 1 rfl) (i * 2)
          have f1 := ownk_free (HS3.out.own 1 rfl) (i * 2 + 1)
          obtain ⟨y, hy⟩ : ∃ y, xs[i]? = some y := ⟨_, List.getElem?_eq_getElem (by rw [HXl.out]; omega)⟩
          have q0 := ownk_cell (HS3.out.own 1 rfl) (rowsW_at hy).1
          have q1 := ownk_cell (HS3.out.own 1 rfl) (rowsW_at hy).2
          have i3 : (0 : Int) ≤ (i : Int) := by omega
          have i4 : (i : Int) < (ws.length : Int) := by omega
          have HS4 := Lib.hid (show Sep S w0 _ (ownR 51 2 (.slice (some ⟨g, 0, none⟩) ws.length c) ws.length (rowsW (xs.set i x)) :: L) from by
            have h := ((HS3.out.rest.setOwn 0 rfl (i * 2) (.slice xp xn xc)).setOwn 0 rfl (i * 2 + 1) (.int .i64 (x.l : Int)))
            have e := rowsW_set (ws := xs) (j := i) (by rw [HXl.out]; omega) x
            rw [← e, HXv.out]
            exact h)
          clear ho hy HS3
          go_upto_region 10 with fail
          obtain ⟨w4, hw4⟩ : ∃ y, y = (w3.setCell ⟨g, i * 2, none⟩ (.slice xp xn xc)).setCell ⟨g, i * 2 + 1, none⟩ (.int .i64 (x.l : Int)) := ⟨_, rfl⟩
          rw [← hw4] at HS4
          rw [← hw4]
          clear hw4 b0 b1 f0 f1 q0 q1
          go_wp2_with fail
          go_roundw
          case rel => exact ⟨i + 1, j + 1, xs.set i x, by omega, by omega, HXl2.out, HXm2.out, HK2.out, HD2.out, by go_num, by go_num, HS4.out⟩
          case measure => simp [intOf]; omega
      · obtain rfl : j = ws.length := by omega
        have t1 : decide (ws.length < ws.length) = false := decide_eq_false (by omega)
        have hkl : (kept ws).length = i := by
          have h := congrArg List.length HK.out
          rw [List.length_take, List.take_length] at h
          have := HXl.out
          omega
        obtain ⟨vs, hcl⟩ := run_clear_own (P := Try.prog) (w := wr) (t := 45) (e := 51) (ty := 0) (k := 2) (g := g) (o := i * 2) (m := ws.length - i) (c := c - i) Try.underlying45 zero_late rfl (fun v hv => by simp [Value.cells] at hv; rcases hv with hv | hv <;> (rw [hv]; rfl))
          (fun q hq => ownk_some (HT.out.own 0 rfl) (by omega)) (fun q hq => ownk_free (HT.out.own 0 rfl) _) (by omega)
        have HS5 := Lib.hid (show Sep S w0 (wr.setCells g (i * 2) vs) (wtR (.slice (some ⟨g, 0, none⟩) i c) (kept ws) :: L) from by
          have h := HT.out.clearOwn 0 rfl (m := i) (by omega) vs
          rw [rowsW_take, HK.out, List.take_length] at h
          unfold wtR
          rw [hkl]
          exact h)
        have i3 : (0 : Int) ≤ (i : Int) := by omega
        have i4 : (i : Int) ≤ (ws.length : Int) := by omega
        have i5 : (i : Int) ≤ (c : Int) := by omega
        have i6 : ¬ (c = i) := by omega
        clear HK HD HXl HXm hkl
        go_wp2_with (at_builtin; refine wpList_clear_run _ rfl _ _ rfl _ rfl hcl ?_)
        go_ret
        exact ⟨_, rfl, HS5.out⟩
  · have hfi : fstI ws = -1 := if_neg hfo
    rw [hfi]
    have hk : kept ws = ws := kept_none (fst_none hfo)
    have HK := Lib.hid hk
    clear hfi hfo hk
    go_wp2_with fail
    go_ret
    exact ⟨_, rfl, by rw [HK.out]; exact HS1.out⟩

end Go.Proofs.Ytekjpkppfcmjdaa
