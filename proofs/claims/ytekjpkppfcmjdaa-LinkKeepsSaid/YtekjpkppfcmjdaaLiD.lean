/-
  THE WALKS of over's closure, slices.IndexFunc, slices.DeleteFunc, link's over.
-/
import Derived.Test.YtekjpkppfcmjdaaLiC
import Derived.Test.YtekjpkppfcmjdaaOwn
set_option linter.unusedVariables false
set_option linter.unusedSimpArgs false
namespace Go.Proofs.Ytekjpkppfcmjdaa
open Go.RowKit

/-- A datagram that waits, for how many more. -/
structure Wt where
  b : Yt
  l : Nat
def Wt.row (x : Wt) : List Value := [x.b.v, .int .i64 (x.l : Int)]
def rowsW (ws : List Wt) : List Value := (ws.map Wt.row).flatten
def wtR (v : Value) (ws : List Wt) : Res := ownR 51 2 v ws.length (rowsW ws)
theorem rowsW_len (ws : List Wt) : (rowsW ws).length = 2 * ws.length := by
  induction ws with
  | nil => rfl
  | cons x ws ih => simp [rowsW, Wt.row] at ih ⊢; omega
theorem rowsW_app (a b : List Wt) : rowsW (a ++ b) = rowsW a ++ rowsW b := by simp [rowsW]
theorem rowsW_at {ws : List Wt} {j : Nat} {x : Wt} (h : ws[j]? = some x) : (rowsW ws)[j * 2]? = some x.b.v ∧ (rowsW ws)[j * 2 + 1]? = some (.int .i64 (x.l : Int)) := by
  obtain ⟨hl, rfl⟩ := List.getElem?_eq_some_iff.1 h
  have e : ws = ws.take j ++ ws[j] :: ws.drop (j + 1) := by rw [← List.drop_eq_getElem_cons hl, List.take_append_drop]
  have e2 : rowsW ws = rowsW (ws.take j) ++ (ws[j].row ++ rowsW (ws.drop (j + 1))) := by
    conv => lhs; rw [e]
    rw [rowsW_app]
    rfl
  have hlen : (rowsW (ws.take j)).length = j * 2 := by rw [rowsW_len, List.length_take]; omega
  rw [e2]
  constructor
  · rw [List.getElem?_append_right (by omega), hlen, Nat.sub_self]; rfl
  · rw [List.getElem?_append_right (by omega), hlen, show j * 2 + 1 - j * 2 = 1 by omega]; rfl
theorem rowsW_set {ws : List Wt} {j : Nat} (hj : j < ws.length) (x : Wt) : ((rowsW ws).set (j * 2) x.b.v).set (j * 2 + 1) (.int .i64 (x.l : Int)) = rowsW (ws.set j x) := by
  have e : ws = ws.take j ++ ws[j] :: ws.drop (j + 1) := by rw [← List.drop_eq_getElem_cons hj, List.take_append_drop]
  have hlen : (rowsW (ws.take j)).length = j * 2 := by rw [rowsW_len, List.length_take]; omega
  have hl2 : (ws.take j).length = j := by rw [List.length_take]; omega
  have e2 : rowsW ws = rowsW (ws.take j) ++ (ws[j].b.v :: .int .i64 (ws[j].l : Int) :: rowsW (ws.drop (j + 1))) := by
    conv => lhs; rw [e]
    rw [rowsW_app]
    rfl
  have e3 : ws.set j x = ws.take j ++ x :: ws.drop (j + 1) := by
    conv => lhs; rw [e]
    rw [List.set_append_right _ _ (by omega), hl2, Nat.sub_self]
    rfl
  rw [e2, e3, rowsW_app, List.set_append_right _ _ (by omega), hlen, Nat.sub_self, List.set_append_right _ _ (by omega), hlen, show j * 2 + 1 - j * 2 = 1 by omega]
  rfl
theorem set_same {α : Type} {L : List α} {j : Nat} {v : α} (h : L[j]? = some v) : L.set j v = L := by
  obtain ⟨hl, rfl⟩ := List.getElem?_eq_some_iff.1 h
  exact List.set_getElem_self hl
theorem rowsW_setl {ws : List Wt} {j : Nat} {x : Wt} (h : ws[j]? = some x) (m : Nat) : (rowsW ws).set (j * 2 + 1) (.int .i64 (m : Int)) = rowsW (ws.set j ⟨x.b, m⟩) := by
  have hj := (List.getElem?_eq_some_iff.1 h).1
  rw [← rowsW_set hj ⟨x.b, m⟩, show (rowsW ws).set (j * 2) (⟨x.b, m⟩ : Wt).b.v = rowsW ws from set_same (rowsW_at h).1]
theorem rowsW_take (ws : List Wt) (i : Nat) : (rowsW ws).take (i * 2) = rowsW (ws.take i) := by
  by_cases hi : i ≤ ws.length
  · have hlen : (rowsW (ws.take i)).length = i * 2 := by rw [rowsW_len, List.length_take]; omega
    conv => lhs; rw [← List.take_append_drop i ws, rowsW_app, ← hlen]
    rw [List.take_left]
  · rw [List.take_of_length_le (by rw [rowsW_len]; omega), List.take_of_length_le (by omega)]

set_option maxHeartbeats 4000000 in
theorem over1_c (v : Value) (l : Nat) (w : World) (h1 : v.oneCell' = true) : Calls Try.prog 28 #[.agg #[v, .int .i64 (l : Int)]] w fun e w' => e = .returned (.bool (decide (l = 0))) ∧ Frm [] w w' := by
  obtain ⟨T, hT⟩ : ∃ T, T = decide (l = 0) := ⟨_, rfl⟩
  have ht : ((l : Int) == 0) = T := by
    rw [hT, Bool.eq_iff_iff, beq_iff_eq, decide_eq_true_eq]
    omega
  rw [← hT]
  have HF := Lib.hid ((Frm.refl [] w).alloc (.cells #[v, .int .i64 (l : Int)] 51))
  clear hT
  go_enter Try.func28, Try.ntmps28
  go_wp2_with fail
  go_ret
  exact ⟨rfl, HF.out⟩

/-- The first that is over. -/
def isO (x : Wt) : Bool := decide (x.l = 0)
def kept (ws : List Wt) : List Wt := ws.filter fun x => !isO x
def fstO (ws : List Wt) : Nat := ws.findIdx isO
def fstI (ws : List Wt) : Int := if fstO ws < ws.length then (fstO ws : Int) else -1
theorem fst_low {ws : List Wt} {j : Nat} (hj : ∀ i x, i < j → ws[i]? = some x → isO x = false) (hl : j ≤ ws.length) : j ≤ fstO ws := by
  unfold fstO
  rw [Nat.le_iff_lt_or_eq] at *
  by_cases h : ws.findIdx isO < j
  · exfalso
    have hlt : ws.findIdx isO < ws.length := by omega
    have h1 := List.findIdx_getElem (w := hlt)
    have h2 := hj _ _ h (List.getElem?_eq_getElem hlt)
    rw [h1] at h2; cases h2
  · omega
theorem fst_is {ws : List Wt} {j : Nat} {x : Wt} (hj : ∀ i x, i < j → ws[i]? = some x → isO x = false) (hx : ws[j]? = some x) (ho : isO x = true) : fstO ws = j := by
  have h1 := fst_low hj (by have := (List.getElem?_eq_some_iff.1 hx).1; omega)
  have h2 : fstO ws ≤ j := by
    unfold fstO
    obtain ⟨hl, rfl⟩ := List.getElem?_eq_some_iff.1 hx
    rcases Nat.lt_or_ge j (ws.findIdx isO) with h | h
    · exact absurd ho (by simpa using List.not_of_lt_findIdx h)
    · exact h
  omega
set_option maxRecDepth 100000 in
set_option maxHeartbeats 4000000 in
theorem lidx_c {S : List Nat} {w0 w : World} {L : List Res} (v : Value) (ws : List Wt) (hS : Sep S w0 w (wtR v ws :: L)) (h1 : ∀ x ∈ ws, x.b.v.oneCell' = true) (hn : ws.length ≤ 1000) :
    Calls Try.prog 32 #[v, .func (.func 28) #[] #[]] w fun e w' => e = .returned (.int .i64 (fstI ws)) ∧ Frm [] w w' := by
  obtain ⟨a, c, hv, -, -⟩ := own_shape (hS.own 0 rfl)
  subst hv
  have HS := Lib.hid hS
  have H1 := Lib.hid h1
  have HF := Lib.hid (Frm.refl [] w)
  clear hS h1
  go_enter Try.func32, Try.ntmps32
  go_wp2_with fail
  go_loopw [8] (fun i wi => ∃ k : Nat, k ≤ ws.length ∧ i = .int .i64 (k : Int) ∧ Frm [] w wi ∧ ∀ j x, j < k → ws[j]? = some x → isO x = false) (fun i _ => ws.length - (intOf i).toNat)
  case atStart => exact ⟨0, Nat.zero_le _, rfl, HF.out, fun j b hj => absurd hj (Nat.not_lt_zero _)⟩
  case round =>
    obtain ⟨k, hk, rfl, hF, hall⟩ := hrel
    have HG := Lib.hid hF
    have HA := Lib.hid hall
    clear hF hall HF
    by_cases hlt : k < ws.length
    · obtain ⟨x, hx⟩ : ∃ x, ws[k]? = some x := ⟨_, List.getElem?_eq_getElem hlt⟩
      have HX := Lib.hid hx
      have HSk := Lib.hid (HS.out.keep HG.out)
      obtain ⟨g, c', hv⟩ := ownk_some_addr (HSk.out.own 0 rfl) (by omega)
      injection hv with hv1 hv2 hv3
      clear hv2
      subst hv1 hv3
      have q0 := ownk_cell (HSk.out.own 0 rfl) (rowsW_at hx).1
      have q1 := ownk_cell (HSk.out.own 0 rfl) (rowsW_at hx).2
      have HC := Lib.hid (fun X => over1_c x.b.v x.l X (H1.out x (List.mem_of_getElem? HX.out)))
      have t1 : decide (k < ws.length) = true := decide_eq_true (by omega)
      have i1 : (0 : Int) ≤ (k : Int) := by omega
      have i2 : (k : Int) < (ws.length : Int) := by omega
      clear hx
      go_wp2_with fail
      refine (HC.out _).mono ?_
      rintro e w3 ⟨rfl, hf⟩
      have HG3 := Lib.hid (HG.out.trans hf)
      clear hf q0 q1
      by_cases ho : x.l = 0
      · have t2 : decide (x.l = 0) = true := decide_eq_true ho
        have hi : fstI ws = (k : Int) := by
          have h := fst_is HA.out HX.out (show isO x = true from decide_eq_true ho)
          unfold fstI
          rw [h, if_pos hlt]
        have HI := Lib.hid hi
        clear hi ho
        go_wp2_with fail
        go_ret
        exact ⟨by rw [HI.out]; rfl, HG3.out⟩
      · have t2 : decide (x.l = 0) = false := decide_eq_false ho
        have HA2 := Lib.hid (show ∀ j y, j < k + 1 → ws[j]? = some y → isO y = false from fun j y hj hy => by
          by_cases he : j = k
          · subst he; rw [HX.out] at hy; injection hy with hy; subst hy; exact decide_eq_false ho
          · exact HA.out j y (by omega) hy)
        clear ho
        go_wp2_with fail
        go_roundw
        case rel => exact ⟨k + 1, by omega, by go_num, HG3.out, HA2.out⟩
        case measure => simp [intOf]; omega
    · obtain rfl : k = ws.length := by omega
      have t1 : decide (ws.length < ws.length) = false := decide_eq_false (by omega)
      have hi : fstI ws = -1 := by
        have h := fst_low HA.out (Nat.le_refl _)
        unfold fstI
        rw [if_neg (by omega)]
      have HI := Lib.hid hi
      clear hi
      go_wp2_with fail
      go_ret
      exact ⟨by rw [HI.out]; rfl, HG.out⟩

end Go.Proofs.Ytekjpkppfcmjdaa
