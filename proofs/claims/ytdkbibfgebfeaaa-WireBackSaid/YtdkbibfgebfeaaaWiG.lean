/-
  THE WALKS of confluxref03.Whole and Same; what steps read, as a slice in memory.
-/
import Derived.Test.YtdkbibfgebfeaaaWiF
set_option linter.unusedVariables false
set_option linter.unusedSimpArgs false
namespace Go.Proofs.Ytdkbibfgebfeaaa
open Go.RowKit

theorem oneL_ne {zs : List Int} {at_ : Nat} {s : Stp} {e : Int} (h : oneL zs at_ s = .error e) : e ≠ 0 := by
  unfold oneL at h
  split at h
  · split at h
    · injection h with h; omega
    · cases h
  · split at h
    · split at h
      · injection h with h; omega
      · cases h
    · split at h
      · cases h
      · split at h
        · injection h with h
          split at h
          · omega
          · omega
        · cases h
theorem runL_ne {zs : List Int} (ss : List Stp) : ∀ {e : Int}, runL zs ss = .error e → e ≠ 0 := by
  refine wsnoc_ind (p := fun ss => ∀ {e : Int}, runL zs ss = .error e → e ≠ 0) (fun h => by cases h) ?_ ss
  intro l s ih e h
  rw [runL_snoc] at h
  unfold stpL at h
  split at h
  · rename_i e' hr
    injection h with h
    subst h
    exact ih hr
  · split at h
    · rename_i e' hr
      injection h with h
      subst h
      exact oneL_ne hr
    · cases h
theorem oneL_small {zs : List Int} {at_ : Nat} {s : Stp} {g : Gt} {n : Nat} (h : oneL zs at_ s = .ok (g, n)) : g.B.length ≤ zs.length := by
  have hc : ∀ a m, (cut zs a m).length ≤ zs.length := fun a m => by unfold cut; rw [List.length_take, List.length_drop]; omega
  unfold oneL at h
  split at h
  · split at h
    · cases h
    · injection h with h; injection h with h1 h2; subst h1; simp
  · split at h
    · split at h
      · cases h
      · injection h with h; injection h with h1 h2; subst h1; exact hc _ _
    · split at h
      · injection h with h; injection h with h1 h2; subst h1; simp
      · split at h
        · cases h
        · injection h with h; injection h with h1 h2; subst h1; simp
theorem runL_small {zs : List Int} (ss : List Stp) : ∀ {out : List Gt} {n : Nat}, runL zs ss = .ok (out, n) → ∀ g ∈ out, g.B.length ≤ zs.length := by
  refine wsnoc_ind (p := fun ss => ∀ {out : List Gt} {n : Nat}, runL zs ss = .ok (out, n) → ∀ g ∈ out, g.B.length ≤ zs.length) ?_ ?_ ss
  · intro out n h
    unfold runL at h
    injection h with h; injection h with h1 h2
    subst h1
    simp
  · intro l s ih out n h
    rw [runL_snoc] at h
    unfold stpL at h
    split at h
    · cases h
    · rename_i o a hr
      split at h
      · cases h
      · rename_i g m hg
        injection h with h; injection h with h3 h4
        subst h3
        intro x hx
        rcases List.mem_append.1 hx with hx | hx
        · exact ih hr x hx
        · simp at hx; subst hx; exact oneL_small hg

/-- What Whole gives. -/
def WholeOk (w : World) (zs : List Int) (ss : List Stp) (x : Ending) (w' : World) : Prop :=
  (∃ e, wholeL zs ss = .error e ∧ x = .returned (.tuple #[.slice none 0 0, .int .i64 e]) ∧ Frm [] w w') ∨
  (∃ (v : Value) (gs : List GtV), wholeL zs ss = .ok (gs.map GtV.gt) ∧ (∀ g ∈ gs, g.B.length ≤ zs.length) ∧ x = .returned (.tuple #[v, .int .i64 0]) ∧ Sep [] w w' [bodR gs, gotsR v gs])

set_option maxHeartbeats 4000000 in
theorem rwhole_c (w : World) (ab : Option Addr) (cb : Nat) (zs : List Int) (rd : RdI .u8 w ab zs) (hby : Byt zs) (hcb : zs.length ≤ cb) (hcm : cb ≤ 9223372036854775807) (hnb : ab = none → cb = 0) (hzl : zs.length ≤ 1000000)
    (ad : Option Addr) (cs : Nat) (ss : List Stp) (hr : RdS 2 w ad (ss.map Stp.row)) (hn : ss.length ≤ 100) (hsn : ∀ s ∈ ss, -9223372036854775808 ≤ s.n ∧ s.n ≤ 9223372036854775807) :
    Calls Try.prog 17 #[.slice ab zs.length cb, .slice ad ss.length cs] w (WholeOk w zs ss) := by
  have HC := Lib.hid (rrun_c w ab cb zs rd hby hcb hcm hnb hzl ad cs ss hr hn hsn)
  clear rd hby hcb hcm hnb hr hn hsn
  go_enter Try.func17, Try.ntmps17
  go_wp2_with fail
  refine HC.out.mono ?_
  rintro x w1 (⟨e, he, rfl, hF⟩ | ⟨v, gs, n, hr, hn, rfl, hS⟩)
  · have t1 : (e == 0) = false := by rw [beq_eq_false_iff_ne]; exact runL_ne ss he
    have HE := Lib.hid (And.intro he hF)
    clear he hF
    go_wp2_with fail
    refine bodyPost_ret (v := .tuple #[.slice none 0 0, .int .i64 e]) ?_ rfl (.inl ⟨e, by unfold wholeL; rw [HE.out.1], rfl, HE.out.2⟩)
    simp [results, Try.results17]
  · have HE := Lib.hid (And.intro hr (And.intro hS (runL_small ss hr)))
    clear hr hS
    by_cases hl : n < zs.length
    · have t1 : decide ((n : Int) < (zs.length : Int)) = true := by rw [decide_eq_true_iff]; omega
      have HL := Lib.hid hl
      go_wp2_with fail
      refine bodyPost_ret (v := .tuple #[.slice none 0 0, .int .i64 22]) ?_ rfl (.inl ⟨22, by unfold wholeL; rw [HE.out.1]; simp only; rw [if_pos HL.out], rfl, HE.out.2.1.frm⟩)
      simp [results, Try.results17]
    · have t1 : decide ((n : Int) < (zs.length : Int)) = false := by rw [decide_eq_false_iff_not]; omega
      have HL := Lib.hid hl
      go_wp2_with fail
      refine bodyPost_ret (v := .tuple #[v, .int .i64 0]) ?_ rfl (.inr ⟨v, gs, by unfold wholeL; rw [HE.out.1]; simp only; rw [if_neg HL.out], fun g hg => HE.out.2.2 g.gt (List.mem_map.2 ⟨g, hg, rfl⟩), rfl, HE.out.2.1⟩)
      simp [results, Try.results17]

/-- What steps read, as a slice. -/
def RdG (w : World) (a : Option Addr) (gs : List GtV) : Prop :=
  RdS 2 w a (gs.map GtV.row) ∧ ∀ g ∈ gs, ∃ p c, g.bv = .slice p g.B.length c ∧ RdI .u8 w p g.B ∧ g.B.length ≤ 1000000
theorem RdG.frm {w w' : World} {a : Option Addr} {gs : List GtV} (h : RdG w a gs) (hf : Frm [] w w') : RdG w' a gs :=
  ⟨h.1.low hf (by simp), fun g hg => by obtain ⟨p, c, h1, h2, h3⟩ := h.2 g hg; exact ⟨p, c, h1, h2.below hf.below, h3⟩⟩
theorem gots_rd {S : List Nat} {w0 w : World} {L : List Res} (h : Sep S w0 w L) (i j : Nat) {v : Value} {gs : List GtV} (hi : L[i]? = some (gotsR v gs)) (hj : L[j]? = some (bodR gs)) (hB : ∀ g ∈ gs, g.B.length ≤ 1000000) :
    ∃ a c, v = .slice a gs.length c ∧ gs.length ≤ c ∧ c ≤ maxLen ∧ (a = none → c = 0) ∧ RdG w a gs := by
  obtain ⟨a, c, h1, h2, h3, h4, h5, _⟩ := RdS.of_own (rows := gs.map GtV.row) (h.get i hi) (fun r hr => by obtain ⟨g, _, rfl⟩ := List.mem_map.1 hr; rfl) (by decide) (List.length_map _).symm
  rw [List.length_map] at h1 h2
  refine ⟨a, c, h1, h2, h3, h4, h5, fun g hg => ?_⟩
  have hb := (h.get j hj) (sumR g.bv g.B) (List.mem_map.2 ⟨g, hg, rfl⟩)
  obtain ⟨p, c', e1, _, e2⟩ := RdI.of_own hb
  exact ⟨p, c', e1, e2, hB g hg⟩

set_option maxRecDepth 100000 in
set_option maxHeartbeats 8000000 in
theorem gsame_c (a b : Option Addr) (ca cb : Nat) (gs hs : List GtV) (w : World) (rx : RdG w a gs) (ry : RdG w b hs) (hx : gs.length ≤ 1000) (heq : gs.map GtV.gt = hs.map GtV.gt) :
    Calls Try.prog 18 #[.slice a gs.length ca, .slice b hs.length cb] w fun e w' => e = .returned (.bool true) ∧ ∃ m, w' = w.drewN m := by
  have HX := Lib.hid rx
  have HY := Lib.hid ry
  have hl : gs.length = hs.length := by have := congrArg List.length heq; simpa using this
  have HE := Lib.hid heq
  clear rx ry heq
  have g1 : ((gs.length : Int) != (hs.length : Int)) = false := by simp; omega
  have g3 : hs.length ≤ gs.length := by omega
  have g4 : gs.length ≤ hs.length := by omega
  clear hl
  go_enter Try.func18, Try.ntmps18
  go_wp2_with fail
  go_loopw [5] (fun i wr => ∃ (k m : Nat), k ≤ gs.length ∧ i = .int .i64 k ∧ wr = w.drewN m) (fun i _ => gs.length - (intOf i).toNat)
  case atStart => exact ⟨0, 0, Nat.zero_le _, rfl, rfl⟩
  case round =>
    obtain ⟨k, m, hk, rfl, hwr⟩ := hrel
    by_cases hlt : k < gs.length
    · obtain ⟨x, hx'⟩ : ∃ x, gs[k]? = some x := ⟨_, List.getElem?_eq_getElem hlt⟩
      obtain ⟨y, hy'⟩ : ∃ y, hs[k]? = some y := ⟨_, List.getElem?_eq_getElem (by omega)⟩
      obtain ⟨b1, o1, rfl, _, cx⟩ := HX.out.1 k x.row (by rw [List.getElem?_map, hx']; rfl)
      obtain ⟨b2, o2, rfl, _, cy⟩ := HY.out.1 k y.row (by rw [List.getElem?_map, hy']; rfl)
      obtain ⟨p1, c1, e1, rd1, l1⟩ := HX.out.2 x (List.mem_of_getElem? hx')
      obtain ⟨p2, c2, e2, rd2, l2⟩ := HY.out.2 y (List.mem_of_getElem? hy')
      have hz : x.gt = y.gt := by
        have h := congrArg (fun l => l[k]?) HE.out
        simp only [List.getElem?_map, hx', hy', Option.map_some, Option.some.injEq] at h
        exact h
      injection hz with hN hB
      obtain ⟨xN, xv, xB⟩ := x
      obtain ⟨yN, yv, yB⟩ := y
      simp only at e1 e2 rd1 rd2 l1 l2 hN hB
      subst hN hB e1 e2
      have x0 : wr.cell? ⟨b1, o1 + k * 2, none⟩ = some (.int .u64 xN) := by rw [hwr]; exact cx 0 _ rfl
      have x1 : wr.cell? ⟨b1, o1 + k * 2 + 1, none⟩ = some (.slice p1 xB.length c1) := by rw [hwr]; exact cx 1 _ rfl
      have y0 : wr.cell? ⟨b2, o2 + k * 2, none⟩ = some (.int .u64 xN) := by rw [hwr]; exact cy 0 _ rfl
      have y1 : wr.cell? ⟨b2, o2 + k * 2 + 1, none⟩ = some (.slice p2 xB.length c2) := by rw [hwr]; exact cy 1 _ rfl
      have i1 : (0 : Int) ≤ (k : Int) := by omega
      have i2 : (k : Int) < (gs.length : Int) := by omega
      have i3 : (k : Int) < (hs.length : Int) := by omega
      have HW := Lib.hid hwr
      have HC : Hid (∀ n : Nat, Calls Try.prog 11 #[.slice p1 xB.length c1, .slice p2 xB.length c2] (wr.drewN n) fun e w' => e = .returned (.bool true) ∧ ∃ m, w' = (wr.drewN n).drewN m) := Lib.hid (fun n => by
        have h := bsame_c p1 p2 c1 c2 xB xB (wr.drewN n) (by rw [hwr]; exact rd1) (by rw [hwr]; exact rd2) l1 l1
        rw [decide_eq_true rfl] at h
        exact h)
      obtain ⟨wi, hwi⟩ : ∃ wi : World, wi = wr := ⟨_, rfl⟩
      rw [← hwi] at HW x0 x1 y0 y1 HC ⊢
      clear hwi hwr cx cy hx' hy' rd1 rd2 l1 l2
      go_wp2_with fail
      go_quiet ((go_at_call 11; exact Calls.quiet_of (HC.out _)))
      go_wp2_with fail
      go_roundw
      case rel => exact ⟨k + 1, m + nq, by omega, by go_num, by rw [HW.out]; simp⟩
      case measure => simp [intOf]; omega
    · obtain rfl : k = gs.length := by omega
      have HW := Lib.hid hwr
      clear hwr
      go_wp2_with fail
      go_ret
      exact ⟨rfl, m, HW.out⟩

end Go.Proofs.Ytdkbibfgebfeaaa
