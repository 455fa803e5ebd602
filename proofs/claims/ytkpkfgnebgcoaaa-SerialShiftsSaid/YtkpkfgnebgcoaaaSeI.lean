/-
  THE WALK of the reference's Span.
-/
import Derived.Test.YtkpkfgnebgcoaaaSeH
set_option linter.unusedVariables false
set_option linter.unusedSimpArgs false
namespace Go.Proofs.Ytkpkfgnebgcoaaa
open Go.RowKit

theorem spLow_le (f : Int) : ∀ (l : List Int) (x : Int), x ∈ l → spLow f l ≤ ah16 x f
  | y :: l, x, h => by
    rcases List.mem_cons.1 h with rfl | h
    · simp only [spLow]; omega
    · have := spLow_le f l x h; simp only [spLow]; omega
theorem spLow_mem (f : Int) : ∀ (l : List Int), spLow f l = 0 ∨ ∃ x ∈ l, spLow f l = ah16 x f
  | [] => .inl rfl
  | y :: l => by
    have h := spLow_mem f l
    by_cases hc : spLow f l ≤ ah16 y f
    · have e : spLow f (y :: l) = spLow f l := by simp only [spLow]; omega
      rw [e]
      rcases h with h | ⟨x, hx, h⟩
      · exact .inl h
      · exact .inr ⟨x, List.mem_cons_of_mem _ hx, h⟩
    · exact .inr ⟨y, List.mem_cons_self .., by simp only [spLow]; omega⟩
theorem spHigh_le (f : Int) : ∀ (l : List Int) (x : Int), x ∈ l → ah16 x f ≤ spHigh f l
  | y :: l, x, h => by
    rcases List.mem_cons.1 h with rfl | h
    · simp only [spHigh]; omega
    · have := spHigh_le f l x h; simp only [spHigh]; omega
theorem spHigh_mem (f : Int) : ∀ (l : List Int), spHigh f l = 0 ∨ ∃ x ∈ l, spHigh f l = ah16 x f
  | [] => .inl rfl
  | y :: l => by
    have h := spHigh_mem f l
    by_cases hc : ah16 y f ≤ spHigh f l
    · have e : spHigh f (y :: l) = spHigh f l := by simp only [spHigh]; omega
      rw [e]
      rcases h with h | ⟨x, hx, h⟩
      · exact .inl h
      · exact .inr ⟨x, List.mem_cons_of_mem _ hx, h⟩
    · exact .inr ⟨y, List.mem_cons_self .., by simp only [spHigh]; omega⟩
theorem getD_of_mem {l : List Int} {x : Int} (h : x ∈ l) : ∃ i, i < l.length ∧ l.getD i 0 = x := by
  obtain ⟨i, hi, e⟩ := List.mem_iff_getElem.1 h
  exact ⟨i, hi, by rw [List.getD_eq_getElem?_getD, List.getElem?_eq_getElem hi]; exact e⟩
theorem mem_of_getD {l : List Int} {i : Nat} (h : i < l.length) : l.getD i 0 ∈ l := by
  rw [List.getD_eq_getElem?_getD, List.getElem?_eq_getElem h]
  exact List.getElem_mem h
theorem ah16_self (f : Int) : ah16 f f = 0 := by unfold ah16; omega
theorem low_is {ns R : List Int} (hp : R.Perm ns) (h0 : 0 < ns.length) (hs : SoOn (fun x => ah16 x (ns.getD 0 0)) R 0 ns.length) : lowR ns ns.length = ah16 (R.getD 0 0) (ns.getD 0 0) := by
  have hl := hp.length_eq
  have hm : R.getD 0 0 ∈ ns := hp.mem_iff.1 (mem_of_getD (by omega))
  have least : ∀ x ∈ ns, ah16 (R.getD 0 0) (ns.getD 0 0) ≤ ah16 x (ns.getD 0 0) := fun x hx => by
    obtain ⟨i, hi, rfl⟩ := getD_of_mem (hp.mem_iff.2 hx)
    exact hs.le (Nat.le_refl _) (Nat.zero_le _) (by omega)
  unfold lowR
  rw [List.take_length]
  have h1 := spLow_le (ns.getD 0 0) ns.reverse _ (List.mem_reverse.2 hm)
  rcases spLow_mem (ns.getD 0 0) ns.reverse with h | ⟨x, hx, h⟩
  · have h2 := least _ (mem_of_getD h0)
    rw [ah16_self] at h2
    omega
  · have h2 := least x (List.mem_reverse.1 hx)
    omega
theorem high_is {ns R : List Int} (hp : R.Perm ns) (h0 : 0 < ns.length) (hs : SoOn (fun x => ah16 x (ns.getD 0 0)) R 0 ns.length) : highR ns ns.length = ah16 (R.getD (ns.length - 1) 0) (ns.getD 0 0) := by
  have hl := hp.length_eq
  have hm : R.getD (ns.length - 1) 0 ∈ ns := hp.mem_iff.1 (mem_of_getD (by omega))
  have most : ∀ x ∈ ns, ah16 x (ns.getD 0 0) ≤ ah16 (R.getD (ns.length - 1) 0) (ns.getD 0 0) := fun x hx => by
    obtain ⟨i, hi, rfl⟩ := getD_of_mem (hp.mem_iff.2 hx)
    exact hs.le (Nat.zero_le _) (by omega) (by omega)
  unfold highR
  rw [List.take_length]
  have h1 := spHigh_le (ns.getD 0 0) ns.reverse _ (List.mem_reverse.2 hm)
  rcases spHigh_mem (ns.getD 0 0) ns.reverse with h | ⟨x, hx, h⟩
  · have h2 := most _ (mem_of_getD h0)
    rw [ah16_self] at h2
    omega
  · have h2 := most x (List.mem_reverse.1 hx)
    omega
theorem own_cell {w : World} {e : TypeId} {g n c : Nat} {k : IntKind} {zs : List Int} (h : w.ownsRow 0 e 1 (.slice (some ⟨g, 0, none⟩) n c) n (zs.map (Value.int k))) (i : Nat) (hi : i < zs.length) : w.cell? ⟨g, i, none⟩ = some (.int k (zs.getD i 0)) := by
  have h2 := rdi_cell (own_from h 0) (i := i) (x := zs.getD i 0) (by rw [List.drop_zero, List.getD_eq_getElem?_getD, List.getElem?_eq_getElem hi]; rfl)
  rw [Nat.zero_add] at h2
  exact h2

set_option maxHeartbeats 4000000 in
theorem rspan_c (a : Option Addr) (cap : Nat) (ns : List Int) (w : World) (rd : RdI .u16 w a ns) (hl : ns.length ≤ 1000) (hn : ∀ n ∈ ns, 0 ≤ n ∧ n ≤ 65535) :
    Calls Try.prog 26 #[.slice a ns.length cap] w fun e w' => e = .returned (.tuple #[.int .u16 (spanL ns), .int .i64 (spanN ns)]) ∧ Frm [] w w' := by
  have HR := Lib.hid rd
  have HN := Lib.hid hn
  have HSo := Lib.hid (rsorted_c a cap ns w rd hl hn)
  clear rd hn
  by_cases hz : ns.length = 0
  · have hzb : ((ns.length : Int) == 0) = true := beq_iff_eq.2 (by omega)
    have e1 : spanL ns = 0 := by unfold spanL; rw [if_pos hz]
    have e2 : spanN ns = 0 := by unfold spanN; rw [if_pos hz]
    rw [e1, e2]
    clear e1 e2 hz
    go_enter Try.func26, Try.ntmps26
    go_wp2_with fail
    go_ret2
    exact ⟨rfl, Frm.refl _ _⟩
  · have hzb : ((ns.length : Int) == 0) = false := beq_eq_false_iff_ne.2 (by omega)
    have e1 : spanL ns = add16 (ns.getD 0 0) (lowR ns ns.length) := by unfold spanL; rw [if_neg hz]
    have e2 : spanN ns = highR ns ns.length - lowR ns ns.length := by unfold spanN; rw [if_neg hz]
    rw [e1, e2]
    have h0 : 0 < ns.length := by omega
    clear e1 e2 hz
    obtain ⟨b, off, f, hf, rfl, hb, cf⟩ := HR.out.at_ 0 h0
    have hf0 : ns.getD 0 0 = f := by rw [List.getD_eq_getElem?_getD, hf]; rfl
    obtain ⟨f0, f1⟩ := HN.out f (List.mem_of_getElem? hf)
    have HF := Lib.hid hf
    have HF0 := Lib.hid hf0
    clear hf hf0 hb cf
    go_enter Try.func26, Try.ntmps26
    go_wp2_with fail
    refine HSo.out.mono ?_
    rintro e w1 ⟨g, c, R, rfl, hp, hso, hS⟩
    have hlow := low_is hp h0 hso
    have hhigh := high_is hp h0 hso
    have hrl : R.length = ns.length := hp.length_eq
    have cf1 := rdi_cell (HR.out.below hS.frm.below) HF.out
    rw [Nat.add_zero] at cf1
    have cr := own_cell (hS.own 0 rfl) 0 (by omega)
    have cl := own_cell (hS.own 0 rfl) (ns.length - 1) (by omega)
    have hr := HN.out _ (hp.mem_iff.1 (mem_of_getD (l := R) (i := 0) (by omega)))
    have hl2 := HN.out _ (hp.mem_iff.1 (mem_of_getD (l := R) (i := ns.length - 1) (by omega)))
    rw [HF0.out] at hlow hhigh
    obtain ⟨r, hr0⟩ : ∃ r, r = R.getD 0 0 := ⟨_, rfl⟩
    obtain ⟨l, hl0⟩ : ∃ l, l = R.getD (ns.length - 1) 0 := ⟨_, rfl⟩
    rw [← hr0] at cr hr hlow
    rw [← hl0] at cl hl2 hhigh
    obtain ⟨r0, r1⟩ := hr
    obtain ⟨l0, l1⟩ := hl2
    have hA := ah16_in r f
    have hB := ah16_in l f
    have hadd : add16 f (ah16 r f) = r := by unfold add16 ah16; omega
    obtain ⟨A, hAe⟩ : ∃ A, A = ah16 r f := ⟨_, rfl⟩
    obtain ⟨B, hBe⟩ : ∃ B, B = ah16 l f := ⟨_, rfl⟩
    have HCr : Hid (∀ W, Calls Try.prog 10 #[.int .u16 r, .int .u16 f] W fun e w' => e = .returned (.int .i64 A) ∧ w' = W) := Lib.hid fun W => by rw [hAe]; exact same_of (rahead_c r f W r0 r1 f0 f1)
    have HCl : Hid (∀ W, Calls Try.prog 10 #[.int .u16 l, .int .u16 f] W fun e w' => e = .returned (.int .i64 B) ∧ w' = W) := Lib.hid fun W => by rw [hBe]; exact same_of (rahead_c l f W l0 l1 f0 f1)
    rw [← hAe] at hA hlow hadd
    rw [← hBe] at hB hhigh
    have HLo := Lib.hid hlow
    have HHi := Lib.hid hhigh
    have HAd := Lib.hid hadd
    have HFr := Lib.hid hS.frm
    have w1e : IntKind.i64.wrap ((ns.length : Int) - 1) = ((ns.length - 1 : Nat) : Int) := by rw [show ((ns.length - 1 : Nat) : Int) = (ns.length : Int) - 1 from by omega]; exact IntWalk.i64_in _ (by omega)
    have w2e : IntKind.i64.wrap (B - A) = B - A := IntWalk.i64_in _ (by omega)
    have i3 : (0 : Int) ≤ ((ns.length - 1 : Nat) : Int) := by omega
    have i4 : ((ns.length - 1 : Nat) : Int) < (ns.length : Int) := by omega
    clear hp hso hS hlow hhigh hrl hr0 hl0 hadd hAe hBe hA hB HSo
    go_wp2_with fail
    go_quiet ((go_at_call 10; first | with_reducible exact Calls.quiet_of_same (HCl.out _) | with_reducible exact Calls.quiet_of_same (HCr.out _)))
    go_wp2_with fail
    go_ret2
    refine ⟨?_, HFr.out.drewN _⟩
    rw [HF0.out, HLo.out, HHi.out, HAd.out]
    rfl

set_option maxHeartbeats 4000000 in
/-- Two rows of one length: the same? -/
theorem same_c (a b : Option Addr) (ca cb : Nat) (L R : List Int) (n : Nat) (w : World) (ra : RdI .u16 w a L) (rb : RdI .u16 w b R) (hL : L.length = n) (hR : R.length = n) (hn : n ≤ 1000) (he : L = R) :
    Calls Try.prog 28 #[.slice a n ca, .slice b n cb] w fun e w' => e = .returned (.bool true) ∧ ∃ m, w' = w.drewN m := by
  subst he
  have HA := Lib.hid ra
  have HB := Lib.hid rb
  have HL := Lib.hid hL
  clear ra rb hL hR
  have hnn : ((n : Int) != (n : Int)) = false := by simp
  go_enter Try.func28, Try.ntmps28
  go_wp2_with fail
  go_loopw [5] (fun i wr => ∃ (k m : Nat), k ≤ n ∧ i = .int .i64 k ∧ wr = w.drewN m) (fun i _ => n - (intOf i).toNat)
  case atStart => exact ⟨0, 0, Nat.zero_le _, rfl, rfl⟩
  case round =>
    obtain ⟨k, m, hk, rfl, rfl⟩ := hrel
    by_cases hlt : k < n
    · obtain ⟨b1, o1, x, hx, rfl, _, cx⟩ := HA.out.at_ k (by rw [HL.out]; exact hlt)
      obtain ⟨b2, o2, y, hy, rfl, _, cy⟩ := HB.out.at_ k (by rw [HL.out]; exact hlt)
      rw [hx] at hy
      obtain rfl : x = y := by injection hy
      have hxx : (x != x) = false := by simp
      have i1 : (0 : Int) ≤ (k : Int) := by omega
      have i2 : (k : Int) < (n : Int) := by omega
      clear hx hy
      go_wp2_with fail
      go_quiet (fail)
      go_wp2_with fail
      go_roundw
      case rel => exact ⟨k + 1, _, by omega, by go_num, rfl⟩
      case measure => simp [intOf]; omega
    · obtain rfl : k = n := by omega
      go_wp2_with fail
      go_ret
      exact ⟨rfl, m, rfl⟩

end Go.Proofs.Ytkpkfgnebgcoaaa
