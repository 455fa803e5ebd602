/-
  READING IN TWO PARTS, IN PLAIN LEAN; slices of rows and of bytes, from a place on.
-/
import Derived.Test.YtdkbibfgebfeaaaWiH
set_option linter.unusedVariables false
set_option linter.unusedSimpArgs false
namespace Go.Proofs.Ytdkbibfgebfeaaa
open Go.RowKit

/-- A step that reads numbers or bytes. -/
def Stp.good (s : Stp) : Prop := s.k = 0 ∨ s.k = 1 ∨ s.k = 2 ∨ s.k = 4 ∨ s.k = 8
theorem cut_shift (zs : List Int) (k a m : Nat) : cut zs (k + a) m = cut (zs.drop k) a m := by unfold cut; rw [List.drop_drop]
theorem oneL_shift {zs : List Int} {k : Nat} (hk : k ≤ zs.length) (a : Nat) {s : Stp} (hg : s.good) :
    oneL zs (k + a) s = match oneL (zs.drop k) a s with | .error e => .error e | .ok (g, n) => .ok (g, k + n) := by
  have hl : (zs.drop k).length = zs.length - k := List.length_drop
  obtain ⟨kk, n⟩ := s
  have hcase : ∀ m : Nat, (zs.length < k + a + m) ↔ ((zs.drop k).length < a + m) := fun m => by rw [hl]; omega
  unfold oneL
  simp only
  by_cases hn : numK kk = true
  · rw [if_pos hn, if_pos hn]
    by_cases h : zs.length < k + a + kk.toNat
    · rw [if_pos h, if_pos ((hcase _).1 h)]
    · rw [if_neg h, if_neg (fun h2 => h ((hcase _).2 h2))]
      rw [cut_shift, Nat.add_assoc]
  · have h0 : kk = 0 := by
      rcases hg with h | h | h | h | h <;> simp only at h <;> first | exact h | (subst h; exact absurd rfl hn)
    rw [if_neg hn, if_neg hn, if_pos h0, if_pos h0]
    by_cases h : zs.length < k + a + n.toNat
    · rw [if_pos h, if_pos ((hcase _).1 h)]
    · rw [if_neg h, if_neg (fun h2 => h ((hcase _).2 h2))]
      rw [cut_shift, Nat.add_assoc]
theorem foldl_shift {zs : List Int} {k : Nat} (hk : k ≤ zs.length) (o : List Gt) : ∀ (ss : List Stp), (∀ s ∈ ss, s.good) →
    ss.foldl (stpL zs) (.ok (o, k)) = match runL (zs.drop k) ss with | .error e => .error e | .ok (o2, m) => .ok (o ++ o2, k + m) := by
  intro ss
  refine wsnoc_ind (p := fun ss => (∀ s ∈ ss, s.good) → ss.foldl (stpL zs) (.ok (o, k)) = match runL (zs.drop k) ss with | .error e => .error e | .ok (o2, m) => .ok (o ++ o2, k + m)) ?_ ?_ ss
  · intro _; simp [runL]
  · intro l s ih hg
    rw [List.foldl_append, ih (fun x hx => hg x (by simp [hx])), runL_snoc]
    cases hr : runL (zs.drop k) l with
    | error e => simp [stpL]
    | ok r =>
      obtain ⟨o2, m⟩ := r
      simp only [List.foldl_cons, List.foldl_nil, stpL]
      rw [oneL_shift hk m (hg s (by simp))]
      cases oneL (zs.drop k) m s with
      | error e => rfl
      | ok q => obtain ⟨g, n⟩ := q; simp
theorem runL_parts {zs : List Int} {ss : List Stp} (hg : ∀ s ∈ ss, s.good) (k : Nat) {o1 : List Gt} {n1 : Nat} (h1 : runL zs (ss.take k) = .ok (o1, n1)) :
    runL zs ss = match runL (zs.drop n1) (ss.drop k) with | .error e => .error e | .ok (o2, m) => .ok (o1 ++ o2, n1 + m) := by
  have hle := (runL_le _ h1).1
  rw [← foldl_shift hle o1 (ss.drop k) (fun s hs => hg s (List.mem_of_mem_drop hs)), ← h1]
  unfold runL
  rw [← List.foldl_append, List.take_append_drop]
theorem run_of_ok {zs : List Int} {ss : List Stp} {o : List Gt} {n : Nat} (h : runL zs ss = .ok (o, n)) : runN zs ss = n ∧ runO zs ss = o := by unfold runN runO; rw [h]; exact ⟨rfl, rfl⟩
theorem part_bad {zs : List Int} {ss : List Stp} (k : Nat) (h : runE zs (ss.take k) ≠ 0) : runE zs ss = runE zs (ss.take k) ∧ runN zs ss = 0 ∧ runO zs ss = [] ∧ runO zs (ss.take k) = [] := by
  unfold runE at h
  cases hr : runL zs (ss.take k) with
  | ok r => rw [hr] at h; exact absurd rfl h
  | error e =>
    have h2 := runL_error hr
    unfold runE runN runO
    rw [hr, h2]
    exact ⟨rfl, rfl, rfl, rfl⟩
theorem runE_zero {zs : List Int} {ss : List Stp} (h : runE zs ss = 0) : runL zs ss = .ok (runO zs ss, runN zs ss) := by
  unfold runE at h
  cases hr : runL zs ss with
  | error e => rw [hr] at h; exact absurd h (runL_ne ss hr)
  | ok r => obtain ⟨o, n⟩ := r; unfold runO runN; rw [hr]
theorem part_good {zs : List Int} {ss : List Stp} (hg : ∀ s ∈ ss, s.good) (k : Nat) (h : runE zs (ss.take k) = 0) :
    runN zs (ss.take k) ≤ zs.length ∧ runE (zs.drop (runN zs (ss.take k))) (ss.drop k) = runE zs ss ∧ (runE zs ss ≠ 0 → runN zs ss = 0 ∧ runO zs ss = []) ∧
    (runE zs ss = 0 → runN zs ss = runN zs (ss.take k) + runN (zs.drop (runN zs (ss.take k))) (ss.drop k) ∧ runO zs ss = runO zs (ss.take k) ++ runO (zs.drop (runN zs (ss.take k))) (ss.drop k)) := by
  have h1 := runE_zero h
  have hp := runL_parts hg k h1
  refine ⟨(runL_le _ h1).1, ?_, fun h2 => ?_, fun h2 => ?_⟩
  · cases hr : runL (zs.drop (runN zs (ss.take k))) (ss.drop k) with
    | error e => rw [hr] at hp; unfold runE; rw [hr, hp]
    | ok r => obtain ⟨o, n⟩ := r; rw [hr] at hp; unfold runE; rw [hr, hp]
  · unfold runE at h2
    cases hr : runL zs ss with
    | ok r => rw [hr] at h2; exact absurd rfl h2
    | error e => unfold runN runO; rw [hr]; exact ⟨rfl, rfl⟩
  · have h3 := runE_zero h2
    rw [hp] at h3
    cases hr : runL (zs.drop (runN zs (ss.take k))) (ss.drop k) with
    | error e => rw [hr] at h3; cases h3
    | ok r =>
      obtain ⟨o, n⟩ := r
      rw [hr] at h3
      injection h3 with h3
      injection h3 with h4 h5
      constructor
      · rw [← h5, (run_of_ok hr).1]
      · rw [← h4, (run_of_ok hr).2]

theorem RdS.firsts {n : Nat} {w : World} {a : Option Addr} {rows : List (List Value)} (h : RdS n w a rows) (k : Nat) : RdS n w a (rows.take k) := fun i row hr => by
  rw [List.getElem?_take] at hr
  split at hr
  · exact h i row hr
  · cases hr
theorem RdS.offs {n : Nat} {w : World} {b off : Nat} {rows : List (List Value)} (h : RdS n w (some ⟨b, off, none⟩) rows) (k : Nat) : RdS n w (some ⟨b, off + k * n, none⟩) (rows.drop k) := fun i row hr => by
  rw [List.getElem?_drop] at hr
  obtain ⟨b', off', ha, hl, hc⟩ := h (k + i) row hr
  injection ha with ha
  injection ha with h1 h2 h3
  subst h1 h2
  exact ⟨b, off + k * n, rfl, hl, fun j v hv => by rw [show off + k * n + i * n + j = off + (k + i) * n + j by rw [Nat.add_mul]; omega]; exact hc j v hv⟩
/-- 's[k:]' of bytes, its address under one name. -/
theorem slice_from (a : Option Addr) (n c k : Nat) (hk : k ≤ n) (hn : n ≤ c) (hc : c ≤ 9223372036854775807) : ∃ q : Option Addr, (∀ W, (Instr.slice 26 (.slice a n c) (some (.int .i64 (k : Int))) none none).run Try.prog W = .ok (.slice q (n - k) (c - k)) W) ∧
    (∀ W zs, zs.length = n → Bytes W a c zs → Bytes W q (c - k) (zs.drop k)) := by
  refine ⟨if c = k then a else a.map (·.add (k * 1)), fun W => ?_, fun W zs hz hb => ?_⟩
  · have hsz : (sizeOf (Try.prog.elem 26)).run Try.prog W = .ok 1 W := by kernel_rfl
    rw [run_slice_l W 26 a n c (by kernel_rfl) .i64 (k : Int) (by omega) (by omega), hsz]
    simp [sliced]
  · have hlen : (zs.drop k).length = n - k := by rw [List.length_drop, hz]
    refine ⟨?_, hb.byt.drop k, by omega, by omega, fun h => ?_, by have := hb.sm; omega⟩
    · by_cases h : c = k
      · rw [List.eq_nil_of_length_eq_zero (show (zs.drop k).length = 0 by omega)]
        exact RdI.nil _ _ _
      · rw [if_neg h]
        intro i x hx
        rw [List.getElem?_drop] at hx
        obtain ⟨b, off, rfl, hl, hcell⟩ := hb.rd (k + i) x hx
        exact ⟨b, off + k, by rw [Option.map_some, Nat.mul_one, add_addr], hl, by rw [Nat.add_assoc]; exact hcell⟩
    · by_cases h2 : c = k
      · omega
      · rw [if_neg h2] at h
        cases a with
        | none => have := hb.nil rfl; omega
        | some p => cases h

end Go.Proofs.Ytdkbibfgebfeaaa
