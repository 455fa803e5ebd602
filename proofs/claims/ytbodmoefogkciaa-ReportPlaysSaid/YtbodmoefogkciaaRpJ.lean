/-
  THE WALKS of report's reference: Expected, Highest, Lost, Fraction.
-/
import Derived.Test.YtbodmoefogkciaaRpI
import Derived.BigQuiet
set_option linter.unusedVariables false
set_option linter.unusedSimpArgs false
namespace Go.Proofs.Ytbodmoefogkciaa
open Go.RowKit

theorem snocRec {α : Type} {P : List α → Prop} (nil : P []) (snoc : ∀ l a, P l → P (l ++ [a])) (l : List α) : P l := by
  have h : ∀ m : List α, P m.reverse := by
    intro m
    induction m with
    | nil => exact nil
    | cons a m ih => rw [List.reverse_cons]; exact snoc _ _ ih
  have := h l.reverse
  rwa [List.reverse_reverse] at this
/-- All that was noted. -/
def runS (l : List One) (ex ca : Int) : St := { (l.foldl (fun s o => s.note o.seq o.ts o.now) St.zero) with ex := ex, ca := ca }
theorem runS_nil (ex ca : Int) : runS [] ex ca = ⟨-1, 0, 0, 0, 0, 0, ex, ca⟩ := rfl
theorem runS_snoc (l : List One) (o : One) (ex ca : Int) : runS (l ++ [o]) ex ca = (runS l ex ca).note o.seq o.ts o.now := by
  unfold runS
  rw [List.foldl_append]
  rfl
theorem seqs_snoc (l : List One) (o : One) : seqs (l ++ [o]) = seqs l ++ [o.seq] := by unfold seqs; simp
theorem runS_rcv (l : List One) (ex ca : Int) : (runS l ex ca).rcv = l.length := by
  induction l using snocRec with
  | nil => rfl
  | snoc l o ih => rw [runS_snoc]; simp only [St.note, ih]; simp
theorem runS_h (l : List One) (ex ca : Int) : (runS l ex ca).h = wHis (-1) (seqs l) := by
  induction l using snocRec with
  | nil => rfl
  | snoc l o ih => rw [runS_snoc, seqs_snoc, wHis_snoc, ← ih]; rfl
theorem runS_ok (l : List One) (ex ca : Int) (ho : ∀ o ∈ l, o.ok) (hl : l.length ≤ 900) (e0 : 0 ≤ ex) (e1 : ex ≤ 70000000) (c0 : 0 ≤ ca) (c1 : ca ≤ 1000) : (runS l ex ca).ok l.length := by
  induction l using snocRec with
  | nil =>
    rw [runS_nil]
    have z := St.zero_ok
    exact ⟨z.hw, z.k1, z.f0, z.f1, z.r0, z.r1, z.s0, z.s1, z.t0, z.t1, z.m0, z.m1, e0, e1, c0, c1, z.fh⟩
  | snoc l o ih =>
    have hlen : (l ++ [o]).length = l.length + 1 := by simp
    rw [hlen] at hl ⊢
    have hi := ih (fun p hp => ho p (by simp [hp])) (by omega)
    have hk := ho o (by simp)
    rw [runS_snoc]
    exact St.note_ok hi (by omega) _ _ _ hk.q0 hk.q1 hk.t0 hk.t1 (by rw [runS_rcv]; omega)
theorem runS_first (l : List One) (ex ca : Int) (ho : ∀ o ∈ l, o.ok) (hn : l ≠ []) : (runS l ex ca).first = wOut (-1) ((seqs l).getD 0 0) ∧ 0 ≤ (runS l ex ca).h := by
  induction l using snocRec with
  | nil => exact absurd rfl hn
  | snoc l o ih =>
    have hk := ho o (by simp)
    rw [runS_snoc, seqs_snoc]
    by_cases hl : l = []
    · subst hl
      have ho1 : wOut (-1) o.seq = 4294967296 + o.seq := by unfold wOut; rw [if_pos (by decide)]
      have q0 := hk.q0
      have hh : wHi (-1) o.seq = 4294967296 + o.seq := by unfold wHi; rw [ho1, if_pos (by omega)]
      simp only [runS_nil, St.note, seqs, List.map_nil, List.nil_append, List.getD_cons_zero]
      exact ⟨rfl, by rw [hh]; omega⟩
    · obtain ⟨i1, i2⟩ := ih (fun p hp => ho p (by simp [hp])) hl
      have hlen : 0 < (seqs l).length := by rw [seqs_length]; exact List.length_pos_iff.2 hl
      have hg : (seqs l ++ [o.seq]).getD 0 0 = (seqs l).getD 0 0 := by
        rw [List.getD_eq_getElem?_getD, List.getD_eq_getElem?_getD, List.getElem?_append_left hlen]
      have hm : (runS l ex ca).h ≤ wHi (runS l ex ca).h o.seq := by unfold wHi; split <;> omega
      rw [hg]
      simp only [St.note]
      rw [if_neg (by omega)]
      exact ⟨i1, by omega⟩
theorem ref_expd (l : List One) (ex ca : Int) (ho : ∀ o ∈ l, o.ok) : (if l.length = 0 then 0 else refLast l - refFirst l + 1) = (runS l ex ca).expd := by
  by_cases hl : l = []
  · subst hl; rfl
  · have hn : ¬ l.length = 0 := by simp [hl]
    obtain ⟨h1, h2⟩ := runS_first l ex ca ho hl
    have hlast : refLast l = (runS l ex ca).h := by unfold refLast; rw [if_neg hn, runS_h]
    have hfirst : refFirst l = (runS l ex ca).first := by unfold refFirst; rw [if_neg hn, h1]
    rw [if_neg hn, hlast, hfirst]
    unfold St.expd
    rw [if_neg (by omega)]
theorem ref_high (l : List One) (ex ca : Int) (ho : ∀ o ∈ l, o.ok) : refLast l % 4294967296 = (runS l ex ca).high := by
  by_cases hl : l = []
  · subst hl; rfl
  · have hn : ¬ l.length = 0 := by simp [hl]
    obtain ⟨h1, h2⟩ := runS_first l ex ca ho hl
    have hlast : refLast l = (runS l ex ca).h := by unfold refLast; rw [if_neg hn, runS_h]
    rw [hlast]
    unfold St.high
    rw [if_neg (by omega)]

/-- The highest number and the first one, within their bounds. -/
theorem ref_in (l : List One) (ho : ∀ o ∈ l, o.ok) (hl : l.length ≤ 900) : 0 ≤ refFirst l ∧ refFirst l ≤ 4295032831 ∧ 0 ≤ refLast l ∧ refLast l ≤ 4395032831 := by
  by_cases h : l = []
  · subst h; decide
  · have hn : ¬ l.length = 0 := by simp [h]
    obtain ⟨h1, h2⟩ := runS_first l 0 0 ho h
    have hlast : refLast l = (runS l 0 0).h := by unfold refLast; rw [if_neg hn, runS_h]
    have hfirst : refFirst l = (runS l 0 0).first := by unfold refFirst; rw [if_neg hn, h1]
    have ok := runS_ok l 0 0 ho hl (by decide) (by decide) (by decide) (by decide)
    have f0 := ok.f0
    have f1 := ok.f1
    have hw := ok.hw
    rw [hlast, hfirst]
    rcases hw with hw | ⟨g0, g1⟩ <;> omega

set_option maxHeartbeats 1000000 in
theorem rexpected_c (a : Option Addr) (cap : Nat) (ex ca : Int) (ones : List One) (w : World) (rd : RdS 3 w a (ones.map oneRow)) (hl : ones.length ≤ 900) (ho : ∀ o ∈ ones, o.ok) :
    Calls Try.prog 24 #[.agg #[.slice a ones.length cap, .int .i64 ex, .int .i64 ca]] w fun e w' => e = .returned (.int .i64 (runS ones ex ca).expd) ∧ Frm [] w w' := by
  have HR := Lib.hid rd
  have HO := Lib.hid ho
  have hr := ref_in ones ho hl
  obtain ⟨f0, f1, t0, t1⟩ := hr
  rw [← ref_expd ones ex ca ho]
  clear rd ho
  by_cases hz : ones.length = 0
  · have hzb : ((ones.length : Int) == 0) = true := beq_iff_eq.2 (by omega)
    rw [if_pos hz]
    have hz1 : ones.length ≤ 0 := by omega
    clear hz
    go_enter Try.func24, Try.ntmps24
    go_wp2_with fail
    go_ret
    exact ⟨rfl, (Frm.refl _ _).alloc _⟩
  · have hzb : ((ones.length : Int) == 0) = false := beq_eq_false_iff_ne.2 (by omega)
    rw [if_neg hz]
    have hz1 : 1 ≤ ones.length := by omega
    clear hz
    go_enter Try.func24, Try.ntmps24
    go_wp2_with fail
    have HS := Lib.hid ((Sep.init w).alloc #[.slice a ones.length cap, .int .i64 ex, .int .i64 ca] 31)
    refine (rhighest_c a cap ex ca ones _ (HR.out.below HS.out.frm.below) (by omega) HO.out).mono ?_
    rintro e w1 ⟨rfl, hf⟩
    have HS1 := Lib.hid (HS.out.keep hf)
    clear hf
    go_wp2_with fail
    go_ret
    exact ⟨rfl, HS1.out.frm⟩

set_option maxHeartbeats 1000000 in
theorem rhigh_c (a : Option Addr) (cap : Nat) (ex ca : Int) (ones : List One) (w : World) (rd : RdS 3 w a (ones.map oneRow)) (hl : ones.length ≤ 900) (ho : ∀ o ∈ ones, o.ok) :
    Calls Try.prog 22 #[.agg #[.slice a ones.length cap, .int .i64 ex, .int .i64 ca]] w fun e w' => e = .returned (.int .u32 (runS ones ex ca).high) ∧ Frm [] w w' := by
  have HR := Lib.hid rd
  have HO := Lib.hid ho
  have hr := ref_in ones ho hl
  obtain ⟨f0, f1, t0, t1⟩ := hr
  rw [← ref_high ones ex ca ho]
  clear rd ho
  obtain ⟨T, hT⟩ : ∃ T, T = refLast ones := ⟨_, rfl⟩
  have HT := Lib.hid hT
  rw [← hT] at t0 t1 ⊢
  clear hT
  go_enter Try.func22, Try.ntmps22
  go_wp2_with fail
  have HS := Lib.hid ((Sep.init w).alloc #[.slice a ones.length cap, .int .i64 ex, .int .i64 ca] 31)
  refine (rhighest_c a cap ex ca ones _ (HR.out.below HS.out.frm.below) (by omega) HO.out).mono ?_
  rintro e w1 ⟨rfl, hf⟩
  have HS1 := Lib.hid (HS.out.keep hf)
  rw [← HT.out]
  clear hf
  have e1 : IntKind.i64.wrap (T.tmod 4294967296) = T % 4294967296 := by rw [Int.tmod_eq_emod_of_nonneg t0]; exact IntWalk.i64_in _ (by omega)
  have e2 : IntKind.u32.wrap (T % 4294967296) = T % 4294967296 := IntWalk.u32_in _ (by omega)
  go_wp2_with fail
  go_ret
  exact ⟨ret_int (by omega), HS1.out.frm⟩

end Go.Proofs.Ytbodmoefogkciaa
