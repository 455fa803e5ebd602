/-
  THE WALKS of report's reference: Fraction, Jitter.
-/
import Derived.Test.YtbodmoefogkciaaRpQ
set_option linter.unusedVariables false
set_option linter.unusedSimpArgs false
namespace Go.Proofs.Ytbodmoefogkciaa
open Go.RowKit

set_option maxHeartbeats 2000000 in
theorem rfraction_c (a : Option Addr) (cap : Nat) (ex ca : Int) (ones : List One) (w : World) (rd : RdS 3 w a (ones.map oneRow)) (hl : ones.length ≤ 900) (ho : ∀ o ∈ ones, o.ok) (e0 : 0 ≤ ex) (e1 : ex ≤ 70000000) (c0 : 0 ≤ ca) (c1 : ca ≤ 1000) :
    Calls Try.prog 20 #[.agg #[.slice a ones.length cap, .int .i64 ex, .int .i64 ca]] w fun e w' => e = .returned (.int .i64 (runS ones ex ca).fraction) ∧ Frm [] w w' := by
  have HR := Lib.hid rd
  have HO := Lib.hid ho
  have ok := runS_ok ones ex ca ho hl e0 e1 c0 c1
  have hx := St.expd_in ok
  obtain ⟨E, hE⟩ : ∃ E, (runS ones ex ca).expd = E := ⟨_, rfl⟩
  have hf : (runS ones ex ca).fraction = frac (E - ex) (E - ex - (ones.length - ca)) := by
    unfold St.fraction
    rw [hE, runS_rcv]
    rfl
  rw [hE] at hx
  obtain ⟨x0, x1⟩ := hx
  rw [hf]
  have HE := Lib.hid hE
  obtain ⟨A, hA⟩ : ∃ A, E - ex = A := ⟨_, rfl⟩
  have a0 : -70000000 ≤ A := by omega
  have a1 : A ≤ 65600000 := by omega
  obtain ⟨L, hL⟩ : ∃ L, A - (ones.length - ca) = L := ⟨_, rfl⟩
  have l0 : -70001000 ≤ L := by omega
  have l1 : L ≤ 65601000 := by omega
  have e2 : IntKind.i64.wrap (E - ex) = A := by rw [← hA]; exact IntWalk.i64_in _ (by omega)
  have e3 : IntKind.i64.wrap (ones.length - ca) = ones.length - ca := IntWalk.i64_in _ (by omega)
  have e4 : IntKind.i64.wrap (A - (ones.length - ca)) = L := by rw [← hL]; exact IntWalk.i64_in _ (by omega)
  rw [hA, hL]
  clear rd ho ok hE hf
  have HA := Lib.hid hA
  have HL := Lib.hid hL
  clear hA hL
  go_enter Try.func20, Try.ntmps20
  go_wp2_with fail
  have HS := Lib.hid ((Sep.init w).alloc #[.slice a ones.length cap, .int .i64 ex, .int .i64 ca] 31)
  have n1 := HS.out.inh
  have q0 := Cls.cell (S := []) (w0 := w) (L := [blkR w.heap.size 31 #[.slice a ones.length cap, .int .i64 ex, .int .i64 ca]]) 0 rfl 0 (v := .slice a ones.length cap) rfl
  have q1 := Cls.cell (S := []) (w0 := w) (L := [blkR w.heap.size 31 #[.slice a ones.length cap, .int .i64 ex, .int .i64 ca]]) 0 rfl 1 (v := .int .i64 ex) rfl
  have q2 := Cls.cell (S := []) (w0 := w) (L := [blkR w.heap.size 31 #[.slice a ones.length cap, .int .i64 ex, .int .i64 ca]]) 0 rfl 2 (v := .int .i64 ca) rfl
  refine region_sep HS.out (by kernel_rfl) (by kernel_rfl) ?_
  go_big_quiet_step (fail)
  go_big_quiet_step ((rename_i x; exact call_keeps x.ok (rexpected_f a cap ex ca ones w _ x.ok.frm HR.out hl HO.out E HE.out)))
  repeat (go_big_quiet_step (fail))
  refine wpQuiet_nil ?_
  intro w2 hS
  have HS2 := Lib.hid hS
  clear hS n1 q0 q1 q2 e2
  have k0 : w2.cell? ⟨w.heap.size, 0, none⟩ = some (.slice a ones.length cap) := (HS2.out.blk 0 rfl).cell 0 rfl
  have k2 : w2.cell? ⟨w.heap.size, 2, none⟩ = some (.int .i64 ca) := (HS2.out.blk 0 rfl).cell 2 rfl
  by_cases hz : A ≤ 0
  · go_wp2_with fail
    go_ret
    exact ⟨ret_int (by unfold frac; rw [if_pos (.inl hz)]), HS2.out.frm⟩
  · by_cases hy : L ≤ 0
    · go_wp2_with fail
      go_ret
      exact ⟨ret_int (by unfold frac; rw [if_pos (.inr hy)]), HS2.out.frm⟩
    · have hfr : frac A L = min (L * 256 / A) 255 := by unfold frac; rw [if_neg (by omega)]
      have q0 : 0 ≤ L * 256 := by omega
      have q1 : L * 256 ≤ 20000000000 := by omega
      have p1 : 1 ≤ A := by omega
      have d0 : 0 ≤ L * 256 / A := Int.ediv_nonneg q0 (by omega)
      have d1 : L * 256 / A ≤ 20000000000 := Int.le_trans (Int.ediv_le_self _ q0) q1
      have HFr := Lib.hid hfr
      clear hfr
      go_wp2_with fail
      all_goals (go_ret; exact ⟨ret_int (by rw [HFr.out]; omega), HS2.out.frm⟩)

/-- The last packet noted. -/
theorem runS_last (l : List One) (p : One) (ex ca : Int) : (runS (l ++ [p]) ex ca).tm = upTo p.now 1099511627776 ∧ (runS (l ++ [p]) ex ca).ts = p.ts := by rw [runS_snoc]; exact ⟨rfl, rfl⟩
theorem runS_sum (l : List One) (k : Nat) (p o : One) (ex ca : Int) (ho : ∀ o ∈ l, o.ok) (hp : l[k]? = some p) (hk : l[k + 1]? = some o) :
    (runS (l.take (k + 2)) ex ca).sum = jit (runS (l.take (k + 1)) ex ca).sum (upTo o.now 1099511627776 - upTo p.now 1099511627776 - ah32 o.ts p.ts) := by
  rw [take_snoc l (k + 1) o hk, runS_snoc]
  have hne : l.take (k + 1) ≠ [] := by rw [take_snoc l k p hp]; simp
  have hh := (runS_first (l.take (k + 1)) ex ca (fun o h => ho o (List.mem_of_mem_take h)) hne).2
  have hl := runS_last (l.take k) p ex ca
  rw [← take_snoc l k p hp] at hl
  simp only [St.note, St.shift]
  rw [if_neg (by omega), hl.1, hl.2]
theorem runS_sum1 (l : List One) (ex ca : Int) : (runS (l.take 1) ex ca).sum = 0 := by
  cases l with
  | nil => rfl
  | cons o l => rfl
theorem runS_sum_in (l : List One) (ex ca : Int) : 0 ≤ (runS l ex ca).sum ∧ (runS l ex ca).sum ≤ 1125899906842624 := by
  induction l using snocRec with
  | nil => rw [runS_nil]; exact ⟨Int.le_refl _, by show (0 : Int) ≤ 1125899906842624; decide⟩
  | snoc l o ih =>
    rw [runS_snoc]
    simp only [St.note, St.shift]
    split
    · exact ih
    · exact jit_in _ _ ih.1 ih.2

set_option maxHeartbeats 4000000 in
theorem rjitter_c (a : Option Addr) (cap : Nat) (ex ca : Int) (ones : List One) (w : World) (rd : RdS 3 w a (ones.map oneRow)) (hl : ones.length ≤ 900) (ho : ∀ o ∈ ones, o.ok) :
    Calls Try.prog 23 #[.agg #[.slice a ones.length cap, .int .i64 ex, .int .i64 ca]] w fun e w' => e = .returned (.int .u32 (runS ones ex ca).jitter) ∧ Frm [] w w' := by
  have HR := Lib.hid rd
  have HO := Lib.hid ho
  clear rd ho
  go_enter Try.func23, Try.ntmps23
  go_wp2_with fail
  have HS := Lib.hid ((Sep.init w).alloc #[.slice a ones.length cap, .int .i64 ex, .int .i64 ca] 31)
  go_loopw [3, 4] (fun s i wr => ∃ (k : Nat), k ≤ ones.length ∧ (k + 1 ≤ ones.length ∨ k = 0) ∧ i = .int .i64 ((k : Int) + 1) ∧ s = .int .i64 (runS (ones.take (k + 1)) ex ca).sum ∧ Sep [] w wr [blkR w.heap.size 31 #[.slice a ones.length cap, .int .i64 ex, .int .i64 ca]]) (fun _ i _ => ones.length - (intOf i).toNat)
  case atStart => exact ⟨0, Nat.zero_le _, .inr rfl, rfl, by rw [runS_sum1], HS.out⟩
  case round =>
    obtain ⟨k, hk, hk2, rfl, rfl, hS⟩ := hrel
    have HS := Lib.hid hS
    clear hS
    have c0 : wr.cell? ⟨w.heap.size, 0, none⟩ = some (.slice a ones.length cap) := (HS.out.blk 0 rfl).cell 0 rfl
    have hsin := runS_sum_in (ones.take (k + 1)) ex ca
    obtain ⟨s, hs⟩ : ∃ s, s = (runS (ones.take (k + 1)) ex ca).sum := ⟨_, rfl⟩
    rw [← hs] at hsin ⊢
    obtain ⟨s0, s1⟩ := hsin
    by_cases hlt : k + 1 < ones.length
    · obtain ⟨b, off, p, rfl, hb, x0, x1, x2, hp⟩ := oneRow_at (HR.out.below HS.out.frm.below) k (by omega)
      obtain ⟨b', off', o, hab, hb', y0, y1, y2, ho⟩ := oneRow_at (HR.out.below HS.out.frm.below) (k + 1) hlt
      simp at hab
      obtain ⟨rfl, rfl⟩ := hab
      have hsum := runS_sum ones k p o ex ca HO.out hp ho
      rw [← hs] at hsum
      have hq := ah32_in o.ts p.ts
      have po := HO.out p (List.mem_of_getElem? hp)
      have oo := HO.out o (List.mem_of_getElem? ho)
      have HP := Lib.hid po
      have HOo := Lib.hid oo
      obtain ⟨q, hqe⟩ : ∃ q, q = ah32 o.ts p.ts := ⟨_, rfl⟩
      obtain ⟨U, hU⟩ : ∃ U, U = upTo o.now 1099511627776 := ⟨_, rfl⟩
      obtain ⟨V, hV⟩ : ∃ V, V = upTo p.now 1099511627776 := ⟨_, rfl⟩
      have u0 : 0 ≤ U := by rw [hU]; exact upTo_ge _ _ (by decide)
      have u1 : U ≤ 1099511627776 := by rw [hU]; exact upTo_le _ _
      have v0 : 0 ≤ V := by rw [hV]; exact upTo_ge _ _ (by decide)
      have v1 : V ≤ 1099511627776 := by rw [hV]; exact upTo_le _ _
      rw [← hqe] at hq hsum
      rw [← hU, ← hV] at hsum
      obtain ⟨q0, q1⟩ := hq
      have HCo : Hid (∀ W, Calls Try.prog 30 #[.int .i64 o.now] W fun e w' => e = .returned (.int .i64 U) ∧ w' = W) := Lib.hid fun W => by rw [hU]; exact same_of (rheld_c _ W)
      have HCp : Hid (∀ W, Calls Try.prog 30 #[.int .i64 p.now] W fun e w' => e = .returned (.int .i64 V) ∧ w' = W) := Lib.hid fun W => by rw [hV]; exact same_of (rheld_c _ W)
      have HCa : Hid (∀ W, Calls Try.prog 31 #[.int .u32 o.ts, .int .u32 p.ts] W fun e w' => e = .returned (.int .i64 q) ∧ w' = W) := Lib.hid fun W => by rw [hqe]; exact same_of (rahead32_c _ _ W HOo.out.t0 HOo.out.t1 HP.out.t0 HP.out.t1)
      have HSum := Lib.hid hsum
      obtain ⟨D, hD⟩ : ∃ D, U - V - q = D := ⟨_, rfl⟩
      have d0 : -1103806595072 ≤ D := by omega
      have d1 : D ≤ 1103806595072 := by omega
      have e1 : IntKind.i64.wrap (U - V) = U - V := IntWalk.i64_in _ (by omega)
      have e2 : IntKind.i64.wrap (U - V - q) = D := by rw [hD]; exact IntWalk.i64_in _ (by omega)
      have e3 : IntKind.i64.wrap ((k : Int) + 1 - 1) = (k : Int) := by rw [show (k : Int) + 1 - 1 = (k : Int) from by omega]; exact IntWalk.i64_in _ (by omega)
      have e4 : ((k : Int) + 1).toNat = k + 1 := by omega
      have e5 : (0 : Int) ≤ (k : Int) + 1 := by omega
      have e6 : (k : Int) + 1 < (ones.length : Int) := by omega
      have e7 : (k : Int) < (ones.length : Int) := by omega
      have e8 : (0 : Int) ≤ (k : Int) := by omega
      rw [hD] at HSum
      clear hb hb' hp ho hsum po oo hqe hU hV hD x0 y0 hs hk hk2
      go_wp2_with fail
      go_quiet ((first | (go_at_call 31; exact Calls.quiet_of_same (HCa.out _)) | (exact Calls.quiet_of_same (HCo.out _)) | (exact Calls.quiet_of_same (HCp.out _))))
      go_wp2_with fail
      all_goals
        go_roundw
        case rel => exact ⟨k + 1, by omega, .inl (by omega), by go_num, by rw [HSum.out]; exact congrArg (Value.int .i64) (by unfold jit absI; split <;> omega), HS.out.drewN _⟩
        case measure => simp [intOf]; omega
    · have hall : ones.take (k + 1) = ones := List.take_of_length_le (by omega)
      rw [hall] at hs
      have hj : (runS ones ex ca).jitter = min (s / 16) 4294967295 := by rw [hs]; rfl
      have HJ := Lib.hid hj
      clear hj hs hall
      go_wp2_with fail
      all_goals (go_ret; exact ⟨ret_int (by rw [HJ.out]; omega), HS.out.frm⟩)

end Go.Proofs.Ytbodmoefogkciaa
