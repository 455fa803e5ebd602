/-
  THE ITERATOR of table's Ranges.
-/
import Derived.Test.YthholboipbfklaaTaD
import Derived.Test.YthholboipbfklaaRnh
set_option linter.unusedVariables false
set_option linter.unusedSimpArgs false
namespace Go.Proofs.Ythholboipbfklaa
open Go.RowKit Go.Shelf
attribute [local go_sem] Oper.semAt_some

theorem arr_index (f : Nat → Int) (m : Nat) (h : m < 256) (w : World) : (Instr.index 26 (.agg (arr f)) (.int .i64 m)).run Try.prog w = .ok (.int .i64 (f m)) w := by
  have hs : (sizeOf 3).run Try.prog w = .ok 1 w := by kernel_rfl
  have hg := arr_get f m h
  have hag : (isAgg 3).run Try.prog w = .ok false w := by kernel_rfl
  simp [Instr.index, part, asIntOf, run_underlying Try.underlying26, hs, hg, hag, Sem.run_bind, Sem.run_pure, Result.andThen_ok, h, getElem!_def]

/-- The counts that come, each with the least place that has it. -/
def rng (c : Nat → Int) : Nat → List (Nat × Int)
  | 0 => []
  | m + 1 => rng c m ++ (if m = 0 ∨ c m ≠ c (m - 1) then [(m, c m)] else [])
def lastOf (c : Nat → Int) (m : Nat) : Int := if m = 0 then -1 else c (m - 1)
def cnt (kind k : Int) (l : Nat) : Int := tcount kind l k
theorem rng_yes {c : Nat → Int} {m : Nat} (c0 : ∀ i, 0 ≤ c i) (h : c m ≠ lastOf c m) : rng c (m + 1) = rng c m ++ [(m, c m)] := by
  unfold lastOf at h
  rw [rng, if_pos]
  by_cases hm : m = 0
  · exact .inl hm
  · rw [if_neg hm] at h; exact .inr h
theorem rng_no {c : Nat → Int} {m : Nat} (c0 : ∀ i, 0 ≤ c i) (h : c m = lastOf c m) : rng c (m + 1) = rng c m := by
  unfold lastOf at h
  rw [rng, if_neg, List.append_nil]
  by_cases hm : m = 0
  · rw [if_pos hm] at h; have := c0 m; omega
  · rw [if_neg hm] at h; simp [hm, h]
theorem rng_pre {c : Nat → Int} {m n : Nat} (h : m ≤ n) : rng c m <+: rng c n := by
  induction n with
  | zero => obtain rfl : m = 0 := by omega
            exact List.prefix_refl _
  | succ n ih =>
    by_cases hm : m = n + 1
    · subst hm; exact List.prefix_refl _
    · exact (ih (by omega)).trans (List.prefix_append _ _)

set_option maxRecDepth 100000 in
set_option maxHeartbeats 400000 in
theorem ranges_seq (n : Nat) (p q : Nat) (kind k : Int) (w : World) (hp : w.cell? ⟨p, 0, none⟩ = some (.int .i64 kind)) (hq : w.cell? ⟨q, 0, none⟩ = some (.int .i64 k)) (hpl : p < w.heap.size) (hql : q < w.heap.size) (hn : 3 ≤ n) :
    SeqG n Try.prog 20 #[.pointer (some ⟨p, 0, none⟩), .pointer (some ⟨q, 0, none⟩)] (fun x : Nat × Int => #[.int .i64 x.1, .int .i64 x.2]) (fun _ _ => True) (fun pre _ x _ => (pre ++ [x]) <+: rng (cnt kind k) 256)
      (fun ys => ys = rng (cnt kind k) 256) (fun pre => pre <+: rng (cnt kind k) 256) w := by
  intro l J Jx W B0 hW hB0 hal halx hY h0
  have hcp := (hW.cell (p := ⟨p, 0, none⟩) hpl).trans hp
  have hcq := (hW.cell (p := ⟨q, 0, none⟩) hql).trans hq
  have hsz := hW.size
  have hn1 : 1 ≤ n := by omega
  obtain ⟨c, hc⟩ : ∃ c : Nat → Int, c = cnt kind k := ⟨_, rfl⟩
  have c0 : ∀ i, 0 ≤ c i := fun i => by rw [hc]; exact (tcount_bd _ _ _).1
  have HRow := Lib.hid (row_c kind k W)
  rw [← hc] at hY ⊢
  have hrw : (arr fun l => tcount kind l k) = arr c := by rw [hc]; rfl
  rw [hrw] at HRow
  have hix := fun m h w => arr_index c m h w
  have HPre := Lib.hid (show ∀ m, m ≤ 256 → rng c m <+: rng c 256 from fun m hm => rng_pre hm)
  obtain ⟨R, hR⟩ : ∃ R, R = rng c 256 := ⟨_, rfl⟩
  rw [← hR] at hY HPre ⊢
  have HRe := Lib.hid hR
  clear hR
  obtain ⟨C, hC⟩ : ∃ C, C = arr c := ⟨_, rfl⟩
  rw [← hC] at HRow hix
  have HIx := Lib.hid hix
  have HC0 := Lib.hid c0
  have HY := Lib.hid hY
  have HAl := Lib.hid hal
  have H0 := Lib.hid h0
  clear hW hY hal halx h0 hp hq hc hrw hix hC c0
  refine callsIn_of_wp Try.func20 rfl trivial ?_ rfl
  simp only [Try.ntmps20, List.size_toArray, List.length_cons, List.length_nil, Nat.reduceAdd, Nat.reduceSub, Array.replicate_succ, Array.replicate_zero, List.push_toArray, List.append_toArray, List.nil_append, List.cons_append]
  gi_wp2_with fail
  refine ⟨trivial, (callsIn_wide.2 HRow.out).mono ?_⟩
  rintro e w1 ⟨rfl, hf⟩
  have HF := Lib.hid hf
  have HJ0 := Lib.hid (HAl.out _ _ _ _ H0.out (grown_of_below hf.below none))
  clear hf H0 HRow
  gi_wp2
  gi_loopw [10, 4] (fun i v wr => ∃ (m B : Nat), m ≤ 256 ∧ i = .int .i64 m ∧ v = .int .i64 (lastOf c m) ∧ J (rng c m) B wr) (fun i _ _ => 256 - (intOf i).toNat)
  case atStart => exact ⟨0, B0, Nat.zero_le _, rfl, rfl, HJ0.out⟩
  case round =>
    obtain ⟨m, B, hm, rfl, rfl, hJ⟩ := hrel
    have HJ := Lib.hid hJ
    clear hJ
    by_cases hlt : m < 256
    · have i0 : (0 : Int) ≤ (m : Int) := by omega
      have i1 : (m : Int) < 256 := by omega
      have hix := HIx.out m hlt
      obtain ⟨L, hL⟩ : ∃ L, L = lastOf c m := ⟨_, rfl⟩
      rw [← hL]
      have hnext : lastOf c (m + 1) = c m := by unfold lastOf; rw [if_neg (by omega)]; rfl
      have HNx := Lib.hid hnext
      clear hnext
      by_cases hd : c m = L
      · have hdb : (c m != L) = false := by simp [hd]
        have hsame := rng_no HC0.out (hd.trans hL)
        have HSm := Lib.hid hsame
        have HD := Lib.hid hd
        clear hsame hd hL
        gi_wp2
        refine ⟨fun _ h => (by cases h), ?_⟩
        gi_wp2
        go_roundw
        case rel => exact ⟨m + 1, B, by omega, by go_num, by rw [HNx.out], by rw [HSm.out]; exact HJ.out⟩
        case measure => simp [intOf]; omega
      · have hdb : (c m != L) = true := by simp [hd]
        have hnew := rng_yes HC0.out (fun h => hd (h.trans hL.symm))
        have hpre : (rng c m ++ [(m, c m)]) <+: R := by rw [← hnew]; exact HPre.out _ (by omega)
        obtain ⟨fn, tmps, assign, body, hy, hR⟩ := HY.out (rng c m) B (m, c m) wr HJ.out hpre
        rw [← hnew] at hR
        have HR := Lib.hid hR
        have HP := Lib.hid (HPre.out (m + 1) (by omega))
        dsimp only at hy
        clear hR hnew hpre hd hL
        gi_wp2
        refine HR.out.mono ?_
        rintro e W3 (⟨rfl, hJ3, hk3⟩ | ⟨rfl, hJx⟩)
        · have HJ3 := Lib.hid hJ3
          clear hJ3 hk3 hy HR
          gi_wp2
          go_roundw
          case rel => exact ⟨m + 1, _, by omega, by go_num, by rw [HNx.out], HJ3.out⟩
          case measure => simp [intOf]; omega
        · have HJx := Lib.hid hJx
          clear hJx hy HR
          gi_wp2
          exact bodyPost_ret (results_none rfl _ _ _) rfl ⟨⟨_, rfl⟩, .inr ⟨rng c (m + 1), HP.out, HJx.out⟩⟩
    · obtain rfl : m = 256 := by omega
      gi_wp2
      go_end0
      exact ⟨⟨_, rfl⟩, .inl ⟨R, B, rfl, by rw [HRe.out]; exact HJ.out⟩⟩

set_option maxHeartbeats 1000000 in
theorem ranges_c (kind k : Int) (w : World) :
    Calls Try.prog 16 #[.int .i64 kind, .int .i64 k] w fun e w' => e = .returned (.func (.func 20) #[] #[.pointer (some ⟨w.heap.size, 0, none⟩), .pointer (some ⟨w.heap.size + 1, 0, none⟩)]) ∧ w' = (w.alloc (.cells #[.int .i64 kind] 3)).alloc (.cells #[.int .i64 k] 3) := by
  go_enter Try.func16, Try.ntmps16
  go_wp2_with fail
  go_ret
  exact ⟨rfl, rfl⟩
theorem ranges_seq2 (n : Nat) (hn : 3 ≤ n) (kind k : Int) (w : World) :
    SeqG n Try.prog 20 #[.pointer (some ⟨w.heap.size, 0, none⟩), .pointer (some ⟨w.heap.size + 1, 0, none⟩)] (fun x : Nat × Int => #[.int .i64 x.1, .int .i64 x.2]) (fun _ _ => True) (fun pre _ x _ => (pre ++ [x]) <+: rng (cnt kind k) 256)
      (fun ys => ys = rng (cnt kind k) 256) (fun pre => pre <+: rng (cnt kind k) 256) ((w.alloc (.cells #[.int .i64 kind] 3)).alloc (.cells #[.int .i64 k] 3)) := by
  have HS := (((Sep.init w).alloc #[.int .i64 kind] 3).alloc #[.int .i64 k] 3)
  simp only [World.size_alloc] at HS
  have h := ranges_seq n w.heap.size (w.heap.size + 1) kind k ((w.alloc (.cells #[.int .i64 kind] 3)).alloc (.cells #[.int .i64 k] 3)) ((HS.blk 1 rfl).cell 0 rfl) ((HS.blk 0 rfl).cell 0 rfl) (by simp; omega) (by simp) hn
  exact h

end Go.Proofs.Ythholboipbfklaa
