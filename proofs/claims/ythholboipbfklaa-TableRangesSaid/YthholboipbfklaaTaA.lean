/-
  THE WALKS of table: Row, a whole array by value.
-/
import Derived.Test.YthholboipbfklaaTb
import Derived.Test.YthholboipbfklaaRow
import Derived.Deep.WholeRow
import Derived.Laws.Tables
set_option linter.unusedVariables false
set_option linter.unusedSimpArgs false
namespace Go.Proofs.Ythholboipbfklaa
open Go.RowKit

theorem Blk.setRow {w : World} {b : Nat} {t : TypeId} {cs : Array Value} (h : Blk w b t cs) (cs' : Array Value) : Blk (w.setRow b cs') b t cs' := setRow_heap w b cs cs' t (0, 0) h
theorem Sep.setRow {S : List Nat} {w0 w : World} {L : List Res} (h : Sep S w0 w L) (i : Nat) {b : Nat} {t : TypeId} {cs : Array Value} (hi : L[i]? = some (blkR b t cs)) (cs' : Array Value) : Sep S w0 (w.setRow b cs') (L.set i (blkR b t cs')) :=
  h.write i hi (F := [b]) (Frm.of_grown (grown_setRow w b cs')) (by simp [blkR]) ((h.blk i hi).setRow cs') (by simp [blkR])

theorem tcount_bd (kind loss k : Int) : 0 ≤ tcount kind loss k ∧ tcount kind loss k ≤ upTo k 48 := by
  have l0 := upTo_ge loss 255 (by decide)
  have l1 := upTo_le loss 255
  have q0 := upTo_ge k 48 (by decide)
  have q1 := upTo_le k 48
  unfold tcount tcnt
  obtain ⟨p0, p1⟩ := prod_in _ _ q0 q1 l0 l1
  split
  · omega
  · split <;> omega

/-- A whole array of 256 numbers. -/
def arr (f : Nat → Int) : Array Value := ((List.range 256).map fun l => Value.int .i64 (f l)).toArray
theorem arr_size (f : Nat → Int) : (arr f).size = 256 := by simp [arr]
theorem arr_one (f : Nat → Int) : (arr f).all (·.oneCell') = true := by
  rw [Array.all_eq_true_iff_forall_mem]
  intro v hv
  simp [arr] at hv
  obtain ⟨l, _, rfl⟩ := hv
  rfl
theorem arr_get (f : Nat → Int) (i : Nat) (h : i < 256) : (arr f)[i]? = some (.int .i64 (f i)) := by
  simp [arr, List.getElem?_range h]
theorem arr_set (f : Nat → Int) (k : Nat) (x : Int) : (arr f).setIfInBounds k (.int .i64 x) = arr (fun l => if l = k then x else f l) := by
  apply Array.ext_getElem?
  intro i
  rw [Array.getElem?_setIfInBounds]
  by_cases hi : i < 256
  · rw [arr_get _ i hi, arr_get _ i hi, arr_size]
    by_cases h : k = i
    · subst h; simp [hi]
    · have h2 : ¬ i = k := fun e => h e.symm
      simp [h, h2]
  · have e : ∀ g : Nat → Int, (arr g)[i]? = none := fun g => Array.getElem?_eq_none (by rw [arr_size]; omega)
    rw [e, e, arr_size]
    by_cases h : k = i
    · rw [if_pos h, if_neg (by omega)]
    · rw [if_neg h]
theorem arr_congr {f g : Nat → Int} (h : ∀ i, i < 256 → f i = g i) : arr f = arr g := by
  unfold arr
  congr 1
  exact List.map_congr_left fun i hi => by rw [h i (List.mem_range.1 hi)]
theorem arr_step (f : Nat → Int) (n : Nat) : arr (fun l => if l = n then f n else if l < n then f l else 0) = arr (fun l => if l < n + 1 then f l else 0) := arr_congr fun i _ => by
  by_cases h : i = n
  · subst h; simp
  · rw [if_neg h]
    by_cases h2 : i < n
    · rw [if_pos h2, if_pos (by omega)]
    · rw [if_neg h2, if_neg (by omega)]
theorem zero256 (w : World) : (zeroValue 26).run Try.prog w = .ok (.agg (arr fun _ => 0)) w := by kernel_rfl
theorem info256 : (Try.prog.info? 26).map (·.size) = some 256 := by kernel_rfl

set_option maxRecDepth 100000 in
set_option maxHeartbeats 4000000 in
theorem row_c (kind k : Int) (w : World) :
    Calls Try.prog 12 #[.int .i64 kind, .int .i64 k] w fun e w' => e = .returned (.agg (arr fun l => tcount kind l k)) ∧ Frm [] w w' := by
  obtain ⟨Z, hZ⟩ : ∃ Z, Z = arr fun _ => 0 := ⟨_, rfl⟩
  have hz := zero256
  rw [← hZ] at hz
  have HZ := Lib.hid hZ
  clear hZ
  go_enter Try.func12, Try.ntmps12
  go_wp2_with fail
  have HS := Lib.hid (((Sep.init w).alloc Z 26).alloc Z 26)
  simp only [World.size_alloc] at HS
  obtain ⟨w1, hw1⟩ : ∃ w1, w1 = (w.alloc (.cells Z 26)).alloc (.cells Z 26) := ⟨_, rfl⟩
  obtain ⟨g, hg⟩ : ∃ g, g = w.heap.size := ⟨_, rfl⟩
  rw [← hw1, ← hg] at HS
  rw [← hw1, ← hg]
  clear hw1 hg hz
  go_loopw [7] (fun i wr => ∃ n : Nat, n ≤ 256 ∧ i = .int .i64 n ∧ Sep [] w wr [blkR (g + 1) 26 (arr fun l => if l < n then tcount kind l k else 0), blkR g 26 Z]) (fun i _ => 256 - (intOf i).toNat)
  case atStart => exact ⟨0, Nat.zero_le _, rfl, by rw [show (arr fun l => if l < 0 then tcount kind l k else 0) = Z from HZ.out ▸ arr_congr (fun i _ => rfl)]; exact HS.out⟩
  case round =>
    obtain ⟨n, hn, rfl, hS⟩ := hrel
    have HS2 := Lib.hid hS
    clear hS
    by_cases hlt : n < 256
    · have cz := (HS2.out.blk 0 rfl).cell n (arr_get _ n hlt)
      have cf := (HS2.out.blk 0 rfl).free n
      have HP := Lib.hid (HS2.out.put 0 rfl n (.int .i64 (tcount kind n k)))
      rw [arr_set, arr_step (fun l => tcount kind l k) n] at HP
      have i0 : (0 : Int) ≤ (n : Int) := by omega
      have i1 : (n : Int) < 256 := by omega
      go_wp2_with fail
      refine (tcount_c kind n k _).mono ?_
      rintro e w' ⟨rfl, rfl⟩
      go_wp2_with fail
      go_roundw
      case rel => exact ⟨n + 1, by omega, by go_num, HP.out⟩
      case measure => simp [intOf]; omega
    · obtain rfl : n = 256 := by omega
      have hfin : (arr fun l => if l < 256 then tcount kind l k else 0) = arr fun l => tcount kind l k := arr_congr (fun i hi => by rw [if_pos hi])
      rw [hfin] at HS2
      clear hfin
      obtain ⟨C, hC⟩ : ∃ C, C = arr fun l => tcount kind l k := ⟨_, rfl⟩
      have hCs : C.size = 256 := by rw [hC]; exact arr_size _
      have hC1 : C.all (·.oneCell') = true := by rw [hC]; exact arr_one _
      have hZs : Z.size = 256 := by rw [HZ.out]; exact arr_size _
      rw [← hC] at HS2
      have HC := Lib.hid hC
      have HCs := Lib.hid (And.intro hCs (And.intro hC1 hZs))
      clear hC hCs hC1 hZs
      go_wp2_with (first | (refine wpList_load_row rfl 26 _ rfl (g + 1) rfl 26 C (0, 0) _ (HS2.out.blk 0 rfl) Try.underlying26 rfl (by rw [HCs.out.1]; exact info256) ?_) | (refine wpList_store_row rfl 26 _ _ rfl g C rfl rfl 26 Z (HS2.out.blk 1 rfl) (by rw [HCs.out.1]; exact info256) (by rw [HCs.out.1, HCs.out.2.2]) HCs.out.2.1 ?_))
      have HS3 := Lib.hid (HS2.out.setRow 1 rfl C)
      exact bodyPost_ret (v := .agg C) (results_cell_row rfl _ _ g 26 C (0, 0) _ rfl (HS3.out.blk 1 rfl) Try.underlying26 rfl (by rw [HCs.out.1]; exact info256)) rfl ⟨by rw [HC.out], HS3.out.frm⟩

set_option maxHeartbeats 1000000 in
theorem cost_c (kind loss k : Int) (w : World) :
    Calls Try.prog 15 #[.int .i64 kind, .int .i64 loss, .int .i64 k] w fun e w' => e = .returned (.int .i64 (if upTo k 48 = 0 then 0 else tcount kind loss k * 100 / upTo k 48)) ∧ w = w' := by
  have q0 := upTo_ge k 48 (by decide)
  have q1 := upTo_le k 48
  have hc : tcount kind loss (upTo k 48) = tcount kind loss k := by
    unfold tcount
    rw [show upTo (upTo k 48) 48 = upTo k 48 from by unfold upTo; omega]
  obtain ⟨q, hq⟩ : ∃ q, q = upTo k 48 := ⟨_, rfl⟩
  rw [← hq] at q0 q1 hc ⊢
  have ht := tcount_bd kind loss k
  obtain ⟨t, ht'⟩ : ∃ t, t = tcount kind loss k := ⟨_, rfl⟩
  rw [← ht'] at ht hc ⊢
  have HQ := Lib.hid hq
  have HC := Lib.hid hc
  obtain ⟨t0, t1⟩ := ht
  have t2 : t ≤ 48 := by omega
  clear hq hc ht'
  by_cases hz : q = 0
  · rw [if_pos hz]
    have hzb : (q == 0) = true := by simp [hz]
    go_enter Try.func15, Try.ntmps15
    go_wp2_with fail
    refine (theld_c _ _ _ (by decide)).mono ?_
    rintro e w' ⟨rfl, rfl⟩
    rw [← HQ.out]
    go_wp2_with fail
    go_ret
    exact ⟨rfl, rfl⟩
  · rw [if_neg hz]
    have hzb : (q == 0) = false := beq_eq_false_iff_ne.2 hz
    have q2 : 1 ≤ q := by omega
    have q3 : q ≠ 0 := hz
    clear hz
    go_enter Try.func15, Try.ntmps15
    go_wp2_with fail
    refine (theld_c _ _ _ (by decide)).mono ?_
    rintro e w' ⟨rfl, rfl⟩
    rw [← HQ.out]
    go_wp2_with fail
    refine (tcount_c kind loss q _).mono ?_
    rintro e w' ⟨rfl, rfl⟩
    rw [HC.out]
    go_wp2_with fail
    go_ret
    exact ⟨rfl, rfl⟩

end Go.Proofs.Ythholboipbfklaa
