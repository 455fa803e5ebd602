/-
  PLAIN: moved numbers have the same span and mask; a number more is a bit more.
-/
import Derived.Test.YtibccecmicndaaaDoorLaD
set_option linter.unusedVariables false
set_option linter.unusedSimpArgs false
namespace Go.Proofs.YtibccecmicndaaaDoor
open Go.RowKit

def mvL (by_ : Int) (ns : List Int) : List Int := ns.map fun n => (n + by_) % 65536
theorem mv_len (c : Int) (ns : List Int) : (mvL c ns).length = ns.length := by simp [mvL]
theorem mv_in {c : Int} {ns : List Int} {n : Int} (h : n ∈ mvL c ns) : 0 ≤ n ∧ n ≤ 65535 := by
  obtain ⟨x, _, rfl⟩ := List.mem_map.1 h
  omega
theorem ah_mv (n f c : Int) : ah16 ((n + c) % 65536) ((f + c) % 65536) = ah16 n f := by unfold ah16; omega
theorem ah_mod (n f : Int) : ah16 n (f % 65536) = ah16 n f := by unfold ah16; omega
theorem spLow_mv (c f : Int) (l : List Int) : spLow ((f + c) % 65536) (l.map fun n => (n + c) % 65536) = spLow f l := by
  induction l with
  | nil => rfl
  | cons n l ih => simp only [List.map_cons, spLow, ih, ah_mv]
theorem spHigh_mv (c f : Int) (l : List Int) : spHigh ((f + c) % 65536) (l.map fun n => (n + c) % 65536) = spHigh f l := by
  induction l with
  | nil => rfl
  | cons n l ih => simp only [List.map_cons, spHigh, ih, ah_mv]
theorem mv_head (c : Int) (ns : List Int) (h : ns.length ≠ 0) : (mvL c ns).getD 0 0 = (ns.getD 0 0 + c) % 65536 := by
  cases ns with
  | nil => exact absurd rfl h
  | cons n l => rfl
theorem low_mv (c : Int) (ns : List Int) (h : ns.length ≠ 0) (k : Nat) : lowR (mvL c ns) k = lowR ns k := by
  unfold lowR
  rw [mv_head c ns h]
  unfold mvL
  rw [← List.map_take, ← List.map_reverse, spLow_mv]
theorem high_mv (c : Int) (ns : List Int) (h : ns.length ≠ 0) (k : Nat) : highR (mvL c ns) k = highR ns k := by
  unfold highR
  rw [mv_head c ns h]
  unfold mvL
  rw [← List.map_take, ← List.map_reverse, spHigh_mv]
theorem spanN_mv (c : Int) (ns : List Int) : spanN (mvL c ns) = spanN ns := by
  unfold spanN
  rw [mv_len]
  by_cases h : ns.length = 0
  · rw [if_pos h, if_pos h]
  · rw [if_neg h, if_neg h, high_mv c ns h, low_mv c ns h]
theorem spanL_mv (c : Int) (ns : List Int) (h : ns.length ≠ 0) : spanL (mvL c ns) = (spanL ns + c) % 65536 := by
  unfold spanL
  rw [mv_len, if_neg h, if_neg h, low_mv c ns h, mv_head c ns h]
  unfold add16
  omega
theorem ds_mv (c : Int) (ns : List Int) (h : ns.length ≠ 0) : dsL (spanL (mvL c ns)) (mvL c ns) = dsL (spanL ns) ns := by
  rw [spanL_mv c ns h]
  unfold dsL mvL
  rw [List.map_map]
  apply List.map_congr_left
  intro n _
  exact ah_mv _ _ _
theorem fr_mv (c : Int) (ns : List Int) : frE (spanL (mvL c ns)) (mvL c ns) = frE (spanL ns) ns ∧ frH (spanL (mvL c ns)) (mvL c ns) = frH (spanL ns) ns ∧ frL (spanL (mvL c ns)) (mvL c ns) = frL (spanL ns) ns := by
  by_cases h : ns.length = 0
  · have h0 : ns = [] := List.length_eq_zero_iff.1 h
    subst h0
    exact ⟨rfl, rfl, rfl⟩
  · have e : frE (spanL (mvL c ns)) (mvL c ns) = frE (spanL ns) ns := by unfold frE; rw [ds_mv c ns h, mv_len]
    refine ⟨e, ?_, ?_⟩
    · unfold frH; rw [e, ds_mv c ns h]
    · unfold frL; rw [e, ds_mv c ns h]
theorem co_mv (c : Int) (ns : List Int) : coE (mvL c ns) = coE ns ∧ coH (mvL c ns) = coH ns ∧ coL (mvL c ns) = coL ns := by
  obtain ⟨e1, e2, e3⟩ := fr_mv c ns
  unfold coE coH coL
  rw [spanN_mv, e1, e2, e3]
  exact ⟨rfl, rfl, rfl⟩
theorem coE_zero {ns : List Int} (h : coE ns = 0) : ns.length ≠ 0 ∧ frE (spanL ns) ns = 0 ∧ ¬ 109 ≤ spanN ns := by
  unfold coE at h
  split at h
  · exact absurd h (by decide)
  · rename_i hs
    refine ⟨fun h0 => ?_, h, hs⟩
    rw [(frE_none (b := spanL ns) h0).1] at h
    exact absurd h (by decide)
theorem coB_mv {c : Int} {ns : List Int} (h : coE ns = 0) : coB (mvL c ns) = (coB ns + c) % 65536 := by
  have h2 : coE (mvL c ns) = 0 := (co_mv c ns).1.trans h
  unfold coB
  rw [if_pos h, if_pos h2, spanL_mv c ns (coE_zero h).1]
theorem co_none {ns : List Int} (h : coE ns ≠ 0) : coH ns = 0 ∧ coL ns = 0 := by
  unfold coE at h
  unfold coH coL
  split at h
  · rename_i hs; rw [if_pos hs, if_pos hs]; exact ⟨rfl, rfl⟩
  · rename_i hs; rw [if_neg hs, if_neg hs]; exact fr_zero h
/-- What holds of numbers that have a mask. -/
theorem co_ok {ns : List Int} (h : coE ns = 0) : coB ns = spanL ns ∧ coH ns = ofH (dsL (coB ns) ns) ∧ coL ns = ofL (dsL (coB ns) ns) ∧ (∀ d ∈ dsL (coB ns) ns, inS d = true) ∧ (dsL (coB ns) ns).Nodup := by
  obtain ⟨h0, h1, h2⟩ := coE_zero h
  have hb : coB ns = spanL ns := if_pos h
  rw [hb]
  have hH : coH ns = frH (spanL ns) ns := if_neg h2
  have hL : coL ns = frL (spanL ns) ns := if_neg h2
  have hall : ∀ d ∈ dsL (spanL ns) ns, inS d = true := by
    cases hs : (dsL (spanL ns) ns).all inS with
    | true => exact fun d hd => List.all_eq_true.1 hs d hd
    | false =>
      have h3 : frE (spanL ns) ns = 31 := if_pos hs
      rw [h1] at h3
      exact absurd h3 (by decide)
  refine ⟨rfl, by rw [hH]; exact if_pos h1, by rw [hL]; exact if_pos h1, hall, ?_⟩
  cases ht : twB (dsL (spanL ns) ns) with
  | true =>
    have h3 := ((frE_in hall h0).1 ht).1
    rw [h1] at h3
    exact absurd h3 (by decide)
  | false =>
    unfold twB at ht
    simpa using ht
theorem bits_count {D : List Int} (hD : D.Nodup) (hin : ∀ d ∈ D, inS d = true) : cnt (ofH D) 64 + cnt (ofL D) 64 = D.length := by
  rw [← count_len]
  have hp : ((bitsOf (ofH D) (ofL D)).map fun x : Nat => (x : Int)).Perm D := by
    rw [List.perm_ext_iff_of_nodup (List.Pairwise.map (fun x : Nat => (x : Int)) (fun a b (h : a ≠ b) e => h (Int.ofNat.inj e)) (bitsOf_nodup _ _)) hD]
    intro d
    rw [List.mem_map]
    constructor
    · rintro ⟨x, hx, rfl⟩
      obtain ⟨h1, h2⟩ := bitsOf_mem.1 hx
      rw [bt_of D x h1] at h2
      exact of_decide_eq_true h2
    · intro hd
      have h3 := of_decide_eq_true (hin d hd)
      refine ⟨d.toNat, bitsOf_mem.2 ⟨by omega, ?_⟩, by omega⟩
      rw [bt_of D _ (by omega), show ((d.toNat : Nat) : Int) = d by omega]
      exact decide_eq_true hd
  have := hp.length_eq
  rw [List.length_map] at this
  exact this
theorem ds_snoc (b : Int) (ns : List Int) (n : Int) : dsL b (ns ++ [n]) = dsL b ns ++ [ah16 n b] := by unfold dsL; rw [List.map_append]; rfl
theorem ah_bit {b k : Int} (k0 : 0 ≤ k) (k1 : k < 128) : ah16 ((b + k) % 65536) b = k := by unfold ah16; omega
/-- A number more, by its distance k. -/
theorem fr_more {b k : Int} {ns : List Int} (k0 : 0 ≤ k) (k1 : k < 128) (hin : ∀ d ∈ dsL b ns, inS d = true) (hd : (dsL b ns).Nodup) :
    (109 ≤ k → frE b (ns ++ [(b + k) % 65536]) = 31) ∧ (k < 109 → k ∈ dsL b ns → frE b (ns ++ [(b + k) % 65536]) = 5) ∧
    (k < 109 → k ∉ dsL b ns → frE b (ns ++ [(b + k) % 65536]) = 0 ∧ frH b (ns ++ [(b + k) % 65536]) = ofH (dsL b ns) ||| bH k ∧ frL b (ns ++ [(b + k) % 65536]) = ofL (dsL b ns) ||| bL k ∧ cnt (ofH (dsL b ns) ||| bH k) 64 + cnt (ofL (dsL b ns) ||| bL k) 64 = ns.length + 1) := by
  have hds : dsL b (ns ++ [(b + k) % 65536]) = dsL b ns ++ [k] := by rw [ds_snoc, ah_bit k0 k1]
  have hl : (ns ++ [(b + k) % 65536]).length ≠ 0 := by simp
  refine ⟨fun h => ?_, fun h hm => ?_, fun h hm => ?_⟩
  · refine (frE_out ⟨k, by rw [hds]; simp, ?_⟩).1
    unfold inS
    exact decide_eq_false (by omega)
  · have hall : ∀ d ∈ dsL b (ns ++ [(b + k) % 65536]), inS d = true := fun d hd' => by
      rw [hds] at hd'
      rcases List.mem_append.1 hd' with h1 | h1
      · exact hin d h1
      · rw [List.mem_singleton.1 h1]; exact decide_eq_true (by omega)
    refine ((frE_in hall hl).1 ?_).1
    rw [hds, twB_snoc]
    simp [hm]
  · have hall : ∀ d ∈ dsL b (ns ++ [(b + k) % 65536]), inS d = true := fun d hd' => by
      rw [hds] at hd'
      rcases List.mem_append.1 hd' with h1 | h1
      · exact hin d h1
      · rw [List.mem_singleton.1 h1]; exact decide_eq_true (by omega)
    have ht : twB (dsL b (ns ++ [(b + k) % 65536])) = false := by
      rw [hds, twB_snoc]
      unfold twB
      simp [hm, hd]
    obtain ⟨e1, e2, e3⟩ := (frE_in hall hl).2 ht
    refine ⟨e1, by rw [e2, hds, ofH_snoc], by rw [e3, hds, ofL_snoc], ?_⟩
    have hnd : (dsL b ns ++ [k]).Nodup := by
      unfold twB at ht
      rw [hds] at ht
      simpa using ht
    have := bits_count hnd (fun d hd' => hall d (by rw [hds]; exact hd'))
    rw [ofH_snoc, ofL_snoc, List.length_append, ds_len] at this
    exact this
theorem has_ds {D : List Int} {k : Nat} (hk : k < 128) : (decide (k < 128) && bt (ofH D) (ofL D) k) = decide ((k : Int) ∈ D) := by
  rw [decide_eq_true hk, Bool.true_and, bt_of D k hk]

end Go.Proofs.YtibccecmicndaaaDoor
