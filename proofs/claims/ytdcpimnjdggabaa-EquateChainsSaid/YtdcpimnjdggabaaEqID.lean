/-
  THE WALK of equate's Closure (keys [int]).
-/
import Derived.Test.YtdcpimnjdggabaaEqIC
import Derived.Test.YtdcpimnjdggabaaRq
set_option linter.unusedVariables false
set_option linter.unusedSimpArgs false
namespace Go.Proofs.Ytdcpimnjdggabaa
open Go.RowKit Go.Maps Go.Shelf
attribute [local go_sem] Oper.semAt_some

theorem keys_nextI {base : List Int} {E : List (List Int)} {pre : List (Int × Nat)} {x : Int × Nat} (h : (pre ++ [x]) <+: peel base E) : addU (keysI base pre) x.1 = keysI base (pre ++ [x]) := by
  obtain ⟨t, ht⟩ := h
  have htd := peel_told (base := base) (eqs := E)
  rw [← ht] at htd
  have h1 : x.1 ∉ base := (htd.2 x.1 (by simp)).1
  have h2 : x.1 ∉ pre.map (·.1) := fun hm => by
    have := htd.1
    rw [List.map_append, List.map_append, List.nodup_append, List.nodup_append] at this
    exact this.1.2.2 _ hm _ (by simp) rfl
  unfold addU
  rw [if_neg]
  · unfold keysI; rw [List.map_append, List.append_assoc]; rfl
  · intro hk
    rcases List.mem_append.1 hk with hk | hk
    · have := addAll_mem.1 hk
      simp at this
      exact h1 this
    · exact h2 hk

set_option maxRecDepth 100000 in
set_option maxHeartbeats 4000000 in
theorem closureI_c (ab : Option Addr) (cb : Nat) (base : List Int) (a : Option Addr) (c : Nat) (rs : List (Row Int)) (w : World)
    (hrb : RdV w ab (base.map (Value.int .i64))) (hrr : RdRows (Value.int .i64) w a rs)
    (hl : rs.length ≤ 1000) (hok : ∀ r ∈ rs, r.xs.length ≤ 1000 ∧ ∀ x ∈ r.xs, okI x) (hbl : base.length ≤ 1000) (hbo : ∀ x ∈ base, okI x) (hsum : (rs.map (·.xs)).flatten.length ≤ 100000) :
    Calls Try.prog 12 #[.slice ab base.length cb, .slice a rs.length c] w fun e w' => ∃ m, e = .returned (.map (some m)) ∧ Sep [] w w' [mapR Try.prog 3 m (setKv (Value.int .i64) (keysI base (peel base (rs.map (·.xs)))))] := by
  have HSet := Lib.hid (setI_c ab cb base w hrb (by omega) hbo)
  have HRb := Lib.hid hrb
  have HRr := Lib.hid hrr
  have HOk := Lib.hid hok
  have HBo := Lib.hid hbo
  clear hrb hrr
  obtain ⟨R, hR⟩ : ∃ R, R = peel base (rs.map (·.xs)) := ⟨_, rfl⟩
  have HNx := Lib.hid (show ∀ (pre : List (Int × Nat)) (x : Int × Nat), (pre ++ [x]) <+: R → addU (keysI base pre) x.1 = keysI base (pre ++ [x]) ∧ okI x.1 ∧ (keysI base pre).length < maxLen from fun pre x h => by
    rw [hR] at h
    refine ⟨keys_nextI h, ?_, ?_⟩
    · have hx : x.1 ∈ (rs.map (·.xs)).flatten := (peel_told.2 x.1 (List.mem_map.2 ⟨x, h.subset (by simp), rfl⟩)).2
      obtain ⟨l, hl1, hl2⟩ := List.mem_flatten.1 hx
      obtain ⟨r, hr, rfl⟩ := List.mem_map.1 hl1
      exact (HOk.out r hr).2 _ hl2
    · have h1 := addAll_len ([] : List Int) base
      have h2 := h.length_le
      have h3 := peel_len (base := base) (eqs := rs.map (·.xs))
      unfold keysI maxLen
      simp only [List.length_append, List.length_map, List.length_nil, List.length_cons] at h1 h2 ⊢
      omega)
  rw [← hR]
  have HRe := Lib.hid hR
  clear hR
  refine (callsIn_wide (n := 7)).1 ?_
  refine callsIn_of_wp_marks Try.func12 rfl trivial ?_ rfl
  simp only [Try.ntmps12, List.size_toArray, List.length_cons, List.length_nil, Nat.reduceAdd, Nat.reduceSub, Array.replicate_succ, Array.replicate_zero, List.push_toArray, List.append_toArray, List.nil_append, List.cons_append]
  gi_wp2_with fail
  refine ⟨trivial, (callsIn_wide.2 HSet.out).mono ?_⟩
  rintro e w1 ⟨rfl, hS⟩
  obtain ⟨m, hm⟩ : ∃ m, m = w.heap.size := ⟨_, rfl⟩
  rw [← hm] at hS ⊢
  have HS1 := Lib.hid (hS.alloc #[.map (some m)] 34)
  clear hm hS HSet
  gi_wp2_with fail
  refine ⟨trivial, (callsIn_wide.2 (peelI_c ab base.length cb a rs.length c _)).mono ?_⟩
  rintro e w2 ⟨rfl, rfl⟩
  have HS2 := Lib.hid ((HS1.out.alloc #[.slice ab base.length cb] 22).alloc #[.slice a rs.length c] 23)
  simp only [World.size_alloc] at HS2
  gi_wp2_with fail
  obtain ⟨w2, hw2⟩ : ∃ w2, w2 = ((w1.alloc (.cells #[.map (some m)] 34)).alloc (.cells #[.slice ab base.length cb] 22)).alloc (.cells #[.slice a rs.length c] 23) := ⟨_, rfl⟩
  obtain ⟨o, ho⟩ : ∃ o, o = w1.heap.size := ⟨_, rfl⟩
  rw [← hw2, ← ho] at HS2
  rw [← hw2, ← ho]
  clear hw2 ho HS1
  have hsz := HS2.out.frm.size
  have hseq := peelI_seq 6 (by omega) (o + 1) (o + 1 + 1) ab cb base a c rs w2 hl HOk.out hbl HBo.out hsum
  rw [← HRe.out] at hseq
  have HSq := Lib.hid hseq
  clear hseq hsum
  refine range_f (n := 7) (by omega) (gf := 20) (lb := _) rfl (enters_of Try.func20 (by kernel_rfl) rfl) HSq.out (Below.refl _ _) (fun _ => rfl) (fun _ _ _ _ _ _ h => h) [] (by simp)
    (fun pre F W => Sep [] w W (frgR F W :: [blkR (o + 1 + 1) 23 #[.slice a rs.length c], blkR (o + 1) 22 #[.slice ab base.length cb], blkR o 34 #[.map (some m)], mapR Try.prog 3 m (setKv (Value.int .i64) (keysI base pre))]))
    (fun _ _ _ _ => False) (bears_sep [] _) (fun _ => ⟨fun _ _ _ _ h _ => h, fun _ _ _ _ _ h _ _ _ => h, fun _ _ _ _ _ h _ _ _ => h⟩) ?hQ ?h0 ?round ?done (fun _ _ _ _ _ _ _ _ _ h => h.elim)
  case hQ =>
    intro pre F W hS
    exact ⟨(hS.blk 2 rfl).cell 0 rfl, (hS.blk 1 rfl).cell 0 rfl, HRb.out.below hS.frm.below, HRr.out.below hS.frm.below⟩
  case h0 =>
    rw [show keysI base [] = addAll [] base from by unfold keysI; simp]
    refine (HS2.out.add (r := frgR [] w2) (Frm.refl _ _) (by intro k hk; cases hk) (by simp [frgR]))
  case round =>
    rintro l pre F x W Wb K hS _ hx hK
    have HKx := Lib.hid hK
    have HS := Lib.hid hS
    obtain ⟨hnx, hokx, hlx⟩ := HNx.out _ _ hx
    obtain ⟨kl, hkl⟩ := keyI hokx
    have co := (HS.out.blk 3 rfl).cell 0 rfl
    obtain ⟨w3, hrun, hm3, hg3⟩ := set_store (HS.out.get 4 rfl) injI keyedI Try.underlying34 x.1 hkl hlx
    have hS3 := HS.out.write 4 rfl (F := [m]) (Frm.of_grown hg3) (by simp [mapR]) (r' := mapR Try.prog 3 m (setKv (Value.int .i64) (addU (keysI base pre) x.1))) hm3 (by simp [mapR])
    rw [hnx] at hS3
    have HS3 := Lib.hid hS3
    have HSz := Lib.hid hg3.size
    clear hK hS hnx hokx hlx hkl hm3 hg3 hx hS3
    gi_wp2
    refine HKx.out _ ?_
    clear HKx
    gi_wp2
    exact ⟨kpF_of HSz.out HS3.out, HS3.out.pin⟩
  case done =>
    rintro D xs F W hD hDF _ rfl hS hK
    have HS := Lib.hid hS
    have HK := Lib.hid hK
    have co := (HS.out.blk 3 rfl).cell 0 rfl
    clear hS hK
    gi_wp2
    refine ⟨by simp, .inl ⟨_, _, rfl, run_takeDeferred HK.out, ?_⟩⟩
    refine ⟨_, results_tmp rfl _ _ _, m, rfl, ?_⟩
    have h := (bears_sep (S := []) (w0 := w) [] (fun _ : Unit => [blkR (o + 1 + 1) 23 #[.slice a rs.length c], blkR (o + 1) 22 #[.slice ab base.length cb], blkR o 34 #[.map (some m)], mapR Try.prog 3 m (setKv (Value.int .i64) (keysI base xs))])).put () F W _ D HS.out hDF (by simp) (grownBy_putObj' W D (.deferred none))
    exact h.only 4 rfl

end Go.Proofs.Ytdcpimnjdggabaa
