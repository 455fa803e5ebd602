/-
  THE WALK of equate's Closure (keys [string]).
-/
import Derived.Test.YtdcpimnjdggabaaEqSC
import Derived.Test.YtdcpimnjdggabaaRq
set_option linter.unusedVariables false
set_option linter.unusedSimpArgs false
namespace Go.Proofs.Ytdcpimnjdggabaa
open Go.RowKit Go.Maps Go.Shelf
attribute [local go_sem] Oper.semAt_some

theorem keys_nextS {base : List ByteArray} {E : List (List ByteArray)} {pre : List (ByteArray × Nat)} {x : ByteArray × Nat} (h : (pre ++ [x]) <+: peel base E) : addU (keysS base pre) x.1 = keysS base (pre ++ [x]) := by
  obtain ⟨t, ht⟩ := h
  have htd := peel_told (base := base) (eqs := E)
  rw [← ht] at htd
  have h1 : x.1 ∉ base := (htd.2 x.1 (by simp)).1
  have h2 : x.1 ∉ pre.map (·.1) := fun hm => by
    have := htd.1
    rw [List.map_append, List.map_append, List.nodup_append, List.nodup_append] at this
    exact this.1.2.2 _ hm _ (by simp) rfl
  unfold addU
  rw [if_neg]
  · unfold keysS; rw [List.map_append, List.append_assoc]; rfl
  · intro hk
    rcases List.mem_append.1 hk with hk | hk
    · have := addAll_mem.1 hk
      simp at this
      exact h1 this
    · exact h2 hk

set_option maxRecDepth 100000 in
set_option maxHeartbeats 4000000 in
theorem closureS_c (ab : Option Addr) (cb : Nat) (base : List ByteArray) (a : Option Addr) (c : Nat) (rs : List (Row ByteArray)) (w : World)
    (hrb : RdV w ab (base.map Value.string)) (hrr : RdRows Value.string w a rs)
    (hl : rs.length ≤ 1000) (hok : ∀ r ∈ rs, r.xs.length ≤ 1000 ∧ ∀ x ∈ r.xs, okS x) (hbl : base.length ≤ 1000) (hbo : ∀ x ∈ base, okS x) (hsum : (rs.map (·.xs)).flatten.length ≤ 100000) :
    Calls Try.prog 19 #[.slice ab base.length cb, .slice a rs.length c] w fun e w' => ∃ m, e = .returned (.map (some m)) ∧ Sep [] w w' [mapR Try.prog 9 m (setKv Value.string (keysS base (peel base (rs.map (·.xs)))))] := by
  have HSet := Lib.hid (setS_c ab cb base w hrb (by omega) hbo)
  have HRb := Lib.hid hrb
  have HRr := Lib.hid hrr
  have HOk := Lib.hid hok
  have HBo := Lib.hid hbo
  clear hrb hrr
  obtain ⟨R, hR⟩ : ∃ R, R = peel base (rs.map (·.xs)) := ⟨_, rfl⟩
  have HNx := Lib.hid (show ∀ (pre : List (ByteArray × Nat)) (x : ByteArray × Nat), (pre ++ [x]) <+: R → addU (keysS base pre) x.1 = keysS base (pre ++ [x]) ∧ okS x.1 ∧ (keysS base pre).length < maxLen from fun pre x h => by
    rw [hR] at h
    refine ⟨keys_nextS h, ?_, ?_⟩
    · have hx : x.1 ∈ (rs.map (·.xs)).flatten := (peel_told.2 x.1 (List.mem_map.2 ⟨x, h.subset (by simp), rfl⟩)).2
      obtain ⟨l, hl1, hl2⟩ := List.mem_flatten.1 hx
      obtain ⟨r, hr, rfl⟩ := List.mem_map.1 hl1
      exact (HOk.out r hr).2 _ hl2
    · have h1 := addAll_len ([] : List ByteArray) base
      have h2 := h.length_le
      have h3 := peel_len (base := base) (eqs := rs.map (·.xs))
      unfold keysS maxLen
      simp only [List.length_append, List.length_map, List.length_nil, List.length_cons] at h1 h2 ⊢
      omega)
  rw [← hR]
  have HRe := Lib.hid hR
  clear hR
  refine (callsIn_wide (n := 7)).1 ?_
  refine callsIn_of_wp_marks Try.func19 rfl trivial ?_ rfl
  simp only [Try.ntmps19, List.size_toArray, List.length_cons, List.length_nil, Nat.reduceAdd, Nat.reduceSub, Array.replicate_succ, Array.replicate_zero, List.push_toArray, List.append_toArray, List.nil_append, List.cons_append]
  gi_wp2_with fail
  refine ⟨trivial, (callsIn_wide.2 HSet.out).mono ?_⟩
  rintro e w1 ⟨rfl, hS⟩
  obtain ⟨m, hm⟩ : ∃ m, m = w.heap.size := ⟨_, rfl⟩
  rw [← hm] at hS ⊢
  have HS1 := Lib.hid (hS.alloc #[.map (some m)] 44)
  clear hm hS HSet
  gi_wp2_with fail
  refine ⟨trivial, (callsIn_wide.2 (peelS_c ab base.length cb a rs.length c _)).mono ?_⟩
  rintro e w2 ⟨rfl, rfl⟩
  have HS2 := Lib.hid ((HS1.out.alloc #[.slice ab base.length cb] 46).alloc #[.slice a rs.length c] 47)
  simp only [World.size_alloc] at HS2
  gi_wp2_with fail
  obtain ⟨w2, hw2⟩ : ∃ w2, w2 = ((w1.alloc (.cells #[.map (some m)] 44)).alloc (.cells #[.slice ab base.length cb] 46)).alloc (.cells #[.slice a rs.length c] 47) := ⟨_, rfl⟩
  obtain ⟨o, ho⟩ : ∃ o, o = w1.heap.size := ⟨_, rfl⟩
  rw [← hw2, ← ho] at HS2
  rw [← hw2, ← ho]
  clear hw2 ho HS1
  have hsz := HS2.out.frm.size
  have hseq := peelS_seq 6 (by omega) (o + 1) (o + 1 + 1) ab cb base a c rs w2 hl HOk.out hbl HBo.out hsum
  rw [← HRe.out] at hseq
  have HSq := Lib.hid hseq
  clear hseq hsum
  refine range_f (n := 7) (by omega) (gf := 27) (lb := _) rfl (enters_of Try.func27 (by kernel_rfl) rfl) HSq.out (Below.refl _ _) (fun _ => rfl) (fun _ _ _ _ _ _ h => h) [] (by simp)
    (fun pre F W => Sep [] w W (frgR F W :: [blkR (o + 1 + 1) 47 #[.slice a rs.length c], blkR (o + 1) 46 #[.slice ab base.length cb], blkR o 44 #[.map (some m)], mapR Try.prog 9 m (setKv Value.string (keysS base pre))]))
    (fun _ _ _ _ => False) (bears_sep [] _) (fun _ => ⟨fun _ _ _ _ h _ => h, fun _ _ _ _ _ h _ _ _ => h, fun _ _ _ _ _ h _ _ _ => h⟩) ?hQ ?h0 ?round ?done (fun _ _ _ _ _ _ _ _ _ h => h.elim)
  case hQ =>
    intro pre F W hS
    exact ⟨(hS.blk 2 rfl).cell 0 rfl, (hS.blk 1 rfl).cell 0 rfl, HRb.out.below hS.frm.below, HRr.out.below hS.frm.below⟩
  case h0 =>
    rw [show keysS base [] = addAll [] base from by unfold keysS; simp]
    refine (HS2.out.add (r := frgR [] w2) (Frm.refl _ _) (by intro k hk; cases hk) (by simp [frgR]))
  case round =>
    rintro l pre F x W Wb K hS _ hx hK
    have HKx := Lib.hid hK
    have HS := Lib.hid hS
    obtain ⟨hnx, hokx, hlx⟩ := HNx.out _ _ hx
    obtain ⟨kl, hkl⟩ := keyS hokx
    have co := (HS.out.blk 3 rfl).cell 0 rfl
    obtain ⟨w3, hrun, hm3, hg3⟩ := set_store (HS.out.get 4 rfl) injS keyedS Try.underlying44 x.1 hkl hlx
    have hS3 := HS.out.write 4 rfl (F := [m]) (Frm.of_grown hg3) (by simp [mapR]) (r' := mapR Try.prog 9 m (setKv Value.string (addU (keysS base pre) x.1))) hm3 (by simp [mapR])
    rw [hnx] at hS3
    have HS3 := Lib.hid hS3
    have HSz := Lib.hid hg3.size
    clear hK hS hnx hokx hlx hkl hm3 hg3 hx hS3
    gi_wp2
    refine HKx.out _ ?_
    clear HKx
    gi_wp2
    exact ⟨kpF_of HSz.out HS3.out, HS3.out.pin⟩
  case done =>
    rintro D xs F W hD hDF _ rfl hS hK
    have HS := Lib.hid hS
    have HK := Lib.hid hK
    have co := (HS.out.blk 3 rfl).cell 0 rfl
    clear hS hK
    gi_wp2
    refine ⟨by simp, .inl ⟨_, _, rfl, run_takeDeferred HK.out, ?_⟩⟩
    refine ⟨_, results_tmp rfl _ _ _, m, rfl, ?_⟩
    have h := (bears_sep (S := []) (w0 := w) [] (fun _ : Unit => [blkR (o + 1 + 1) 47 #[.slice a rs.length c], blkR (o + 1) 46 #[.slice ab base.length cb], blkR o 44 #[.map (some m)], mapR Try.prog 9 m (setKv Value.string (keysS base xs))])).put () F W _ D HS.out hDF (by simp) (grownBy_putObj' W D (.deferred none))
    exact h.only 4 rfl

end Go.Proofs.Ytdcpimnjdggabaa
