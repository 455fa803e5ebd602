/-
  slices.Insert at the head, of a row of the call's own.
-/
import Derived.Test.YtekjpkppfcmjdaaLiG
set_option linter.unusedVariables false
set_option linter.unusedSimpArgs false
namespace Go.Proofs.Ytekjpkppfcmjdaa
open Go.RowKit Go.Lib Go.Shelf

theorem RdV.of_blk' {w : World} {b : Nat} {t : TypeId} {vs : List Value} (h : Blk w b t vs.toArray) : RdV w (some ⟨b, 0, none⟩) vs := fun i v hv => ⟨b, 0, rfl, h.lt, by
  rw [Nat.zero_add]
  exact h.cell i (by simpa using hv)⟩
theorem shape_blk {w : World} {b : Nat} {t : TypeId} {cs : Array Value} (h : Blk w b t cs) : w.shape? b = some (t, cs.size) := by
  unfold World.shape?
  rw [show w.heap[b]? = some (.cells cs t (0, 0)) from h]
theorem sets_shift {cs vs ys : List Value} (h : ys.length = cs.length + vs.length) : setsL (setsL ys vs.length cs) 0 vs = vs ++ cs := by
  rw [setsL_eq cs ys vs.length (by omega), setsL_eq _ _ 0 (by simp; omega)]
  have h1 : (ys.take vs.length).length = vs.length := by rw [List.length_take]; omega
  rw [show vs.length + cs.length = ys.length by omega, List.drop_length, List.append_nil, Nat.zero_add, List.drop_append, h1, Nat.sub_self, List.drop_zero, List.drop_of_length_le (by omega)]
  simp
theorem sets_grow {cs vs ys : List Value} (h : ys.length = cs.length + vs.length) : setsL (setsL ys 0 vs) vs.length cs = vs ++ cs := by
  rw [setsL_eq vs ys 0 (by omega)]
  have e : ys.take 0 ++ vs ++ ys.drop (0 + vs.length) = vs ++ ys.drop vs.length := by simp
  rw [e, setsL_eq _ _ _ (by rw [List.length_append, List.length_drop]; omega), List.take_left, List.drop_of_length_le (by rw [List.length_append, List.length_drop]; omega), List.append_nil]
set_option maxHeartbeats 8000000 in
set_option maxRecDepth 100000 in
theorem insert_c {S : List Nat} {w0 w : World} {L : List Res} (v : Value) (n vb d : Nat) (cs vs : List Value) (hS : Sep S w0 w (ownR 28 1 v n cs :: blkR vb 28 vs.toArray :: L)) (hm : 0 < vs.length)
    (h1c : ∀ u ∈ cs, u.oneCell' = true) (h1v : ∀ u ∈ vs, u.oneCell' = true) (hn : n ≤ 1000) (hvn : vs.length ≤ 1000) :
    Calls Try.prog 25 #[v, .int .i64 0, .slice (some ⟨vb, 0, none⟩) vs.length d] w fun e w' => ∃ v', e = .returned v' ∧ Sep S w0 w' (ownR 28 1 v' (n + vs.length) (vs ++ cs) :: blkR vb 28 vs.toArray :: L) := by
  have hbv := hS.blk 1 rfl
  have hcl : cs.length = n := by have := (hS.own 0 rfl).1; simpa using this
  by_cases h0 : n = 0
  · subst h0
    have hc0 : cs = [] := List.eq_nil_of_length_eq_zero hcl
    subst hc0
    obtain ⟨inf, hi, hz0, hz1, hz2⟩ := info_parts info_ys
    obtain ⟨a, c, hv, -, hac⟩ := own_shape (hS.own 0 rfl)
    have HS := Lib.hid hS
    have HR := Lib.hid (RdV.of_blk' hbv)
    have HV := Lib.hid h1v
    have hz3 : ¬ ((vs.length : Int) = 0) := by omega
    obtain ⟨m, hmm⟩ : ∃ m, m = vs.length := ⟨_, rfl⟩
    have HM := Lib.hid hmm
    rw [← hmm] at hz3 hm hvn ⊢
    clear hS hbv hcl h1c h1v hmm
    have hcase : a = none ∧ c = 0 ∨ ∃ g, a = some ⟨g, 0, none⟩ := by
      rcases (HS.out.own 0 rfl).2 with ⟨e1, _⟩ | ⟨g, cap, cur, e1, _⟩
      · rw [hv] at e1; injection e1 with e1 _ e2; exact .inl ⟨e1, e2⟩
      · rw [hv] at e1; injection e1 with e1 _ _; exact .inr ⟨g, e1⟩
    subst hv
    rcases hcase with ⟨rfl, rfl⟩ | ⟨g, rfl⟩
    · go_enter Try.func25, Try.ntmps25
      go_wp2_with (at_builtin; refine wpList_append_vals rfl _ _ 22 rfl 0 28 inf (.slice none 0 0) 24 Try.underlying22 hi hz0 hz1 hz2 rfl _ 0 [] rfl HS.out rfl (some ⟨vb, 0, none⟩) d vs (by rw [← HM.out]; rfl) (fun h => by cases h) HR.out HV.out (by have := HM.out; unfold maxLen; omega) (by have := HM.out; omega) ?_; intro v3 w3 hS3; have HS3 := Lib.hid hS3; clear hS3)
      go_ret
      refine ⟨_, rfl, ?_⟩
      have h : Sep S w0 w3 (ownR 28 1 v3 m vs :: blkR vb 28 vs.toArray :: L) := by
        have h := HS3.out
        rw [← HM.out] at h
        simpa using h
      exact h
    · have hcc : c = 0 ∨ ¬ (c = 0) := by omega
      rcases hcc with hcc | hcc
      all_goals
        go_enter Try.func25, Try.ntmps25
        go_wp2_with (at_builtin; refine wpList_append_vals rfl _ _ 22 rfl 0 28 inf (.slice none 0 0) 24 Try.underlying22 hi hz0 hz1 hz2 rfl _ 0 [] rfl HS.out rfl (some ⟨vb, 0, none⟩) d vs (by rw [← HM.out]; rfl) (fun h => by cases h) HR.out HV.out (by have := HM.out; unfold maxLen; omega) (by have := HM.out; omega) ?_; intro v3 w3 hS3; have HS3 := Lib.hid hS3; clear hS3)
        go_ret
        refine ⟨_, rfl, ?_⟩
        have h : Sep S w0 w3 (ownR 28 1 v3 m vs :: blkR vb 28 vs.toArray :: L) := by
          have h := HS3.out
          rw [← HM.out] at h
          simpa using h
        first | exact h | (rw [List.append_nil, Nat.zero_add]; exact h)
  · obtain ⟨g, c, hv⟩ := ownk_some_addr (hS.own 0 rfl) (by omega)
    subst hv
    obtain ⟨cur, hbc, hnc, hcm, hcs, _⟩ := ownk_blk (hS.own 0 rfl)
    rw [Nat.mul_one] at hcs
    have hvb : vb ≠ g := fun e => by
      have h := (List.pairwise_cons.1 hS.apart).1 (blkR vb 28 vs.toArray) (by simp) g (by simp [ownR, Value.ownBlock])
      exact h (by simp [blkR, e])
    have hvs : ∀ (j : Nat) (u : Value), vs[j]? = some u → w.cell? ⟨vb, j, none⟩ = some u := fun j u hu => hbv.cell j (by simpa using hu)
    by_cases hr : n + vs.length ≤ c
    · refine (ins_shift g n c vb vs.length cs vs w (by omega) hm hr (by unfold maxLen at hcm; omega) hvb hcl rfl (fun j u hu => ownk_cell (hS.own 0 rfl) hu) (fun j hj => ownk_some (hS.own 0 rfl) (by omega)) (fun j => ownk_free (hS.own 0 rfl) j) hvs h1c h1v _ _ _ _ (shape_blk hbv) (shape_blk hbc) (by omega) (fun j => hbv.free j) d).mono ?_
      rintro e w' ⟨rfl, rfl⟩
      refine ⟨_, rfl, ?_⟩
      obtain ⟨ys, hy1, hy2, hS2⟩ := hS.drew.moreOwn 0 rfl (m := n + vs.length) (by omega) hr
      have h3 := (hS2.setsOwn 0 rfl vs.length cs).setsOwn 0 rfl 0 vs
      have e := sets_shift (cs := cs) (vs := vs) (ys := ys) (by omega)
      have h4 : Sep S w0 _ (ownR 28 1 (.slice (some ⟨g, 0, none⟩) (n + vs.length) c) (n + vs.length) (setsL (setsL ys vs.length cs) 0 vs) :: blkR vb 28 vs.toArray :: L) := h3
      rw [e] at h4
      exact h4
    · refine (ins_grow g n c vb vs.length cs vs w (by omega) hm hnc (by omega) (by omega) hcl rfl (fun j u hu => ownk_cell (hS.own 0 rfl) hu) hvs h1c h1v d).mono ?_
      rintro e w' ⟨G, ROW, rfl, hG, hGm, hR, rfl⟩
      refine ⟨_, rfl, ?_⟩
      obtain ⟨ys, hy1, hy2, hS2⟩ := (hS.rest.made 28 1 G ROW hGm hR).moreOwn 0 rfl (m := n + vs.length) (by omega) hG
      have h3 := ((hS2.drew.setsOwn 0 rfl 0 vs).drew).setsOwn 0 rfl vs.length cs
      have e := sets_grow (cs := cs) (vs := vs) (ys := ys) (by omega)
      have h4 : Sep S w0 _ (ownR 28 1 (.slice (some ⟨w.heap.size, 0, none⟩) (n + vs.length) G) (n + vs.length) (setsL (setsL ys 0 vs) vs.length cs) :: blkR vb 28 vs.toArray :: L) := h3
      rw [e] at h4
      exact h4

end Go.Proofs.Ytekjpkppfcmjdaa
