/-
  THE WALK of slices.Insert at the head.
-/
import Derived.Test.YtekjpkppfcmjdaaLiF
import Derived.Test.YtekjpkppfcmjdaaVal
import Derived.Shelf.Spec.SlicesInsertGrow
set_option linter.unusedVariables false
set_option linter.unusedSimpArgs false
namespace Go.Proofs.Ytekjpkppfcmjdaa
open Go.RowKit Go.Lib Go.Shelf

set_option maxHeartbeats 8000000 in
set_option maxRecDepth 100000 in
theorem ins_shift (g n c vb m : Nat) (cs vs : List Value) (w : World) (hn : 0 < n) (hm : 0 < m) (hroom : n + m ≤ c) (hc63 : c ≤ 9223372036854775807) (hvb : vb ≠ g) (hcl : cs.length = n) (hvl : vs.length = m)
    (hcs : ∀ j v, cs[j]? = some v → w.cell? ⟨g, j, none⟩ = some v) (hsp : ∀ j, j < n + m → (w.cell? ⟨g, j, none⟩).isSome = true) (hfz : ∀ j, w.frozen? ⟨g, j, none⟩ = false)
    (hvs : ∀ j v, vs[j]? = some v → w.cell? ⟨vb, j, none⟩ = some v) (h1c : ∀ v ∈ cs, v.oneCell' = true) (h1v : ∀ v ∈ vs, v.oneCell' = true)
    (tA tB : TypeId) (kA kB : Nat) (hsa : w.shape? vb = some (tA, kA)) (hsb : w.shape? g = some (tB, kB)) (hkB : kB ≠ 0) (hfa : ∀ j, w.frozen? ⟨vb, j, none⟩ = false) (d : Nat) :
    Calls Try.prog 25 #[.slice (some ⟨g, 0, none⟩) n c, .int .i64 0, .slice (some ⟨vb, 0, none⟩) m d] w fun e w' =>
      e = .returned (.slice (some ⟨g, 0, none⟩) (n + m) c) ∧ w' = (w.drew.setCells g m cs).setCells g 0 vs := by
  have hz1 : ¬ ((m : Int) = 0) := by omega
  have hz2 : ¬ ((0 : Int) = (n : Int)) := by omega
  have hz3 : ¬ ((n : Int) = 0) := by omega
  have t3 : decide ((c : Int) < (n : Int) + (m : Int)) = false := decide_eq_false (by omega)
  have hw1 : IntKind.i64.wrap ((n : Int) + (m : Int)) = (n : Int) + (m : Int) := IntWalk.i64_in _ (by omega)
  have mixed : Try.prog.follows Departure.mixedOrders = true := by kernel_rfl
  have hw2 : IntKind.i64.wrap (m : Int) = (m : Int) := IntWalk.i64_in _ (by omega)
  have hb2 : ¬ (c = m) := by omega
  have hb3 : (m : Int) ≤ (n : Int) + (m : Int) := by omega
  have hb4 : (0 : Int) ≤ (n : Int) + (m : Int) := by omega
  have hb5 : ¬ (c = 0) := by omega
  have hsz : (Try.prog.info? 28).map (·.size) = some 1 := by
    obtain ⟨i0, hi0, h0, h1, h2⟩ := info_parts info_ys
    rw [hi0]; simp [h1]
  have hov : ∀ x lb cb, (callFunc 30 #[.slice (some ⟨vb, 0, none⟩) m d, .slice (some ⟨g, x, none⟩) lb cb]).run Try.prog w = .ok (.value (.bool false)) w := fun x lb cb => by
    rw [run_callFunc_extern Try.func30 (by kernel_rfl) (by kernel_rfl) (by kernel_rfl) (e := Extern.SlicesOverlaps.overlaps #[22, 22] #[4]) (by kernel_rfl),
      Lib.run_overlaps_apart w 22 4 28 Try.underlying22 1 (fun w => by rfl) ⟨vb, 0, none⟩ ⟨g, x, none⟩ m d lb cb hvb tA tB kA kB hsa hsb hkB (hfa 0) (hfa kA)]
    rfl
  have hcp1 : ∀ ty dc sc, (Builtin.copy_ #[22, 22] ty #[.slice (some ⟨g, m, none⟩) n dc, .slice (some ⟨g, 0, none⟩) (n + m) sc]).run Try.prog w.drew = .ok (goInt cs.length) (w.drew.setCells g m cs) := fun ty dc sc =>
    run_copy_cells w.drew _ _ ty 28 g m n dc ⟨g, 0, none⟩ (n + m) sc cs Try.underlying22 hsz (by rw [hcl]; simp only [Nat.min_def]; split <;> omega)
      (fun j v hj => by rw [Addr.add_lit, Nat.zero_add]; exact hcs j v hj)
      (fun j hj => hsp _ (by omega)) (fun j hj => hfz _) h1c
  obtain ⟨W1, hW1⟩ : ∃ W1, W1 = w.drew.setCells g m cs := ⟨_, rfl⟩
  have hsp1 : ∀ k, k < n + m → (W1.cell? ⟨g, k, none⟩).isSome = true := fun k hk => by
    rw [hW1]
    exact isSome_setCells g cs m w.drew (fun j hj => hsp _ (by omega)) k (hsp k hk)
  have hcp2 : ∀ (W : World), (∀ x, W.cell? x = W1.cell? x) → (∀ x, W.frozen? x = W1.frozen? x) → ∀ ty dc, (Builtin.copy_ #[22, 22] ty #[.slice (some ⟨g, 0, none⟩) (n + m) dc, .slice (some ⟨vb, 0, none⟩) m d]).run Try.prog W = .ok (goInt vs.length) (W.setCells g 0 vs) := fun W hWc hWf ty dc =>
    run_copy_cells W _ _ ty 28 g 0 (n + m) dc ⟨vb, 0, none⟩ m d vs Try.underlying22 hsz (by rw [hvl]; simp only [Nat.min_def]; split <;> omega)
      (fun j v hj => by
        rw [Addr.add_lit, Nat.zero_add, hWc, hW1, World.cell?_setCells_out g _ _ _ _ (fun h _ => absurd h hvb)]
        exact hvs j v hj)
      (fun j hj => by rw [hWc, Nat.zero_add]; exact hsp1 _ (by omega)) (fun j hj => by rw [hWf, hW1, World.frozen?_setCells, Nat.zero_add]; exact hfz _) h1v
  rw [← hW1] at hcp1 ⊢
  go_enter Try.func25, Try.ntmps25
  go_upto_region 14 with fail
  go_upto_region 15 with (simp only [hov])
  go_region_law_o (refine step_copy_runI rfl _ _ 22 22 rfl (.slice (some ⟨g, m, none⟩) n (c - m)) (.slice (some ⟨g, 0, none⟩) (n + m) c) (by simp [Act.eval, Act.put]) (by simp [Act.eval, Act.put]) (hcp1 _ _ _) ?_)
  go_wp2_with (at_builtin; refine wpList_copy_runI _ rfl _ _ 22 22 rfl _ _ rfl rfl (hcp2 _ (fun _ => rfl) (fun _ => rfl) _ _) ?_)
  go_ret
  first | exact ⟨rfl, rfl⟩ | exact ⟨rfl, by rw [hW1]⟩

set_option maxHeartbeats 8000000 in
set_option maxRecDepth 100000 in
theorem ins_grow (g n c vb m : Nat) (cs vs : List Value) (w : World) (hn : 0 < n) (hm : 0 < m) (hnc : n ≤ c) (hroom : c < n + m) (hbig : (n + m) * 24 ≤ 140737488355328) (hcl : cs.length = n) (hvl : vs.length = m)
    (hcs : ∀ j v, cs[j]? = some v → w.cell? ⟨g, j, none⟩ = some v) (hvs : ∀ j v, vs[j]? = some v → w.cell? ⟨vb, j, none⟩ = some v) (h1c : ∀ v ∈ cs, v.oneCell' = true) (h1v : ∀ v ∈ vs, v.oneCell' = true) (d : Nat) :
    Calls Try.prog 25 #[.slice (some ⟨g, 0, none⟩) n c, .int .i64 0, .slice (some ⟨vb, 0, none⟩) m d] w fun e w' => ∃ (G : Nat) (ROW : Array Value),
      e = .returned (.slice (some ⟨w.heap.size, 0, none⟩) (n + m) G) ∧ n + m ≤ G ∧ G ≤ maxLen ∧ ROW.size = G * 1 ∧
      w' = (((w.alloc (.cells ROW 28)).drew.setCells w.heap.size 0 vs).drew).setCells w.heap.size m cs := by
  have mixed : Try.prog.follows Departure.mixedOrders = true := by kernel_rfl
  obtain ⟨i0, hi0, hz0, hzs, hzb⟩ := info_parts info_ys
  have hz1 : ¬ ((m : Int) = 0) := by omega
  have hz2 : ¬ ((0 : Int) = (n : Int)) := by omega
  have hz4 : ¬ ((n : Int) = 0) := by omega
  have hz3 : (c : Int) < (n : Int) + (m : Int) := by omega
  have t3 : decide ((c : Int) < (n : Int) + (m : Int)) = true := decide_eq_true hz3
  have hw1 : IntKind.i64.wrap ((n : Int) + (m : Int)) = (n : Int) + (m : Int) := IntWalk.i64_in _ (by omega)
  have hw2 : IntKind.i64.wrap (m : Int) = (m : Int) := IntWalk.i64_in _ (by omega)
  have hsz : (Try.prog.info? 28).map (·.size) = some 1 := by rw [hi0]; simp [hzs]
  have hbw : g < w.heap.size := block_lt_of_cell (hcs 0 _ (List.getElem?_eq_getElem (by omega)))
  have hvw : vb < w.heap.size := block_lt_of_cell (hvs 0 _ (List.getElem?_eq_getElem (by omega)))
  have hold : (Builtin.firstCells i0.size 0 (.slice (some ⟨g, 0, none⟩) 0 c)).run Try.prog w.drew = .ok ([] : List Value).toArray w.drew := by
    rw [hzs]
    exact run_firstCells_some w.drew 1 0 ⟨g, 0, none⟩ 0 c [] rfl (fun j v hj => by cases hj)
  have hrz : ∀ ty, (Builtin.append_ #[22, 3] ty #[.slice (some ⟨g, 0, none⟩) 0 c, .int .i64 ((n : Int) + (m : Int))]).run Try.prog w =
      .ok (.slice (some ⟨w.heap.size, 0, none⟩) (n + m) (grownCap w (n + m) c 28)) (w.drew.alloc (.cells (([] : List Value).toArray ++ Builtin.zeroCells (Value.slice none 0 0).cells (n + m) ++ Builtin.zeroCells (Value.slice none 0 0).cells (grownCap w (n + m) c 28 - (n + m))) 28)) := fun ty => by
    have h := Lib.run_append_grow_zeros w 22 3 ty 28 i0 _ .i64 .i64 Try.underlying22 Try.underlying3 hi0 hz0 (some ⟨g, 0, none⟩) 0 c [] hold (n + m) (by omega) (by omega) (by omega) (by omega) (by rw [hzb]; omega) (by rw [hzb, Nat.zero_add]; exact growslice_fits hroom hbig)
    rw [Nat.zero_add] at h
    rw [show (n : Int) + (m : Int) = ((n + m : Nat) : Int) by omega]
    exact h
  have hGn : n + m ≤ grownCap w (n + m) c 28 := grownCap_ge w _ _ _
  have hG63 : grownCap w (n + m) c 28 ≤ maxLen := grownCap_le_maxLen w (n + m) c 28 (by unfold maxLen; omega)
  obtain ⟨G, hG⟩ : ∃ G, G = grownCap w (n + m) c 28 := ⟨_, rfl⟩
  rw [← hG] at hrz hGn hG63
  obtain ⟨ROW, hROW⟩ : ∃ ROW : Array Value, ROW = ([] : List Value).toArray ++ Builtin.zeroCells (Value.slice none 0 0).cells (n + m) ++ Builtin.zeroCells (Value.slice none 0 0).cells (G - (n + m)) := ⟨_, rfl⟩
  rw [← hROW] at hrz
  have hRs : ROW.size = G := by
    rw [hROW]
    simp [Builtin.zeroCells, Value.cells]
    omega
  have hGm : G ≤ 9223372036854775807 := by unfold maxLen at hG63; omega
  obtain ⟨W1, hW1⟩ : ∃ W1, W1 = w.drew.alloc (.cells ROW 28) := ⟨_, rfl⟩
  rw [← hW1] at hrz
  have hN : ∀ j, j < n + m → (W1.cell? ⟨w.heap.size, j, none⟩).isSome = true := fun j hj => by
    rw [hW1, World.cell?_alloc_at (w := w.drew) ROW _ w.heap.size j rfl, Array.getElem?_eq_getElem (by omega)]; rfl
  have hNf : ∀ j, W1.frozen? ⟨w.heap.size, j, none⟩ = false := fun j => by rw [hW1]; exact World.frozen?_alloc_at (w := w.drew) ROW _ w.heap.size j rfl
  have hOb : ∀ j v, w.cell? ⟨g, j, none⟩ = some v → W1.cell? ⟨g, j, none⟩ = some v := fun j v h => by rw [hW1, World.cell?_alloc_past (w := w.drew) _ g j hbw]; exact h
  have hOv : ∀ j v, w.cell? ⟨vb, j, none⟩ = some v → W1.cell? ⟨vb, j, none⟩ = some v := fun j v h => by rw [hW1, World.cell?_alloc_past (w := w.drew) _ vb j hvw]; exact h
  have hcpA : ∀ (W : World), (∀ x, W.cell? x = W1.cell? x) → (∀ x, W.frozen? x = W1.frozen? x) → ∀ ty dc, (Builtin.copy_ #[22, 22] ty #[.slice (some ⟨w.heap.size, 0, none⟩) (n + m) dc, .slice (some ⟨vb, 0, none⟩) m d]).run Try.prog W = .ok (goInt vs.length) (W.setCells w.heap.size 0 vs) := fun W hWc hWf ty dc =>
    run_copy_cells W _ _ ty 28 w.heap.size 0 (n + m) dc ⟨vb, 0, none⟩ m d vs Try.underlying22 hsz (by rw [hvl]; simp only [Nat.min_def]; split <;> omega)
      (fun j v hj => by rw [Addr.add_lit, Nat.zero_add, hWc]; exact hOv _ v (hvs j v hj))
      (fun j hj => by rw [hWc, Nat.zero_add]; exact hN _ (by omega)) (fun j hj => by rw [hWf]; exact hNf _) h1v
  have hGi : ¬ (G = 0) := by omega
  have hGim : ¬ (G = m) := by omega
  have hci : ¬ (c = 0) := by omega
  have hbN : g ≠ w.heap.size := by omega
  have hcpB : ∀ (W : World), (∀ x, W.cell? x = (W1.setCells w.heap.size 0 vs).cell? x) → (∀ x, W.frozen? x = (W1.setCells w.heap.size 0 vs).frozen? x) → ∀ ty dc sc, (Builtin.copy_ #[22, 22] ty #[.slice (some ⟨w.heap.size, m, none⟩) n dc, .slice (some ⟨g, 0, none⟩) n sc]).run Try.prog W = .ok (goInt cs.length) (W.setCells w.heap.size m cs) := fun W hWc hWf ty dc sc =>
    run_copy_cells W _ _ ty 28 w.heap.size m n dc ⟨g, 0, none⟩ n sc cs Try.underlying22 hsz (by rw [hcl]; simp only [Nat.min_def]; split <;> omega)
      (fun j v hj => by
        rw [Addr.add_lit, hWc, World.cell?_setCells_out _ _ _ _ _ (fun h _ => absurd h hbN), Nat.zero_add]
        exact hOb _ v (hcs j v hj))
      (fun j hj => by rw [hWc]; exact isSome_setCells w.heap.size vs 0 W1 (fun t ht => by rw [Nat.zero_add]; exact hN _ (by omega)) _ (hN _ (by omega)))
      (fun j hj => by rw [hWf, World.frozen?_setCells]; exact hNf _) h1c
  subst hW1
  have hE1 : ∀ x, ((w.alloc (.cells ROW 28)).drew).cell? x = (w.drew.alloc (.cells ROW 28)).cell? x := fun x => rfl
  have hE2 : ∀ x, ((w.alloc (.cells ROW 28)).drew).frozen? x = (w.drew.alloc (.cells ROW 28)).frozen? x := fun x => rfl
  have hF1 : ∀ x, (((w.alloc (.cells ROW 28)).drew.setCells w.heap.size 0 vs).drew).cell? x = ((w.drew.alloc (.cells ROW 28)).setCells w.heap.size 0 vs).cell? x := fun x => rfl
  have hF2 : ∀ x, (((w.alloc (.cells ROW 28)).drew.setCells w.heap.size 0 vs).drew).frozen? x = ((w.drew.alloc (.cells ROW 28)).setCells w.heap.size 0 vs).frozen? x := fun x => rfl
  have hb3 : (0 : Int) ≤ (n : Int) := by omega
  have hb4 : (0 : Int) ≤ (n : Int) + (m : Int) := by omega
  have hb5 : (m : Int) ≤ (n : Int) + (m : Int) := by omega
  clear hold hROW hG
  go_enter Try.func25, Try.ntmps25
  go_wp2_with (first
    | (at_builtin; refine Lib.wpList_append_run _ rfl _ _ _ _ rfl _ _ rfl rfl _ _ (hrz _) ?_)
    | (at_builtin; refine wpList_copy_runI _ rfl _ _ 22 22 rfl _ _ rfl rfl (hcpA _ hE1 hE2 _ _) ?_)
    | (at_builtin; refine wpList_copy_runI _ rfl _ _ 22 22 rfl _ _ rfl rfl (hcpB _ (fun _ => rfl) (fun _ => rfl) _ _ _) ?_))
  go_region_law_o (refine step_copy_runI rfl _ _ 22 22 rfl (.slice (some ⟨w.heap.size, m, none⟩) n (G - m)) (.slice (some ⟨g, 0, none⟩) n c) (by simp [Act.eval, Act.put]) (by simp [Act.eval, Act.put]) (hcpB _ hF1 hF2 _ _ _) ?_)
  go_wp2
  go_ret
  exact ⟨G, ROW, rfl, hGn, hG63, by rw [Nat.mul_one]; exact hRs, rfl⟩

end Go.Proofs.Ytekjpkppfcmjdaa
