/-
  ROWS OF ROWS, the call's own: many things as one; a slice of slices that the call made.
-/
import Derived.Test.YtmdjdhbnigppcaaStJ
set_option linter.unusedVariables false
set_option linter.unusedSimpArgs false
namespace Go.Proofs.Ytmdjdhbnigppcaa
open Go.RowKit Go.Shelf

theorem Sep.perm {S : List Nat} {w0 w : World} {L L' : List Res} (h : Sep S w0 w L) (hp : L.Perm L') : Sep S w0 w L' :=
  ⟨h.frm, fun r hr => h.holds r (hp.mem_iff.2 hr), (hp.pairwise_iff (fun hxy k hk hk' => hxy k hk' hk)).1 h.apart, fun r hr => h.mine r (hp.mem_iff.2 hr)⟩
/-- Many things as one. -/
def manyR (rs : List Res) : Res :=
  ⟨rs.flatMap Res.bl, fun w => ∀ r ∈ rs, r.P w, fun w w' h hp r hr => r.stays w w' (fun k hk => h k (List.mem_flatMap.2 ⟨r, hr, hk⟩)) (hp r hr),
   fun w hp k hk => by
      obtain ⟨r, hr, hk'⟩ := List.mem_flatMap.1 hk
      exact r.lies w (hp r hr) k hk'⟩
theorem Sep.none {S : List Nat} {w0 w : World} {L : List Res} (h : Sep S w0 w L) : Sep S w0 w (manyR [] :: L) :=
  h.add (Frm.refl _ _) (fun r hr => by simp at hr) (by simp [manyR])
theorem Sep.many {S : List Nat} {w0 w w' : World} {L : List Res} (h : Sep S w0 w L) (i : Nat) {rs : List Res} {r : Res} (hi : L[i]? = some (manyR rs)) (k : Sep [] w w' [r]) : Sep S w0 w' (L.set i (manyR (rs ++ [r]))) :=
  h.write i hi k.frm (by simp) (r' := manyR (rs ++ [r])) (fun q hq => by
    rcases List.mem_append.1 hq with hq | hq
    · exact ((manyR rs).stays w w' (fun g hg => k.frm.block g ((manyR rs).lies w (h.get i hi) g hg) (by simp)) (h.get i hi)) q hq
    · simp at hq; subst hq; exact k.holds _ (by simp)) (fun g hg => by
    obtain ⟨q, hq, hg'⟩ := List.mem_flatMap.1 hg
    rcases List.mem_append.1 hq with hq | hq
    · exact .inl (List.mem_flatMap.2 ⟨q, hq, hg'⟩)
    · simp at hq; subst hq
      rcases k.mine _ (by simp) g hg' with h1 | h1
      · simp at h1
      · exact .inr h1)
theorem own_cell {w : World} {e : TypeId} {v : Value} {n : Nat} {xs : List Value} (h : w.ownsRow 0 e 1 v n xs) : ∃ a c, v = .slice a n c ∧ n = xs.length ∧ ∀ i x, xs[i]? = some x → ∃ b off, a = some ⟨b, off, none⟩ ∧ b < w.heap.size ∧ w.cell? ⟨b, off + i, none⟩ = some x := by
  have hn : xs.length = n := by have := h.1; simpa using this
  rcases h.2 with ⟨rfl, h0⟩ | ⟨g, cap, cur, rfl, hb, hh, hc, _⟩
  · subst h0
    exact ⟨none, 0, rfl, hn.symm, fun i x hx => by rw [List.eq_nil_of_length_eq_zero hn] at hx; simp at hx⟩
  · refine ⟨_, cap, rfl, hn.symm, fun i x hx => ⟨g, 0, rfl, (Array.getElem?_eq_some_iff.1 hh).1, ?_⟩⟩
    have := h.cells (g := g) rfl i x hx
    have hadd : (⟨g, 0, none⟩ : Addr).add i = ⟨g, 0 + i, none⟩ := by unfold Addr.add; split <;> simp_all
    rw [hadd] at this
    exact this
def copyR (m : Bs) : Res := sumR m.val m.zs
theorem copy_rd {w : World} {m : Bs} (h : (copyR m).P w) : RdI .u8 w m.a m.zs := by
  obtain ⟨a, c, hv, _, hr⟩ := RdI.of_own h
  unfold Bs.val at hv
  injection hv with h1 _ _
  rw [h1]
  exact hr
theorem rows_of {w : World} {v : Value} {n : Nat} {ms : List Bs} (ho : w.ownsRow 0 25 1 v n (ms.map Bs.val)) (hm : (manyR (ms.map copyR)).P w) (hfit : ∀ m ∈ ms, m.fit) : ∃ a c, v = .slice a ms.length c ∧ RdRows w a ms := by
  obtain ⟨a, c, rfl, hn, hc⟩ := own_cell ho
  rw [List.length_map] at hn
  refine ⟨a, c, by rw [hn], fun i x hx => ⟨hc i x.val (by simp [hx]), copy_rd (hm _ (List.mem_map.2 ⟨x, List.mem_of_getElem? hx, rfl⟩)), hfit x (List.mem_of_getElem? hx)⟩⟩
theorem info_row : (Try.prog.info? 25).map (fun i => (i.zero, i.size, i.bytes)) = some (some (.slice none 0 0), 1, 24) := by kernel_rfl
theorem zs_snoc {xs ms : List Bs} {k : Nat} {x m : Bs} (h : ms.map Bs.zs = (xs.take k).map Bs.zs) (hx : xs[k]? = some x) (hm : m.zs = x.zs) : (ms ++ [m]).map Bs.zs = (xs.take (k + 1)).map Bs.zs := by
  rw [List.take_add_one, hx, List.map_append, List.map_append, h]
  simp [hm]

end Go.Proofs.Ytmdjdhbnigppcaa
