/-
  ROWS OF THE CALL'S OWN, of elements of k cells: cells read, stored, cleared; a row cut short. No program is named here.
-/
import Derived.Test.YtekjpkppfcmjdaaSep
import Derived.Laws.IdiomCopy
import Derived.Laws.Externs
set_option linter.unusedVariables false
set_option linter.unusedSimpArgs false
namespace Go.Proofs.Ytekjpkppfcmjdaa
open Go.RowKit

section
variable {w : World} {e : TypeId} {k g n c : Nat} {xs : List Value}
theorem ownk_blk (h : w.ownsRow 0 e k (.slice (some ⟨g, 0, none⟩) n c) n xs) : ∃ cur : Array Value, Blk w g e cur ∧ n ≤ c ∧ c ≤ maxLen ∧ cur.size = c * k ∧ cur.toList.take (n * k) = xs := by
  rcases h.2 with ⟨he, _⟩ | ⟨g2, cap, cur, hv, _, hh, hc, hm, hs, ht⟩
  · cases he
  · injection hv with h1 _ h3
    injection h1 with h1
    injection h1 with h1 _ _
    subst h1; subst h3
    exact ⟨cur, hh, hc, hm, hs, ht⟩
theorem ownk_of {cur : Array Value} (hb : Blk w g e cur) (hc : n ≤ c) (hm : c ≤ maxLen) (hs : cur.size = c * k) (ht : cur.toList.take (n * k) = xs) : w.ownsRow 0 e k (.slice (some ⟨g, 0, none⟩) n c) n xs := by
  refine ⟨?_, .inr ⟨g, c, cur, rfl, Nat.zero_le _, hb, hc, hm, hs, ht⟩⟩
  rw [← ht, List.length_take, Array.length_toList, hs]
  exact Nat.min_eq_left (Nat.mul_le_mul_right _ hc)
theorem ownk_cell (h : w.ownsRow 0 e k (.slice (some ⟨g, 0, none⟩) n c) n xs) {j : Nat} {v : Value} (hv : xs[j]? = some v) : w.cell? ⟨g, j, none⟩ = some v := by
  obtain ⟨cur, hb, _, _, _, ht⟩ := ownk_blk h
  refine hb.cell j ?_
  rw [← ht, List.getElem?_take] at hv
  split at hv
  · rw [← Array.getElem?_toList]; exact hv
  · cases hv
theorem ownk_free (h : w.ownsRow 0 e k (.slice (some ⟨g, 0, none⟩) n c) n xs) (j : Nat) : w.frozen? ⟨g, j, none⟩ = false := by
  obtain ⟨cur, hb, _⟩ := ownk_blk h
  exact hb.free j
theorem ownk_some (h : w.ownsRow 0 e k (.slice (some ⟨g, 0, none⟩) n c) n xs) {j : Nat} (hj : j < c * k) : (w.cell? ⟨g, j, none⟩).isSome = true := by
  obtain ⟨cur, hb, _, _, hs, _⟩ := ownk_blk h
  have hlt : j < cur.size := by omega
  rw [hb.cell j (Array.getElem?_eq_getElem hlt)]
  rfl
theorem ownk_set (h : w.ownsRow 0 e k (.slice (some ⟨g, 0, none⟩) n c) n xs) (j : Nat) (u : Value) : (w.setCell ⟨g, j, none⟩ u).ownsRow 0 e k (.slice (some ⟨g, 0, none⟩) n c) n (xs.set j u) := by
  obtain ⟨cur, hb, hc, hm, hs, ht⟩ := ownk_blk h
  exact ownk_of (hb.put j u) hc hm (by rw [Array.size_setIfInBounds]; exact hs) (by rw [Array.toList_setIfInBounds, List.take_set, ht])
theorem ownk_sets : ∀ (vs : List Value) (o : Nat) (w : World), w.ownsRow 0 e k (.slice (some ⟨g, 0, none⟩) n c) n xs → xs.length ≤ o → (w.setCells g o vs).ownsRow 0 e k (.slice (some ⟨g, 0, none⟩) n c) n xs
  | [], _, _, h, _ => h
  | v :: r, o, w, h, ho => by
    have h1 := ownk_set h o v
    rw [List.set_eq_of_length_le ho] at h1
    exact ownk_sets r (o + 1) _ h1 (by omega)
theorem ownk_cut (h : w.ownsRow 0 e k (.slice (some ⟨g, 0, none⟩) n c) n xs) {i : Nat} (hi : i ≤ n) : w.ownsRow 0 e k (.slice (some ⟨g, 0, none⟩) i c) i (xs.take (i * k)) := by
  obtain ⟨cur, hb, hc, hm, hs, ht⟩ := ownk_blk h
  refine ownk_of hb (by omega) hm hs ?_
  rw [← ht, List.take_take, Nat.min_eq_left (Nat.mul_le_mul_right _ hi)]
theorem ownk_some_addr {v : Value} (h : w.ownsRow 0 e k v n xs) (hn : 0 < n) : ∃ g c, v = .slice (some ⟨g, 0, none⟩) n c := by
  rcases h.2 with ⟨_, h0⟩ | ⟨g, cap, cur, hv, _⟩
  · omega
  · exact ⟨g, cap, hv⟩
theorem frm_setCells (g : Nat) : ∀ (vs : List Value) (o : Nat) (w : World), Frm [g] w (w.setCells g o vs)
  | [], _, w => Frm.refl _ _
  | v :: r, o, w => ((Frm.refl [g] w).put (g := g) (.inl (by simp)) o none v).trans (frm_setCells g r (o + 1) _)
end
theorem Sep.setOwn {S : List Nat} {w0 w : World} {L : List Res} (h : Sep S w0 w L) (i : Nat) {e : TypeId} {k g n c : Nat} {xs : List Value} (hi : L[i]? = some (ownR e k (.slice (some ⟨g, 0, none⟩) n c) n xs)) (j : Nat) (u : Value) :
    Sep S w0 (w.setCell ⟨g, j, none⟩ u) (L.set i (ownR e k (.slice (some ⟨g, 0, none⟩) n c) n (xs.set j u))) :=
  h.write i hi (F := [g]) ((Frm.refl [g] w).put (.inl (by simp)) j none u) (fun q hq => by simp at hq; subst hq; simp [ownR, Value.ownBlock]) (ownk_set (h.own i hi) j u) (fun q hq => .inl hq)
theorem Sep.clearOwn {S : List Nat} {w0 w : World} {L : List Res} (h : Sep S w0 w L) (i : Nat) {e : TypeId} {k g n c m : Nat} {xs : List Value} (hi : L[i]? = some (ownR e k (.slice (some ⟨g, 0, none⟩) n c) n xs)) (hm : m ≤ n) (vs : List Value) :
    Sep S w0 (w.setCells g (m * k) vs) (L.set i (ownR e k (.slice (some ⟨g, 0, none⟩) m c) m (xs.take (m * k)))) :=
  h.write i hi (F := [g]) (frm_setCells g vs _ w) (fun q hq => by simp at hq; subst hq; simp [ownR, Value.ownBlock]) (ownk_sets vs _ _ (ownk_cut (h.own i hi) hm) (by rw [List.length_take]; omega)) (fun q hq => .inl hq)
theorem Sep.cutOwn {S : List Nat} {w0 w : World} {L : List Res} (h : Sep S w0 w L) (i : Nat) {e : TypeId} {k g n c m : Nat} {xs : List Value} (hi : L[i]? = some (ownR e k (.slice (some ⟨g, 0, none⟩) n c) n xs)) (hm : m ≤ n) :
    Sep S w0 w (L.set i (ownR e k (.slice (some ⟨g, 0, none⟩) m c) m (xs.take (m * k)))) := h.clearOwn i hi hm []
/-- 'clear(s)' for the walk, its run known by an equation. -/
theorem wpList_clear_run {P : Program} (w : World) {ops : Array Oper} {rest : List Oper} {o : Oper} {a : Act} {Q : Exit → Act → World → Prop} (hgd : o.guard = none) (s : Operand) (t : TypeId)
    (ho : o.op = .call { callee := .builtin .clear, args := #[s], argTypes := #[t] }) (v : Value) (hs : a.eval s = v) {v' : Value} {w' : World}
    (hr : (Builtin.clear_ #[t] o.type #[v]).run P w = .ok v' w') (h : wpList P ops Q rest (a.put o.dst v') w') : wpList P ops Q (o :: rest) a w := by
  refine wpList_plain hgd fun _ hK => ?_
  unfold Oper.wp execOp
  simp only [ho, resolve, invoke, builtin, Sem.run_bind, Sem.run_pure, Result.andThen_ok, List.map_toArray, List.map_cons, List.map_nil, hs, hr]
  exact hK _ _ h
theorem zeroCells_ok {z : Array Value} (h : ∀ v ∈ z.toList, v.oneCell' = true) (n : Nat) : (Builtin.zeroCells z n).toList.length = n * z.size ∧ ∀ v ∈ (Builtin.zeroCells z n).toList, v.oneCell' = true := by
  refine ⟨by simp [Builtin.zeroCells], fun v hv => ?_⟩
  simp only [Builtin.zeroCells, Array.toList_map, List.mem_map] at hv
  obtain ⟨i, hi, rfl⟩ := hv
  have hi' : i < n * z.size := by simpa using hi
  have hpos : 0 < z.size := by
    rcases Nat.eq_zero_or_pos z.size with h0 | h0
    · rw [h0] at hi'; omega
    · exact h0
  have hlt : i % z.size < z.size := Nat.mod_lt _ hpos
  rw [getElem!_pos z _ hlt]
  exact h _ (by simp)
/-- 'clear' of a slice's rest. -/
theorem run_clear_own {P : Program} {w : World} {t e ty : TypeId} {z : Value} {k g o m c : Nat} (ht : P.underlying t = some (.slice e)) (hz : ∀ w, (zeroValue e).run P w = .ok z w) (hk : z.cells.size = k) (h1 : ∀ v ∈ z.cells.toList, v.oneCell' = true)
    (hc : ∀ j, j < m * k → (w.cell? ⟨g, o + j, none⟩).isSome = true) (hf : ∀ j, j < m * k → w.frozen? ⟨g, o + j, none⟩ = false) (hm : 0 < m) :
    ∃ vs : List Value, (Builtin.clear_ #[t] ty #[.slice (some ⟨g, o, none⟩) m c]).run P w = .ok (.tuple #[]) (w.setCells g o vs) := by
  obtain ⟨l1, l2⟩ := zeroCells_ok h1 m
  rw [hk] at l1
  have hst := run_storeCells_cells (P := P) g o (Builtin.zeroCells z.cells m).toList 0 w (by rw [l1]; simpa using hc) (by rw [l1]; simpa using hf) l2
  refine ⟨(Builtin.zeroCells z.cells m).toList, ?_⟩
  simp only [Nat.add_zero] at hst
  obtain ⟨m', rfl⟩ : ∃ m', m = m' + 1 := ⟨m - 1, by omega⟩
  simp [Builtin.clear_, run_underlying ht, hz, hst]

def setsL {α : Type} : List α → Nat → List α → List α
  | xs, _, [] => xs
  | xs, o, v :: r => setsL (xs.set o v) (o + 1) r
theorem setsL_eq {α : Type} : ∀ (vs xs : List α) (o : Nat), o + vs.length ≤ xs.length → setsL xs o vs = xs.take o ++ vs ++ xs.drop (o + vs.length)
  | [], xs, o, _ => by simp [setsL]
  | v :: r, xs, o, h => by
    rw [List.length_cons] at h
    have hl : o < xs.length := by omega
    rw [setsL, setsL_eq r (xs.set o v) (o + 1) (by rw [List.length_set]; omega)]
    rw [List.take_add_one, List.getElem?_set_self hl, List.take_set_of_le (Nat.le_refl _), List.drop_set_of_lt (by omega), List.length_cons, show o + 1 + r.length = o + (r.length + 1) by omega]
    simp
theorem ownk_setsL {e : TypeId} {k g n c : Nat} : ∀ (vs : List Value) (o : Nat) (xs : List Value) (w : World), w.ownsRow 0 e k (.slice (some ⟨g, 0, none⟩) n c) n xs → (w.setCells g o vs).ownsRow 0 e k (.slice (some ⟨g, 0, none⟩) n c) n (setsL xs o vs)
  | [], _, _, _, h => h
  | v :: r, o, xs, w, h => ownk_setsL r (o + 1) _ _ (ownk_set h o v)
theorem ownk_more {w : World} {e : TypeId} {k g n c m : Nat} {xs : List Value} (h : w.ownsRow 0 e k (.slice (some ⟨g, 0, none⟩) n c) n xs) (hm : n ≤ m) (hc : m ≤ c) :
    ∃ ys, ys.take (n * k) = xs ∧ ys.length = m * k ∧ w.ownsRow 0 e k (.slice (some ⟨g, 0, none⟩) m c) m ys := by
  obtain ⟨cur, hb, _, hcm, hs, ht⟩ := ownk_blk h
  have ho := ownk_of (n := m) (xs := cur.toList.take (m * k)) hb hc hcm hs rfl
  exact ⟨_, by rw [List.take_take, Nat.min_eq_left (Nat.mul_le_mul_right _ hm), ht], ho.1, ho⟩
theorem Sep.setsOwn {S : List Nat} {w0 w : World} {L : List Res} (h : Sep S w0 w L) (i : Nat) {e : TypeId} {k g n c : Nat} {xs : List Value} (hi : L[i]? = some (ownR e k (.slice (some ⟨g, 0, none⟩) n c) n xs)) (o : Nat) (vs : List Value) :
    Sep S w0 (w.setCells g o vs) (L.set i (ownR e k (.slice (some ⟨g, 0, none⟩) n c) n (setsL xs o vs))) :=
  h.write i hi (F := [g]) (frm_setCells g vs o w) (fun q hq => by simp at hq; subst hq; simp [ownR, Value.ownBlock]) (ownk_setsL vs o xs w (h.own i hi)) (fun q hq => .inl hq)
/-- A row of which more is taken into the slice. -/
theorem Sep.moreOwn {S : List Nat} {w0 w : World} {L : List Res} (h : Sep S w0 w L) (i : Nat) {e : TypeId} {k g n c m : Nat} {xs : List Value} (hi : L[i]? = some (ownR e k (.slice (some ⟨g, 0, none⟩) n c) n xs)) (hm : n ≤ m) (hc : m ≤ c) :
    ∃ ys, ys.take (n * k) = xs ∧ ys.length = m * k ∧ Sep S w0 w (L.set i (ownR e k (.slice (some ⟨g, 0, none⟩) m c) m ys)) := by
  obtain ⟨ys, h1, h2, h3⟩ := ownk_more (h.own i hi) hm hc
  exact ⟨ys, h1, h2, h.write i hi (F := []) (Frm.refl _ _) (fun q hq => by cases hq) h3 (fun q hq => .inl hq)⟩

end Go.Proofs.Ytekjpkppfcmjdaa
