/-
  SLICES OF ROWS, OWNED AND READ: append of whatever slice to one of the call's own; a row of the call's own, read. No program is named here.
-/
import Derived.Test.YtekjpkppfcmjdaaMks
import Derived.Test.YtekjpkppfcmjdaaOs
import Derived.Laws.AppendOwnNone
import Derived.Deep.Upon
set_option linter.unusedVariables false
set_option linter.unusedSimpArgs false
namespace Go.Proofs.Ytekjpkppfcmjdaa
open Go.RowKit

theorem flatten_at {size : Nat} {rows : List (List Value)} (hr : ∀ r ∈ rows, r.length = size) {i j : Nat} {row : List Value} {v : Value} (hi : rows[i]? = some row) (hj : row[j]? = some v) : rows.flatten[i * size + j]? = some v := by
  induction rows generalizing i with
  | nil => simp at hi
  | cons r rows ih =>
    have hrl := hr r (by simp)
    cases i with
    | zero =>
      simp at hi
      subst hi
      have hjl : j < r.length := (List.getElem?_eq_some_iff.1 hj).1
      rw [List.flatten_cons, Nat.zero_mul, Nat.zero_add, List.getElem?_append_left hjl]
      exact hj
    | succ i =>
      simp at hi
      have := ih (fun s hs => hr s (by simp [hs])) hi
      rw [List.flatten_cons, List.getElem?_append_right (by rw [hrl, Nat.succ_mul]; omega), hrl, show (i + 1) * size + j - size = i * size + j from by rw [Nat.succ_mul]; omega]
      exact this
theorem flatten_length {size : Nat} {rows : List (List Value)} (hr : ∀ r ∈ rows, r.length = size) : rows.flatten.length = rows.length * size := by
  induction rows with
  | nil => simp
  | cons r rows ih =>
    rw [List.flatten_cons, List.length_append, ih (fun s hs => hr s (by simp [hs])), hr r (by simp), List.length_cons, Nat.succ_mul]
    omega
theorem flatten_back {size : Nat} (hs : 0 < size) {rows : List (List Value)} (hr : ∀ r ∈ rows, r.length = size) {k : Nat} {v : Value} (hk : rows.flatten[k]? = some v) : ∃ row, rows[k / size]? = some row ∧ row[k % size]? = some v := by
  have hlt : k < rows.length * size := by rw [← flatten_length hr]; exact (List.getElem?_eq_some_iff.1 hk).1
  have hi : k / size < rows.length := Nat.div_lt_of_lt_mul (by rw [Nat.mul_comm]; exact hlt)
  have hrow : rows[k / size]? = some rows[k / size] := List.getElem?_eq_getElem hi
  have hl := hr _ (List.getElem_mem hi)
  have hj : k % size < (rows[k / size]).length := by rw [hl]; exact Nat.mod_lt _ hs
  have hv : (rows[k / size])[k % size]? = some (rows[k / size])[k % size] := List.getElem?_eq_getElem hj
  have := flatten_at hr hrow hv
  rw [Nat.div_add_mod'] at this
  rw [this] at hk
  exact ⟨_, hrow, by rw [hv]; exact hk⟩
theorem add_addr (b off i : Nat) : (⟨b, off, none⟩ : Addr).add i = ⟨b, off + i, none⟩ := by unfold Addr.add; split <;> simp_all

/-- A row of the call's own, as a slice that reads as rows. -/
theorem RdS.of_own {w : World} {base e size : Nat} {v : Value} {n : Nat} {rows : List (List Value)} (h : w.ownsRow base e size v n rows.flatten) (hr : ∀ r ∈ rows, r.length = size) (hs : 0 < size) (hn : n = rows.length) :
    ∃ a cap, v = .slice a rows.length cap ∧ rows.length ≤ cap ∧ cap ≤ maxLen ∧ (a = none → cap = 0) ∧ RdS size w a rows ∧ ∀ p, a = some p → p.block < w.heap.size := by
  subst hn
  rcases h.2 with ⟨rfl, h0⟩ | ⟨g, cap, cur, rfl, hb, hh, hc, hm, _⟩
  · have this : rows.length = 0 := h0
    have : rows = [] := List.eq_nil_of_length_eq_zero this
    subst this
    exact ⟨none, 0, rfl, Nat.le_refl _, Nat.zero_le _, fun _ => rfl, (fun i row hi => by simp at hi), (fun p hp => by cases hp)⟩
  · refine ⟨_, cap, rfl, hc, hm, (fun hn => by cases hn), fun i row hi => ⟨g, 0, rfl, (Array.getElem?_eq_some_iff.1 hh).1, fun j u hj => ?_⟩, fun p hp => by injection hp with hp; subst hp; exact (Array.getElem?_eq_some_iff.1 hh).1⟩
    have := h.cells (g := g) rfl (i * size + j) u (flatten_at hr hi hj)
    rw [add_addr] at this
    rw [Nat.add_assoc]
    exact this

/-- A slice of rows as a thing. -/
def rowsR (n : Nat) (a : Option Addr) (rows : List (List Value)) : Res :=
  ⟨match a with | some p => [p.block] | none => [], fun w => RdS n w a rows ∧ ∀ p, a = some p → p.block < w.heap.size,
   fun w w' h hp => by
     refine ⟨fun i row hi => ?_, fun p hpa => ?_⟩
     · obtain ⟨b, off, ha, hb, hc⟩ := hp.1 i row hi
       subst ha
       have hk := h b (by simp)
       refine ⟨b, off, rfl, ?_, fun j v hv => (World.cell?_of_block (w := w) hk).trans (hc j v hv)⟩
       have := (Array.getElem?_eq_some_iff.1 (hk.trans (Array.getElem?_eq_getElem hb))).1
       exact this
     · subst hpa
       have hk := h p.block (by simp)
       exact (Array.getElem?_eq_some_iff.1 (hk.trans (Array.getElem?_eq_getElem (hp.2 p rfl)))).1,
   fun w hp k hk => by
     cases a with
     | none => simp at hk
     | some p => simp at hk; subst hk; exact hp.2 p rfl⟩

section
variable {P : Program} {w : World}

/-- 'append(s, xs...)', s the call's own, xs whatever slice of rows. -/
theorem wp_append_rows {o : Oper} {a : Act} {K : Act → World → Prop} {Q : Exit → Act → World → Prop} (s x : Operand) (t : TypeId)
    (ho : o.op = .call { callee := .builtin .append, args := #[s, x], argTypes := #[t, t] })
    (e : TypeId) (i : TypeInfo) (z : Value) (size bytes : Nat) (ht : P.underlying t = some (.slice e)) (hi : P.info? e = some i) (hz : i.zero = some z)
    (hsize : i.size = size) (hby : i.bytes = bytes) (hzs : z.cells.size = size) (hsz : 0 < size)
    (v : Value) (n : Nat) (xs : List Value) (hs : a.eval s = v) (hown : w.ownsRow 0 e size v n xs)
    (ad : Option Addr) (c : Nat) (rows : List (List Value)) (hx : a.eval x = .slice ad rows.length c) (hc : ad = none → c = 0) (hr : ∀ r ∈ rows, r.length = size) (hrd : RdS size w ad rows) (h1 : ∀ r ∈ rows, ∀ u ∈ r, u.oneCell' = true)
    (h63 : n + rows.length ≤ maxLen) (hbytes : (n + rows.length) * bytes ≤ 140737488355328)
    (h : ∀ v' w', w'.ownsRow 0 e size v' (n + rows.length) (xs ++ rows.flatten) → w.grownBy w' v.ownBlock → (v'.ownBlock = v.ownBlock ∨ v'.ownBlock = some w.heap.size) → K (a.put o.dst v') w') : o.wp P a w K Q := by
  cases ad with
  | none =>
    have hrows : rows = [] := by
      cases rows with
      | nil => rfl
      | cons r rows => obtain ⟨b, off, ha, _⟩ := hrd 0 r rfl; cases ha
    subst hrows
    have hc0 := hc rfl
    subst hc0
    have hrun := run_append_owned_none (P := P) (w := w) 0 t o.type e i size ht hi v n xs hown
    unfold Oper.wp
    simp at hx
    simp [execOp, ho, resolve, invoke, builtin, hs, hx, hrun, Result.andThen]
    exact h v w (by simpa using hown) (grown_refl _ _) (.inl rfl)
  | some p =>
    obtain ⟨b, off, spot⟩ := p
    have hnews : ∀ j u, rows.flatten[j]? = some u → w.cell? ((⟨b, off, spot⟩ : Addr).add j) = some u := fun j u hj => by
      obtain ⟨row, h2, h3⟩ := flatten_back hsz hr hj
      obtain ⟨b', off', ha, hb, hcell⟩ := hrd _ row h2
      injection ha with ha
      injection ha with ha1 ha2 ha3
      subst ha1 ha2 ha3
      rw [add_addr]
      have := hcell _ u h3
      rw [Nat.add_assoc, Nat.div_add_mod'] at this
      exact this
    have h1' : ∀ u ∈ rows.flatten, u.oneCell' = true := fun u hu => by
      obtain ⟨r, hr1, hr2⟩ := List.mem_flatten.1 hu
      exact h1 r hr1 u hr2
    obtain ⟨v', w', hrun, h2, h3, h4, h5⟩ := run_append_own_at (P := P) w 0 t o.type e i z size bytes ht hi hz hsize hby hzs hsz v n xs hown ⟨b, off, spot⟩ rows.length c rows.flatten (flatten_length hr) hnews h1' h63 hbytes (Nat.zero_le _)
    unfold Oper.wp execOp
    simp only [ho, resolve, invoke, builtin, Sem.run_bind, Sem.run_pure, Result.andThen_ok, List.map_toArray, List.map_cons, List.map_nil, hs, hx, hrun]
    exact h v' w' h2 h3 h5
end

theorem RdI.rows {k : IntKind} {w : World} {a : Option Addr} {zs : List Int} (h : RdI k w a zs) : RdS 1 w a (zs.map fun z => [Value.int k z]) := fun i row hi => by
  rw [List.getElem?_map] at hi
  cases hz : zs[i]? with
  | none => rw [hz] at hi; simp at hi
  | some x =>
    rw [hz] at hi
    simp at hi
    subst hi
    obtain ⟨b, off, ha, hb, hc⟩ := h i x hz
    refine ⟨b, off, ha, hb, fun j v hj => ?_⟩
    cases j with
    | zero => simp at hj; subst hj; rw [Nat.mul_one, Nat.add_zero]; exact hc
    | succ j => simp at hj
theorem flatten_ints (k : IntKind) (zs : List Int) : (zs.map fun z => [Value.int k z]).flatten = zs.map (Value.int k) := by
  induction zs with
  | nil => rfl
  | cons z zs ih => simp [ih]
/-- 'append(s, xs...)' of integers, s the call's own, xs whatever slice; s among the call's own things. -/
theorem wpList_append_ints {P : Program} {S : List Nat} {w0 w : World} {L : List Res} {ops : Array Oper} {rest : List Oper} {o : Oper} {a : Act} {Q : Exit → Act → World → Prop} (hgd : o.guard = none) (s x : Operand) (t : TypeId)
    (ho : o.op = .call { callee := .builtin .append, args := #[s, x], argTypes := #[t, t] }) (i : Nat)
    (e : TypeId) (inf : TypeInfo) (z : Value) (bytes : Nat) (ht : P.underlying t = some (.slice e)) (hi : P.info? e = some inf) (hz : inf.zero = some z)
    (hsize : inf.size = 1) (hby : inf.bytes = bytes) (hzs : z.cells.size = 1) (k : IntKind)
    (v : Value) (n : Nat) (xs : List Value) (hs : a.eval s = v) (hS : Sep S w0 w L) (hL : L[i]? = some (ownR e 1 v n xs))
    (ad : Option Addr) (c : Nat) (zs : List Int) (hx : a.eval x = .slice ad zs.length c) (hc : ad = none → c = 0) (hrd : RdI k w ad zs)
    (h63 : n + zs.length ≤ maxLen) (hbytes : (n + zs.length) * bytes ≤ 140737488355328)
    (h : ∀ v' w', Sep S w0 w' (L.set i (ownR e 1 v' (n + zs.length) (xs ++ zs.map (Value.int k)))) → wpList P ops Q rest (a.put o.dst v') w') : wpList P ops Q (o :: rest) a w := by
  refine wpList_plain hgd fun K hK => ?_
  have hl : (zs.map fun z => [Value.int k z]).length = zs.length := List.length_map _
  refine wp_append_rows (P := P) s x t ho e inf z 1 bytes ht hi hz hsize hby hzs (by decide) v n xs hs (hS.own i hL) ad c (zs.map fun z => [Value.int k z]) (by rw [hl]; exact hx) hc (fun r hr => by obtain ⟨z, _, rfl⟩ := List.mem_map.1 hr; rfl) hrd.rows (fun r hr u hu => by obtain ⟨z, _, rfl⟩ := List.mem_map.1 hr; simp at hu; subst hu; rfl) (by rw [hl]; exact h63) (by rw [hl]; exact hbytes) ?_
  intro v' w' h2 h3 h4
  rw [hl, flatten_ints] at h2
  exact hK _ _ (h v' w' (hS.grow i hL h3 h2 h4))

section
variable {P : Program} {w : World}
/-- 'append([]T{}, xs...)': the new row, in new memory. -/
theorem wp_append_fresh {o : Oper} {a : Act} {K : Act → World → Prop} {Q : Exit → Act → World → Prop} (s x : Operand) (t : TypeId)
    (ho : o.op = .call { callee := .builtin .append, args := #[s, x], argTypes := #[t, t] })
    (e : TypeId) (i : TypeInfo) (z : Value) (size bytes : Nat) (ht : P.underlying t = some (.slice e)) (hi : P.info? e = some i) (hz : i.zero = some z)
    (hsize : i.size = size) (hby : i.bytes = bytes) (hzs : z.cells.size = size) (hsz : 0 < size)
    (g : Nat) (hs : a.eval s = .slice (some ⟨g, 0, none⟩) 0 0) (hg : Blk w g e #[])
    (ad : Option Addr) (c : Nat) (rows : List (List Value)) (hx : a.eval x = .slice ad rows.length c) (hc : ad = none → c = 0) (hr : ∀ r ∈ rows, r.length = size) (hrd : RdS size w ad rows)
    (h63 : rows.length ≤ maxLen) (hbytes : rows.length * bytes ≤ 140737488355328)
    (h : ∀ v' w', w'.ownsRow 0 e size v' rows.length rows.flatten → Frm [] w w' → (v'.ownBlock = some g ∨ v'.ownBlock = some w.heap.size) → K (a.put o.dst v') w') : o.wp P a w K Q := by
  subst hsize
  subst hby
  by_cases hm : rows = []
  · subst hm
    have hsrc : Src P i.size t (.slice ad ([] : List (List Value)).length c) 0 [] w := by
      cases ad with
      | none => have := hc rfl; subst this; exact Src.ofNil w ht 0
      | some p => exact Src.ofSlice w ht p 0 c [] (by simp) (fun j u hj => by simp at hj) (fun u hu => by simp at hu)
    have hrun := run_append_nothing (P := P) w t t o.type e i ht hi (some ⟨g, 0, none⟩) 0 0 (Nat.le_refl _) _ hsrc
    unfold Oper.wp execOp
    simp only [ho, resolve, invoke, builtin, Sem.run_bind, Sem.run_pure, Result.andThen_ok, List.map_toArray, List.map_cons, List.map_nil, hs, hx, hrun]
    exact h _ _ ⟨by simp, .inr ⟨g, 0, #[], rfl, Nat.zero_le _, hg, Nat.le_refl _, Nat.zero_le _, by simp, by simp⟩⟩ (Frm.refl _ _) (.inl rfl)
  · have hpos : 0 < rows.length := List.length_pos_iff.2 hm
    cases ad with
    | none =>
      obtain ⟨b, off, ha, _⟩ := hrd 0 rows[0] (List.getElem?_eq_getElem hpos)
      cases ha
    | some p =>
      obtain ⟨b, off, spot⟩ := p
      have hnews : ∀ j u, rows.flatten[j]? = some u → w.cell? ((⟨b, off, spot⟩ : Addr).add j) = some u := fun j u hj => by
        obtain ⟨row, h2, h3⟩ := flatten_back hsz hr hj
        obtain ⟨b', off', ha, hb, hcell⟩ := hrd _ row h2
        injection ha with ha
        injection ha with ha1 ha2 ha3
        subst ha1 ha2 ha3
        rw [add_addr]
        have := hcell _ u h3
        rw [Nat.add_assoc, Nat.div_add_mod'] at this
        exact this
      have hlen := flatten_length hr
      have h63' : rows.length ≤ 9223372036854775807 := by simp only [maxLen] at h63; omega
      have hfit : Builtin.nextslicecap (0 + rows.length) 0 * i.bytes ≤ 281474976710656 := growslice_fits (by omega) (by rw [Nat.zero_add]; exact hbytes)
      have hrun := run_append_grow (P := P) w t o.type e i z ht hi hz ⟨g, 0, none⟩ 0 0 [] (by simp) (by simp) ⟨b, off, spot⟩ rows.length c rows.flatten hlen hnews (by omega) (by omega) hfit
      unfold Oper.wp execOp
      simp only [ho, resolve, invoke, builtin, Sem.run_bind, Sem.run_pure, Result.andThen_ok, List.map_toArray, List.map_cons, List.map_nil, hs, hx, hrun]
      have hge := grownCap_ge w (0 + rows.length) 0 e
      have hcm : grownCap w (0 + rows.length) 0 e ≤ maxLen := grownCap_le_maxLen w (0 + rows.length) 0 e (by rw [Nat.zero_add]; exact h63)
      refine h _ _ ⟨hlen, .inr ⟨w.heap.size, _, _, by rw [Nat.zero_add], Nat.zero_le _, heap_alloc_new w.drew _, by simpa using hge, by simpa using hcm, ?_, ?_⟩⟩ ((Frm.refl _ _).drew.alloc _) (.inr rfl)
      · simp only [Array.size_append, List.size_toArray, size_zeroCells, hzs, hlen, ← Nat.add_mul, List.length_nil, Nat.zero_add]
        congr 1
        rw [Nat.zero_add] at hge
        omega
      · simp only [Array.toList_append, List.append_assoc, List.nil_append]
        rw [← hlen]
        exact List.take_left
end

/-- Writes far from the things. -/
theorem Sep.far {S : List Nat} {w0 w w' : World} {L : List Res} {F : List Nat} {B : Nat} (h : Sep S w0 w L) (hf : Frm F w w') (hF : ∀ k ∈ F, B ≤ k) (hB : ∀ r ∈ L, ∀ k ∈ r.bl, k < B) (h0 : w0.heap.size ≤ B) : Sep S w0 w' L :=
  ⟨h.frm.after hf (fun g hg => .inr (Nat.le_trans h0 (hF g hg))), fun r hr => r.stays w w' (fun k hk => hf.block k (r.lies w (h.holds r hr) k hk) (fun hkF => by have := hF k hkF; have := hB r hr k hk; omega)) (h.holds r hr), h.apart, h.mine⟩
/-- A thing all of whose blocks are newer than the others'. -/
theorem Sep.gain {S : List Nat} {w0 w : World} {L : List Res} {B : Nat} (h : Sep S w0 w L) {r : Res} (hr : r.P w) (hB : ∀ s ∈ L, ∀ k ∈ s.bl, k < B) (hn : ∀ k ∈ r.bl, B ≤ k) (h0 : w0.heap.size ≤ B) : Sep S w0 w (r :: L) := by
  refine ⟨h.frm, fun s hs => ?_, List.Pairwise.cons (fun s hs k hkr hks => ?_) h.apart, fun s hs => ?_⟩
  · rcases List.mem_cons.1 hs with rfl | hs
    · exact hr
    · exact h.holds s hs
  · have h1 := hn k hkr
    have h2 := hB s hs k hks
    omega
  · rcases List.mem_cons.1 hs with rfl | hs
    · exact fun k hk => .inr (Nat.le_trans h0 (hn k hk))
    · exact h.mine s hs
theorem Sep.blocks_lt {S : List Nat} {w0 w : World} {L : List Res} (h : Sep S w0 w L) : ∀ r ∈ L, ∀ k ∈ r.bl, k < w.heap.size := fun r hr => r.lies w (h.holds r hr)

/-- A row that is owned stays so while new memory alone is made. -/
theorem own_frm {w w' : World} {base e size : Nat} {v : Value} {n : Nat} {xs : List Value} (h : w.ownsRow base e size v n xs) (hf : Frm [] w w') : w'.ownsRow base e size v n xs :=
  ⟨h.1, by
    rcases h.2 with h2 | ⟨g, cap, cur, hv, hg, hh, r⟩
    · exact .inl h2
    · exact .inr ⟨g, cap, cur, hv, hg, (hf.block g (Array.getElem?_eq_some_iff.1 hh).1 (by simp)).trans hh, r⟩⟩
theorem rows_frm {w w' : World} {n : Nat} {a : Option Addr} {rows : List (List Value)} (h : (rowsR n a rows).P w) (hf : Frm [] w w') : (rowsR n a rows).P w' :=
  (rowsR n a rows).stays w w' (fun k hk => hf.block k ((rowsR n a rows).lies w h k hk) (by simp)) h
theorem Sep.tail {S : List Nat} {w0 w : World} {r : Res} {L : List Res} (h : Sep S w0 w (r :: L)) : Sep S w0 w L := h.sub (List.sublist_cons_self _ _)

section
/-- 'append(s, xs...)' of integers, as one operation. -/
theorem wp_append_said {P : Program} {S : List Nat} {w0 w : World} {L : List Res} {o : Oper} {a : Act} {K : Act → World → Prop} {Q : Exit → Act → World → Prop} (s x : Operand) (t : TypeId)
    (ho : o.op = .call { callee := .builtin .append, args := #[s, x], argTypes := #[t, t] }) (i : Nat)
    (e : TypeId) (inf : TypeInfo) (z : Value) (bytes : Nat) (ht : P.underlying t = some (.slice e)) (hi : P.info? e = some inf) (hz : inf.zero = some z)
    (hsize : inf.size = 1) (hby : inf.bytes = bytes) (hzs : z.cells.size = 1) (k : IntKind)
    (v : Value) (n : Nat) (xs : List Value) (hs : a.eval s = v) (hS : Sep S w0 w L) (hL : L[i]? = some (ownR e 1 v n xs))
    (ad : Option Addr) (c m : Nat) (zs : List Int) (hm : zs.length = m) (hx : a.eval x = .slice ad m c) (hc : ad = none → c = 0) (hrd : RdI k w ad zs)
    (N : Nat) (hN : n + m = N) (ys : List Value) (hy : xs ++ zs.map (Value.int k) = ys)
    (h63 : N ≤ maxLen) (hbytes : N * bytes ≤ 140737488355328)
    (h : ∀ v' w', Sep S w0 w' (L.set i (ownR e 1 v' N ys)) → K (a.put o.dst v') w') : o.wp P a w K Q := by
  subst hm hN hy
  have hl : (zs.map fun z => [Value.int k z]).length = zs.length := List.length_map _
  refine wp_append_rows (P := P) s x t ho e inf z 1 bytes ht hi hz hsize hby hzs (by decide) v n xs hs (hS.own i hL) ad c (zs.map fun z => [Value.int k z]) (by rw [hl]; exact hx) hc (fun r hr => by obtain ⟨z, _, rfl⟩ := List.mem_map.1 hr; rfl) hrd.rows (fun r hr u hu => by obtain ⟨z, _, rfl⟩ := List.mem_map.1 hr; simp at hu; subst hu; rfl) (by rw [hl]; exact h63) (by rw [hl]; exact hbytes) ?_
  intro v' w' h2 h3 h4
  rw [hl, flatten_ints] at h2
  exact h _ _ (hS.grow i hL h3 h2 h4)

end
theorem RdI.made (w : World) (t : TypeId) (k : IntKind) (zs : List Int) (hz : 0 < zs.length) : RdI k (w.alloc (.cells (zs.map (Value.int k)).toArray t)) (some ⟨w.heap.size, 0, none⟩) zs := fun i x hx =>
  ⟨w.heap.size, 0, rfl, by simp, (Blk.made w t _).cell _ (by simp [hx])⟩

end Go.Proofs.Ytekjpkppfcmjdaa
