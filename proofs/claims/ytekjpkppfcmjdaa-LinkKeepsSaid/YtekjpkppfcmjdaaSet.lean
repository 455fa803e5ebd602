/-
  A MAP FROM KEYS TO 'true': a set, its keys in the order in which they came. No program is named here.
-/
import Derived.Test.YtekjpkppfcmjdaaMap
import Derived.Test.YtekjpkppfcmjdaaOr
set_option linter.unusedVariables false
set_option linter.unusedSimpArgs false
namespace Go.Proofs.Ytekjpkppfcmjdaa
open Go.RowKit Go.Maps

/-- The entries of a set. -/
def setKv {α : Type} (mk : α → Value) (ks : List α) : List (Value × Value) := ks.map fun x => (mk x, Value.bool true)
def isIn {α : Type} [DecidableEq α] (ks : List α) (x : α) : Bool := decide (x ∈ ks)
theorem isIn_yes {α : Type} [DecidableEq α] {ks : List α} {x : α} : isIn ks x = true ↔ x ∈ ks := by simp [isIn]
theorem isIn_no {α : Type} [DecidableEq α] {ks : List α} {x : α} : isIn ks x = false ↔ x ∉ ks := by simp [isIn]
def addU {α : Type} [DecidableEq α] (ks : List α) (x : α) : List α := if x ∈ ks then ks else ks ++ [x]
def addAll {α : Type} [DecidableEq α] (ks xs : List α) : List α := xs.foldl addU ks
theorem addU_mem {α : Type} [DecidableEq α] {ks : List α} {x y : α} : y ∈ addU ks x ↔ y ∈ ks ∨ y = x := by
  unfold addU
  split
  · rename_i h
    exact ⟨.inl, fun h2 => h2.elim id (fun e => e ▸ h)⟩
  · simp
theorem addU_len {α : Type} [DecidableEq α] (ks : List α) (x : α) : (addU ks x).length ≤ ks.length + 1 := by
  unfold addU
  split <;> simp
theorem addU_nodup {α : Type} [DecidableEq α] {ks : List α} (h : ks.Nodup) (x : α) : (addU ks x).Nodup := by
  unfold addU
  split
  · exact h
  · rename_i hx
    rw [List.nodup_append]
    exact ⟨h, by simp, fun a ha b hb e => hx (by simp at hb; subst hb; subst e; exact ha)⟩
theorem addAll_snoc {α : Type} [DecidableEq α] (ks xs : List α) (x : α) : addAll ks (xs ++ [x]) = addU (addAll ks xs) x := by simp [addAll]
theorem addAll_mem {α : Type} [DecidableEq α] {ks xs : List α} {y : α} : y ∈ addAll ks xs ↔ y ∈ ks ∨ y ∈ xs := by
  induction xs generalizing ks with
  | nil => simp [addAll]
  | cons x xs ih =>
    have e : addAll ks (x :: xs) = addAll (addU ks x) xs := rfl
    rw [e, ih, addU_mem]
    simp [or_assoc]
theorem addAll_len {α : Type} [DecidableEq α] (ks xs : List α) : (addAll ks xs).length ≤ ks.length + xs.length := by
  induction xs generalizing ks with
  | nil => simp [addAll]
  | cons x xs ih =>
    have e : addAll ks (x :: xs) = addAll (addU ks x) xs := rfl
    have := ih (addU ks x)
    have h2 := addU_len ks x
    rw [e]
    simp
    omega
theorem addAll_nodup {α : Type} [DecidableEq α] {ks : List α} (h : ks.Nodup) (xs : List α) : (addAll ks xs).Nodup := by
  induction xs generalizing ks with
  | nil => exact h
  | cons x xs ih => exact ih (addU_nodup h x)

section
variable {P : Program} {k t e : TypeId} {w : World} {b : Nat} {α : Type} {mk : α → Value} {ks : List α}

theorem set_ne (hinj : ∀ x y, mk x = mk y → x = y) {x : α} (hx : x ∉ ks) : ∀ p ∈ setKv mk ks, p.1 ≠ mk x := fun p hp e => by
  obtain ⟨y, hy, rfl⟩ := List.mem_map.1 hp
  exact hx (hinj _ _ e ▸ hy)
theorem set_look [DecidableEq α] (h : MapAt P k w b (setKv mk ks)) (hinj : ∀ x y, mk x = mk y → x = y) (K : Keyed P k) (ht : P.underlying t = some (.map k e)) (hz : (zeroValue e).run P w = .ok (.bool false) w) (x : α) {kl : Lit} (hkey : keyOf P k (mk x) = some kl) :
    (Instr.lookup t (.map (some b)) (mk x) false).run P w = .ok (.bool (isIn ks x)) w := by
  by_cases hx : x ∈ ks
  · rw [h.look_hit K ht hz hkey (List.mem_map.2 ⟨x, hx, rfl⟩)]
    simp [isIn, hx]
  · rw [h.look_miss K ht hz hkey (set_ne hinj hx)]
    simp [isIn, hx]
theorem set_nodup (h : MapAt P k w b (setKv mk ks)) : ks.Nodup := by
  have := h.nodup
  unfold setKv at this
  rw [List.map_map] at this
  exact (List.pairwise_map.1 this).imp fun h2 e => h2 (by rw [e])
theorem set_len (h : MapAt P k w b (setKv mk ks)) (ht : P.underlying t = some (.map k e)) (ty : TypeId) : (Builtin.len_ #[t] ty #[.map (some b)]).run P w = .ok (.int .i64 ks.length) w := by
  rw [h.len ht ty]
  simp [setKv]
theorem set_store [DecidableEq α] (h : MapAt P k w b (setKv mk ks)) (hinj : ∀ x y, mk x = mk y → x = y) (K : Keyed P k) (ht : P.underlying t = some (.map k e)) (x : α) {kl : Lit} (hkey : keyOf P k (mk x) = some kl) (hr : ks.length < maxLen) :
    ∃ w', (Instr.mapUpdate t (.map (some b)) (mk x) (.bool true)).run P w = .ok () w' ∧ MapAt P k w' b (setKv mk (addU ks x)) ∧ w.grownBy w' (some b) := by
  unfold addU
  by_cases hx : x ∈ ks
  · rw [if_pos hx]
    obtain ⟨A, B, rfl⟩ := List.append_of_mem hx
    have e1 : setKv mk (A ++ x :: B) = setKv mk A ++ (mk x, Value.bool true) :: setKv mk B := by simp [setKv]
    rw [e1] at h ⊢
    exact h.store_old K ht (.bool true) hkey
  · rw [if_neg hx]
    have e1 : setKv mk (ks ++ [x]) = setKv mk ks ++ [(mk x, Value.bool true)] := by simp [setKv]
    rw [e1]
    exact h.store_new K ht (.bool true) hkey (set_ne hinj hx) (by simpa [setKv] using hr)
theorem set_entry (h : MapAt P k w b (setKv mk ks)) (hinj : ∀ x y, mk x = mk y → x = y) (K : Keyed P k) (ht : P.underlying t = some (.map k e)) (hz : (zeroValue e).run P w = .ok (.bool false) w) (x : α) (hx : x ∉ ks) {kl : Lit} (hkey : keyOf P k (mk x) = some kl) (hr : ks.length < maxLen) :
    ∃ c w1 w2, (Instr.mapEntry t (.map (some b)) (mk x)).run P w = .ok (.tuple #[.bool false, .int .i64 c]) w1 ∧ (Instr.entryStore t (.map (some b)) (.int .i64 c) (.bool true)).run P w1 = .ok () w2 ∧
      MapAt P k w2 b (setKv mk (ks ++ [x])) ∧ w.grownBy w2 (some b) := by
  obtain ⟨c, w1, h1, hg1, h2⟩ := h.entry_new K ht hz hkey (set_ne hinj hx) (by simpa [setKv] using hr)
  obtain ⟨w2, h3, h4, hg2⟩ := h2 (.bool true)
  have e1 : setKv mk (ks ++ [x]) = setKv mk ks ++ [(mk x, Value.bool true)] := by simp [setKv]
  exact ⟨c, w1, w2, h1, h3, e1 ▸ h4, grown_trans hg1 hg2⟩
end

/-- A slice by address, capacity and elements. -/
structure Row (α : Type) where
  a : Option Addr
  c : Nat
  xs : List α
def Row.val {α : Type} (r : Row α) : Value := .slice r.a r.xs.length r.c
/-- A slice of slices, each row read through mk. -/
def RdRows {α : Type} (mk : α → Value) (w : World) (a : Option Addr) (rs : List (Row α)) : Prop := RdV w a (rs.map Row.val) ∧ ∀ r ∈ rs, RdV w r.a (r.xs.map mk)
theorem RdV.frm {S : List Nat} {w w' : World} {a : Option Addr} {vs : List Value} (h : RdV w a vs) (hf : Frm S w w') (hS : ∀ p, a = some p → p.block ∉ S) : RdV w' a vs := fun i v hv => by
  obtain ⟨b, off, ha, hl, hc⟩ := h i v hv
  exact ⟨b, off, ha, Nat.lt_of_lt_of_le hl hf.size, (hf.cell hl (hS _ ha)).trans hc⟩
theorem RdV.low {w0 w w' : World} {a : Option Addr} {vs : List Value} (h : RdV w0 a vs) (hb : Below w0.heap.size w0 w') : RdV w' a vs := h.below hb
theorem RdRows.below {α : Type} {mk : α → Value} {w w' : World} {a : Option Addr} {rs : List (Row α)} (h : RdRows mk w a rs) (hb : Below w.heap.size w w') : RdRows mk w' a rs := ⟨h.1.below hb, fun r hr => (h.2 r hr).below hb⟩
theorem RdV.of_ints {k : IntKind} {w : World} {a : Option Addr} {zs : List Int} (h : RdI k w a zs) : RdV w a (zs.map (Value.int k)) := fun i v hv => by
  rw [List.getElem?_map] at hv
  cases hz : zs[i]? with
  | none => rw [hz] at hv; simp at hv
  | some x =>
    rw [hz] at hv
    simp at hv
    subst hv
    exact h i x hz
theorem RdV.ints {k : IntKind} {w : World} {a : Option Addr} {zs : List Int} (h : RdV w a (zs.map (Value.int k))) : RdI k w a zs := fun i x hx => h i (.int k x) (by rw [List.getElem?_map, hx]; rfl)
/-- A row that is owned reads as what it holds. -/
theorem RdV.of_own {w : World} {base e : Nat} {v : Value} {n : Nat} {vs : List Value} (h : w.ownsRow base e 1 v n vs) : ∃ a cap, v = .slice a vs.length cap ∧ vs.length ≤ cap ∧ n = vs.length ∧ (a = none → cap = 0) ∧ RdV w a vs := by
  have hn : n = vs.length := by have := h.1; simpa using this.symm
  subst hn
  rcases h.2 with ⟨rfl, h0⟩ | ⟨g, cap, cur, rfl, hb, hh, hc, _⟩
  · have : vs = [] := by simpa using h0
    subst this
    exact ⟨none, 0, rfl, Nat.le_refl _, rfl, fun _ => rfl, RdV.nil _ _⟩
  · refine ⟨_, cap, rfl, hc, rfl, (fun h => by cases h), fun i x hx => ⟨g, 0, rfl, (Array.getElem?_eq_some_iff.1 hh).1, ?_⟩⟩
    have := h.cells (g := g) rfl i x hx
    have hadd : (⟨g, 0, none⟩ : Addr).add i = ⟨g, 0 + i, none⟩ := by unfold Addr.add; split <;> simp_all
    rw [hadd] at this
    exact this

end Go.Proofs.Ytekjpkppfcmjdaa
