/-
  A MAP, its entries in the order in which they were laid: keys and values as a list of pairs. Look-up, store, entry and entry's store, length, range. No program is named here.
-/
import Derived.Test.YtekjpkppfcmjdaaSep
import Derived.Maps.Keyed
import Derived.Maps.RangeWalk
import Derived.Maps.OwnSet
set_option linter.unusedVariables false
set_option linter.unusedSimpArgs false
namespace Go.Proofs.Ytekjpkppfcmjdaa
open Go.RowKit Go.Maps
open Go.ChangeMaps (setBlock heap_setBlock_same heap_setBlock_other)
open Go.MapKept (heap_set Stamped stamped_push stamped_modify stamped_empty)

def kvOf (e : MapEntry) : Value × Value := (e.key, e.val)
/-- Block b is a map of just these entries. -/
def MapAt (P : Program) (k : TypeId) (w : World) (b : Nat) (kvs : List (Value × Value)) : Prop :=
  ∃ es clock, w.heap[b]? = some (.map es clock) ∧ es.toList.map kvOf = kvs ∧ Stamped es clock ∧ (∀ p ∈ kvs, ∃ l, keyOf P k p.1 = some l) ∧ kvs.length ≤ maxLen

def mapR (P : Program) (k : TypeId) (b : Nat) (kvs : List (Value × Value)) : Res :=
  ⟨[b], fun w => MapAt P k w b kvs, fun w w' h hp => by
    obtain ⟨es, clock, hb, r⟩ := hp
    exact ⟨es, clock, (h b (by simp)).trans hb, r⟩, fun w hp j hj => by
    obtain ⟨es, clock, hb, r⟩ := hp
    simp at hj
    subst hj
    exact (Array.getElem?_eq_some_iff.1 hb).1⟩

section
variable {P : Program} {k t e : TypeId} {w : World} {b : Nat} {kvs : List (Value × Value)}

theorem MapAt.made (P : Program) (k : TypeId) (w : World) : MapAt P k (w.alloc (.map #[] 0)) w.heap.size [] :=
  ⟨#[], 0, (MapKept.heap_alloc w _).1, rfl, stamped_empty 0, by simp, Nat.zero_le _⟩
theorem MapAt.lt (h : MapAt P k w b kvs) : b < w.heap.size := by
  obtain ⟨es, clock, hb, _⟩ := h
  exact (Array.getElem?_eq_some_iff.1 hb).1
theorem MapAt.drewN (h : MapAt P k w b kvs) (n : Nat) : MapAt P k (w.drewN n) b kvs := h
theorem MapAt.frm {S : List Nat} {w' : World} (h : MapAt P k w b kvs) (hf : Frm S w w') (hb : b ∉ S) : MapAt P k w' b kvs := by
  have hl := h.lt
  obtain ⟨es, clock, hh, r⟩ := h
  exact ⟨es, clock, (hf.block b hl hb).trans hh, r⟩
theorem mapAt_same {P : Program} {k : TypeId} {w w' : World} {b : Nat} {kvs : List (Value × Value)} (h : MapAt P k w b kvs) (e : w'.heap[b]? = w.heap[b]?) : MapAt P k w' b kvs := by
  obtain ⟨es, clock, hb, r⟩ := h
  exact ⟨es, clock, e.trans hb, r⟩
theorem nodup_keys {es : Array MapEntry} {clock : Nat} (h : Stamped es clock) : (es.toList.map kvOf |>.map (·.1)).Nodup := by
  have := h.2.2
  rw [List.map_map]
  exact this
theorem MapAt.nodup (h : MapAt P k w b kvs) : (kvs.map (·.1)).Nodup := by
  obtain ⟨es, clock, _, rfl, hs, _⟩ := h
  exact nodup_keys hs
theorem mem_kv {es : Array MapEntry} {x : MapEntry} (h : x ∈ es.toList) : kvOf x ∈ es.toList.map kvOf := List.mem_map.2 ⟨x, h, rfl⟩
theorem nodup_val {kvs : List (Value × Value)} (h : (kvs.map (·.1)).Nodup) {p q : Value × Value} (hp : p ∈ kvs) (hq : q ∈ kvs) (e : p.1 = q.1) : p = q := by
  induction kvs with
  | nil => cases hp
  | cons a r ih =>
    rw [List.map_cons, List.nodup_cons] at h
    rcases List.mem_cons.1 hp with hp1 | hp1
    · rcases List.mem_cons.1 hq with hq1 | hq1
      · rw [hp1, hq1]
      · exact absurd (show a.1 ∈ r.map (·.1) from List.mem_map.2 ⟨q, hq1, by rw [← e, hp1]⟩) h.1
    · rcases List.mem_cons.1 hq with hq1 | hq1
      · exact absurd (show a.1 ∈ r.map (·.1) from List.mem_map.2 ⟨p, hp1, by rw [e, hq1]⟩) h.1
      · exact ih h.2 hp1 hq1 

/-- 'm[k]', the key is there. -/
theorem MapAt.look_hit (h : MapAt P k w b kvs) (K : Keyed P k) (ht : P.underlying t = some (.map k e)) {z : Value} (hz : (zeroValue e).run P w = .ok z w) {key v : Value} {kl : Lit} (hkey : keyOf P k key = some kl) (hm : (key, v) ∈ kvs) :
    (Instr.lookup t (.map (some b)) key false).run P w = .ok v w := by
  obtain ⟨es, clock, hb, rfl, hs, hks, _⟩ := h
  have hes : ∀ x ∈ es.toList, ∃ l, keyOf P k x.key = some l := fun x hx => hks _ (mem_kv hx)
  rcases K.find w hkey es.toList hes with ⟨h1, h2⟩ | ⟨j, e0, h1, h2, h3⟩
  · obtain ⟨x, hx, hxe⟩ := List.mem_map.1 hm
    exact absurd (congrArg Prod.fst hxe) (h2 x hx)
  · have hv : e0.val = v := congrArg Prod.snd (nodup_val (nodup_keys hs) (mem_kv (List.mem_of_getElem? h2)) hm h3)
    simp [Instr.lookup, run_underlying ht, MapKept.run_getObj_map hb, K.check w _ hkey, h1, Result.andThen, hv]
/-- 'm[k]', it is not. -/
theorem MapAt.look_miss (h : MapAt P k w b kvs) (K : Keyed P k) (ht : P.underlying t = some (.map k e)) {z : Value} (hz : (zeroValue e).run P w = .ok z w) {key : Value} {kl : Lit} (hkey : keyOf P k key = some kl) (hm : ∀ p ∈ kvs, p.1 ≠ key) :
    (Instr.lookup t (.map (some b)) key false).run P w = .ok z w := by
  obtain ⟨es, clock, hb, rfl, hs, hks, _⟩ := h
  have hes : ∀ x ∈ es.toList, ∃ l, keyOf P k x.key = some l := fun x hx => hks _ (mem_kv hx)
  rcases K.find w hkey es.toList hes with ⟨h1, h2⟩ | ⟨j, e0, h1, h2, h3⟩
  · simp [Instr.lookup, run_underlying ht, MapKept.run_getObj_map hb, K.check w _ hkey, h1, hz, Result.andThen]
  · exact absurd h3 (hm _ (mem_kv (List.mem_of_getElem? h2)))
theorem MapAt.len (h : MapAt P k w b kvs) (ht : P.underlying t = some (.map k e)) (ty : TypeId) : (Builtin.len_ #[t] ty #[.map (some b)]).run P w = .ok (.int .i64 kvs.length) w := by
  obtain ⟨es, clock, hb, rfl, _⟩ := h
  simp [Builtin.len_, run_underlying ht, MapKept.run_getObj_map hb, goInt, Result.andThen]
theorem grown_setBlock {w : World} {b : Nat} {es : Array MapEntry} {clock : Nat} (hb : w.heap[b]? = some (.map es clock)) (o : Obj) : w.grownBy (setBlock w b o) (some b) :=
  ⟨rfl, rfl, rfl, by simp [setBlock], fun i _ hi => heap_setBlock_other hb _ (fun e => hi (by rw [e]))⟩
theorem heap_at {w : World} {b : Nat} {es : Array MapEntry} {clock : Nat} (hb : w.heap[b]? = some (.map es clock)) (o : Obj) : (setBlock w b o).heap[b]? = some o := heap_setBlock_same hb _

/-- 'm[k] = v', a new key. -/
theorem MapAt.store_new (h : MapAt P k w b kvs) (K : Keyed P k) (ht : P.underlying t = some (.map k e)) {key : Value} (val : Value) {kl : Lit} (hkey : keyOf P k key = some kl) (hm : ∀ p ∈ kvs, p.1 ≠ key) (hr : kvs.length < maxLen) :
    ∃ w', (Instr.mapUpdate t (.map (some b)) key val).run P w = .ok () w' ∧ MapAt P k w' b (kvs ++ [(key, val)]) ∧ w.grownBy w' (some b) := by
  obtain ⟨es, clock, hb, rfl, hs, hks, _⟩ := h
  have hes : ∀ x ∈ es.toList, ∃ l, keyOf P k x.key = some l := fun x hx => hks _ (mem_kv hx)
  rcases K.find w hkey es.toList hes with ⟨h1, h2⟩ | ⟨j, e0, h1, h2, h3⟩
  · refine ⟨setBlock w b (.map (es.push ⟨key, val, clock⟩) (clock + 1)), ?_, ⟨_, _, heap_at hb _, by simp [kvOf], stamped_push hs h2, fun p hp => ?_, by simp; simp at hr; omega⟩, grown_setBlock hb _⟩
    · simp [Instr.mapUpdate, run_underlying ht, MapKept.run_getObj_map hb, K.check w _ hkey, h1, MapKept.run_setObj_map _ hb, Result.andThen, setBlock]
    · rcases List.mem_append.1 hp with hp | hp
      · exact hks p hp
      · simp at hp; subst hp; exact ⟨kl, hkey⟩
  · exact absurd h3 (hm _ (mem_kv (List.mem_of_getElem? h2)))
theorem set_at {α : Type} (A : List α) (x y : α) (B : List α) : (A ++ x :: B).set A.length y = A ++ y :: B := by simp
/-- 'm[k] = v', a key that is there. -/
theorem MapAt.store_old {A B : List (Value × Value)} {key v : Value} (h : MapAt P k w b (A ++ (key, v) :: B)) (K : Keyed P k) (ht : P.underlying t = some (.map k e)) (val : Value) {kl : Lit} (hkey : keyOf P k key = some kl) :
    ∃ w', (Instr.mapUpdate t (.map (some b)) key val).run P w = .ok () w' ∧ MapAt P k w' b (A ++ (key, val) :: B) ∧ w.grownBy w' (some b) := by
  obtain ⟨es, clock, hb, hkv, hs, hks, hln⟩ := h
  have hes : ∀ x ∈ es.toList, ∃ l, keyOf P k x.key = some l := fun x hx => hks _ (hkv ▸ mem_kv hx)
  have hnd := nodup_keys hs
  rw [hkv] at hnd
  rcases K.find w hkey es.toList hes with ⟨h1, h2⟩ | ⟨j, e0, h1, h2, h3⟩
  · have hm : (key, v) ∈ es.toList.map kvOf := by rw [hkv]; simp
    obtain ⟨x, hx, hxe⟩ := List.mem_map.1 hm
    exact absurd (congrArg Prod.fst hxe) (h2 x hx)
  · have hj : es[j]? = some e0 := by simpa using h2
    have hjA : j = A.length := by
      have h4 : (es.toList.map kvOf)[j]? = some (kvOf e0) := by rw [List.getElem?_map, h2]; rfl
      rw [hkv] at h4
      have h5 : (A ++ (key, v) :: B)[A.length]? = some (key, v) := by simp
      have h6 : ((A ++ (key, v) :: B).map (·.1))[j]? = some key := by rw [List.getElem?_map, h4]; simp [kvOf, h3]
      have h7 : ((A ++ (key, v) :: B).map (·.1))[A.length]? = some key := by rw [List.getElem?_map, h5]; rfl
      have l1 := (List.getElem?_eq_some_iff.1 h6).1
      have l2 := (List.getElem?_eq_some_iff.1 h7).1
      exact (List.getElem_inj hnd).1 ((List.getElem?_eq_some_iff.1 h6).2.trans (List.getElem?_eq_some_iff.1 h7).2.symm)
    have hlist : (es.modify j (fun e' => { e' with key := key, val := val })).toList = es.toList.set j { e0 with key := key, val := val } := by rw [Array.toList_modify, ChangeMaps.modify_eq_set _ _ _ _ h2]
    have hnew : (es.modify j (fun e' => { e' with key := key, val := val })).toList.map kvOf = A ++ (key, val) :: B := by
      rw [hlist, List.map_set, hkv, hjA]
      exact set_at _ _ _ _
    have hkeyf : ∀ e', es[j]? = some e' → ({ e' with key := key, val := val } : MapEntry).key = e'.key := fun e' he' => by rw [hj] at he'; cases he'; exact h3.symm
    refine ⟨setBlock w b (.map (es.modify j fun e' => { e' with key := key, val := val }) clock), ?_, ⟨_, _, heap_at hb _, hnew, stamped_modify hs _ _ (fun _ _ => rfl) (fun e' _ he' => hkeyf e' he'), fun p hp => ?_, by simp at hln ⊢; omega⟩, grown_setBlock hb _⟩
    · simp [Instr.mapUpdate, run_underlying ht, MapKept.run_getObj_map hb, K.check w _ hkey, h1, hj, h3, K.stays w hkey, MapKept.run_setObj_map _ hb, Result.andThen, setBlock]
    · rcases List.mem_append.1 hp with hp | hp
      · exact hks p (by simp [hp])
      · rcases List.mem_cons.1 hp with rfl | hp
        · exact ⟨kl, hkey⟩
        · exact hks p (by simp [hp])
/-- The entry of a new key (as in 'm[k], x = v, y'), and the store into it. -/
theorem MapAt.entry_new (h : MapAt P k w b kvs) (K : Keyed P k) (ht : P.underlying t = some (.map k e)) {z : Value} (hz : (zeroValue e).run P w = .ok z w) {key : Value} {kl : Lit} (hkey : keyOf P k key = some kl) (hm : ∀ p ∈ kvs, p.1 ≠ key) (hr : kvs.length < maxLen) :
    ∃ c w1, (Instr.mapEntry t (.map (some b)) key).run P w = .ok (.tuple #[z, .int .i64 c]) w1 ∧ w.grownBy w1 (some b) ∧
      ∀ val, ∃ w', (Instr.entryStore t (.map (some b)) (.int .i64 c) val).run P w1 = .ok () w' ∧ MapAt P k w' b (kvs ++ [(key, val)]) ∧ w1.grownBy w' (some b) := by
  obtain ⟨es, clock, hb, rfl, hs, hks, _⟩ := h
  have hes : ∀ x ∈ es.toList, ∃ l, keyOf P k x.key = some l := fun x hx => hks _ (mem_kv hx)
  rcases K.find w hkey es.toList hes with ⟨h1, h2⟩ | ⟨j, e0, h1, h2, h3⟩
  · have hb1 : (setBlock w b (.map (es.push ⟨key, z, clock⟩) (clock + 1))).heap[b]? = some (.map (es.push ⟨key, z, clock⟩) (clock + 1)) := heap_at hb _
    refine ⟨clock, setBlock w b (.map (es.push ⟨key, z, clock⟩) (clock + 1)), ?_, grown_setBlock hb _, fun val => ?_⟩
    · simp [Instr.mapEntry, run_underlying ht, MapKept.run_getObj_map hb, K.check w _ hkey, h1, hz, MapKept.run_setObj_map _ hb, Result.andThen, setBlock, goInt]
    · have hf : (es.push ⟨key, z, clock⟩).findIdx? (fun e => (e.born : Int) == (clock : Int)) = some es.size := by
        rw [Array.findIdx?_push]
        have : es.findIdx? (fun e => (e.born : Int) == (clock : Int)) = none := by
          rw [Array.findIdx?_eq_none_iff]
          intro x hx
          have := hs.1 x (by simpa using hx)
          simp
          omega
        rw [this]
        simp
      have hlist : ((es.push ⟨key, z, clock⟩).modify es.size fun e => { e with val := val }) = es.push ⟨key, val, clock⟩ := by
        apply Array.ext_getElem?
        intro i
        rw [Array.getElem?_modify, Array.getElem?_push, Array.getElem?_push]
        by_cases hi : es.size = i
        · subst hi; simp
        · rw [if_neg hi, if_neg (fun e => hi e.symm), if_neg (fun e => hi e.symm)]
      refine ⟨setBlock (setBlock w b (.map (es.push ⟨key, z, clock⟩) (clock + 1))) b (.map (es.push ⟨key, val, clock⟩) (clock + 1)), ?_, ⟨_, _, heap_at hb1 _, by simp [kvOf], stamped_push hs h2, fun p hp => ?_, by simp; simp at hr; omega⟩, grown_setBlock hb1 _⟩
      · simp only [Instr.entryStore, Sem.run_bind, MapKept.run_getObj_map hb1, Result.andThen_ok, asInt, asIntOf, Sem.run_pure, hf, hlist]
        rw [MapKept.run_setObj_map _ hb1]
        rfl
      · rcases List.mem_append.1 hp with hp | hp
        · exact hks p hp
        · simp at hp; subst hp; exact ⟨kl, hkey⟩
  · exact absurd h3 (hm _ (mem_kv (List.mem_of_getElem? h2)))
end

/-- 'for k, v := range m' under way; todo: what is to come. -/
def RangeAt (P : Program) (k : TypeId) (w : World) (b r : Nat) (kvs todo : List (Value × Value)) : Prop :=
  ∃ es clock since seen c0, w.heap[b]? = some (.map es clock) ∧ es.toList.map kvOf = kvs ∧ Stamped es clock ∧ (∀ p ∈ kvs, ∃ l, keyOf P k p.1 = some l) ∧ kvs.length ≤ maxLen ∧
    w.heap[r]? = some (.mapIter (some b) since seen c0) ∧ (∀ x ∈ es.toList, x.born < since) ∧ since ≤ c0 ∧ since ≤ clock ∧ (leftOf es seen).toList.map kvOf = todo

section
variable {P : Program} {k t e : TypeId} {w : World} {b r : Nat} {kvs todo : List (Value × Value)}
theorem RangeAt.map (h : RangeAt P k w b r kvs todo) : MapAt P k w b kvs := by
  obtain ⟨es, clock, since, seen, c0, h1, h2, h3, h4, h5, _⟩ := h
  exact ⟨es, clock, h1, h2, h3, h4, h5⟩
theorem RangeAt.ne (h : RangeAt P k w b r kvs todo) : r ≠ b := by
  obtain ⟨es, clock, since, seen, c0, h1, h2, h3, h4, h5, h6, _⟩ := h
  intro e
  rw [e, h1] at h6
  cases h6
theorem RangeAt.lt (h : RangeAt P k w b r kvs todo) : r < w.heap.size := by
  obtain ⟨es, clock, since, seen, c0, h1, h2, h3, h4, h5, h6, _⟩ := h
  exact (Array.getElem?_eq_some_iff.1 h6).1
/-- The range as a thing. -/
def rangeR (P : Program) (k : TypeId) (b r : Nat) (kvs todo : List (Value × Value)) : Res :=
  ⟨[b, r], fun w => RangeAt P k w b r kvs todo, fun w w' h hp => by
    obtain ⟨es, clock, since, seen, c0, h1, h2, h3, h4, h5, h6, r⟩ := hp
    exact ⟨es, clock, since, seen, c0, (h b (by simp)).trans h1, h2, h3, h4, h5, (h _ (by simp)).trans h6, r⟩, fun w hp j hj => by
    simp at hj
    rcases hj with rfl | rfl
    · exact hp.map.lt
    · exact hp.lt⟩
theorem leftOf_push {es : Array MapEntry} {seen : Array Nat} {x : MapEntry} (hn : (es.toList.map (·.born)).Nodup) (hx : x ∈ (leftOf es seen).toList) :
    ∃ A B, (leftOf es seen).toList = A ++ x :: B ∧ (leftOf es (seen.push x.born)).toList = A ++ B := by
  obtain ⟨A, B, hAB⟩ := List.append_of_mem hx
  refine ⟨A, B, hAB, ?_⟩
  have e1 : (leftOf es (seen.push x.born)).toList = (leftOf es seen).toList.filter (fun y => !(y.born == x.born)) := by
    unfold leftOf
    rw [Array.toList_filter, Array.toList_filter, List.filter_filter]
    apply List.filter_congr
    intro y _
    rw [Array.contains_push]
    cases seen.contains y.born <;> cases h : (x.born == y.born) <;> cases h2 : (y.born == x.born) <;> simp_all
  have hnl : ((leftOf es seen).toList.map (·.born)).Nodup := by
    unfold leftOf
    rw [Array.toList_filter]
    exact hn.sublist (List.filter_sublist.map _)
  rw [hAB, List.map_append, List.map_cons, List.nodup_append] at hnl
  obtain ⟨hA, hxB, hd⟩ := hnl
  rw [List.nodup_cons] at hxB
  rw [e1, hAB, List.filter_append, List.filter_cons]
  simp only [beq_self_eq_true, Bool.not_true, Bool.false_eq_true, if_false]
  rw [List.filter_eq_self.2, List.filter_eq_self.2]
  · intro y hy
    simp only [Bool.not_eq_true', beq_eq_false_iff_ne]
    exact fun e => hxB.1 (e ▸ List.mem_map.2 ⟨y, hy, rfl⟩)
  · intro y hy
    simp only [Bool.not_eq_true', beq_eq_false_iff_ne]
    exact fun e => hd y.born (List.mem_map.2 ⟨y, hy, rfl⟩) x.born (by simp) e
theorem MapAt.range (h : MapAt P k w b kvs) (ht : P.underlying t = some (.map k e)) :
    ∃ w', (Instr.range t (.map (some b))).run P w = .ok (.pointer (some ⟨w.heap.size, 0, none⟩)) w' ∧ RangeAt P k w' b w.heap.size kvs kvs ∧ Frm [] w w' := by
  have hlt := h.lt
  obtain ⟨es, clock, hb, hkv, hs, hks, hl⟩ := h
  refine ⟨_, run_range_map w t k e b es clock ht hb, ⟨es, clock, clock, #[], clock, ((MapKept.heap_alloc w _).2 b hlt).trans hb, hkv, hs, hks, hl, (MapKept.heap_alloc w _).1, hs.1, Nat.le_refl _, Nat.le_refl _, ?_⟩, (Frm.refl _ _).alloc _⟩
  rw [← hkv]
  unfold leftOf
  rw [Array.toList_filter, List.filter_eq_self.2]
  intro x _
  simp
theorem RangeAt.next (h : RangeAt P k w b r kvs todo) (ty : TypeId) :
    (todo = [] ∧ (Instr.next (.pointer (some ⟨r, 0, none⟩)) false ty).run P w = .ok (.tuple #[.bool false]) w) ∨
    ∃ A p B w', todo = A ++ p :: B ∧ p ∈ kvs ∧ (Instr.next (.pointer (some ⟨r, 0, none⟩)) false ty).run P w = .ok (.tuple #[.bool true, p.1, p.2]) w' ∧ RangeAt P k w' b r kvs (A ++ B) ∧ Frm [r] w w' ∧
      (Instr.entry (.pointer (some ⟨r, 0, none⟩))).run P w' = .ok (.tuple #[p.1, p.2]) w' := by
  have hne := h.ne
  obtain ⟨es, clock, since, seen, c0, hb, hkv, hs, hks, hl, hr, hold, hsc, hsk, rfl⟩ := h
  rcases run_next_at (P := P) w ty r b since c0 seen es clock hr hb hold hsc with ⟨h0, hrun⟩ | ⟨x, hx, w1, hal, hrun⟩
  · refine .inl ⟨?_, hrun⟩
    have : leftOf es seen = #[] := Array.eq_empty_of_size_eq_zero h0
    rw [this]; rfl
  · obtain ⟨hem, hes⟩ := mem_left hx
    have hnb : (es.toList.map (·.born)).Nodup := hs.2.1
    obtain ⟨A, B, hA, hB⟩ := leftOf_push hnb hx
    have hr1 : w1.heap[r]? = some (.mapIter (some b) since seen c0) := by rcases hal with rfl | rfl <;> exact hr
    have hb1 : w1.heap[b]? = some (.map es clock) := by rcases hal with rfl | rfl <;> exact hb
    have hset := heap_set (o' := .mapIter (some b) since (seen.push x.born) clock) hr1
    have hb' : (setBlock w1 r (.mapIter (some b) since (seen.push x.born) clock)).heap[b]? = some (.map es clock) := (hset.2 b (fun e1 => hne e1.symm)).trans hb1
    refine .inr ⟨A.map kvOf, kvOf x, B.map kvOf, _, by rw [hA, List.map_append, List.map_cons], hkv ▸ mem_kv hem, hrun,
      ⟨es, clock, since, seen.push x.born, clock, hb', hkv, hs, hks, hl, hset.1, hold, hsk, hsk, by rw [hB, List.map_append]⟩, ?_, run_entry_at _ r b since seen es clock x hset.1 hb' hem hnb⟩
    rcases hal with rfl | rfl <;> exact ⟨rfl, rfl, rfl, by simp [setBlock], fun i _ hi => hset.2 i (fun e1 => hi (by simp [e1]))⟩
end

end Go.Proofs.Ytekjpkppfcmjdaa
