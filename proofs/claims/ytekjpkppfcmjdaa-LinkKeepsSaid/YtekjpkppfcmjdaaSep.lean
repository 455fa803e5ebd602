/-
  THE CALL's OWN MEMORY AS A LIST OF THINGS THAT LIE APART: what each call and each store does to it is said of one thing at a time. No program is named here.
-/
import Derived.Test.YtekjpkppfcmjdaaK
import Derived.Maps.AppendAt
set_option linter.unusedVariables false
set_option linter.unusedSimpArgs false
namespace Go.Proofs.Ytekjpkppfcmjdaa
open Go.RowKit

/-- w' is w with new blocks, and with other contents in the blocks of S alone. -/
structure Frm (S : List Nat) (w w' : World) : Prop where
  os : w'.os = w.os
  tape : w'.tape = w.tape
  output : w'.output = w.output
  size : w.heap.size ≤ w'.heap.size
  block : ∀ k, k < w.heap.size → k ∉ S → w'.heap[k]? = w.heap[k]?

theorem Frm.refl (S : List Nat) (w : World) : Frm S w w := ⟨rfl, rfl, rfl, Nat.le_refl _, fun _ _ _ => rfl⟩
theorem Frm.trans {S : List Nat} {a b c : World} (h : Frm S a b) (k : Frm S b c) : Frm S a c :=
  ⟨k.os.trans h.os, k.tape.trans h.tape, k.output.trans h.output, Nat.le_trans h.size k.size, fun i hi hs => (k.block i (Nat.lt_of_lt_of_le hi h.size) hs).trans (h.block i hi hs)⟩
theorem Frm.mono {S T : List Nat} {a b : World} (h : Frm S a b) (hs : ∀ k ∈ S, k ∈ T) : Frm T a b := ⟨h.os, h.tape, h.output, h.size, fun k hk ht => h.block k hk (fun e => ht (hs k e))⟩
theorem Frm.more {S : List Nat} {a b : World} (h : Frm [] a b) : Frm S a b := h.mono (by simp)
theorem Frm.drew {S : List Nat} {a b : World} (h : Frm S a b) : Frm S a b.drew := ⟨h.os, h.tape, h.output, h.size, h.block⟩
theorem Frm.drewN {S : List Nat} {a b : World} (h : Frm S a b) (n : Nat) : Frm S a (b.drewN n) := ⟨h.os, h.tape, h.output, h.size, h.block⟩
theorem Frm.alloc {S : List Nat} {a b : World} (h : Frm S a b) (o : Obj) : Frm S a (b.alloc o) :=
  ⟨h.os, h.tape, h.output, by have := h.size; simp; omega, fun k hk hs => (Below.heap_alloc b o k (Nat.lt_of_lt_of_le hk h.size)).trans (h.block k hk hs)⟩
theorem Frm.put {S : List Nat} {a b : World} (h : Frm S a b) {g : Nat} (hg : g ∈ S ∨ a.heap.size ≤ g) (i : Nat) (s : Option Nat) (u : Value) : Frm S a (b.setCell ⟨g, i, s⟩ u) :=
  ⟨h.os, h.tape, h.output, by simpa [World.setCell] using h.size, fun k hk hs => (Below.heap_setCell b _ u k (fun e => by
    have e' : k = g := e
    subst e'
    rcases hg with hg | hg
    · exact hs hg
    · omega)).trans (h.block k hk hs)⟩
theorem Frm.of_below {a b : World} (h : Below a.heap.size a b) : Frm [] a b := ⟨h.os, h.tape, h.output, h.size, fun k hk _ => h.block k hk⟩
theorem Frm.below {a b : World} (h : Frm [] a b) : Below a.heap.size a b := ⟨h.os, h.tape, h.output, h.size, fun k hk => h.block k hk (by simp)⟩
theorem Frm.of_grown {a b : World} {g : Nat} (h : a.grownBy b (some g)) : Frm [g] a b := ⟨h.os, h.tape, h.output, h.size, fun k hk hs => h.block k hk (fun e => hs (by injection e with e; simp [e]))⟩
theorem Frm.of_grown_opt {a b : World} {o : Option Nat} (h : a.grownBy b o) : Frm o.toList a b := ⟨h.os, h.tape, h.output, h.size, fun k hk hs => h.block k hk (fun e => hs (by simp [← e]))⟩
theorem Frm.cell {S : List Nat} {a b : World} (h : Frm S a b) {g i : Nat} (hg : g < a.heap.size) (hs : g ∉ S) : b.cell? ⟨g, i, none⟩ = a.cell? ⟨g, i, none⟩ := World.cell?_of_block (w := a) (h.block g hg hs)
theorem Frm.blk {S : List Nat} {a b : World} (h : Frm S a b) {g : Nat} {t : TypeId} {cs : Array Value} (hb : Blk a g t cs) (hs : g ∉ S) : Blk b g t cs := (h.block g hb.lt hs).trans hb
/-- What went on behind a new block, seen from ahead of it. -/
theorem Frm.after {S T : List Nat} {a b c : World} (h : Frm S a b) (k : Frm T b c) (hT : ∀ g ∈ T, g ∈ S ∨ a.heap.size ≤ g) : Frm S a c :=
  ⟨k.os.trans h.os, k.tape.trans h.tape, k.output.trans h.output, Nat.le_trans h.size k.size, fun i hi hs => (k.block i (Nat.lt_of_lt_of_le hi h.size) (fun e => by
    rcases hT i e with h1 | h1
    · exact hs h1
    · omega)).trans (h.block i hi hs)⟩

/-- A thing in memory: its blocks, what it is; it hangs on those blocks alone. -/
structure Res where
  bl : List Nat
  P : World → Prop
  stays : ∀ w w' : World, (∀ k ∈ bl, w'.heap[k]? = w.heap[k]?) → P w → P w'
  lies : ∀ w : World, P w → ∀ k ∈ bl, k < w.heap.size

/-- A block known whole. -/
def blkR (b : Nat) (t : TypeId) (cs : Array Value) : Res := ⟨[b], fun w => Blk w b t cs, fun w w' h hp => (h b (by simp)).trans hp, fun w hp k hk => by simp at hk; subst hk; exact hp.lt⟩
/-- A slice of the call's own that it may append to. -/
def ownR (e : TypeId) (size : Nat) (v : Value) (n : Nat) (xs : List Value) : Res :=
  ⟨v.ownBlock.toList, fun w => w.ownsRow 0 e size v n xs,
   fun w w' h hp => ⟨hp.1, by
      rcases hp.2 with h2 | ⟨g, cap, cur, hv, hg, hh, r⟩
      · exact .inl h2
      · exact .inr ⟨g, cap, cur, hv, hg, (h g (by simp [hv, Value.ownBlock])).trans hh, r⟩⟩,
   fun w hp k hk => by
      have := hp.lt k (by simpa using hk)
      exact this.2⟩
/-- Two things as one. -/
def bothR (r s : Res) : Res :=
  ⟨r.bl ++ s.bl, fun w => r.P w ∧ s.P w, fun w w' h hp => ⟨r.stays w w' (fun k hk => h k (by simp [hk])) hp.1, s.stays w w' (fun k hk => h k (by simp [hk])) hp.2⟩,
   fun w hp k hk => by
      rcases List.mem_append.1 hk with h | h
      · exact r.lies w hp.1 k h
      · exact s.lies w hp.2 k h⟩

/-- From w0 on: the things of L lie apart, in new blocks or in those of S; nothing else has turned. -/
structure Sep (S : List Nat) (w0 w : World) (L : List Res) : Prop where
  frm : Frm S w0 w
  holds : ∀ r ∈ L, r.P w
  apart : L.Pairwise (fun r s => ∀ k ∈ r.bl, k ∉ s.bl)
  mine : ∀ r ∈ L, ∀ k ∈ r.bl, k ∈ S ∨ w0.heap.size ≤ k

theorem Sep.init (w : World) : Sep [] w w [] := ⟨Frm.refl _ _, by simp, List.Pairwise.nil, by simp⟩
theorem Sep.enter {w : World} {r : Res} (h : r.P w) : Sep r.bl w w [r] := ⟨Frm.refl _ _, by simpa using h, by simp, by simp; intro k hk; exact .inl hk⟩
theorem Sep.get {S : List Nat} {w0 w : World} {L : List Res} (h : Sep S w0 w L) (i : Nat) {r : Res} (hi : L[i]? = some r) : r.P w := h.holds r (List.mem_of_getElem? hi)
theorem Sep.blk {S : List Nat} {w0 w : World} {L : List Res} (h : Sep S w0 w L) (i : Nat) {b : Nat} {t : TypeId} {cs : Array Value} (hi : L[i]? = some (blkR b t cs)) : Blk w b t cs := h.get i hi
theorem Sep.own {S : List Nat} {w0 w : World} {L : List Res} (h : Sep S w0 w L) (i : Nat) {e : TypeId} {size : Nat} {v : Value} {n : Nat} {xs : List Value} (hi : L[i]? = some (ownR e size v n xs)) : w.ownsRow 0 e size v n xs := h.get i hi
theorem Sep.lt {S : List Nat} {w0 w : World} {L : List Res} (h : Sep S w0 w L) (i : Nat) {r : Res} (hi : L[i]? = some r) : ∀ k ∈ r.bl, k < w.heap.size := r.lies w (h.get i hi)
theorem Sep.drew {S : List Nat} {w0 w : World} {L : List Res} (h : Sep S w0 w L) : Sep S w0 w.drew L := ⟨h.frm.drew, fun r hr => r.stays w _ (fun _ _ => rfl) (h.holds r hr), h.apart, h.mine⟩
theorem Sep.drewN {S : List Nat} {w0 w : World} {L : List Res} (h : Sep S w0 w L) (n : Nat) : Sep S w0 (w.drewN n) L := ⟨h.frm.drewN n, fun r hr => r.stays w _ (fun _ _ => rfl) (h.holds r hr), h.apart, h.mine⟩
/-- A call that makes new memory alone. -/
theorem Sep.keep {S : List Nat} {w0 w w' : World} {L : List Res} (h : Sep S w0 w L) (hf : Frm [] w w') : Sep S w0 w' L :=
  ⟨h.frm.trans hf.more, fun r hr => r.stays w w' (fun k hk => hf.block k (r.lies w (h.holds r hr) k hk) (by simp)) (h.holds r hr), h.apart, h.mine⟩
theorem Sep.skip {S : List Nat} {w0 w : World} {L : List Res} (h : Sep S w0 w L) (o : Obj) : Sep S w0 (w.alloc o) L := h.keep ((Frm.refl _ _).alloc o)
/-- A new thing, all of whose blocks are new. -/
theorem Sep.add {S : List Nat} {w0 w w' : World} {L : List Res} (h : Sep S w0 w L) (hf : Frm [] w w') {r : Res} (hr : r.P w') (hn : ∀ k ∈ r.bl, w.heap.size ≤ k) : Sep S w0 w' (r :: L) := by
  have hk := h.keep hf
  refine ⟨hk.frm, fun s hs => ?_, List.Pairwise.cons (fun s hs k hkr hks => ?_) hk.apart, fun s hs => ?_⟩
  · rcases List.mem_cons.1 hs with rfl | hs
    · exact hr
    · exact hk.holds s hs
  · have h1 := hn k hkr
    have h2 := s.lies w (h.holds s hs) k hks
    omega
  · rcases List.mem_cons.1 hs with rfl | hs
    · exact fun k hk' => .inr (Nat.le_trans h.frm.size (hn k hk'))
    · exact hk.mine s hs
theorem Sep.alloc {S : List Nat} {w0 w : World} {L : List Res} (h : Sep S w0 w L) (cs : Array Value) (t : TypeId) : Sep S w0 (w.alloc (.cells cs t)) (blkR w.heap.size t cs :: L) :=
  h.add ((Frm.refl _ _).alloc _) (Blk.made w t cs) (by simp [blkR])
/-- A call, or a store, that turns the thing at place i alone. -/
theorem Sep.write {S : List Nat} {w0 w w' : World} {L : List Res} (h : Sep S w0 w L) (i : Nat) {r : Res} (hi : L[i]? = some r) {F : List Nat} (hf : Frm F w w') (hF : ∀ k ∈ F, k ∈ r.bl) {r' : Res} (hr : r'.P w') (hb : ∀ k ∈ r'.bl, k ∈ r.bl ∨ w.heap.size ≤ k) : Sep S w0 w' (L.set i r') := by
  have hil : i < L.length := (List.getElem?_eq_some_iff.1 hi).1
  have hri : L[i] = r := (List.getElem?_eq_some_iff.1 hi).2
  have hrm : r ∈ L := hri ▸ List.getElem_mem hil
  have far : ∀ j (hj : j < L.length), j ≠ i → ∀ k ∈ (L[j]).bl, k ∉ r.bl := by
    intro j hj hne k hk hkr
    rcases Nat.lt_or_ge j i with hlt | hge
    · have := List.pairwise_iff_getElem.1 h.apart j i hj hil hlt k hk
      rw [hri] at this
      exact this hkr
    · have := List.pairwise_iff_getElem.1 h.apart i j hil hj (by omega)
      rw [hri] at this
      exact this k hkr hk
  have hmem : ∀ s ∈ L.set i r', s = r' ∨ ∃ j, ∃ hj : j < L.length, j ≠ i ∧ s = L[j] := by
    intro s hs
    obtain ⟨j, hj, hse⟩ := List.mem_iff_getElem.1 hs
    rw [List.length_set] at hj
    rw [List.getElem_set] at hse
    split at hse
    · exact .inl hse.symm
    · rename_i hne; exact .inr ⟨j, hj, fun e => hne e.symm, hse.symm⟩
  refine ⟨h.frm.after hf (fun g hg => h.mine r hrm g (hF g hg)), fun s hs => ?_, ?_, fun s hs k hk => ?_⟩
  · rcases hmem s hs with rfl | ⟨j, hj, hne, rfl⟩
    · exact hr
    · have hP := h.holds _ (List.getElem_mem hj)
      exact (L[j]).stays w w' (fun k hk => hf.block k ((L[j]).lies w hP k hk) (fun hkF => far j hj hne k hk (hF k hkF))) hP
  · rw [List.pairwise_iff_getElem]
    intro a b ha hb' hab k hka hkb
    rw [List.length_set] at ha hb'
    rw [List.getElem_set] at hka hkb
    split at hka
    · split at hkb
      · omega
      · rename_i e1 e2
        have h1 := far b hb' (fun e => e2 e.symm) k hkb
        have h2 := (L[b]).lies w (h.holds _ (List.getElem_mem hb')) k hkb
        rcases hb k hka with h3 | h3
        · exact h1 h3
        · omega
    · split at hkb
      · rename_i e1 e2
        have h1 := far a ha (fun e => e1 e.symm) k hka
        have h2 := (L[a]).lies w (h.holds _ (List.getElem_mem ha)) k hka
        rcases hb k hkb with h3 | h3
        · exact h1 h3
        · omega
      · exact List.pairwise_iff_getElem.1 h.apart a b ha hb' hab k hka hkb
  · rcases hmem s hs with rfl | ⟨j, hj, hne, rfl⟩
    · rcases hb k hk with h1 | h1
      · exact h.mine r hrm k h1
      · exact .inr (Nat.le_trans h.frm.size h1)
    · exact h.mine _ (List.getElem_mem hj) k hk
/-- A store into a block. -/
theorem Sep.put {S : List Nat} {w0 w : World} {L : List Res} (h : Sep S w0 w L) (i : Nat) {b : Nat} {t : TypeId} {cs : Array Value} (hi : L[i]? = some (blkR b t cs)) (j : Nat) (u : Value) : Sep S w0 (w.setCell ⟨b, j, none⟩ u) (L.set i (blkR b t (cs.setIfInBounds j u))) :=
  h.write i hi (F := [b]) ((Frm.refl _ _).put (.inl (by simp)) j none u) (by simp [blkR]) ((h.blk i hi).put j u) (by simp [blkR])
/-- A call that turns block b, at place i. -/
theorem Sep.call {S : List Nat} {w0 w w' : World} {L : List Res} (h : Sep S w0 w L) (i : Nat) {b : Nat} {t t' : TypeId} {cs cs' : Array Value} (hi : L[i]? = some (blkR b t cs)) (hf : Frm [b] w w') (hb : Blk w' b t' cs') : Sep S w0 w' (L.set i (blkR b t' cs')) :=
  h.write i hi hf (by simp [blkR]) (r' := blkR b t' cs') hb (by simp [blkR])
/-- An append to the slice at place i. -/
theorem Sep.grow {S : List Nat} {w0 w w' : World} {L : List Res} (h : Sep S w0 w L) (i : Nat) {e : TypeId} {size : Nat} {v v' : Value} {n n' : Nat} {xs xs' : List Value} (hi : L[i]? = some (ownR e size v n xs)) (hg : w.grownBy w' v.ownBlock) (ho : w'.ownsRow 0 e size v' n' xs')
    (hv : v'.ownBlock = v.ownBlock ∨ v'.ownBlock = some w.heap.size) : Sep S w0 w' (L.set i (ownR e size v' n' xs')) :=
  h.write i hi (Frm.of_grown_opt hg) (by simp [ownR]) (r' := ownR e size v' n' xs') ho (fun k hk => by
    simp only [ownR, Option.mem_toList] at hk ⊢
    rcases hv with hv | hv
    · rw [hv] at hk; exact .inl hk
    · rw [hv] at hk; simp at hk; exact .inr (by omega))
theorem Sep.sub {S : List Nat} {w0 w : World} {L L' : List Res} (h : Sep S w0 w L) (hs : L'.Sublist L) : Sep S w0 w L' :=
  ⟨h.frm, fun r hr => h.holds r (hs.subset hr), h.apart.sublist hs, fun r hr => h.mine r (hs.subset hr)⟩
theorem Sep.only {S : List Nat} {w0 w : World} {L : List Res} (h : Sep S w0 w L) (i : Nat) {r : Res} (hi : L[i]? = some r) : Sep S w0 w [r] :=
  h.sub (List.singleton_sublist.2 (List.mem_of_getElem? hi))
theorem Sep.swap2 {S : List Nat} {w0 w : World} {r s : Res} {L : List Res} (h : Sep S w0 w (r :: s :: L)) : Sep S w0 w (s :: r :: L) := by
  have hp := h.apart
  rw [List.pairwise_cons, List.pairwise_cons] at hp
  obtain ⟨h1, h2, h3⟩ := hp
  refine ⟨h.frm, fun x hx => h.holds x (by simp at hx ⊢; rcases hx with hx | hx | hx <;> simp [hx]), ?_, fun x hx => h.mine x (by simp at hx ⊢; rcases hx with hx | hx | hx <;> simp [hx])⟩
  rw [List.pairwise_cons, List.pairwise_cons]
  refine ⟨fun x hx => ?_, fun x hx => h1 x (by simp [hx]), h3⟩
  rcases List.mem_cons.1 hx with rfl | hx
  · exact fun k hk hk' => h1 s (by simp) k hk' hk
  · exact h2 x hx
/-- A nil slice is the call's own, too. -/
theorem Sep.nil {S : List Nat} {w0 w : World} {L : List Res} (h : Sep S w0 w L) (e : TypeId) (size : Nat) : Sep S w0 w (ownR e size (.slice none 0 0) 0 [] :: L) :=
  h.add (Frm.refl _ _) (World.ownsRow_nil w 0 e size) (by simp [ownR, Value.ownBlock])
/-- An empty slice made in a new block. -/
theorem Sep.made {S : List Nat} {w0 w : World} {L : List Res} (h : Sep S w0 w L) (e : TypeId) (size cap : Nat) (cur : Array Value) (hm : cap ≤ maxLen) (hs : cur.size = cap * size) : Sep S w0 (w.alloc (.cells cur e)) (ownR e size (.slice (some ⟨w.heap.size, 0, none⟩) 0 cap) 0 [] :: L) :=
  h.add ((Frm.refl _ _).alloc _) (World.ownsRow_made w cur cap (Nat.zero_le _) hm hs) (by simp [ownR, Value.ownBlock])

/-- 'append(s, x)' of one element, s among the call's own things. -/
theorem wpList_append_sep {P : Program} {S : List Nat} {w0 w : World} {L : List Res} {ops : Array Oper} {rest : List Oper} {o : Oper} {a : Act} {Q : Exit → Act → World → Prop} (hgd : o.guard = none) (s x : Operand) (t : TypeId)
    (ho : o.op = .call { callee := .builtin .append, args := #[s, x], argTypes := #[t, t] }) (i : Nat)
    (e : TypeId) (inf : TypeInfo) (z : Value) (bytes : Nat) (ht : P.underlying t = some (.slice e)) (hi : P.info? e = some inf) (hz : inf.zero = some z)
    (hsize : inf.size = 1) (hby : inf.bytes = bytes) (hzs : z.cells.size = 1)
    (v : Value) (n : Nat) (xs : List Value) (hs : a.eval s = v) (hS : Sep S w0 w L) (hL : L[i]? = some (ownR e 1 v n xs))
    (g c : Nat) (u : Value) (hx : a.eval x = .slice (some ⟨g, 0, none⟩) 1 c) (hu : w.cell? ⟨g, 0, none⟩ = some u) (h1 : u.oneCell' = true)
    (h63 : n + 1 ≤ maxLen) (hbytes : (n + 1) * bytes ≤ 140737488355328)
    (h : ∀ (g' c' : Nat) w', Sep S w0 w' (L.set i (ownR e 1 (.slice (some ⟨g', 0, none⟩) (n + 1) c') (n + 1) (xs ++ [u]))) → wpList P ops Q rest (a.put o.dst (.slice (some ⟨g', 0, none⟩) (n + 1) c')) w') : wpList P ops Q (o :: rest) a w :=
  wpList_append_own_at w hgd s x t ho 0 e inf z 1 bytes ht hi hz hsize hby hzs (by decide) v n xs hs (hS.own i hL) ⟨g, 0, none⟩ 1 c [u] hx rfl
    (fun j y hj => by
      match j, hj with
      | 0, hj => simp at hj; subst hj; simpa [Addr.add] using hu)
    (fun y hy => by simp at hy; subst hy; exact h1) h63 hbytes (Nat.zero_le _) (fun v' w' h2 h3 _ h5 => by
      have hv : ∃ g' c', v' = .slice (some ⟨g', 0, none⟩) (n + 1) c' := by
        rcases h2.2 with ⟨hv, he⟩ | ⟨g', cap, cur, hv, _⟩
        · simp at he
        · exact ⟨g', cap, hv⟩
      obtain ⟨g', c', rfl⟩ := hv
      exact h g' c' w' (hS.grow i hL h3 h2 h5))

end Go.Proofs.Ytekjpkppfcmjdaa
