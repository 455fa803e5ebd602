/-
  THINGS THAT LIE APART, IN ANOTHER ORDER; readers of a struct's cells. No program is named here.
-/
import Derived.Test.YtekjpkppfcmjdaaSep
import Derived.Test.YtekjpkppfcmjdaaOs
import Derived.Test.YtekjpkppfcmjdaaSpm
import Derived.Test.YtekjpkppfcmjdaaMany
set_option linter.unusedVariables false
set_option linter.unusedSimpArgs false
namespace Go.Proofs.Ytekjpkppfcmjdaa
open Go.RowKit

theorem Sep.prm {S : List Nat} {w0 w : World} {L L' : List Res} (h : Sep S w0 w L) (hp : L.Perm L') : Sep S w0 w L' :=
  ⟨h.frm, fun r hr => h.holds r (hp.mem_iff.2 hr), (hp.pairwise_iff (fun {a b} hab k hk hk' => hab k hk' hk)).1 h.apart, fun r hr => h.mine r (hp.mem_iff.2 hr)⟩
/-- The things at these places. -/
theorem Sep.pick {S : List Nat} {w0 w : World} {L : List Res} (h : Sep S w0 w L) {L' L2 : List Res} (hp : L.Perm (L' ++ L2)) : Sep S w0 w L' := (h.prm hp).sub (List.sublist_append_left _ _)
/-- Read, whatever turned that is newer. -/
theorem RdS.low {n : Nat} {w w' : World} {a : Option Addr} {rows : List (List Value)} {S : List Nat} (h : RdS n w a rows) (hf : Frm S w w') (hS : ∀ k ∈ S, w.heap.size ≤ k) : RdS n w' a rows := fun i row hr => by
  obtain ⟨b, off, ha, hl, hc⟩ := h i row hr
  exact ⟨b, off, ha, Nat.lt_of_lt_of_le hl hf.size, fun j v hv => (hf.cell hl (fun hb => by have := hS b hb; omega)).trans (hc j v hv)⟩
theorem RdI.low {k : IntKind} {w w' : World} {a : Option Addr} {zs : List Int} {S : List Nat} (h : RdI k w a zs) (hf : Frm S w w') (hS : ∀ k ∈ S, w.heap.size ≤ k) : RdI k w' a zs := fun i x hx => by
  obtain ⟨b, off, ha, hl, hc⟩ := h i x hx
  exact ⟨b, off, ha, Nat.lt_of_lt_of_le hl hf.size, (hf.cell hl (fun hb => by have := hS b hb; omega)).trans hc⟩
theorem Blk.low {w w' : World} {b : Nat} {t : TypeId} {cs : Array Value} {S : List Nat} (h : Blk w b t cs) (hf : Frm S w w') (hS : ∀ k ∈ S, w.heap.size ≤ k) : Blk w' b t cs :=
  hf.blk h (fun hb => by have := hS b hb; have := h.lt; omega)
/-- A row of the call's own is a slice of that length. -/
theorem own_shape {w : World} {base e size : Nat} {v : Value} {n : Nat} {xs : List Value} (h : w.ownsRow base e size v n xs) : ∃ a c, v = .slice a n c ∧ n ≤ c ∧ (a = none → c = 0) := by
  rcases h.2 with ⟨rfl, h0⟩ | ⟨g, c, cur, rfl, _, _, hc, _⟩
  · exact ⟨none, 0, by rw [h0], by omega, fun _ => rfl⟩
  · exact ⟨_, c, rfl, hc, fun h => by cases h⟩
theorem own_le {w : World} {base e size : Nat} {v : Value} {n : Nat} {xs : List Value} (h : w.ownsRow base e size v n xs) : n ≤ maxLen := by
  rcases h.2 with ⟨_, h0⟩ | ⟨g, c, cur, _, _, _, hc, hm, _⟩
  · rw [h0]; exact Nat.zero_le _
  · exact Nat.le_trans hc hm
/-- An operation under a guard that holds. -/
theorem wpList_wanted {P : Program} {w : World} {ops : Array Oper} {rest : List Oper} {o : Oper} {a : Act} {Q : Exit → Act → World → Prop} (hw : Region.wanted o (yielded ops a.tmps) = true)
    (h : ∀ K : Act → World → Prop, (∀ a w, wpList P ops Q rest a w → K a w) → o.wp P a w K Q) : wpList P ops Q (o :: rest) a w :=
  wpList_step fun K hK => by rw [if_pos hw]; exact h K hK
/-- New things, seen from ahead. -/
theorem sep_rebase {w w1 w2 : World} {L : List Res} (h : Frm [] w w1) (k : Sep [] w1 w2 L) : Sep [] w w2 L :=
  ⟨h.trans k.frm, k.holds, k.apart, fun r hr q hq => by
    rcases k.mine r hr q hq with h1 | h1
    · simp at h1
    · exact .inr (Nat.le_trans h.size h1)⟩
/-- A call that makes new things alone. -/
theorem Sep.more {S : List Nat} {w0 w w' : World} {L0 L1 : List Res} (h : Sep S w0 w L0) (k : Sep [] w w' L1) : Sep S w0 w' (L1 ++ L0) := h.none.callMany k (by simp)
theorem Sep.rest {S : List Nat} {w0 w : World} {r : Res} {L : List Res} (h : Sep S w0 w (r :: L)) : Sep S w0 w L := h.sub (List.sublist_cons_self _ _)
theorem Sep.into1 {S : List Nat} {w0 w : World} {r : Res} {rs : List Res} {L : List Res} (h : Sep S w0 w (r :: manyR rs :: L)) : Sep S w0 w (manyR (rs ++ [r]) :: L) := (h.none.swap2.into).rest
/-- Things go to the many. -/
theorem Sep.gather {S : List Nat} {w0 w : World} : ∀ (L1 : List Res) {rs L : List Res}, Sep S w0 w (L1 ++ (manyR rs :: L)) → Sep S w0 w (manyR (rs ++ L1) :: L)
  | [], rs, L, h => by rw [List.append_nil]; exact h
  | r :: L1, rs, L, h => by
    have h1 : Sep S w0 w (r :: manyR rs :: (L1 ++ L)) := h.prm (List.Perm.cons r List.perm_middle)
    have h2 : Sep S w0 w (L1 ++ (manyR (rs ++ [r]) :: L)) := h1.into1.prm List.perm_middle.symm
    have h3 := Sep.gather L1 h2
    rw [List.append_assoc] at h3
    exact h3
/-- A slice from a place on, as the walk spells its address. -/
theorem RdI.cutOff {k : IntKind} {w : World} {b off c j : Nat} {zs : List Int} (h : RdI k w (some ⟨b, off, none⟩) zs) (hc : zs.length ≤ c) : RdI k w (if c = j then some ⟨b, off, none⟩ else some ⟨b, off + j, none⟩) (zs.drop j) := fun i x hx => by
  rw [List.getElem?_drop] at hx
  have hl := (List.getElem?_eq_some_iff.1 hx).1
  rw [if_neg (by omega)]
  obtain ⟨b', off', ha, hb, hcell⟩ := h (j + i) x hx
  injection ha with ha
  injection ha with h1 h2 h3
  subst h1 h2
  exact ⟨b, off + j, rfl, hb, by rw [Nat.add_assoc]; exact hcell⟩
theorem RdI.offs {k : IntKind} {w : World} {b off : Nat} {zs : List Int} (h : RdI k w (some ⟨b, off, none⟩) zs) (j : Nat) : RdI k w (some ⟨b, off + j, none⟩) (zs.drop j) := fun i x hx => by
  rw [List.getElem?_drop] at hx
  obtain ⟨b', off', ha, hb, hcell⟩ := h (j + i) x hx
  injection ha with ha
  injection ha with h1 h2 h3
  subst h1 h2
  exact ⟨b, off + j, rfl, hb, by rw [Nat.add_assoc]; exact hcell⟩
theorem RdI.firsts {k : IntKind} {w : World} {a : Option Addr} {zs : List Int} (h : RdI k w a zs) (m : Nat) : RdI k w a (zs.take m) := fun i x hx => by
  rw [List.getElem?_take] at hx
  split at hx
  · exact h i x hx
  · cases hx
/-- A block of integers, read whole. -/
theorem RdI.of_blk {k : IntKind} {w : World} {b : Nat} {t : TypeId} {cs : Array Value} (h : Blk w b t cs) {zs : List Int} (hz : cs.toList = zs.map (Value.int k)) : RdI k w (some ⟨b, 0, none⟩) zs := fun i x hx =>
  ⟨b, 0, rfl, h.lt, by rw [Nat.zero_add]; exact h.cell i (by rw [← Array.getElem?_toList, hz, List.getElem?_map, hx]; rfl)⟩

end Go.Proofs.Ytekjpkppfcmjdaa
