/-
  PLAIN LAWS of cuts and of zeros; an append in a region that draws its order.
-/
import Derived.Test.YtmdjdhbnigppcaaStK
import Derived.Test.YtmdjdhbnigppcaaBits
set_option linter.unusedVariables false
set_option linter.unusedSimpArgs false
namespace Go.Proofs.Ytmdjdhbnigppcaa
open Go.RowKit Go.Shelf

theorem getD_append (xs ys : List Int) (i : Nat) : (xs ++ ys).getD i 0 = if i < xs.length then xs.getD i 0 else ys.getD (i - xs.length) 0 := by
  rw [List.getD_eq_getElem?_getD]
  by_cases h : i < xs.length
  · rw [List.getElem?_append_left h, if_pos h, List.getD_eq_getElem?_getD]
  · rw [List.getElem?_append_right (by omega), if_neg h, List.getD_eq_getElem?_getD]
theorem getD_drop (xs : List Int) (t i : Nat) : (xs.drop t).getD i 0 = xs.getD (t + i) 0 := by
  rw [List.getD_eq_getElem?_getD, List.getElem?_drop, List.getD_eq_getElem?_getD]
theorem xo_cut {xs ys : List Int} (hx : Byt xs) (hy : Byt ys) (hl : xs.length = ys.length) (t : Nat) (ht : t ≤ xs.length) : xo (xs.take t) (ys.take t) ++ xo (xs.drop t) (ys.drop t) = xo xs ys := by
  refine rows_ext ?_ fun i hi => ?_
  · rw [List.length_append, xo_length, xo_length, xo_length, List.length_take, List.length_take, List.length_drop, List.length_drop]; omega
  · rw [getD_append, xo_get hx hy]
    have hlt : (xo (xs.take t) (ys.take t)).length = t := by rw [xo_length, List.length_take, List.length_take]; omega
    rw [hlt]
    by_cases h : i < t
    · rw [if_pos h, xo_get (hx.take t) (hy.take t), getD_take, getD_take, if_pos h, if_pos h]
    · rw [if_neg h, xo_get (hx.drop t) (hy.drop t), getD_drop, getD_drop, Nat.add_sub_cancel' (by omega)]
theorem fit_fit (xs : List Int) (n m : Nat) (h : n ≤ m) : fitL (fitL xs m) n = fitL xs n := by
  refine rows_ext (by rw [fitL_length, fitL_length]) fun i hi => ?_
  rw [fitL_length] at hi
  rw [fitL_get, fitL_get, fitL_get, if_pos hi, if_pos hi, if_pos (by omega)]
theorem fz_zero : ∀ (L : List Int) (k : Nat), (fz L k < 0) ↔ ∀ x ∈ L, x = 0
  | [], k => by simp [fz]
  | z :: zs, k => by
    unfold fz
    by_cases h : z = 0
    · rw [if_pos h, fz_zero zs (k + 1)]
      subst h
      simp
    · rw [if_neg h]
      constructor
      · intro hk; omega
      · intro hz; exact absurd (hz z (List.mem_cons_self ..)) h
theorem zero_getD {L : List Int} : (∀ x ∈ L, x = 0) ↔ ∀ i, L.getD i 0 = 0 := by
  constructor
  · intro h i
    rw [List.getD_eq_getElem?_getD]
    cases hi : L[i]? with
    | none => rfl
    | some x => exact h x (List.mem_of_getElem? hi)
  · intro h x hx
    obtain ⟨i, hi⟩ := List.getElem?_of_mem hx
    have := h i
    rw [List.getD_eq_getElem?_getD, hi] at this
    exact this
theorem gap_neg {xs ys : List Int} (hx : Byt xs) (hy : Byt ys) : gapOf xs ys < 0 ↔ ∀ i, xs.getD i 0 = ys.getD i 0 := by
  unfold gapOf
  rw [fz_zero, zero_getD]
  constructor
  · intro h i
    have := h i
    rw [xo_get hx hy] at this
    exact (bx_eq_zero (hx.get i).1 (hy.get i).1).1 this
  · intro h i
    rw [xo_get hx hy]
    exact (bx_eq_zero (hx.get i).1 (hy.get i).1).2 (h i)
theorem gap_same {xs ys : List Int} (hx : Byt xs) (hy : Byt ys) (hl : xs.length = ys.length) : gapOf xs ys < 0 ↔ xs = ys := by
  rw [gap_neg hx hy]
  exact ⟨fun h => rows_ext hl (fun i _ => h i), fun h i => by rw [h]⟩
theorem zero_same {xs ys : List Int} (hx : Byt xs) (hy : Byt ys) (hl : xs.length = ys.length) : gapOf (xo xs ys) [] < 0 ↔ xs = ys := by
  rw [← gap_same hx hy hl]
  unfold gapOf
  rw [xo_nil]

theorem RdI.cut {k : IntKind} {w : World} {a : Option Addr} {zs : List Int} (h : RdI k w a zs) (t : Nat) : RdI k w a (zs.take t) := fun i x hx => by
  refine h i x ?_
  rw [List.getElem?_take] at hx
  split at hx
  · exact hx
  · cases hx
theorem RdI.rest {k : IntKind} {w : World} {b off : Nat} {zs : List Int} (h : RdI k w (some ⟨b, off, none⟩) zs) (t : Nat) : RdI k w (some ⟨b, off + t, none⟩) (zs.drop t) := fun i x hx => by
  rw [List.getElem?_drop] at hx
  obtain ⟨b', off', ha, hb, hc⟩ := h (t + i) x hx
  injection ha with ha
  injection ha with h1 h2 h3
  subst h1 h2
  exact ⟨_, _, rfl, hb, by rw [Nat.add_assoc]; exact hc⟩

/-- 'append(s, xs...)' of integers, as one operation. -/
theorem wp_append_said {P : Program} {S : List Nat} {w0 w : World} {L : List Res} {o : Oper} {a : Act} {K : Act → World → Prop} {Q : Exit → Act → World → Prop} (s x : Operand) (t : TypeId)
    (ho : o.op = .call { callee := .builtin .append, args := #[s, x], argTypes := #[t, t] }) (i : Nat)
    (e : TypeId) (inf : TypeInfo) (z : Value) (bytes : Nat) (ht : P.underlying t = some (.slice e)) (hi : P.info? e = some inf) (hz : inf.zero = some z)
    (hsize : inf.size = 1) (hby : inf.bytes = bytes) (hzs : z.cells.size = 1) (k : IntKind)
    (v : Value) (n : Nat) (xs : List Value) (hs : a.eval s = v) (hS : Sep S w0 w L) (hL : L[i]? = some (ownR e 1 v n xs))
    (ad : Option Addr) (c m : Nat) (zs : List Int) (hm : zs.length = m) (hx : a.eval x = .slice ad m c) (hc : ad = none → c = 0) (hrd : RdI k w ad zs)
    (N : Nat) (hN : n + m = N) (ys : List Value) (hy : xs ++ zs.map (Value.int k) = ys)
    (h63 : N ≤ maxLen) (hbytes : N * bytes ≤ 140737488355328)
    (h : ∀ v' w', Sep S w0 w' (L.set i (ownR e 1 v' N ys)) → K (a.put o.dst v') w') : o.wp P a w K Q := by
  subst hm hN hy
  have hl : (zs.map fun z => [Value.int k z]).length = zs.length := List.length_map _
  refine wp_append_rows (P := P) s x t ho e inf z 1 bytes ht hi hz hsize hby hzs (by decide) v n xs hs (hS.own i hL) ad c (zs.map fun z => [Value.int k z]) (by rw [hl]; exact hx) hc (fun r hr => by obtain ⟨z, _, rfl⟩ := List.mem_map.1 hr; rfl) hrd.rows (fun r hr u hu => by obtain ⟨z, _, rfl⟩ := List.mem_map.1 hr; simp at hu; subst hu; rfl) (by rw [hl]; exact h63) (by rw [hl]; exact hbytes) ?_
  intro v' w' h2 h3 h4
  rw [hl, flatten_ints] at h2
  exact h _ _ (hS.grow i hL h3 h2 h4)

theorem fitn_c (a : Option Addr) (cap : Nat) (zs : List Int) (p : Int) (m : Nat) (hp : p = m) (hm : m ≤ 65536) (w : World) (rd : RdI .u8 w a zs) (hl : zs.length ≤ 1000000) (hc : a = none → cap = 0) :
    Calls Try.prog 23 #[.slice a zs.length cap, .int .i64 p] w fun e w' => ∃ v, e = .returned v ∧ Sep [] w w' [sumR v (fitL zs m)] := by
  have h := fit_c a cap zs p w rd hl hc
  have e : (held p 0 65536).toNat = m := by subst hp; unfold held; split <;> (try split) <;> omega
  rwa [e] at h
theorem same_yes (a b : Option Addr) (p q n m : Nat) (xs ys : List Int) (w : World) (rx : RdI .u8 w a xs) (ry : RdI .u8 w b ys) (hx : xs.length ≤ 1000000) (hn : xs.length = n) (hm : ys.length = m) (he : xs = ys) :
    Calls Try.prog 13 #[.slice a n p, .slice b m q] w fun e w' => e = .returned (.bool true) ∧ Frm [] w w' := by
  subst hn hm
  have h := bsame_c a b p q xs ys w rx ry hx (he ▸ hx)
  rw [decide_eq_true he] at h
  exact frm_of h

theorem sum_slice {w : World} {v : Value} {zs : List Int} (ho : (sumR v zs).P w) : ∃ a c, v = .slice a zs.length c ∧ (a = none → c = 0) ∧ RdI .u8 w a zs := by
  obtain ⟨a, c, rfl, _, hr⟩ := RdI.of_own ho
  refine ⟨a, c, rfl, ?_, hr⟩
  rintro rfl
  rcases row_form ho with ⟨h1, h2⟩ | ⟨g, c', h1⟩
  · injection h1
  · cases h1

end Go.Proofs.Ytmdjdhbnigppcaa
