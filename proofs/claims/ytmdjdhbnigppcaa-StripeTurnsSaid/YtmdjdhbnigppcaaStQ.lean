/-
  stripe's functions once more, their slices spelled out; plain laws of rows in another order; rows of rows read.
-/
import Derived.Test.YtmdjdhbnigppcaaStM
import Derived.Test.YtmdjdhbnigppcaaStN
set_option linter.unusedVariables false
set_option linter.unusedSimpArgs false
namespace Go.Proofs.Ytmdjdhbnigppcaa
open Go.RowKit Go.Shelf

/-- A slice of bytes of length n at a. -/
def Sl (w : World) (a : Option Addr) (xs : List Int) (n : Nat) : Prop := xs.length = n ∧ RdI .u8 w a xs ∧ Byt xs ∧ n ≤ 1000000
theorem Sl.below {w w' : World} {a : Option Addr} {xs : List Int} {n : Nat} (h : Sl w a xs n) (hb : Below w.heap.size w w') : Sl w' a xs n := ⟨h.1, h.2.1.below hb, h.2.2⟩
theorem Sl.ok {w : World} {a : Option Addr} {xs : List Int} {n : Nat} (h : Sl w a xs n) (c : Nat) : (⟨a, c, xs⟩ : Bs).ok w := ⟨h.2.1, h.2.2.1, h.1 ▸ h.2.2.2⟩
theorem xor_s {w : World} {a b : Option Addr} {xs ys : List Int} {n m : Nat} (p q : Nat) (hx : Sl w a xs n) (hy : Sl w b ys m) :
    Calls Try.prog 18 #[.slice a n p, .slice b m q] w fun e w' => ∃ (a' : Option Addr) (n' c' : Nat), e = .returned (.slice a' n' c') ∧ Sl w' a' (xo xs ys) n' ∧ (a' = none → c' = 0) ∧ Sep [] w w' [sumR (.slice a' n' c') (xo xs ys)] := by
  have h := xor_c ⟨a, p, xs⟩ ⟨b, q, ys⟩ w (hx.ok p) (hy.ok q)
  unfold Bs.val at h
  dsimp only at h
  rw [hx.1, hy.1] at h
  refine h.mono ?_
  rintro e w' ⟨v, rfl, hS⟩
  obtain ⟨a', c', rfl, hn, hr⟩ := sum_slice (hS.get 0 rfl)
  have h1 := hx.1
  have h2 := hy.1
  have h3 := hx.2.2.2
  have h4 := hy.2.2.2
  exact ⟨a', _, c', rfl, ⟨rfl, hr, xo_byt hx.2.2.1 hy.2.2.1, by rw [xo_length]; omega⟩, hn, hS⟩
theorem all_s {w : World} {ad : Option Addr} {xs : List Bs} {n : Nat} (c : Nat) (hr : RdRows w ad xs) (hn : xs.length = n) (hl : n ≤ 1000) :
    Calls Try.prog 14 #[.slice ad n c] w fun e w' => ∃ (a' : Option Addr) (n' c' : Nat), e = .returned (.slice a' n' c') ∧ Sl w' a' (xoAll (xs.map Bs.zs)) n' ∧ (a' = none → c' = 0) ∧ Sep [] w w' [sumR (.slice a' n' c') (xoAll (xs.map Bs.zs))] := by
  subst hn
  refine (all_c ad c xs w hr hl).mono ?_
  rintro e w' ⟨v, rfl, hS⟩
  obtain ⟨a', c', rfl, hn, hr2⟩ := sum_slice (hS.get 0 rfl)
  have hf := fit_all (xs := xs) (fun x hx => by
    obtain ⟨i, hi⟩ := List.getElem?_of_mem hx
    exact (hr i x hi).2.2)
  exact ⟨a', _, c', rfl, ⟨rfl, hr2, hf⟩, hn, hS⟩
theorem gap_s {w : World} {a b : Option Addr} {xs ys : List Int} {n m : Nat} (p q : Nat) (hx : Sl w a xs n) (hy : Sl w b ys m) (T : Bool) (hT : decide (gapOf xs ys < 0) = T) :
    Calls Try.prog 20 #[.slice a n p, .slice b m q] w fun e w' => (∃ g, e = .returned (.int .i64 g) ∧ decide (g < 0) = T) ∧ Frm [] w w' := by
  have h := gap_c ⟨a, p, xs⟩ ⟨b, q, ys⟩ w (hx.ok p) (hy.ok q)
  unfold Bs.val at h
  dsimp only at h
  rw [hx.1, hy.1] at h
  exact h.mono fun _ _ ⟨he, hf⟩ => ⟨⟨_, he, hT⟩, hf⟩
theorem zero_s {w : World} {a : Option Addr} {xs : List Int} {n : Nat} (p : Nat) (hx : Sl w a xs n) (T : Bool) (hT : decide (gapOf xs [] < 0) = T) :
    Calls Try.prog 22 #[.slice a n p] w fun e w' => e = .returned (.bool T) ∧ Frm [] w w' := by
  have h := zero_c ⟨a, p, xs⟩ w (hx.ok p)
  unfold Bs.val at h
  dsimp only at h
  rw [hx.1, hT] at h
  exact h
theorem fit_s {w : World} {a : Option Addr} {xs : List Int} {n : Nat} (p : Nat) (hp : a = none → p = 0) (hx : Sl w a xs n) (t : Int) (m : Nat) (ht : t = m) (hm : m ≤ 65536) :
    Calls Try.prog 23 #[.slice a n p, .int .i64 t] w fun e w' => ∃ (a' : Option Addr) (c' : Nat), e = .returned (.slice a' m c') ∧ Sl w' a' (fitL xs m) m ∧ Sep [] w w' [sumR (.slice a' m c') (fitL xs m)] := by
  have h := fitn_c a p xs t m ht hm w hx.2.1 (hx.1 ▸ hx.2.2.2) hp
  rw [hx.1] at h
  refine h.mono ?_
  rintro e w' ⟨v, rfl, hS⟩
  obtain ⟨a', c', rfl, hn, hr2⟩ := sum_slice (hS.get 0 rfl)
  have hl := fitL_length xs m
  rw [hl] at hS ⊢
  exact ⟨a', c', rfl, ⟨hl, hr2, Byt.of_get (fun i _ => by rw [fitL_get]; split; exact hx.2.2.1.get i; omega), by omega⟩, hS⟩
theorem same_s {w : World} {a b : Option Addr} {xs ys : List Int} {n m : Nat} (p q : Nat) (hx : Sl w a xs n) (hy : Sl w b ys m) (he : xs = ys) :
    Calls Try.prog 13 #[.slice a n p, .slice b m q] w fun e w' => e = .returned (.bool true) ∧ Frm [] w w' :=
  same_yes a b p q n m xs ys w hx.2.1 hy.2.1 (hx.1 ▸ hx.2.2.2) hx.1 hy.1 he

/-! ### Plain laws -/
theorem gap_back {A b : List Int} (hA : Byt A) (hb : Byt b) : decide (gapOf (xo (xo A b) b) A < 0) = true := by
  rw [decide_eq_true_iff, gap_neg (xo_byt (xo_byt hA hb) hb) hA]
  intro i
  rw [xo_get (xo_byt hA hb) hb, xo_get hA hb, bx_assoc, bx_self, bx_zero (hA.get i).1]
theorem zero_self {A : List Int} (hA : Byt A) : decide (gapOf (xo A A) [] < 0) = true := by
  rw [decide_eq_true_iff, zero_same hA hA rfl]
theorem all_reverse {xs : List Bs} (h : ∀ x ∈ xs, Byt x.zs) : xoAll (xs.reverse.map Bs.zs) = xoAll (xs.map Bs.zs) :=
  xoAll_perm ((List.reverse_perm xs).map _) (fun r hr => by
    obtain ⟨x, hx, rfl⟩ := List.mem_map.1 hr
    exact h x (List.mem_reverse.1 hx))
theorem lost_back {xs : List Bs} (h : ∀ x ∈ xs, Byt x.zs) (k : Nat) (x : Bs) (hx : xs[k]? = some x) :
    fitL (xo (xoAll (xs.map Bs.zs)) (xoAll ((xs.take k ++ xs.drop (k + 1)).map Bs.zs))) x.zs.length = x.zs := by
  have hxm := List.mem_of_getElem? hx
  have hb : ∀ r ∈ (xs.take k ++ xs.drop (k + 1)).map Bs.zs, Byt r := fun r hr => by
    obtain ⟨y, hy, rfl⟩ := List.mem_map.1 hr
    rcases List.mem_append.1 hy with h1 | h1
    · exact h y (List.mem_of_mem_take h1)
    · exact h y (List.mem_of_mem_drop h1)
  have hp : (xs.map Bs.zs).Perm (x.zs :: (xs.take k ++ xs.drop (k + 1)).map Bs.zs) := by
    have e : xs = xs.take k ++ x :: xs.drop (k + 1) := by
      obtain ⟨hk, he⟩ := List.getElem?_eq_some_iff.1 hx
      rw [← he, List.getElem_cons_drop, List.take_append_drop]
    have e2 : xs.Perm (x :: (xs.take k ++ xs.drop (k + 1))) := by
      conv => lhs; rw [e]
      exact List.perm_middle
    exact e2.map Bs.zs
  rw [xoAll_perm hp (fun r hr => by obtain ⟨y, hy, rfl⟩ := List.mem_map.1 hr; exact h y hy), xoAll_cons (h x hxm) hb]
  have hO := xoAll_byt hb
  rw [xo_assoc (h x hxm) hO hO]
  refine rows_ext (fitL_length _ _) fun i hi => ?_
  rw [fitL_length] at hi
  rw [fitL_get, if_pos hi, xo_get (h x hxm) (xo_byt hO hO), xo_get hO hO, bx_self, bx_zero ((h x hxm).get i).1]

/-! ### Rows of rows -/
theorem rows_own {w : World} {v : Value} {n : Nat} {ms : List Bs} (ho : w.ownsRow 0 25 1 v n (ms.map Bs.val)) (hok : ∀ m ∈ ms, m.ok w) : ∃ a c, v = .slice a n c ∧ ms.length = n ∧ RdRows w a ms := by
  obtain ⟨a, c, rfl, hn, hc⟩ := own_cell ho
  rw [List.length_map] at hn
  exact ⟨a, c, rfl, hn.symm, fun i x hx => ⟨hc i x.val (by simp [hx]), hok x (List.mem_of_getElem? hx)⟩⟩
theorem RdHs.take {w : World} {a : Option Addr} {xs : List Bs} (h : RdHs w a xs) (t : Nat) : RdHs w a (xs.take t) := fun i x hx => by
  refine h i x ?_
  rw [List.getElem?_take] at hx
  split at hx
  · exact hx
  · cases hx
theorem RdHs.drop {w : World} {b off : Nat} {xs : List Bs} (h : RdHs w (some ⟨b, off, none⟩) xs) (t : Nat) : RdHs w (some ⟨b, off + t, none⟩) (xs.drop t) := fun i x hx => by
  rw [List.getElem?_drop] at hx
  obtain ⟨b', off', ha, hb, hc⟩ := h (t + i) x hx
  injection ha with ha
  injection ha with h1 h2 h3
  subst h1 h2
  exact ⟨_, _, rfl, hb, by rw [Nat.add_assoc]; exact hc⟩
/-- 'append(s, xs...)' of slices, as one operation. -/
theorem wp_append_heads {P : Program} {S : List Nat} {w0 w : World} {L : List Res} {o : Oper} {a : Act} {K : Act → World → Prop} {Q : Exit → Act → World → Prop} (s x : Operand) (t : TypeId)
    (ho : o.op = .call { callee := .builtin .append, args := #[s, x], argTypes := #[t, t] }) (i : Nat)
    (e : TypeId) (inf : TypeInfo) (z : Value) (bytes : Nat) (ht : P.underlying t = some (.slice e)) (hi : P.info? e = some inf) (hz : inf.zero = some z)
    (hsize : inf.size = 1) (hby : inf.bytes = bytes) (hzs : z.cells.size = 1)
    (v : Value) (n : Nat) (xs : List Value) (hs : a.eval s = v) (hS : Sep S w0 w L) (hL : L[i]? = some (ownR e 1 v n xs))
    (ad : Option Addr) (c m : Nat) (zs : List Bs) (hm : zs.length = m) (hx : a.eval x = .slice ad m c) (hc : ad = none → c = 0) (hrd : RdHs w ad zs)
    (N : Nat) (hN : n + m = N) (ys : List Value) (hy : xs ++ zs.map Bs.val = ys)
    (h63 : N ≤ maxLen) (hbytes : N * bytes ≤ 140737488355328)
    (h : ∀ v' w', Sep S w0 w' (L.set i (ownR e 1 v' N ys)) → K (a.put o.dst v') w') : o.wp P a w K Q := by
  subst hm hN hy
  have hl : (zs.map fun z => [Bs.val z]).length = zs.length := List.length_map _
  have hfl : ∀ l : List Bs, (l.map fun z => [Bs.val z]).flatten = l.map Bs.val := fun l => by
    induction l with
    | nil => rfl
    | cons z l ih => simp [ih]
  refine wp_append_rows (P := P) s x t ho e inf z 1 bytes ht hi hz hsize hby hzs (by decide) v n xs hs (hS.own i hL) ad c (zs.map fun z => [Bs.val z]) (by rw [hl]; exact hx) hc (fun r hr => by obtain ⟨z, _, rfl⟩ := List.mem_map.1 hr; rfl) (fun j row hrow => ?_) (fun r hr u hu => by obtain ⟨z, _, rfl⟩ := List.mem_map.1 hr; simp at hu; subst hu; rfl) (by rw [hl]; exact h63) (by rw [hl]; exact hbytes) ?_
  · rw [List.getElem?_map] at hrow
    cases hz' : zs[j]? with
    | none => rw [hz'] at hrow; simp at hrow
    | some y =>
      rw [hz'] at hrow
      simp at hrow
      subst hrow
      obtain ⟨b, off, ha, hb, hcl⟩ := hrd j y hz'
      refine ⟨b, off, ha, hb, fun j' u hj => ?_⟩
      cases j' with
      | zero => simp at hj; subst hj; rw [Nat.mul_one, Nat.add_zero]; exact hcl
      | succ j' => simp at hj
  · intro v' w' h2 h3 h4
    rw [hl, hfl] at h2
    exact h _ _ (hS.grow i hL h3 h2 h4)

end Go.Proofs.Ytmdjdhbnigppcaa
