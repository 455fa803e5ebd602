/-
  Plain: bytes held against each other.
-/
import Derived.Test.YtekjpkppfcmjdaaK
set_option linter.unusedVariables false
set_option linter.unusedSimpArgs false
namespace Go.Proofs.Ytekjpkppfcmjdaa
open Go.RowKit

/-- Two bytes held against each other. -/
def bx (a b : Int) : Int := ((a.toNat ^^^ b.toNat : Nat) : Int)
theorem bx_lt {a b : Int} (a0 : 0 ≤ a) (a1 : a ≤ 255) (b0 : 0 ≤ b) (b1 : b ≤ 255) : 0 ≤ bx a b ∧ bx a b ≤ 255 := by
  unfold bx
  have : a.toNat ^^^ b.toNat < 2 ^ 8 := Nat.xor_lt_two_pow (by omega) (by omega)
  omega
theorem bx_comm (a b : Int) : bx a b = bx b a := by unfold bx; rw [Nat.xor_comm]
theorem bx_assoc (a b c : Int) : bx (bx a b) c = bx a (bx b c) := by unfold bx; simp [Nat.xor_assoc]
theorem bx_self (a : Int) : bx a a = 0 := by unfold bx; simp
theorem bx_zero {a : Int} (h : 0 ≤ a) : bx a 0 = a := by unfold bx; simp; omega
theorem zero_bx {a : Int} (h : 0 ≤ a) : bx 0 a = a := by rw [bx_comm]; exact bx_zero h
theorem bx_eq_zero {a b : Int} (a0 : 0 ≤ a) (b0 : 0 ≤ b) : bx a b = 0 ↔ a = b := by
  constructor
  · intro h
    have h2 : bx (bx a b) b = b := by rw [h, zero_bx b0]
    rw [bx_assoc, bx_self, bx_zero a0] at h2
    exact h2
  · rintro rfl; exact bx_self a
theorem bits_xor_u8 {a b : Int} (a0 : 0 ≤ a) (a1 : a ≤ 255) (b0 : 0 ≤ b) (b1 : b ≤ 255) : bits .xor .u8 a b = bx a b := by
  have h : bits .xor .u8 a b = IntKind.u8.wrap ((BitVec.ofInt 8 a ^^^ BitVec.ofInt 8 b).toNat : Int) := rfl
  have hb := bx_lt a0 a1 b0 b1
  have e : ((BitVec.ofInt 8 a ^^^ BitVec.ofInt 8 b).toNat : Int) = bx a b := by
    unfold bx
    rw [BitVec.toNat_xor, BitVec.toNat_ofInt, BitVec.toNat_ofInt]
    have e1 : (a % ((2 ^ 8 : Nat) : Int)).toNat = a.toNat := by omega
    have e2 : (b % ((2 ^ 8 : Nat) : Int)).toNat = b.toNat := by omega
    rw [e1, e2]
  rw [h, e]
  simp only [IntKind.wrap, IntKind.bits, IntKind.signed]
  simp
  omega

/-- A row of bytes. -/
def Byt (l : List Int) : Prop := ∀ x ∈ l, 0 ≤ x ∧ x ≤ 255
theorem Byt.get {l : List Int} (h : Byt l) (i : Nat) : 0 ≤ l.getD i 0 ∧ l.getD i 0 ≤ 255 := by
  rw [List.getD_eq_getElem?_getD]
  cases hi : l[i]? with
  | none => simp
  | some x => exact h x (List.mem_of_getElem? hi)
theorem Byt.nil : Byt [] := fun x h => by simp at h
theorem Byt.of_get {l : List Int} (h : ∀ i, i < l.length → 0 ≤ l.getD i 0 ∧ l.getD i 0 ≤ 255) : Byt l := fun x hx => by
  obtain ⟨i, hi, rfl⟩ := List.mem_iff_getElem.1 hx
  have := h i hi
  rwa [List.getD_eq_getElem?_getD, List.getElem?_eq_getElem hi] at this

/-- Two rows held against each other. -/
def xo : List Int → List Int → List Int
  | [], ys => ys
  | x :: xs, [] => x :: xs
  | x :: xs, y :: ys => bx x y :: xo xs ys
theorem xo_nil (xs : List Int) : xo xs [] = xs := by cases xs <;> rfl
theorem xo_length : ∀ (xs ys : List Int), (xo xs ys).length = max xs.length ys.length
  | [], ys => by simp [xo]
  | x :: xs, [] => by simp [xo]
  | x :: xs, y :: ys => by simp only [xo, List.length_cons, xo_length xs ys]; omega
theorem xo_get : ∀ {xs ys : List Int} (hx : Byt xs) (hy : Byt ys) (i : Nat), (xo xs ys).getD i 0 = bx (xs.getD i 0) (ys.getD i 0)
  | [], ys, hx, hy, i => by simp only [xo]; rw [show ([] : List Int).getD i 0 = 0 from by simp, zero_bx (hy.get i).1]
  | x :: xs, [], hx, hy, i => by simp only [xo]; rw [show ([] : List Int).getD i 0 = 0 from by simp, bx_zero (hx.get i).1]
  | x :: xs, y :: ys, hx, hy, i => by
    cases i with
    | zero => simp [xo]
    | succ i =>
      simp only [xo, List.getD_cons_succ]
      exact xo_get (fun z hz => hx z (List.mem_cons_of_mem _ hz)) (fun z hz => hy z (List.mem_cons_of_mem _ hz)) i
theorem xo_byt {xs ys : List Int} (hx : Byt xs) (hy : Byt ys) : Byt (xo xs ys) := Byt.of_get fun i _ => by
  rw [xo_get hx hy]
  exact bx_lt (hx.get i).1 (hx.get i).2 (hy.get i).1 (hy.get i).2
theorem rows_ext {xs ys : List Int} (hl : xs.length = ys.length) (h : ∀ i, i < xs.length → xs.getD i 0 = ys.getD i 0) : xs = ys := by
  apply List.ext_getElem hl
  intro i h1 h2
  have := h i h1
  rwa [List.getD_eq_getElem?_getD, List.getD_eq_getElem?_getD, List.getElem?_eq_getElem h1, List.getElem?_eq_getElem h2] at this
theorem getD_out {xs : List Int} {i : Nat} (h : xs.length ≤ i) : xs.getD i 0 = 0 := by
  rw [List.getD_eq_getElem?_getD, List.getElem?_eq_none h]; rfl
theorem getD_take (xs : List Int) (k i : Nat) : (xs.take k).getD i 0 = if i < k then xs.getD i 0 else 0 := by
  rw [List.getD_eq_getElem?_getD, List.getElem?_take]
  split <;> simp [List.getD_eq_getElem?_getD]
theorem getD_pad (xs : List Int) (n i : Nat) : (xs ++ List.replicate n 0).getD i 0 = xs.getD i 0 := by
  by_cases h : i < xs.length
  · rw [List.getD_eq_getElem?_getD, List.getElem?_append_left h, ← List.getD_eq_getElem?_getD]
  · rw [getD_out (xs := xs) (by omega), List.getD_eq_getElem?_getD, List.getElem?_append_right (by omega), List.getElem?_replicate]
    split <;> rfl
theorem Byt.take {xs : List Int} (h : Byt xs) (k : Nat) : Byt (xs.take k) := fun x hx => h x (List.mem_of_mem_take hx)
theorem Byt.drop {xs : List Int} (h : Byt xs) (k : Nat) : Byt (xs.drop k) := fun x hx => h x (List.mem_of_mem_drop hx)
theorem Byt.pad {xs : List Int} (h : Byt xs) (n : Nat) : Byt (xs ++ List.replicate n 0) := fun x hx => by
  rcases List.mem_append.1 hx with h1 | h1
  · exact h x h1
  · rw [(List.mem_replicate.1 h1).2]; omega
theorem xo_pad {xs ys : List Int} (hx : Byt xs) (hy : Byt ys) (n : Nat) (hn : xs.length + n = max xs.length ys.length) : xo (xs ++ List.replicate n 0) ys = xo xs ys := by
  refine rows_ext (by rw [xo_length, xo_length, List.length_append, List.length_replicate]; omega) fun i _ => ?_
  rw [xo_get (hx.pad n) hy, xo_get hx hy, getD_pad]
theorem xo_at {xs ys : List Int} (hx : Byt xs) (hy : Byt ys) (k : Nat) : (xo xs (ys.take k)).getD k 0 = xs.getD k 0 := by
  rw [xo_get hx (hy.take k), getD_take, if_neg (by omega), bx_zero (hx.get k).1]
theorem getD_set {xs : List Int} {k : Nat} (hk : k < xs.length) (u : Int) (i : Nat) : (xs.set k u).getD i 0 = if k = i then u else xs.getD i 0 := by
  rw [List.getD_eq_getElem?_getD, List.getElem?_set]
  by_cases h : k = i
  · subst h; rw [if_pos rfl, if_pos hk, if_pos rfl]; rfl
  · rw [if_neg h, if_neg h, List.getD_eq_getElem?_getD]
theorem xo_step {xs ys : List Int} (hx : Byt xs) (hy : Byt ys) (k : Nat) (hk : k < ys.length) (hl : ys.length ≤ xs.length) : xo xs (ys.take (k + 1)) = (xo xs (ys.take k)).set k (bx (xs.getD k 0) (ys.getD k 0)) := by
  refine rows_ext (by rw [List.length_set, xo_length, xo_length, List.length_take, List.length_take]; omega) fun i hi => ?_
  rw [getD_set (by rw [xo_length]; omega), xo_get hx (hy.take (k + 1)), getD_take]
  by_cases h : k = i
  · subst h
    rw [if_pos (by omega), if_pos rfl]
  · rw [if_neg h, xo_get hx (hy.take k), getD_take]
    by_cases h2 : i < k
    · rw [if_pos (by omega), if_pos h2]
    · rw [if_neg (by omega), if_neg h2]
theorem xo_comm {xs ys : List Int} (hx : Byt xs) (hy : Byt ys) : xo xs ys = xo ys xs := rows_ext (by rw [xo_length, xo_length]; omega) fun i _ => by
  rw [xo_get hx hy, xo_get hy hx, bx_comm]
theorem xo_assoc {xs ys zs : List Int} (hx : Byt xs) (hy : Byt ys) (hz : Byt zs) : xo (xo xs ys) zs = xo xs (xo ys zs) := rows_ext (by simp only [xo_length]; omega) fun i _ => by
  rw [xo_get (xo_byt hx hy) hz, xo_get hx hy, xo_get hx (xo_byt hy hz), xo_get hy hz, bx_assoc]
/-- All rows held against each other. -/
def xoAll (rows : List (List Int)) : List Int := rows.foldl xo []
theorem xoAll_snoc (rows : List (List Int)) (r : List Int) : xoAll (rows ++ [r]) = xo (xoAll rows) r := by simp [xoAll]
theorem foldl_byt {rows : List (List Int)} (h : ∀ r ∈ rows, Byt r) : ∀ {a : List Int}, Byt a → Byt (rows.foldl xo a) := by
  induction rows with
  | nil => intro a ha; exact ha
  | cons r rows ih => intro a ha; exact ih (fun s hs => h s (List.mem_cons_of_mem _ hs)) (xo_byt ha (h r (List.mem_cons_self ..)))
theorem xoAll_byt {rows : List (List Int)} (h : ∀ r ∈ rows, Byt r) : Byt (xoAll rows) := foldl_byt h Byt.nil
theorem foldl_xo {rows : List (List Int)} (h : ∀ r ∈ rows, Byt r) : ∀ {a : List Int}, Byt a → rows.foldl xo a = xo a (xoAll rows) := by
  induction rows with
  | nil => intro a ha; exact (xo_nil a).symm
  | cons r rows ih =>
    intro a ha
    have hr := h r (List.mem_cons_self ..)
    have ht := fun s hs => h s (List.mem_cons_of_mem _ hs)
    show rows.foldl xo (xo a r) = xo a (rows.foldl xo r)
    rw [ih ht (xo_byt ha hr), ih ht hr, xo_assoc ha hr (xoAll_byt ht)]
theorem xoAll_cons {r : List Int} {rows : List (List Int)} (hr : Byt r) (h : ∀ r ∈ rows, Byt r) : xoAll (r :: rows) = xo r (xoAll rows) := foldl_xo h hr
theorem xoAll_append {r1 r2 : List (List Int)} (h1 : ∀ r ∈ r1, Byt r) (h2 : ∀ r ∈ r2, Byt r) : xoAll (r1 ++ r2) = xo (xoAll r1) (xoAll r2) := by
  unfold xoAll
  rw [List.foldl_append]
  exact foldl_xo h2 (foldl_byt h1 Byt.nil)
theorem xoAll_perm {r1 r2 : List (List Int)} (hp : r1.Perm r2) (h1 : ∀ r ∈ r1, Byt r) : xoAll r1 = xoAll r2 := by
  induction hp with
  | nil => rfl
  | cons x hp ih =>
    have h2 := fun s hs => h1 s (List.mem_cons_of_mem _ hs)
    rw [xoAll_cons (h1 _ (List.mem_cons_self ..)) h2, xoAll_cons (h1 _ (List.mem_cons_self ..)) (fun s hs => h2 s (hp.mem_iff.2 hs)), ih h2]
  | swap x y l =>
    have hl := fun s hs => h1 s (List.mem_cons_of_mem _ (List.mem_cons_of_mem _ hs))
    have hx := h1 x (List.mem_cons_of_mem _ (List.mem_cons_self ..))
    have hy := h1 y (List.mem_cons_self ..)
    rw [xoAll_cons hy (fun s hs => h1 s (List.mem_cons_of_mem _ hs)), xoAll_cons hx hl, xoAll_cons hx (fun s hs => by rcases List.mem_cons.1 hs with rfl | hs; exact hy; exact hl s hs), xoAll_cons hy hl, ← xo_assoc hy hx (xoAll_byt hl), ← xo_assoc hx hy (xoAll_byt hl), xo_comm hy hx]
  | trans p q ih1 ih2 => rw [ih1 h1, ih2 (fun s hs => h1 s (p.mem_iff.2 hs))]

end Go.Proofs.Ytekjpkppfcmjdaa
