/-
  PLAIN: how often each byte string comes out; A MAP THAT COUNTS.
-/
import Derived.Test.YtekjpkppfcmjdaaLiT
import Derived.Test.YtekjpkppfcmjdaaSet
import Derived.Test.YtekjpkppfcmjdaaBeq
set_option linter.unusedVariables false
set_option linter.unusedSimpArgs false
namespace Go.Proofs.Ytekjpkppfcmjdaa
open Go.RowKit Go.Maps

/-- How often the i-th datagram comes out. -/
def kW (k : Nat) : Nat := if k = 3 then 0 else if k = 4 then 2 else 1
section
variable {α : Type}
theorem due_rest_cnt (p : α → Bool) (q : List (α × Nat)) (hq : ∀ e ∈ q, 1 ≤ e.2) : (dueP q).countP p + ((restP q).map Prod.fst).countP p = (q.map Prod.fst).countP p := by
  induction q with
  | nil => rfl
  | cons e q ih =>
    have h1 := hq e (by simp)
    have ih' := ih (fun e he => hq e (by simp [he]))
    unfold dueP restP at ih' ⊢
    by_cases he : e.2 = 1
    · simp [he, List.countP_cons] at ih' ⊢
      omega
    · have e2 : e.2 - 1 ≠ 0 := by omega
      simp [he, e2, List.countP_cons] at ih' ⊢
      omega
theorem put_cnt (p : α → Bool) (k : Nat) (x : α) (q : List (α × Nat)) (hq : ∀ e ∈ q, 1 ≤ e.2) : (putO k x q).countP p + ((putQ k x q).map Prod.fst).countP p = (q.map Prod.fst).countP p + if p x then kW k else 0 := by
  have h := due_rest_cnt p q hq
  have e : ∀ y, (restP q ++ [y]).map Prod.fst = (restP q).map Prod.fst ++ [y.1] := fun y => by rw [List.map_append]; rfl
  unfold putO putQ kW
  rw [apply_ite (List.map Prod.fst), e]
  obtain ⟨D, hD⟩ : ∃ D, D = dueP q := ⟨_, rfl⟩
  obtain ⟨R, hR⟩ : ∃ R, R = (restP q).map Prod.fst := ⟨_, rfl⟩
  obtain ⟨Q, hQ⟩ : ∃ Q, Q = q.map Prod.fst := ⟨_, rfl⟩
  rw [← hD, ← hR, ← hQ] at h ⊢
  clear hD hR hQ e hq
  by_cases h3 : k = 3
  · subst h3
    simp
    omega
  by_cases h4 : k = 4
  · subst h4
    cases hp : p x <;> simp [List.countP_cons, hp] <;> omega
  by_cases h5 : 4 < k
  · rw [if_neg h3, if_neg h4, if_pos h5, if_pos h5, if_neg h3, if_neg h4]
    cases hp : p x <;> simp [List.countP_cons, List.countP_append, hp] <;> omega
  · rw [if_neg h3, if_neg h4, if_neg h5, if_neg h5, if_neg h3, if_neg h4]
    cases hp : p x <;> simp [List.countP_cons, hp] <;> omega
/-- What is counted behind n datagrams. -/
def cntN (ch : List Int) (xs : List α) (p : α → Bool) : Nat → Nat
  | 0 => 0
  | n + 1 => cntN ch xs p n + match xs[n]? with
    | some x => if p x then kW (wy ch n) else 0
    | none => 0
theorem cntN_le (ch : List Int) (xs : List α) (p : α → Bool) : ∀ n, cntN ch xs p n ≤ 2 * n
  | 0 => Nat.le_refl _
  | n + 1 => by
    have ih := cntN_le ch xs p n
    have hk : kW (wy ch n) ≤ 2 := by unfold kW; split <;> (try split) <;> omega
    rw [cntN]
    split
    · split <;> omega
    · omega
theorem all_cnt (ch : List Int) (xs : List α) (p : α → Bool) : ∀ n, (allO ch xs n ++ (qAt ch xs n).map Prod.fst).countP p = cntN ch xs p n
  | 0 => rfl
  | n + 1 => by
    have ih := all_cnt ch xs p n
    rw [List.countP_append] at ih
    rw [cntN, allO, List.append_assoc, List.countP_append, List.countP_append]
    cases hx : xs[n]? with
    | none =>
      rw [qAt_none hx, oAt_none hx]
      show _ + (0 + _) = _ + 0
      rw [Nat.zero_add]
      exact ih
    | some x =>
      rw [qAt_succ hx, oAt_at hx]
      have h := put_cnt p (wy ch n) x (qAt ch xs n) (fun e he => ((qAt_ok ch xs n).l e he).1)
      simp only
      omega
end

/-- The entries of a map that counts. -/
def cntKv (f : ByteArray → Int) (ks : List ByteArray) : List (Value × Value) := ks.map fun s => (Value.string s, Value.int .i64 (f s))
def cntUp (f : ByteArray → Int) (s : ByteArray) (v : Int) : ByteArray → Int := fun t => if t = s then v else f t
theorem cntKv_up {f : ByteArray → Int} {s : ByteArray} {v : Int} {ks : List ByteArray} (h : s ∉ ks) : cntKv (cntUp f s v) ks = cntKv f ks := by
  unfold cntKv
  refine List.map_congr_left fun t ht => ?_
  unfold cntUp
  rw [if_neg (fun (e : t = s) => h (e ▸ ht))]
theorem cnt_ne {f : ByteArray → Int} {s : ByteArray} {ks : List ByteArray} (h : s ∉ ks) : ∀ p ∈ cntKv f ks, p.1 ≠ Value.string s := fun p hp e => by
  obtain ⟨t, ht, rfl⟩ := List.mem_map.1 hp
  injection e with e
  exact h (e ▸ ht)
section
variable {P : Program} {k t e : TypeId} {w : World} {b : Nat} {f : ByteArray → Int} {ks : List ByteArray}
theorem cnt_nodup (h : MapAt P k w b (cntKv f ks)) : ks.Nodup := by
  have := h.nodup
  unfold cntKv at this
  rw [List.map_map] at this
  exact (List.pairwise_map.1 this).imp fun h2 e => h2 (by rw [e])
theorem cnt_look (h : MapAt P k w b (cntKv f ks)) (h0 : ∀ s, s ∉ ks → f s = 0) (K : Keyed P k) (ht : P.underlying t = some (.map k e)) (hz : (zeroValue e).run P w = .ok (.int .i64 0) w) (s : ByteArray) {kl : Lit} (hkey : keyOf P k (.string s) = some kl) :
    (Instr.lookup t (.map (some b)) (.string s) false).run P w = .ok (.int .i64 (f s)) w := by
  by_cases hs : s ∈ ks
  · exact h.look_hit K ht hz hkey (List.mem_map.2 ⟨s, hs, rfl⟩)
  · rw [h.look_miss K ht hz hkey (cnt_ne hs), h0 s hs]
theorem cnt_store (h : MapAt P k w b (cntKv f ks)) (h0 : ∀ s, s ∉ ks → f s = 0) (K : Keyed P k) (ht : P.underlying t = some (.map k e)) (s : ByteArray) (v : Int) {kl : Lit} (hkey : keyOf P k (.string s) = some kl) (hr : ks.length < maxLen) :
    ∃ w' ks', (Instr.mapUpdate t (.map (some b)) (.string s) (.int .i64 v)).run P w = .ok () w' ∧ MapAt P k w' b (cntKv (cntUp f s v) ks') ∧ w.grownBy w' (some b) ∧ (∀ t, t ∉ ks' → cntUp f s v t = 0) ∧ ks'.length ≤ ks.length + 1 := by
  by_cases hs : s ∈ ks
  · have hn := cnt_nodup h
    have hlen := h
    obtain ⟨A, B, rfl⟩ := List.append_of_mem hs
    have hA : s ∉ A := fun hm => by
      rw [List.nodup_append] at hn
      exact hn.2.2 s hm s (by simp) rfl
    have hB : s ∉ B := by
      rw [List.nodup_append] at hn
      exact (List.nodup_cons.1 hn.2.1).1
    have e1 : ∀ g : ByteArray → Int, cntKv g (A ++ s :: B) = cntKv g A ++ (Value.string s, Value.int .i64 (g s)) :: cntKv g B := fun g => by simp [cntKv]
    rw [e1] at h
    obtain ⟨w', hrun, hm, hg⟩ := h.store_old K ht (.int .i64 v) hkey
    refine ⟨w', A ++ s :: B, hrun, ?_, hg, fun u hu => ?_, Nat.le_succ _⟩
    · rw [e1, cntKv_up hA, cntKv_up hB]
      unfold cntUp
      rw [if_pos rfl]
      exact hm
    · unfold cntUp
      rw [if_neg (fun (e : u = s) => hu (e ▸ hs))]
      exact h0 u hu
  · obtain ⟨w', hrun, hm, hg⟩ := h.store_new K ht (.int .i64 v) hkey (cnt_ne hs) (by simpa [cntKv] using hr)
    refine ⟨w', ks ++ [s], hrun, ?_, hg, fun u hu => ?_, by simp⟩
    · have e1 : ∀ g : ByteArray → Int, cntKv g (ks ++ [s]) = cntKv g ks ++ [(Value.string s, Value.int .i64 (g s))] := fun g => by simp [cntKv]
      rw [e1, cntKv_up hs]
      unfold cntUp
      rw [if_pos rfl]
      exact hm
    · simp at hu
      unfold cntUp
      rw [if_neg hu.2]
      exact h0 u hu.1
end
theorem keyedS : Keyed Try.prog 9 := string_keyed Try.underlying9
theorem str_len (zs : List Int) : (strOfNums zs).size = zs.length := by
  show (strOfNums zs).data.size = _
  rw [← Array.length_toList, strOfNums_data, List.length_map]
theorem keyS {zs : List Int} (h : zs.length ≤ 1000000) : ∃ kl, keyOf Try.prog 9 (.string (strOfNums zs)) = some kl := ⟨_, WideMaps.keyOf_string_mk Try.underlying9 (show (strOfNums zs).size ≤ maxLen by rw [str_len]; unfold maxLen; omega)⟩
theorem zeroInt (w : World) : (zeroValue 3).run Try.prog w = .ok (.int .i64 0) w := by kernel_rfl
/-- A string counted: is it s? -/
def isS (s : ByteArray) (zs : List Int) : Bool := decide (strOfNums zs = s)
/-- The counts behind n datagrams. -/
def cntF (ch : List Int) (X : List (List Int)) (n : Nat) (s : ByteArray) : Int := (cntN ch X (isS s) n : Int)
theorem cntF_succ {ch : List Int} {X : List (List Int)} {n : Nat} {zs : List Int} (h : X[n]? = some zs) : cntF ch X (n + 1) = cntUp (cntF ch X n) (strOfNums zs) (cntF ch X n (strOfNums zs) + (kW (wy ch n) : Int)) := by
  funext s
  unfold cntUp cntF
  rw [cntN, h]
  simp only
  by_cases hs : s = strOfNums zs
  · subst hs
    rw [if_pos rfl, if_pos (show isS (strOfNums zs) zs = true by unfold isS; simp)]
    omega
  · rw [if_neg hs, if_neg (show ¬ isS s zs = true by unfold isS; simp; exact fun e => hs e.symm)]
    omega
/-- The counts, less what came out. -/
def lessF (f : ByteArray → Int) (os : List (List Int)) (s : ByteArray) : Int := f s - (os.countP (isS s) : Int)
theorem lessF_snoc {f : ByteArray → Int} {os : List (List Int)} {zs : List Int} : lessF f (os ++ [zs]) = cntUp (lessF f os) (strOfNums zs) (lessF f os (strOfNums zs) - 1) := by
  funext s
  unfold cntUp lessF
  rw [List.countP_append, List.countP_cons, List.countP_nil]
  by_cases hs : s = strOfNums zs
  · subst hs
    rw [if_pos rfl, if_pos (show isS (strOfNums zs) zs = true by unfold isS; simp)]
    omega
  · rw [if_neg hs, if_neg (show ¬ isS s zs = true by unfold isS; simp; exact fun e => hs e.symm)]
    omega

end Go.Proofs.Ytekjpkppfcmjdaa
