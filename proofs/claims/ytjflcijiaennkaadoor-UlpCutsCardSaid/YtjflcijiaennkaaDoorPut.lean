/-
  SMALL LAWS: bytes under '&'; a row of values laid into a block; a row of the call's own. No program is named here.
-/
import Derived.Test.YtjflcijiaennkaaDoorMsk
import Derived.Test.YtjflcijiaennkaaDoorBa
set_option linter.unusedVariables false
set_option linter.unusedSimpArgs false
namespace Go.Proofs.YtjflcijiaennkaaDoor
open Go.RowKit

theorem and128 : ∀ v : Fin 256, bits .and .i64 (v.val : Int) 128 = if v.val < 128 then 0 else 128 := by decide +kernel
theorem and64 : ∀ v : Fin 256, bits .and .i64 (v.val : Int) 64 = if v.val % 128 < 64 then 0 else 64 := by decide +kernel
theorem and63 : ∀ v : Fin 256, bits .and .i64 (v.val : Int) 63 = (v.val % 64 : Nat) := by decide +kernel
theorem fin_of {v : Int} (h0 : 0 ≤ v) (h1 : v ≤ 255) : ∃ f : Fin 256, v = (f.val : Int) := ⟨⟨v.toNat, by omega⟩, by simp; omega⟩
theorem and128_i {v : Int} (h0 : 0 ≤ v) (h1 : v ≤ 255) : bits .and .i64 v 128 = if v < 128 then 0 else 128 := by
  obtain ⟨f, rfl⟩ := fin_of h0 h1
  rw [and128 f]
  by_cases h2 : f.val < 128
  · rw [if_pos h2, if_pos (by omega)]
  · rw [if_neg h2, if_neg (by omega)]
theorem and64_i {v : Int} (h0 : 0 ≤ v) (h1 : v < 128) : bits .and .i64 v 64 = if v < 64 then 0 else 64 := by
  obtain ⟨f, rfl⟩ := fin_of h0 (by omega)
  rw [and64 f]
  have : f.val % 128 = f.val := Nat.mod_eq_of_lt (by omega)
  rw [this]
  by_cases h2 : f.val < 64
  · rw [if_pos h2, if_pos (by omega)]
  · rw [if_neg h2, if_neg (by omega)]
theorem and63_i {v : Int} (h0 : 0 ≤ v) (h1 : v ≤ 255) : bits .and .i64 v 63 = v % 64 := by
  obtain ⟨f, rfl⟩ := fin_of h0 h1
  rw [and63 f]
  omega
theorem u8_wrap {v : Int} (h0 : 0 ≤ v) (h1 : v ≤ 255) : IntKind.u8.wrap v = v := by
  simp [IntKind.wrap, IntKind.bits, IntKind.signed]
  omega
theorem cnt_nil {x : Nat} (h : x < 18446744073709551616) : cnt x 64 = 0 ↔ x = 0 := by
  constructor
  · intro h2
    apply Nat.eq_of_testBit_eq
    intro j
    rw [Nat.zero_testBit]
    rcases Nat.lt_or_ge j 64 with hj | hj
    · unfold cnt at h2
      rw [List.countP_eq_zero] at h2
      have := h2 j (List.mem_range.2 hj)
      simpa using this
    · exact tb_none h hj
  · intro h2; subst h2; decide +kernel
theorem frm_setRow (w : World) (p : Nat) (cs : Array Value) : Frm [p] w (w.setRow p cs) := ⟨rfl, rfl, rfl, by simp [World.setRow], fun k hk hs => setRow_other w p k cs (by simpa using hs)⟩
theorem Sep.row {S : List Nat} {w0 w : World} {L : List Res} (h : Sep S w0 w L) (i : Nat) {p : Nat} {t : TypeId} {cs : Array Value} (hi : L[i]? = some (blkR p t cs)) (cs' : Array Value) : Sep S w0 (w.setRow p cs') (L.set i (blkR p t cs')) :=
  h.call i hi (frm_setRow w p cs') (setRow_heap w p cs cs' t (0, 0) (h.blk i hi))
theorem own_slice1 {w : World} {base e size : Nat} {v : Value} {n : Nat} {xs : List Value} (h : w.ownsRow base e size v n xs) (hn : 0 < n) : ∃ g c, v = .slice (some ⟨g, 0, none⟩) n c := by
  rcases h.2 with ⟨rfl, h0⟩ | ⟨g, c, cur, rfl, _, _, hc, _⟩
  · omega
  · exact ⟨g, c, rfl⟩
theorem put_panic {P : Program} {fn : Func} {R : Ending → World → Prop} {K : Act → World → Prop} : ∀ c a w d v, Exit.then K (bodyPost P fn R) (.panic c) (Act.put a d v) w → Exit.then K (bodyPost P fn R) (.panic c) a w := fun _ _ _ d _ h => by
  cases d
  · exact h
  · exact h
def putAll (b : Nat) : Nat → List Value → World → World
  | _, [], w => w
  | k, v :: vs, w => putAll b (k + 1) vs (w.setCell ⟨b, k, none⟩ v)
def setAll : Nat → List Value → Array Value → Array Value
  | _, [], cs => cs
  | k, v :: vs, cs => setAll (k + 1) vs (cs.setIfInBounds k v)
theorem setAll_row : ∀ (vs pre l : List Value), l.length = vs.length → setAll pre.length vs ⟨pre ++ l⟩ = ⟨pre ++ vs⟩
  | [], pre, l, h => by rw [List.eq_nil_of_length_eq_zero h]; rfl
  | v :: vs, pre, x :: l, h => by
    have ih := setAll_row vs (pre ++ [v]) l (by simpa using h)
    have e : (⟨pre ++ x :: l⟩ : Array Value).setIfInBounds pre.length v = ⟨(pre ++ [v]) ++ l⟩ := by simp
    rw [List.length_append] at ih
    show setAll (pre.length + 1) vs ((⟨pre ++ x :: l⟩ : Array Value).setIfInBounds pre.length v) = _
    rw [e]
    exact ih.trans (by simp)
theorem sep_putAll {S : List Nat} {w0 : World} {i b : Nat} {t : TypeId} : ∀ (vs : List Value) (k : Nat) (cs : Array Value) (L : List Res) (w : World), Sep S w0 w L → L[i]? = some (blkR b t cs) → Sep S w0 (putAll b k vs w) (L.set i (blkR b t (setAll k vs cs)))
  | [], k, cs, L, w, h, hi => by
    have : L.set i (blkR b t cs) = L := by
      apply List.ext_getElem?
      intro j
      rw [List.getElem?_set]
      split
      · rename_i hj; subst hj; rw [hi]; split
        · rfl
        · rename_i hk; exact absurd (List.getElem?_eq_some_iff.1 hi).1 hk
      · rfl
    rw [show setAll k [] cs = cs from rfl, this]
    exact h
  | v :: vs, k, cs, L, w, h, hi => by
    have h1 := h.put i hi k v
    have hl := (List.getElem?_eq_some_iff.1 hi).1
    have h2 := sep_putAll vs (k + 1) _ _ _ h1 (by rw [List.getElem?_set_self hl])
    rw [List.set_set] at h2
    exact h2
theorem Sep.puts {S : List Nat} {w0 w : World} {L : List Res} (h : Sep S w0 w L) (i : Nat) {b : Nat} {t : TypeId} {cs : Array Value} (hi : L[i]? = some (blkR b t cs)) (vs : List Value) (hn : cs.size = vs.length) : Sep S w0 (putAll b 0 vs w) (L.set i (blkR b t vs.toArray)) := by
  have h1 := sep_putAll vs 0 cs L w h hi
  have e : setAll 0 vs cs = vs.toArray := setAll_row vs [] cs.toList hn
  rwa [e] at h1

end Go.Proofs.YtjflcijiaennkaaDoor
