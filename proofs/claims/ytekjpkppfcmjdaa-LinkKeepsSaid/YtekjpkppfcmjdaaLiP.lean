/-
  PLAIN: what happens to the i-th datagram; byte strings in memory; a link's rows.
-/
import Derived.Test.YtekjpkppfcmjdaaCln
import Derived.Test.YtekjpkppfcmjdaaPrm
import Derived.Test.YtekjpkppfcmjdaaPkt
import Derived.Test.YtekjpkppfcmjdaaEach
import Derived.Test.YtekjpkppfcmjdaaOr
import Derived.Laws.BitsLemmas
set_option linter.unusedVariables false
set_option linter.unusedSimpArgs false
namespace Go.Proofs.Ytekjpkppfcmjdaa
open Go.RowKit

/-- What happens to the i-th datagram. -/
def wy (ch : List Int) (i : Nat) : Nat := if i < ch.length then (ch.getD i 0 % 8).toNat else 0
theorem wy_lt (ch : List Int) (i : Nat) : wy ch i < 8 := by unfold wy; split <;> omega
theorem tmod8 (x : Int) : ∃ z, Int.tmod x 8 = z ∧ -8 < z ∧ z < 8 ∧ (z + 8) % 8 = x % 8 ∧ (0 ≤ z → z = x % 8) ∧ (z < 0 → z + 8 = x % 8) := by
  cases x with
  | ofNat n =>
    have h : Int.tmod (Int.ofNat n) 8 = ((n % 8 : Nat) : Int) := rfl
    have e : Int.ofNat n = (n : Int) := rfl
    refine ⟨_, h, ?_⟩
    rw [e]
    omega
  | negSucc n =>
    have h : Int.tmod (Int.negSucc n) 8 = -(((n + 1) % 8 : Nat) : Int) := rfl
    have e : Int.negSucc n = -((n : Int) + 1) := Int.negSucc_eq n
    refine ⟨_, h, ?_⟩
    rw [e]
    omega
/-- A byte string in memory: the slice, what it reads. -/
structure Yt where
  v : Value
  zs : List Int
def Yt.res (b : Yt) : Res := sumR b.v b.zs
/-- A slice of byte strings, read. -/
structure RdYs (w : World) (a : Option Addr) (bs : List Yt) : Prop where
  row : RdV w a (bs.map Yt.v)
  bod : ∀ b ∈ bs, Sla .u8 w b.v b.zs
theorem RdYs.frm {w w' : World} {a : Option Addr} {bs : List Yt} (h : RdYs w a bs) (hf : Frm [] w w') : RdYs w' a bs := ⟨h.row.below hf.below, fun b hb => (h.bod b hb).frm hf⟩
theorem RdYs.nil (w : World) (a : Option Addr) : RdYs w a [] := ⟨RdV.nil _ _, fun b hb => by cases hb⟩
theorem RdYs.at_ {w : World} {a : Option Addr} {bs : List Yt} (h : RdYs w a bs) {i : Nat} {b : Yt} (hb : bs[i]? = some b) :
    ∃ g off p c, a = some ⟨g, off, none⟩ ∧ w.cell? ⟨g, off + i, none⟩ = some (.slice p b.zs.length c) ∧ b.v = .slice p b.zs.length c ∧ RdI .u8 w p b.zs ∧ (p = none → c = 0) ∧ b.zs.length ≤ c ∧ c ≤ 9223372036854775807 := by
  obtain ⟨g, off, ha, _, hc⟩ := h.row i b.v (by rw [List.getElem?_map, hb]; rfl)
  obtain ⟨p, c, hv, hr, hn, hl, hm⟩ := h.bod b (List.mem_of_getElem? hb)
  exact ⟨g, off, p, c, ha, hv ▸ hc, hv, hr, hn, hl, hm⟩
/-- A row of byte strings of the call's own. -/
def ysR (v : Value) (bs : List Yt) : Res := ownR 28 1 v bs.length (bs.map Yt.v)
def bodsR (bs : List Yt) : Res := eachR (bs.map Yt.res)
theorem own_vals {w : World} {base e : Nat} {v : Value} {n : Nat} {vs : List Value} (h : w.ownsRow base e 1 v n vs) : ∃ a cap, v = .slice a vs.length cap ∧ vs.length ≤ cap ∧ n = vs.length ∧ (a = none → cap = 0) ∧ RdV w a vs := by
  have hn : n = vs.length := by have := h.1; simpa using this.symm
  subst hn
  obtain ⟨a, c, hv, hc, h0⟩ := own_shape h
  refine ⟨a, c, hv, hc, rfl, h0, fun i x hx => ?_⟩
  have hil := (List.getElem?_eq_some_iff.1 hx).1
  rcases h.2 with ⟨_, he⟩ | ⟨g, cp, cur, hg, hb, hh, _⟩
  · omega
  · rw [hv] at hg
    injection hg with hg _ _
    subst hg
    have hcell := h.cells (g := g) (by rw [hv]; rfl) i x hx
    have hadd : (⟨g, 0, none⟩ : Addr).add i = ⟨g, 0 + i, none⟩ := by unfold Addr.add; split <;> simp_all
    rw [hadd] at hcell
    have hlt : g < w.heap.size := by
      have := Array.getElem?_eq_some_iff.1 hh
      exact this.1
    exact ⟨g, 0, rfl, hlt, hcell⟩
theorem ys_rd {w : World} {v : Value} {bs : List Yt} (h : (ysR v bs).P w) (hb : (bodsR bs).P w) : ∃ a c, v = .slice a bs.length c ∧ bs.length ≤ c ∧ (a = none → c = 0) ∧ RdYs w a bs := by
  obtain ⟨a, c, h1, h2, h3, h4, h5⟩ := own_vals (show w.ownsRow 0 _ 1 v bs.length (bs.map Yt.v) from h)
  rw [List.length_map] at h1 h2
  exact ⟨a, c, h1, h2, h4, h5, fun b hm => Sla.of_own (show w.ownsRow 0 _ 1 b.v b.zs.length (b.zs.map (Value.int .u8)) from hb.1 b.res (List.mem_map_of_mem hm))⟩
theorem info_ys : (Try.prog.info? 28).map (fun i => (i.zero, i.size, i.bytes)) = some (some (.slice none 0 0), 1, 24) := by kernel_rfl
/-- One string more. -/
theorem Sep.snocY {S : List Nat} {w0 w : World} {v : Value} {bs : List Yt} {b : Yt} {L : List Res} (h : Sep S w0 w (ownR 28 1 v (bs.length + 1) (bs.map Yt.v ++ [b.v]) :: b.res :: bodsR bs :: L)) :
    Sep S w0 w (ysR v (bs ++ [b]) :: bodsR (bs ++ [b]) :: L) := by
  have h1 : Sep S w0 w (ysR v (bs ++ [b]) :: b.res :: bodsR bs :: L) := by
    unfold ysR
    rw [List.length_append, List.map_append]
    exact h
  have h2 : Sep S w0 w (b.res :: ysR v (bs ++ [b]) :: eachR (bs.map Yt.res) :: L) := h1.shuffle (List.Perm.swap _ _ _)
  have h3 := h2.einto
  unfold bodsR
  rw [List.map_append]
  exact h3

end Go.Proofs.Ytekjpkppfcmjdaa
