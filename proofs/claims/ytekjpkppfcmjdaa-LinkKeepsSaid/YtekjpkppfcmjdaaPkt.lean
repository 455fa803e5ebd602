/-
  PACKETS READ IN MEMORY; the references' SameWords, Same and Few; rtp.Clone.
-/
import Derived.Test.YtekjpkppfcmjdaaCln
import Derived.Test.YtekjpkppfcmjdaaPrm
set_option linter.unusedVariables false
set_option linter.unusedSimpArgs false
namespace Go.Proofs.Ytekjpkppfcmjdaa
open Go.RowKit

/-- A slice of integers, read. -/
def Sla (k : IntKind) (W : World) (v : Value) (zs : List Int) : Prop := ∃ a c, v = .slice a zs.length c ∧ RdI k W a zs ∧ (a = none → c = 0) ∧ zs.length ≤ c ∧ c ≤ 9223372036854775807
theorem Sla.frm {k : IntKind} {w w' : World} {v : Value} {zs : List Int} (h : Sla k w v zs) (hf : Frm [] w w') : Sla k w' v zs := by
  obtain ⟨a, c, h1, h2, h3⟩ := h
  exact ⟨a, c, h1, h2.below hf.below, h3⟩
theorem Sla.nil (k : IntKind) (w : World) : Sla k w (.slice none 0 0) [] := ⟨none, 0, rfl, RdI.nil _ _ _, fun _ => rfl, Nat.le_refl _, by omega⟩
theorem Sla.of_own {k : IntKind} {w : World} {base e : Nat} {v : Value} {n : Nat} {zs : List Int} (h : w.ownsRow base e 1 v n (zs.map (Value.int k))) : Sla k w v zs := by
  have hn : n = zs.length := by have := h.1; simpa using this.symm
  have h0 := h
  obtain ⟨a, c, rfl, hc, hr⟩ := RdI.of_own h
  refine ⟨a, c, rfl, hr, fun ha => ?_, hc, ?_⟩
  · obtain ⟨a', c', e1, _, h3⟩ := own_shape h0
    injection e1 with e1 _ e3
    subst e1 e3
    exact h3 ha
  · rcases h0.2 with ⟨e1, _⟩ | ⟨g, c', cur, e1, _, _, _, hm, _⟩
    · injection e1 with _ _ e3
      omega
    · injection e1 with _ _ e3
      subst e3
      unfold maxLen at hm
      omega
/-- What a packet says. -/
structure Pp where
  m : Bool
  pt : Int
  seq : Int
  ts : Int
  ss : Int
  C : List Int
  hx : Bool
  pf : Int
  E : List Int
  P : List Int
  D : List Int
/-- A packet. -/
structure Pk where
  pl : Pp
  cv : Value
  ev : Value
  pv : Value
  dv : Value
def Pk.cells (p : Pk) : Array Value := #[.bool p.pl.m, .int .i64 p.pl.pt, .int .u16 p.pl.seq, .int .u32 p.pl.ts, .int .u32 p.pl.ss, p.cv, .bool p.pl.hx, .int .u16 p.pl.pf, p.ev, p.pv, p.dv]
structure RdPk (W : World) (x : Pk) : Prop where
  c : Sla .u32 W x.cv x.pl.C
  e : Sla .u8 W x.ev x.pl.E
  p : Sla .u8 W x.pv x.pl.P
  d : Sla .u8 W x.dv x.pl.D
theorem RdPk.frm {w w' : World} {p : Pk} (h : RdPk w p) (hf : Frm [] w w') : RdPk w' p := ⟨h.c.frm hf, h.e.frm hf, h.p.frm hf, h.d.frm hf⟩
structure PpSm (x : Pp) : Prop where
  c : x.C.length ≤ 1000000
  e : x.E.length ≤ 1000000
  p : x.P.length ≤ 1000000
  d : x.D.length ≤ 1000000

end Go.Proofs.Ytekjpkppfcmjdaa
