/-
  THE PLAIN LAW of package report: what is noted, and what is told of it; no program in sight.
-/
import Derived.Test.YtbodmoefogkciaaSerP
import Derived.Test.YtbodmoefogkciaaReg
set_option linter.unusedVariables false
set_option linter.unusedSimpArgs false
namespace Go.Proofs.Ytbodmoefogkciaa

/-- A number held within 0 and m. -/
def upTo (x m : Int) : Int := min (max x 0) m
theorem upTo_ge (x m : Int) (h : 0 ≤ m) : 0 ≤ upTo x m := by unfold upTo; omega
theorem upTo_le (x m : Int) : upTo x m ≤ m := by unfold upTo; omega

/-- What was noted: the highest number (below 0: none), the first one, how many, the sum, the last time stamp and time, what the last report expected, what had come by it. -/
structure St where
  h : Int
  first : Int
  rcv : Int
  sum : Int
  ts : Int
  tm : Int
  ex : Int
  ca : Int
def St.zero : St := ⟨-1, 0, 0, 0, 0, 0, 0, 0⟩
/-- Within its bounds, behind k packets. -/
structure St.ok (s : St) (k : Nat) : Prop where
  hw : WIn s.h k
  k1 : k ≤ 1000
  f0 : 0 ≤ s.first
  f1 : s.first ≤ 4295032831
  r0 : 0 ≤ s.rcv
  r1 : s.rcv ≤ 1000
  s0 : 0 ≤ s.sum
  s1 : s.sum ≤ 1125899906842624
  t0 : 0 ≤ s.ts
  t1 : s.ts ≤ 4294967295
  m0 : 0 ≤ s.tm
  m1 : s.tm ≤ 1099511627776
  e0 : 0 ≤ s.ex
  e1 : s.ex ≤ 70000000
  c0 : 0 ≤ s.ca
  c1 : s.ca ≤ 1000
  fh : 0 ≤ s.h → 4294967296 ≤ s.first ∧ s.first ≤ s.h
theorem St.zero_ok : St.zero.ok 0 := ⟨.inl rfl, by decide, by decide, by decide, by decide, by decide, by decide, by decide, by decide, by decide, by decide, by decide, by decide, by decide, by decide, by decide, by decide⟩

def absI (d : Int) : Int := if d < 0 then -d else d
def jit (sum d : Int) : Int := min (sum + absI d - (sum + 8) / 16) 1125899906842624
def St.shift (s : St) (ts now : Int) : Int := jit s.sum (now - s.tm - ah32 ts s.ts)
/-- A packet noted. -/
def St.note (s : St) (seq ts now : Int) : St :=
  { h := wHi s.h seq, first := if s.h < 0 then wOut s.h seq else s.first, rcv := s.rcv + 1,
    sum := if s.h < 0 then s.sum else s.shift ts (upTo now 1099511627776), ts := ts, tm := upTo now 1099511627776, ex := s.ex, ca := s.ca }
def St.expd (s : St) : Int := if s.h < 0 then 0 else s.h - s.first + 1
def St.lost (s : St) : Int := min (max (s.expd - s.rcv) (-8388608)) 8388607
def St.high (s : St) : Int := (if s.h < 0 then 0 else s.h) % 4294967296
def St.jitter (s : St) : Int := min (s.sum / 16) 4294967295
def frac (e l : Int) : Int := if e ≤ 0 ∨ l ≤ 0 then 0 else min (l * 256 / e) 255
def St.fraction (s : St) : Int := frac (s.expd - s.ex) (s.expd - s.ex - (s.rcv - s.ca))
def St.report (s : St) : St := { s with ex := s.expd, ca := s.rcv }

theorem jit_in (sum d : Int) (s0 : 0 ≤ sum) (s1 : sum ≤ 1125899906842624) : 0 ≤ jit sum d ∧ jit sum d ≤ 1125899906842624 := by
  unfold jit absI; split <;> omega
theorem St.note_ok {s : St} {k : Nat} (h : s.ok k) (hk : k + 1 ≤ 1000) (seq ts now : Int) (q0 : 0 ≤ seq) (q1 : seq ≤ 65535) (t0 : 0 ≤ ts) (t1 : ts ≤ 4294967295) (hr : s.rcv + 1 ≤ 1000) : (s.note seq ts now).ok (k + 1) := by
  have hs := h.hw.step seq q0 q1
  have ho := h.hw.out seq q0 q1
  have j := jit_in s.sum (upTo now 1099511627776 - s.tm - ah32 ts s.ts) h.s0 h.s1
  have n0 := upTo_ge now 1099511627776 (by decide)
  have n1 := upTo_le now 1099511627776
  have f := h.fh
  have hw := h.hw
  have f0 := h.f0
  have f1 := h.f1
  have r0 := h.r0
  have c0 := h.c0
  have c1 := h.c1
  have e0 := h.e0
  have e1 := h.e1
  have s0 := h.s0
  have s1 := h.s1
  have hneg : s.h < 0 → wOut s.h seq = 4294967296 + seq := by intro hn; unfold wOut; rw [if_pos hn]
  have hcase : s.h < 0 ∨ (4294967296 ≤ s.h) := by rcases hw with hw | hw <;> omega
  have hhi : s.h < 0 → wHi s.h seq = 4294967296 + seq := by intro hn; unfold wHi; rw [hneg hn, if_pos (by omega)]
  refine ⟨hs.1, hk, ?_, ?_, ?_, ?_, ?_, ?_, t0, t1, n0, n1, e0, e1, c0, c1, ?_⟩ <;> simp only [St.note, St.shift]
  · split <;> omega
  · split <;> omega
  · omega
  · omega
  · split <;> omega
  · split <;> omega
  · intro _
    by_cases hn : s.h < 0
    · rw [if_pos hn, hneg hn, hhi hn]; omega
    · rw [if_neg hn]
      have := f (by omega)
      omega
theorem St.wide_ok {s : St} {k : Nat} (h : s.ok k) (hk : k + 1 ≤ 1000) (hs : 0 ≤ s.h) (seq : Int) (q0 : 0 ≤ seq) (q1 : seq ≤ 65535) : ({ s with h := wHi s.h seq } : St).ok (k + 1) := by
  have hst := h.hw.step seq q0 q1
  have f := h.fh hs
  exact ⟨hst.1, hk, h.f0, h.f1, h.r0, h.r1, h.s0, h.s1, h.t0, h.t1, h.m0, h.m1, h.e0, h.e1, h.c0, h.c1, fun _ => ⟨f.1, Int.le_trans f.2 hst.2.2.1⟩⟩
theorem St.expd_in {s : St} {k : Nat} (h : s.ok k) : 0 ≤ s.expd ∧ s.expd ≤ 65600000 := by
  have f := h.fh
  have hw := h.hw
  have k1 := h.k1
  unfold St.expd
  rcases hw with hw | ⟨hw, hw2⟩
  · rw [if_pos (by omega)]; omega
  · rw [if_neg (by omega)]
    have := f (by omega)
    omega
theorem St.report_ok {s : St} {k : Nat} (h : s.ok k) : s.report.ok k := by
  have e := St.expd_in h
  exact ⟨h.hw, h.k1, h.f0, h.f1, h.r0, h.r1, h.s0, h.s1, h.t0, h.t1, h.m0, h.m1, e.1, by have := e.2; simp only [St.report]; omega, h.r0, h.r1, h.fh⟩

end Go.Proofs.Ytbodmoefogkciaa
