/-
  PLAIN: a flex pack, what is read of bytes, what is written.
-/
import Derived.Test.YtnloabpdjedanaaDoorBb
import Derived.Test.YtnloabpdjedanaaDoorMsk
import Derived.Laws.BitsLemmas
set_option linter.unusedVariables false
set_option linter.unusedSimpArgs false
namespace Go.Proofs.YtnloabpdjedanaaDoor
open Go.RowKit

/-- The parts of a mask: where each begins, how many bits it has, how many bytes. -/
def mkA (k : Nat) : Nat := if k = 0 then 0 else if k = 1 then 15 else 46
def mkN (k : Nat) : Nat := if k = 0 then 15 else if k = 1 then 31 else 63
def mkS (k : Nat) : Nat := if k = 0 then 2 else if k = 1 then 4 else 8
/-- The mask that is read from place p on, part k being next; at most f parts more. -/
def mkF (zs : List Int) : Nat → Nat → Nat → Nat → Nat → Except Int (Nat × Nat × Nat)
  | 0, _, _, _, _ => .error 21
  | f + 1, k, p, h, l =>
    if zs.length < p + mkS k then .error 20 else
    if 2 ^ mkN k ≤ (bigN (cut zs p (mkS k))).toNat then .ok (h ||| lyH (mkA k) (mkN k) (bigN (cut zs p (mkS k))).toNat, l ||| lyL (mkA k) (mkN k) (bigN (cut zs p (mkS k))).toNat, p + mkS k)
    else mkF zs f (k + 1) (p + mkS k) (h ||| lyH (mkA k) (mkN k) (bigN (cut zs p (mkS k))).toNat) (l ||| lyL (mkA k) (mkN k) (bigN (cut zs p (mkS k))).toNat)
theorem mkF_short {zs : List Int} {f k p h l : Nat} (hs : zs.length < p + mkS k) : mkF zs (f + 1) k p h l = .error 20 := by unfold mkF; rw [if_pos hs]
theorem mkF_last {zs : List Int} {f k p h l : Nat} (hs : ¬ zs.length < p + mkS k) (h2 : 2 ^ mkN k ≤ (bigN (cut zs p (mkS k))).toNat) : mkF zs (f + 1) k p h l = .ok (h ||| lyH (mkA k) (mkN k) (bigN (cut zs p (mkS k))).toNat, l ||| lyL (mkA k) (mkN k) (bigN (cut zs p (mkS k))).toNat, p + mkS k) := by
  rw [mkF]
  rw [if_neg hs, if_pos h2]
theorem mkF_more {zs : List Int} {f k p h l : Nat} (hs : ¬ zs.length < p + mkS k) (h2 : ¬ 2 ^ mkN k ≤ (bigN (cut zs p (mkS k))).toNat) : mkF zs (f + 1) k p h l = mkF zs f (k + 1) (p + mkS k) (h ||| lyH (mkA k) (mkN k) (bigN (cut zs p (mkS k))).toNat) (l ||| lyL (mkA k) (mkN k) (bigN (cut zs p (mkS k))).toNat) := by
  rw [mkF]
  rw [if_neg hs, if_neg h2]

/-- A pack: its head, its base, its mask, the two numbers of a fixed one, its body. -/
structure Fx where
  h0 : Int
  h1 : Int
  h2 : Int
  h3 : Int
  h4 : Int
  h5 : Int
  h6 : Int
  h7 : Int
  b : Int
  h : Nat
  l : Nat
  fx : Bool
  L : Int
  D : Int
  B : List Int
def Fx.none : Fx := ⟨0, 0, 0, 0, 0, 0, 0, 0, 0, 0, 0, false, 0, 0, []⟩
/-- Its cells, its body's slice being v. -/
def Fx.cells (x : Fx) (v : Value) : Array Value := #[.int .u8 x.h0, .int .u8 x.h1, .int .u8 x.h2, .int .u8 x.h3, .int .u8 x.h4, .int .u8 x.h5, .int .u8 x.h6, .int .u8 x.h7, .int .u16 x.b, .int .u64 (x.h : Int), .int .u64 (x.l : Int), .bool x.fx, .int .i64 x.L, .int .i64 x.D, v]
def Fx.val (x : Fx) (v : Value) : Value := .agg (x.cells v)
/-- Its fields are in their ranges. -/
structure Fx.Ok (x : Fx) : Prop where
  r0 : 0 ≤ x.h0 ∧ x.h0 ≤ 255
  r1 : 0 ≤ x.h1 ∧ x.h1 ≤ 255
  r2 : 0 ≤ x.h2 ∧ x.h2 ≤ 255
  r3 : 0 ≤ x.h3 ∧ x.h3 ≤ 255
  r4 : 0 ≤ x.h4 ∧ x.h4 ≤ 255
  r5 : 0 ≤ x.h5 ∧ x.h5 ≤ 255
  r6 : 0 ≤ x.h6 ∧ x.h6 ≤ 255
  r7 : 0 ≤ x.h7 ∧ x.h7 ≤ 255
  rb : 0 ≤ x.b ∧ x.b ≤ 65535
  rh : x.h < 18446744073709551616
  rl : x.l < 18446744073709551616
  rL : -9223372036854775808 ≤ x.L ∧ x.L ≤ 9223372036854775807
  rD : -9223372036854775808 ≤ x.D ∧ x.D ≤ 9223372036854775807
  rB : Byt x.B

def at_ (zs : List Int) (i : Nat) : Int := zs.getD i 0
/-- What is read of the bytes (no more than 1500). -/
def rdX (zs : List Int) : Except Int Fx :=
  if 1 ≤ zs.length ∧ 128 ≤ at_ zs 0 then .error 21 else
  if zs.length < 12 then .error 20 else
  if 64 ≤ at_ zs 0 then
    if at_ zs 10 = 0 then .error 30 else
    .ok ⟨at_ zs 0 % 64, at_ zs 1, at_ zs 4, at_ zs 5, at_ zs 6, at_ zs 7, at_ zs 2, at_ zs 3, bigN (cut zs 8 2), 0, 0, true, at_ zs 10, at_ zs 11, zs.drop 12⟩
  else match mkF zs 3 0 10 0 0 with
    | .error e => .error e
    | .ok (h, l, n) => if h = 0 ∧ l = 0 then .error 30 else
      .ok ⟨at_ zs 0 % 64, at_ zs 1, at_ zs 4, at_ zs 5, at_ zs 6, at_ zs 7, at_ zs 2, at_ zs 3, bigN (cut zs 8 2), h, l, false, 0, 0, zs.drop n⟩
def paE (zs : List Int) : Int := if 1500 < zs.length then 2 else match rdX zs with | .error e => e | .ok _ => 0
def paX (zs : List Int) : Fx := if 1500 < zs.length then Fx.none else match rdX zs with | .error _ => Fx.none | .ok x => x

/-- The bytes of a mask, from part k on; at most f parts. -/
def mkB (h l : Nat) : Nat → Nat → List Int
  | 0, _ => []
  | f + 1, k => if laN h l < (mkA k : Int) + (mkN k : Int) then bigL ((ptN h l (mkA k) (mkN k) : Int) + 2 ^ mkN k) (mkS k) else bigL (ptN h l (mkA k) (mkN k) : Int) (mkS k) ++ mkB h l f (k + 1)
def gridB (L D : Int) : Bool := decide (1 ≤ L) && decide (L ≤ 255) && decide (0 ≤ D) && decide (D ≤ 255)
/-- What is wrong with a pack, but for its length. -/
def wrX (x : Fx) : Int :=
  if (x.fx && !gridB x.L x.D || !x.fx && !(decide (x.L = 0) && decide (x.D = 0))) = true then 1 else
  if (x.fx != decide (cnt x.h 64 + cnt x.l 64 = 0)) = true ∨ 109 ≤ laN x.h x.l then 30 else
  if 1500 < x.B.length then 2 else 0
def byX (x : Fx) : List Int := [x.h0 % 64 + if x.fx then 64 else 0, x.h1, x.h6, x.h7, x.h2, x.h3, x.h4, x.h5] ++ bigL x.b 2 ++ (if x.fx then [x.L, x.D] else mkB x.h x.l 3 0) ++ x.B
def weX (x : Fx) : Int := if wrX x ≠ 0 then wrX x else if 1500 < (byX x).length then 2 else 0
def woX (x : Fx) : List Int := if weX x ≠ 0 then [] else byX x

end Go.Proofs.YtnloabpdjedanaaDoor
