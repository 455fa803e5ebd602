/-
  PLAIN: a ulp pack, what is read of bytes, what is written.
-/
import Derived.Test.YtjflcijiaennkaaDoorBb
import Derived.Test.YtjflcijiaennkaaDoorMsk
import Derived.Test.YtjflcijiaennkaaDoorBig
import Derived.Laws.BitsLemmas
set_option linter.unusedVariables false
set_option linter.unusedSimpArgs false
namespace Go.Proofs.YtjflcijiaennkaaDoor
open Go.RowKit

/-- A level: its mask, its body. -/
structure Lv where
  h : Nat
  l : Nat
  B : List Int
/-- A pack: its head, its base, how wide its masks are, its levels. -/
structure Ul where
  h0 : Int
  h1 : Int
  h2 : Int
  h3 : Int
  h4 : Int
  h5 : Int
  h6 : Int
  h7 : Int
  b : Int
  lg : Bool
  Ls : List Lv
def Ul.none : Ul := ⟨0, 0, 0, 0, 0, 0, 0, 0, 0, false, []⟩
/-- Its cells, its levels' slice being v. -/
def Ul.cells (x : Ul) (v : Value) : Array Value := #[.int .u8 x.h0, .int .u8 x.h1, .int .u8 x.h2, .int .u8 x.h3, .int .u8 x.h4, .int .u8 x.h5, .int .u8 x.h6, .int .u8 x.h7, .int .u16 x.b, .bool x.lg, v]
def Ul.val (x : Ul) (v : Value) : Value := .agg (x.cells v)
/-- Its fields are in their ranges. -/
structure Ul.Ok (x : Ul) : Prop where
  r0 : 0 ≤ x.h0 ∧ x.h0 ≤ 255
  r1 : 0 ≤ x.h1 ∧ x.h1 ≤ 255
  r2 : 0 ≤ x.h2 ∧ x.h2 ≤ 255
  r3 : 0 ≤ x.h3 ∧ x.h3 ≤ 255
  r4 : 0 ≤ x.h4 ∧ x.h4 ≤ 255
  r5 : 0 ≤ x.h5 ∧ x.h5 ≤ 255
  r6 : 0 ≤ x.h6 ∧ x.h6 ≤ 255
  r7 : 0 ≤ x.h7 ∧ x.h7 ≤ 255
  rb : 0 ≤ x.b ∧ x.b ≤ 65535
  rL : ∀ L ∈ x.Ls, L.h < 18446744073709551616 ∧ L.l < 18446744073709551616 ∧ Byt L.B
/-- A level in memory: its body is the slice bv. -/
structure LvV where
  h : Nat
  l : Nat
  bv : Value
  B : List Int
def LvV.lv (q : LvV) : Lv := ⟨q.h, q.l, q.B⟩
def LvV.row (q : LvV) : List Value := [.int .u64 (q.h : Int), .int .u64 (q.l : Int), q.bv]
def bodR (qs : List LvV) : Res := eachR (qs.map fun q => sumR q.bv q.B)

/-- How many bits, how many bytes a mask has. -/
def wid (lg : Bool) : Nat := if lg then 48 else 16
def siz (lg : Bool) : Nat := if lg then 6 else 2
def uat (zs : List Int) (i : Nat) : Int := zs.getD i 0
/-- A level read at p: how long its body is, its mask's number, the level, where it ends. -/
def lvN (zs : List Int) (p : Nat) : Nat := (bigN (cut zs p 2)).toNat
def lvX (zs : List Int) (lg : Bool) (p : Nat) : Nat := (bigN (cut zs (p + 2) (siz lg))).toNat
def lvE (zs : List Int) (lg : Bool) (p : Nat) : Nat := p + 2 + siz lg + lvN zs p
def lvAt (zs : List Int) (lg : Bool) (p : Nat) : Lv := ⟨lyH 0 (wid lg) (lvX zs lg p), lyL 0 (wid lg) (lvX zs lg p), cut zs (p + 2 + siz lg) (lvN zs p)⟩
/-- The levels that are read from p on, those of acc being read; at most f more. -/
def lvF (zs : List Int) (lg : Bool) : Nat → Nat → List Lv → Except Int (List Lv)
  | 0, p, acc => if acc ≠ [] ∧ zs.length ≤ p then .ok acc else if zs.length < p + 2 + siz lg ∨ zs.length < lvE zs lg p then .error 20 else .error 3
  | f + 1, p, acc => if acc ≠ [] ∧ zs.length ≤ p then .ok acc else if zs.length < p + 2 + siz lg ∨ zs.length < lvE zs lg p then .error 20 else lvF zs lg f (lvE zs lg p) (acc ++ [lvAt zs lg p])
theorem lvF_done {zs : List Int} {lg : Bool} {f p : Nat} {acc : List Lv} (h : acc ≠ [] ∧ zs.length ≤ p) : lvF zs lg f p acc = .ok acc := by
  cases f <;> (unfold lvF; rw [if_pos h])
theorem lvF_short {zs : List Int} {lg : Bool} {f p : Nat} {acc : List Lv} (h : ¬ (acc ≠ [] ∧ zs.length ≤ p)) (h2 : zs.length < p + 2 + siz lg ∨ zs.length < lvE zs lg p) : lvF zs lg f p acc = .error 20 := by
  cases f <;> (unfold lvF; rw [if_neg h, if_pos h2])
theorem lvF_many {zs : List Int} {lg : Bool} {p : Nat} {acc : List Lv} (h : ¬ (acc ≠ [] ∧ zs.length ≤ p)) (h2 : ¬ (zs.length < p + 2 + siz lg ∨ zs.length < lvE zs lg p)) : lvF zs lg 0 p acc = .error 3 := by
  unfold lvF; rw [if_neg h, if_neg h2]
theorem lvF_more {zs : List Int} {lg : Bool} {f p : Nat} {acc : List Lv} (h : ¬ (acc ≠ [] ∧ zs.length ≤ p)) (h2 : ¬ (zs.length < p + 2 + siz lg ∨ zs.length < lvE zs lg p)) : lvF zs lg (f + 1) p acc = lvF zs lg f (lvE zs lg p) (acc ++ [lvAt zs lg p]) := by
  rw [lvF, if_neg h, if_neg h2]
def isNil (L : Lv) : Bool := decide (L.h = 0) && decide (L.l = 0)
def lgB (zs : List Int) : Bool := decide (64 ≤ uat zs 0)
/-- The head and the base, with levels. -/
def uhdX (zs : List Int) (Ls : List Lv) : Ul := ⟨uat zs 0 % 64, uat zs 1, uat zs 4, uat zs 5, uat zs 6, uat zs 7, uat zs 8, uat zs 9, bigN (cut zs 2 2), lgB zs, Ls⟩
/-- What is read of the bytes (no more than 1500). -/
def urdX (zs : List Int) : Except Int Ul :=
  if 1 ≤ zs.length ∧ 128 ≤ uat zs 0 then .error 21 else
  if zs.length < 10 then .error 20 else
  match lvF zs (lgB zs) 2 10 [] with
    | .error e => .error e
    | .ok Ls => if (Ls.head?.map isNil).getD true = true then .error 30 else .ok (uhdX zs Ls)
def upaE (zs : List Int) : Int := if 1500 < zs.length then 2 else match urdX zs with | .error e => e | .ok _ => 0
def upaX (zs : List Int) : Ul := if 1500 < zs.length then Ul.none else match urdX zs with | .error _ => Ul.none | .ok x => x
theorem urd_odd {zs : List Int} (h1 : 1 ≤ zs.length) (h2 : 128 ≤ uat zs 0) : urdX zs = .error 21 := by unfold urdX; rw [if_pos ⟨h1, h2⟩]
theorem urd_short {zs : List Int} (h1 : ¬ (1 ≤ zs.length ∧ 128 ≤ uat zs 0)) (h2 : zs.length < 10) : urdX zs = .error 20 := by unfold urdX; rw [if_neg h1, if_pos h2]
theorem urd_lev {zs : List Int} (h1 : ¬ (1 ≤ zs.length ∧ 128 ≤ uat zs 0)) (h2 : ¬ zs.length < 10) : urdX zs = match lvF zs (lgB zs) 2 10 [] with
    | .error e => .error e
    | .ok Ls => if (Ls.head?.map isNil).getD true = true then .error 30 else .ok (uhdX zs Ls) := by unfold urdX; rw [if_neg h1, if_neg h2]

/-- The bytes of a level. -/
def lvB (lg : Bool) (L : Lv) : List Int := bigL (L.B.length : Int) 2 ++ bigL (ptN L.h L.l 0 (wid lg) : Int) (siz lg) ++ L.B
def uhdB (x : Ul) : List Int := [x.h0 % 64 + if x.lg then 64 else 0, x.h1] ++ bigL x.b 2 ++ [x.h2, x.h3, x.h4, x.h5, x.h6, x.h7]
def ubyX (x : Ul) : List Int := uhdB x ++ x.Ls.flatMap (lvB x.lg)
def farL (lg : Bool) (L : Lv) : Bool := decide ((wid lg : Int) ≤ laN L.h L.l)
def longL (L : Lv) : Bool := decide (1500 < L.B.length)
/-- What is wrong with a pack, but for its length. -/
def uwrX (x : Ul) : Int :=
  if x.Ls.length = 0 then 4 else
  if 2 < x.Ls.length then 3 else
  if (x.Ls.any (farL x.lg) || (x.Ls.head?.map isNil).getD true) = true then 30 else
  if x.Ls.any longL = true then 2 else 0
def uweX (x : Ul) : Int := if uwrX x ≠ 0 then uwrX x else if 1500 < (ubyX x).length then 2 else 0
def uwoX (x : Ul) : List Int := if uweX x ≠ 0 then [] else ubyX x

end Go.Proofs.YtjflcijiaennkaaDoor
