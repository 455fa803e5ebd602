/-
  CHAINS OF BLOCKS, IN PLAIN LEAN: headers, data. No program is named here.
-/
import Derived.Test.YtiknjkkphdncfaaWiP
set_option linter.unusedVariables false
set_option linter.unusedSimpArgs false
namespace Go.Proofs.Ytiknjkkphdncfaa
open Go.RowKit

/-- A header. -/
structure Hd where
  pt : Int
  off : Int
  size : Int
  last : Bool
/-- A block. -/
structure Bk where
  pt : Int
  off : Int
  B : List Int
/-- One header, and the place behind it; or the error. -/
def hdOne (zs : List Int) (at_ : Nat) : Except Int (Hd × Nat) :=
  if zs.length < at_ + 1 then .error 20
  else if bigN (cut zs at_ 1) < 128 then .ok (⟨bigN (cut zs at_ 1), 0, 0, true⟩, at_ + 1)
  else if zs.length < at_ + 4 then .error 20
  else .ok (⟨bigN (cut zs at_ 1) - 128, bigN (cut zs (at_ + 1) 3) / 1024, bigN (cut zs (at_ + 1) 3) % 1024, false⟩, at_ + 4)
/-- The headers, one after the other. -/
def hdsF : Nat → List Int → Nat → List Hd → Except Int (List Hd × Nat)
  | 0, _, _, _ => .error 3
  | f + 1, zs, at_, hs => match hdOne zs at_ with
    | .error e => .error e
    | .ok (h, n) => if hs.length = 8 then .error 3 else if h.last = true then .ok (hs ++ [h], n) else hdsF f zs n (hs ++ [h])
def hdLen (zs : List Int) (at_ : Nat) (h : Hd) : Nat := if h.last = true then zs.length - at_ else h.size.toNat
def bkOne (zs : List Int) (at_ : Nat) (h : Hd) : Except Int (Bk × Nat) :=
  if zs.length < at_ + hdLen zs at_ h then .error 20 else .ok (⟨h.pt, h.off, cut zs at_ (hdLen zs at_ h)⟩, at_ + hdLen zs at_ h)
def bkStep (zs : List Int) (r : Except Int (List Bk × Nat)) (h : Hd) : Except Int (List Bk × Nat) :=
  match r with
  | .error e => .error e
  | .ok (out, at_) => match bkOne zs at_ h with
    | .error e => .error e
    | .ok (b, n) => .ok (out ++ [b], n)
/-- The data of blocks, from a place on. -/
def bksL (zs : List Int) (at_ : Nat) (hs : List Hd) : Except Int (List Bk × Nat) := hs.foldl (bkStep zs) (.ok ([], at_))
theorem bksL_take (zs : List Int) (at_ : Nat) (hs : List Hd) (n : Nat) (h : n < hs.length) : bksL zs at_ (hs.take (n + 1)) = bkStep zs (bksL zs at_ (hs.take n)) hs[n] := by
  unfold bksL
  rw [List.take_add_one, List.getElem?_eq_getElem h, List.foldl_append]
  rfl
theorem bk_foldl_error (zs : List Int) (hs : List Hd) (e : Int) : hs.foldl (bkStep zs) (.error e) = .error e := by
  induction hs with
  | nil => rfl
  | cons s ss ih => exact ih
theorem bksL_error {zs : List Int} {at_ : Nat} {hs : List Hd} {n : Nat} {e : Int} (h : bksL zs at_ (hs.take n) = .error e) : bksL zs at_ hs = .error e := by
  have h1 : bksL zs at_ hs = (hs.drop n).foldl (bkStep zs) (bksL zs at_ (hs.take n)) := by
    unfold bksL
    rw [← List.foldl_append, List.take_append_drop]
  rw [h1, h, bk_foldl_error]
/-- The chain of bytes. -/
def chainL (zs : List Int) : Except Int (List Bk × Nat) :=
  match hdsF 9 zs 0 [] with
  | .error e => .error e
  | .ok (hs, at_) => bksL zs at_ hs
theorem hdOne_le {zs : List Int} {at_ : Nat} {h : Hd} {n : Nat} (he : hdOne zs at_ = .ok (h, n)) : at_ < n ∧ n ≤ zs.length := by
  unfold hdOne at he
  split at he
  · cases he
  · split at he
    · injection he with he; injection he with h1 h2; omega
    · split at he
      · cases he
      · injection he with he; injection he with h1 h2; omega
theorem bkOne_le {zs : List Int} {at_ : Nat} {h : Hd} {b : Bk} {n : Nat} (he : bkOne zs at_ h = .ok (b, n)) : at_ ≤ n ∧ n ≤ zs.length := by
  unfold bkOne at he
  split at he
  · cases he
  · injection he with he; injection he with h1 h2; omega

end Go.Proofs.Ytiknjkkphdncfaa
