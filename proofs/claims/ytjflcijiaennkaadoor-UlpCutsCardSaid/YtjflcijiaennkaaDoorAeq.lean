/-
  ARRAYS OF BYTES are equal where their bytes are.
-/
import Derived.Test.YtjflcijiaennkaaDoorBb
import Derived.ChangeKeysEq
set_option linter.unusedVariables false
set_option linter.unusedSimpArgs false
namespace Go.Proofs.YtjflcijiaennkaaDoor
open Go.RowKit

theorem part_u8 (xs : Array Value) (w : World) (i : Nat) (v : Value) (h : xs[i]? = some v) : (part 5 xs i).run Tryd.prog w = .ok v w := by
  simp [part, go_sem, h]
theorem items_u8 (d : Nat) (w : World) : ∀ (xa xb : List Int) (pa pb : List Value), xa.length = xb.length → pa.length = pb.length →
    (Op.eqItems (d + 1) 5 1 (pa ++ xa.map (Value.int .u8)).toArray (pb ++ xb.map (Value.int .u8)).toArray (List.range' pa.length xa.length)).run Tryd.prog w = .ok (decide (xa = xb)) w
  | [], [], pa, pb, _, _ => by simp [Op.eqItems]
  | a :: xa, b :: xb, pa, pb, h, hp => by
    have ih := items_u8 d w xa xb (pa ++ [.int .u8 a]) (pb ++ [.int .u8 b]) (by simpa using h) (by simpa using hp)
    rw [List.length_append, List.length_cons, List.length_nil] at ih
    simp only [List.length_cons, List.range'_succ, Op.eqItems, Sem.run_bind, Nat.mul_one]
    rw [part_u8 _ w pa.length (.int .u8 a) (by simp), Result.andThen_ok, part_u8 _ w pa.length (.int .u8 b) (by simp [hp]), Result.andThen_ok, run_equalIn_int w d 5 .u8 .u8 a b Tryd.underlying5, Result.andThen_ok]
    by_cases hab : a = b
    · subst hab
      simp only [List.append_assoc, List.cons_append, List.nil_append] at ih
      simp [ih]
    · simp [hab]
theorem arr_equal {t : TypeId} {n : Nat} (hu : Tryd.prog.underlying t = some (.array n 5)) (w : World) (xa xb : List Int) (h : xa.length = n) (h' : xb.length = n) :
    (Op.equalIn 10000 t (.agg (xa.map (Value.int .u8)).toArray) (.agg (xb.map (Value.int .u8)).toArray)).run Tryd.prog w = .ok (decide (xa = xb)) w := by
  rw [show (10000 : Nat) = 9998 + 1 + 1 from rfl, run_equalIn_array w (9998 + 1) _ _ hu (i := (Tryd.prog.info? 5).get (by kernel_rfl)) (by kernel_rfl), show Tryd.prog.cellsOf 5 = 1 by kernel_rfl]
  have := items_u8 9998 w xa xb [] [] (h.trans h'.symm) rfl
  rw [List.length_nil, h, List.nil_append, List.nil_append] at this
  rw [List.range_eq_range', this]
theorem arr_eql {t : TypeId} {n : Nat} (hu : Tryd.prog.underlying t = some (.array n 5)) (w : World) (xa xb : List Int) (h : xa.length = n) (h' : xb.length = n) :
    (binOp .eql t (.agg (xa.map (Value.int .u8)).toArray) (.agg (xb.map (Value.int .u8)).toArray)).run Tryd.prog w = .ok (.bool (decide (xa = xb))) w := by
  rw [run_eql_struct, arr_equal hu w xa xb h h']
  rfl

end Go.Proofs.YtjflcijiaennkaaDoor
