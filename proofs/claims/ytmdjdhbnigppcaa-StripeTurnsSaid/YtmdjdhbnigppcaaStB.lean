/-
  THE WALKS of stripe: Count, Longest, Clone, Bytes.
-/
import Derived.Test.YtmdjdhbnigppcaaStA
set_option linter.unusedVariables false
set_option linter.unusedSimpArgs false
namespace Go.Proofs.Ytmdjdhbnigppcaa
open Go.RowKit

/-- 'append(s, xs...)' of integers, the lengths and the row as the prover spells them. -/
theorem wpList_append_said {P : Program} {S : List Nat} {w0 w : World} {L : List Res} {ops : Array Oper} {rest : List Oper} {o : Oper} {a : Act} {Q : Exit → Act → World → Prop} (hgd : o.guard = none) (s x : Operand) (t : TypeId)
    (ho : o.op = .call { callee := .builtin .append, args := #[s, x], argTypes := #[t, t] }) (i : Nat)
    (e : TypeId) (inf : TypeInfo) (z : Value) (bytes : Nat) (ht : P.underlying t = some (.slice e)) (hi : P.info? e = some inf) (hz : inf.zero = some z)
    (hsize : inf.size = 1) (hby : inf.bytes = bytes) (hzs : z.cells.size = 1) (k : IntKind)
    (v : Value) (n : Nat) (xs : List Value) (hs : a.eval s = v) (hS : Sep S w0 w L) (hL : L[i]? = some (ownR e 1 v n xs))
    (ad : Option Addr) (c m : Nat) (zs : List Int) (hm : zs.length = m) (hx : a.eval x = .slice ad m c) (hc : ad = none → c = 0) (hrd : RdI k w ad zs)
    (N : Nat) (hN : n + m = N) (ys : List Value) (hy : xs ++ zs.map (Value.int k) = ys)
    (h63 : N ≤ maxLen) (hbytes : N * bytes ≤ 140737488355328)
    (h : ∀ v' w', Sep S w0 w' (L.set i (ownR e 1 v' N ys)) → wpList P ops Q rest (a.put o.dst v') w') : wpList P ops Q (o :: rest) a w := by
  subst hm hN hy
  exact wpList_append_ints hgd s x t ho i e inf z bytes ht hi hz hsize hby hzs k v n xs hs hS hL ad c zs hx hc hrd h63 hbytes h

set_option maxHeartbeats 1000000 in
theorem count_c (s : Nat) (v : Value) (cnt : Int) (w : World) (h : Blk w s 28 #[v, .int .i64 cnt]) :
    Calls Try.prog 15 #[.pointer (some ⟨s, 0, none⟩)] w fun e w' => e = .returned (.int .i64 cnt) ∧ w = w' := by
  have c1 := h.cell 1 rfl
  go_enter Try.func15, Try.ntmps15
  go_wp2_with fail
  go_ret
  exact ⟨rfl, rfl⟩
set_option maxHeartbeats 1000000 in
theorem longest_c (s : Nat) (v : Value) (xs : List Int) (cnt : Int) (w : World) (h : Blk w s 28 #[v, .int .i64 cnt]) (ho : (sumR v xs).P w) :
    Calls Try.prog 16 #[.pointer (some ⟨s, 0, none⟩)] w fun e w' => e = .returned (.int .i64 (xs.length : Nat)) ∧ w = w' := by
  have c1 := h.cell 0 rfl
  have hv : ∃ a c, v = .slice a xs.length c := by
    rcases row_form ho with ⟨h1, h2⟩ | ⟨g, c, h1⟩
    · exact ⟨_, _, by rw [h1, h2]⟩
    · exact ⟨_, _, h1⟩
  obtain ⟨a, c, rfl⟩ := hv
  clear ho
  go_enter Try.func16, Try.ntmps16
  go_wp2_with fail
  go_ret
  exact ⟨rfl, rfl⟩
set_option maxHeartbeats 4000000 in
/-- A copy of a row, in new memory. -/
theorem clone_c (a : Option Addr) (cap : Nat) (zs : List Int) (w : World) (rd : RdI .u8 w a zs) (hc : a = none → cap = 0) (hz : zs.length ≤ 1000000) :
    Calls Try.prog 28 #[.slice a zs.length cap] w fun e w' => ∃ v, e = .returned v ∧ Sep [] w w' [sumR v zs] := by
  obtain ⟨i0, hi, hz0, hz1, hz2⟩ := info_parts info_u8
  unfold sumR
  cases a with
  | none =>
    have : zs = [] := by
      cases zs with
      | nil => rfl
      | cons z zs => obtain ⟨b, off, h, _⟩ := rd 0 z rfl; cases h
    subst this
    obtain rfl := hc rfl
    clear rd
    have he : ∀ w : World, (binOp .eql 25 (.slice none 0 0) (.slice none 0 0)).run Try.prog w = .ok (.bool true) w := fun _ => rfl
    go_enter Try.func28, Try.ntmps28
    go_wp2_with fail
    go_ret
    exact ⟨_, rfl, (Sep.init w).nil _ 1⟩
  | some p =>
    have HR := Lib.hid rd
    clear rd hc
    have he : ∀ (w : World) n c, (binOp .eql 25 (.slice (some p) n c) (.slice none 0 0)).run Try.prog w = .ok (.bool false) w := fun _ _ _ => rfl
    have HS := Lib.hid ((Sep.init w).made 5 1 0 #[] (by unfold maxLen; omega) rfl)
    go_enter Try.func28, Try.ntmps28
    go_wp2_with (at_builtin; refine wpList_append_said rfl _ _ 25 rfl 0 5 i0 (.int .u8 0) 1 Try.underlying25 hi hz0 hz1 hz2 rfl .u8 _ _ _ rfl HS.out rfl (some p) cap zs.length zs rfl rfl (fun h => by cases h) (HR.out.alloc _) zs.length (Nat.zero_add _) (zs.map (Value.int .u8)) rfl (by unfold maxLen; omega) (by omega) ?_; intro v3 w3 hS3; have HS3 := Lib.hid hS3; clear hS3)
    go_ret
    exact ⟨_, rfl, HS3.out⟩
set_option maxHeartbeats 2000000 in
theorem bytes_c (s : Nat) (v : Value) (xs : List Int) (cnt : Int) (w : World) (h : Blk w s 28 #[v, .int .i64 cnt]) (ho : (sumR v xs).P w) (hx : xs.length ≤ 1000000) :
    Calls Try.prog 12 #[.pointer (some ⟨s, 0, none⟩)] w fun e w' => ∃ v', e = .returned v' ∧ Sep [] w w' [sumR v' xs] := by
  have c1 := h.cell 0 rfl
  obtain ⟨a, c, rfl, hlc, hrd⟩ := RdI.of_own ho
  have hca : a = none → c = 0 := by
    rintro rfl
    rcases row_form ho with ⟨h1, h2⟩ | ⟨g, c', h1⟩
    · injection h1
    · cases h1
  have HC := Lib.hid (clone_c a c xs w hrd hca hx)
  clear ho hca hrd hlc h
  go_enter Try.func12, Try.ntmps12
  go_wp2_with fail
  refine HC.out.mono ?_
  rintro e w1 ⟨v', rfl, hS⟩
  have HS := Lib.hid hS
  clear hS
  go_wp2_with fail
  go_ret
  exact ⟨_, rfl, HS.out⟩

end Go.Proofs.Ytmdjdhbnigppcaa
