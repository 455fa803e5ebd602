/-
  THE WALKS: table's Table.
-/
import Derived.Test.YthholboipbfklaaTaC
import Derived.Test.YthholboipbfklaaApp
import Derived.Test.YthholboipbfklaaBld
set_option linter.unusedVariables false
set_option linter.unusedSimpArgs false
namespace Go.Proofs.Ythholboipbfklaa
open Go.RowKit

/-- The rows of the first n block sizes. -/
def tblL (kind : Int) (n : Nat) : List (List Value) := (List.range n).map fun k : Nat => (arr fun l => tcount kind l k).toList
theorem tblL_len {kind : Int} {n : Nat} : ∀ r ∈ tblL kind n, r.length = 256 := fun r hr => by
  obtain ⟨k, _, rfl⟩ := List.mem_map.1 hr
  rw [Array.length_toList, arr_size]
theorem tblL_succ (kind : Int) (n : Nat) : tblL kind (n + 1) = tblL kind n ++ [(arr fun l => tcount kind l n).toList] := by simp [tblL, List.range_succ]
theorem info256b : (Try.prog.info? 26).map (fun i => (i.zero, i.size, i.bytes)) = some (some (.agg (arr fun _ => 0)), 256, 2048) := by kernel_rfl

/-- 'append(s, x)' of one element of many cells. -/
theorem wpList_append_arr {P : Program} {S : List Nat} {w0 w : World} {L : List Res} {ops : Array Oper} {rest : List Oper} {o : Oper} {a : Act} {Q : Exit → Act → World → Prop} (hgd : o.guard = none) (s x : Operand) (t : TypeId)
    (ho : o.op = .call { callee := .builtin .append, args := #[s, x], argTypes := #[t, t] }) (i : Nat)
    (e : TypeId) (inf : TypeInfo) (z : Value) (size bytes : Nat) (ht : P.underlying t = some (.slice e)) (hi : P.info? e = some inf) (hz : inf.zero = some z)
    (hsize : inf.size = size) (hby : inf.bytes = bytes) (hzs : z.cells.size = size) (hsz : 0 < size)
    (v : Value) (n : Nat) (xs : List Value) (hs : a.eval s = v) (hS : Sep S w0 w L) (hL : L[i]? = some (ownR e size v n xs))
    (g : Nat) (C : Array Value) (hC : C.size = size) (hx : a.eval x = .slice (some ⟨g, 0, none⟩) 1 1) (hb : Blk w g e C) (h1 : ∀ u ∈ C, u.oneCell' = true)
    (h63 : n + 1 ≤ maxLen) (hbytes : (n + 1) * bytes ≤ 140737488355328)
    (h : ∀ v' w', Sep S w0 w' (L.set i (ownR e size v' (n + 1) (xs ++ C.toList))) → wpList P ops Q rest (a.put o.dst v') w') : wpList P ops Q (o :: rest) a w := by
  refine wpList_plain hgd fun K hK => ?_
  refine wp_append_rows (P := P) s x t ho e inf z size bytes ht hi hz hsize hby hzs hsz v n xs hs (hS.own i hL) (some ⟨g, 0, none⟩) 1 [C.toList] hx (fun h => by cases h) (fun r hr => by simp at hr; subst hr; simpa using hC) (fun j row hj => ?_) (fun r hr u hu => by simp at hr; subst hr; exact h1 u (by simpa using hu)) h63 hbytes ?_
  · cases j with
    | zero =>
      simp at hj
      subst hj
      refine ⟨g, 0, rfl, hb.lt, fun k u hk => ?_⟩
      rw [Nat.zero_mul, Nat.add_zero, Nat.zero_add]
      exact hb.cell k (by simpa using hk)
    | succ j => simp at hj
  · intro v' w' h2 h3 h4
    rw [List.flatten_cons, List.flatten_nil, List.append_nil] at h2
    exact hK _ _ (h v' w' (hS.grow i hL h3 h2 h4))

set_option maxRecDepth 100000 in
set_option maxHeartbeats 4000000 in
theorem table_c (kind : Int) (w : World) :
    Calls Try.prog 13 #[.int .i64 kind] w fun e w' => ∃ a c, e = .returned (.slice a 49 c) ∧ RdS 256 w' a (tblL kind 49) ∧ Frm [] w w' := by
  obtain ⟨inf, hi, hz0, hz1, hz2⟩ := info_parts info256b
  obtain ⟨Z, hZ⟩ : ∃ Z, Z = Value.agg (arr fun _ => 0) := ⟨_, rfl⟩
  have HZc := Lib.hid (show Z.cells.size = 256 by rw [hZ]; exact arr_size _)
  rw [← hZ] at hz0
  clear hZ
  have HS := Lib.hid ((Sep.init w).nil 26 256)
  go_enter Try.func13, Try.ntmps13
  go_wp2_with fail
  go_loopw [5, 3] (fun i v wr => ∃ (n : Nat), n ≤ 49 ∧ i = .int .i64 n ∧ Sep [] w wr [ownR 26 256 v n (tblL kind n).flatten]) (fun i _ _ => 49 - (intOf i).toNat)
  case atStart => exact ⟨0, Nat.zero_le _, rfl, HS.out⟩
  case round =>
    obtain ⟨n, hn, rfl, hS⟩ := hrel
    have HS2 := Lib.hid hS
    clear hS
    by_cases hlt : n < 49
    · go_wp2_with fail
      refine (row_c kind n _).mono ?_
      rintro e w2 ⟨rfl, hf⟩
      have HS3 := Lib.hid (HS2.out.keep hf)
      obtain ⟨C, hC⟩ : ∃ C, C = arr fun l => tcount kind l n := ⟨_, rfl⟩
      have hCs : C.size = 256 := by rw [hC]; exact arr_size _
      rw [← hC]
      have HC := Lib.hid hC
      have HCs := Lib.hid hCs
      have HC1 := Lib.hid (show ∀ u ∈ C, u.oneCell' = true from fun u hu => (Array.all_eq_true_iff_forall_mem.1 (hC ▸ arr_one _)) u hu)
      clear hC hCs hf
      go_wp2_with (first | (refine wpList_build_one rfl 28 26 (.tmp 11) rfl C rfl inf _ 256 Try.underlying28 hi hz0 hz1 (by omega) (by omega) HCs.out ?_) | (at_builtin; refine wpList_append_arr rfl (.tmp 8) (.tmp 12) 28 rfl 0 26 inf _ 256 2048 Try.underlying28 hi hz0 hz1 hz2 HZc.out (by omega) _ n _ rfl (HS3.out.skip _) rfl w2.heap.size C HCs.out rfl (Blk.made _ _ _) HC1.out (by unfold maxLen; omega) (by omega) ?_; intro v4 w4 hS4; have HS4 := Lib.hid hS4; clear hS4))
      go_roundw
      case rel =>
        refine ⟨n + 1, by omega, by go_num, ?_⟩
        have h : Sep [] w w4 [ownR 26 256 v4 (n + 1) ((tblL kind n).flatten ++ C.toList)] := HS4.out
        rw [tblL_succ, List.flatten_append, List.flatten_cons, List.flatten_nil, List.append_nil, ← HC.out]
        exact h
      case measure => simp [intOf]; omega
    · obtain rfl : n = 49 := by omega
      have hl : (tblL kind 49).length = 49 := by simp [tblL]
      obtain ⟨a, c, rfl, _, _, _, hrd, _⟩ := RdS.of_own (HS2.out.own 0 rfl) tblL_len (by decide) hl.symm
      rw [hl]
      have HRd := Lib.hid hrd
      clear hrd hl
      go_wp2_with fail
      go_ret
      exact ⟨a, c, rfl, HRd.out, HS2.out.frm⟩

end Go.Proofs.Ythholboipbfklaa
