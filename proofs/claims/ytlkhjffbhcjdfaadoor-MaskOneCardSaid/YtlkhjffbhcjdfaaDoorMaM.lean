/-
  THE WALK of the document's example.
-/
import Derived.Test.YtlkhjffbhcjdfaaDoorMaL
import Derived.Test.YtlkhjffbhcjdfaaDoorMaH
set_option linter.unusedVariables false
set_option linter.unusedSimpArgs false
namespace Go.Proofs.YtlkhjffbhcjdfaaDoor
open Go.RowKit Go.Maps Go.Shelf
attribute [local go_sem] Oper.semAt_some

/-- The tables that the library's functions read. -/
def Tabs (w : World) : Prop := (TabAt 0 Lib.deBruijn64tab w ∧ 0 < w.heap.size) ∧ PowTab w
theorem Tabs.frm {w w' : World} (h : Tabs w) (hf : Frm [] w w') : Tabs w' :=
  ⟨⟨fun j hj => by rw [hf.cell h.1.2 (by simp)]; exact h.1.1 j hj, Nat.lt_of_lt_of_le h.1.2 hf.size⟩, h.2.below hf.below⟩
theorem RdV.of_blk {w : World} {b : Nat} {t : TypeId} {vs : List Value} (h : Blk w b t vs.toArray) : RdV w (some ⟨b, 0, none⟩) vs := fun i v hv => ⟨b, 0, rfl, h.lt, by
  rw [Nat.zero_add]
  exact h.cell i (by simpa using hv)⟩
theorem pre2 {α : Type} {a b x : α} {pre : List α} (h : (pre ++ [x]) <+: [a, b]) : (pre = [] ∧ x = a) ∨ (pre = [a] ∧ x = b) := by
  obtain ⟨t, ht⟩ := h
  match pre, ht with
  | [], ht => simp at ht; exact .inl ⟨rfl, ht.1⟩
  | [p], ht => simp at ht; exact .inr ⟨by rw [ht.1], ht.2.1⟩
  | p :: q :: s, ht => simp at ht

theorem exOfH : ofH [0, 2, 128, -1] = 11529215046068469760 := by decide +kernel
theorem exOfL : ofL [0, 2, 128, -1] = 0 := by decide +kernel
theorem exBits : bitsOf 11529215046068469760 0 = [0, 2] := by decide +kernel
theorem dig1 (u : Nat) (h : u < 10) : Lib.decDigits u = [UInt8.ofNat (48 + u)] := by rw [Lib.decDigits, dif_pos h]
theorem dig2 (u : Nat) (h : ¬ u < 10) (h2 : u / 10 < 10) : Lib.decDigits u = [UInt8.ofNat (48 + u / 10), UInt8.ofNat (48 + u % 10)] := by rw [Lib.decDigits, dif_neg h, dig1 _ h2]; rfl
theorem it1 (u : Nat) (h : u < 10) : Lib.itoa (u : Int) = [UInt8.ofNat (48 + u)] := by unfold Lib.itoa; rw [if_neg (by omega), Int.toNat_natCast, dig1 _ h]
theorem it2 (u : Nat) (h : ¬ u < 10) (h2 : u / 10 < 10) : Lib.itoa (u : Int) = [UInt8.ofNat (48 + u / 10), UInt8.ofNat (48 + u % 10)] := by unfold Lib.itoa; rw [if_neg (by omega), Int.toNat_natCast, dig2 _ h h2]
theorem exTx (a b : Nat) (ta tb : List UInt8) (ha : Lib.itoa (a : Int) = ta) (hb : Lib.itoa (b : Int) = tb) : txB [a, b] = ⟨(ta ++ ([44] ++ tb)).toArray⟩ := by
  unfold txB txL
  simp only [List.map_cons, List.map_nil, ha, hb]
  rw [Lib.join_cons]
  simp [Lib.joinTail]
theorem exTx1 : txB [0, 2] = ⟨#[48, 44, 50]⟩ := exTx 0 2 [48] [50] (it1 0 (by decide)) (it1 2 (by decide))
theorem exTx2 : txB [62, 64] = ⟨#[54, 50, 44, 54, 52]⟩ := exTx 62 64 [54, 50] [54, 52] (it2 62 (by decide) (by decide)) (it2 64 (by decide) (by decide))
theorem exTx3 : txB [2, 5] = ⟨#[50, 44, 53]⟩ := exTx 2 5 [50] [53] (it1 2 (by decide)) (it1 5 (by decide))
def exN (pre : List Nat) : Int := pre.foldl (fun (n : Int) (i : Nat) => n + (10 * n + i + 1)) 0

theorem exC0 (w X : World) (hT : Tabs w) (hf : Frm [] w X) : Calls Tryd.prog 27 #[.agg #[.int .u64 11529215046068469760, .int .u64 0]] X fun e w' => e = .returned (.string ⟨#[48, 44, 50]⟩) ∧ Frm [] X w' := by
  have h := text_c 11529215046068469760 0 X (by decide) (by decide) (hT.frm hf).2
  rw [exBits, exTx1] at h
  exact h

theorem exC1 (w X : World) (hT : Tabs w) (hf : Frm [] w X) : Calls Tryd.prog 30 #[.agg #[.int .u64 11529215046068469760, .int .u64 0], .int .i64 0, .int .i64 3] X fun e w' => e = .returned (.int .u64 5) ∧ Frm [] X w' := by
  have h := part_c 11529215046068469760 0 0 3 X (by decide) (by decide)
  rw [show ptN 11529215046068469760 0 0 3 = 5 from by decide +kernel] at h
  exact h

theorem exC2 (w X : World) (hT : Tabs w) (hf : Frm [] w X) : Calls Tryd.prog 12 #[.agg #[.int .u64 11529215046068469760, .int .u64 0], .int .i64 2] X fun e w' => e = .returned (.bool true) ∧ Frm [] X w' := by
  have h := has_c 11529215046068469760 0 2 X (by decide) (by decide) (by omega) (by omega)
  rw [show decide (11529215046068469760 &&& bH 2 ≠ 0 ∨ 0 &&& bL 2 ≠ 0) = true from by decide +kernel] at h
  exact h

theorem exC3 (w X : World) (hT : Tabs w) (hf : Frm [] w X) : Calls Tryd.prog 12 #[.agg #[.int .u64 11529215046068469760, .int .u64 0], .int .i64 1] X fun e w' => e = .returned (.bool false) ∧ Frm [] X w' := by
  have h := has_c 11529215046068469760 0 1 X (by decide) (by decide) (by omega) (by omega)
  rw [show decide (11529215046068469760 &&& bH 1 ≠ 0 ∨ 0 &&& bL 1 ≠ 0) = false from by decide +kernel] at h
  exact h

theorem exC4 (w X : World) (hT : Tabs w) (hf : Frm [] w X) : Calls Tryd.prog 17 #[.agg #[.int .u64 11529215046068469760, .int .u64 0]] X fun e w' => e = .returned (.int .i64 2) ∧ Frm [] X w' := by
  have h := count_c 11529215046068469760 0 X (by decide) (by decide)
  rw [show cnt 11529215046068469760 64 + cnt 0 64 = 2 from by decide +kernel] at h
  exact h

theorem exC5 (w X : World) (hT : Tabs w) (hf : Frm [] w X) : Calls Tryd.prog 18 #[.agg #[.int .u64 11529215046068469760, .int .u64 0]] X fun e w' => e = .returned (.int .i64 0) ∧ Frm [] X w' := by
  have h := first_c 11529215046068469760 0 X (by decide) (by decide)
  rw [fiN_eq (h := 11529215046068469760) (l := 0) (by decide) (by decide), exBits, show firstOf [0, 2] = 0 from rfl] at h
  exact h

theorem exC6 (w X : World) (hT : Tabs w) (hf : Frm [] w X) : Calls Tryd.prog 19 #[.agg #[.int .u64 11529215046068469760, .int .u64 0]] X fun e w' => e = .returned (.int .i64 2) ∧ Frm [] X w' := by
  have h := last_c 11529215046068469760 0 X (by decide) (by decide) (hT.frm hf).1.1 (hT.frm hf).1.2
  rw [laN_eq (h := 11529215046068469760) (l := 0) (by decide) (by decide), exBits, show lastOf [0, 2] = 2 from rfl] at h
  exact h

theorem exC7 (w X : World) (hT : Tabs w) (hf : Frm [] w X) : Calls Tryd.prog 22 #[.agg #[.int .u64 11529215046068469760, .int .u64 0], .int .i64 62] X fun e w' => e = .returned (.agg #[.int .u64 2, .int .u64 9223372036854775808]) ∧ Frm [] X w' := by
  have h := down_c 11529215046068469760 0 62 X (by decide) (by decide)
  rw [show dwH 11529215046068469760 0 62 = 2 from by decide +kernel, show dwL 11529215046068469760 0 62 = 9223372036854775808 from by decide +kernel] at h
  exact h

theorem exC8 (w X : World) (hT : Tabs w) (hf : Frm [] w X) : Calls Tryd.prog 27 #[.agg #[.int .u64 2, .int .u64 9223372036854775808]] X fun e w' => e = .returned (.string ⟨#[54, 50, 44, 54, 52]⟩) ∧ Frm [] X w' := by
  have h := text_c 2 9223372036854775808 X (by decide) (by decide) (hT.frm hf).2
  rw [show bitsOf 2 9223372036854775808 = [62, 64] from by decide +kernel, exTx2] at h
  exact h

theorem exC9 (w X : World) (hT : Tabs w) (hf : Frm [] w X) : Calls Tryd.prog 32 #[.int .i64 62, .int .i64 3, .int .u64 5] X fun e w' => e = .returned (.agg #[.int .u64 2, .int .u64 9223372036854775808]) ∧ Frm [] X w' := by
  have h := lay_c 62 3 5 X
  rw [show lyH 62 3 5 = 2 from by decide +kernel, show lyL 62 3 5 = 9223372036854775808 from by decide +kernel] at h
  exact h

theorem exC10 (w X : World) (hT : Tabs w) (hf : Frm [] w X) : Calls Tryd.prog 25 #[.int .i64 3] X fun e w' => e = .returned (.agg #[.int .u64 16140901064495857664, .int .u64 0]) ∧ Frm [] X w' := by
  have h := full_c 3 X
  rw [show fuH 3 = 16140901064495857664 from by decide +kernel, show fuL 3 = 0 from by decide +kernel] at h
  exact h

theorem exC11 (w X : World) (hT : Tabs w) (hf : Frm [] w X) : Calls Tryd.prog 17 #[.agg #[.int .u64 16140901064495857664, .int .u64 0]] X fun e w' => e = .returned (.int .i64 3) ∧ Frm [] X w' := by
  have h := count_c 16140901064495857664 0 X (by decide) (by decide)
  rw [show cnt 16140901064495857664 64 + cnt 0 64 = 3 from by decide +kernel] at h
  exact h

theorem exC12 (w X : World) (hT : Tabs w) (hf : Frm [] w X) : Calls Tryd.prog 26 #[.agg #[.int .u64 11529215046068469760, .int .u64 0], .int .i64 1] X fun e w' => e = .returned (.agg #[.int .u64 9223372036854775808, .int .u64 0]) ∧ Frm [] X w' := by
  have h := cut_c 11529215046068469760 0 1 X (by decide) (by decide)
  rw [show 11529215046068469760 &&& fuH 1 = 9223372036854775808 from by decide +kernel, show 0 &&& fuL 1 = 0 from by decide +kernel] at h
  exact h

theorem exC13 (w X : World) (hT : Tabs w) (hf : Frm [] w X) : Calls Tryd.prog 17 #[.agg #[.int .u64 9223372036854775808, .int .u64 0]] X fun e w' => e = .returned (.int .i64 1) ∧ Frm [] X w' := by
  have h := count_c 9223372036854775808 0 X (by decide) (by decide)
  rw [show cnt 9223372036854775808 64 + cnt 0 64 = 1 from by decide +kernel] at h
  exact h

theorem exC14 (w X : World) (hT : Tabs w) (hf : Frm [] w X) : Calls Tryd.prog 15 #[.agg #[.int .u64 11529215046068469760, .int .u64 0], .int .i64 5] X fun e w' => e = .returned (.agg #[.int .u64 11817445422220181504, .int .u64 0]) ∧ Frm [] X w' := by
  have h := with_c 11529215046068469760 0 5 X (by decide) (by decide) (by omega) (by omega)
  rw [show 11529215046068469760 ||| bH 5 = 11817445422220181504 from by decide +kernel, show 0 ||| bL 5 = 0 from by decide +kernel] at h
  exact h

theorem exC15 (w X : World) (hT : Tabs w) (hf : Frm [] w X) : Calls Tryd.prog 16 #[.agg #[.int .u64 11817445422220181504, .int .u64 0], .int .i64 0] X fun e w' => e = .returned (.agg #[.int .u64 2594073385365405696, .int .u64 0]) ∧ Frm [] X w' := by
  have h := without_c 11817445422220181504 0 0 X (by decide) (by decide) (by omega) (by omega)
  rw [show 11817445422220181504 &&& (18446744073709551615 - bH 0) = 2594073385365405696 from by decide +kernel, show 0 &&& (18446744073709551615 - bL 0) = 0 from by decide +kernel] at h
  exact h

theorem exC16 (w X : World) (hT : Tabs w) (hf : Frm [] w X) : Calls Tryd.prog 27 #[.agg #[.int .u64 2594073385365405696, .int .u64 0]] X fun e w' => e = .returned (.string ⟨#[50, 44, 53]⟩) ∧ Frm [] X w' := by
  have h := text_c 2594073385365405696 0 X (by decide) (by decide) (hT.frm hf).2
  rw [show bitsOf 2594073385365405696 0 = [2, 5] from by decide +kernel, exTx3] at h
  exact h

theorem exC17 (w X : World) (hT : Tabs w) (hf : Frm [] w X) : Calls Tryd.prog 36 #[.agg #[.int .u64 11529215046068469760, .int .u64 0], .agg #[.int .u64 11529215046068469760, .int .u64 0]] X fun e w' => e = .returned (.agg #[.int .u64 0, .int .u64 0]) ∧ Frm [] X w' := by
  have h := mxor_c 11529215046068469760 0 11529215046068469760 0 X (by decide) (by decide) (by decide) (by decide)
  rw [show 11529215046068469760 ^^^ 11529215046068469760 = 0 from by decide +kernel, show 0 ^^^ 0 = 0 from by decide +kernel] at h
  exact h

theorem exC18 (w X : World) (hT : Tabs w) (hf : Frm [] w X) : Calls Tryd.prog 17 #[.agg #[.int .u64 0, .int .u64 0]] X fun e w' => e = .returned (.int .i64 0) ∧ Frm [] X w' := by
  have h := count_c 0 0 X (by decide) (by decide)
  rw [show cnt 0 64 + cnt 0 64 = 0 from by decide +kernel] at h
  exact h

theorem exC19 (w X : World) (hT : Tabs w) (hf : Frm [] w X) : Calls Tryd.prog 35 #[.agg #[.int .u64 11529215046068469760, .int .u64 0], .agg #[.int .u64 18014398509481984, .int .u64 0]] X fun e w' => e = .returned (.agg #[.int .u64 11547229444577951744, .int .u64 0]) ∧ Frm [] X w' := by
  have h := mor_c 11529215046068469760 0 18014398509481984 0 X (by decide) (by decide) (by decide) (by decide)
  rw [show 11529215046068469760 ||| 18014398509481984 = 11547229444577951744 from by decide +kernel, show 0 ||| 0 = 0 from by decide +kernel] at h
  exact h

theorem exC20 (w X : World) (hT : Tabs w) (hf : Frm [] w X) : Calls Tryd.prog 25 #[.int .i64 5] X fun e w' => e = .returned (.agg #[.int .u64 17870283321406128128, .int .u64 0]) ∧ Frm [] X w' := by
  have h := full_c 5 X
  rw [show fuH 5 = 17870283321406128128 from by decide +kernel, show fuL 5 = 0 from by decide +kernel] at h
  exact h

theorem exC21 (w X : World) (hT : Tabs w) (hf : Frm [] w X) : Calls Tryd.prog 34 #[.agg #[.int .u64 11547229444577951744, .int .u64 0], .agg #[.int .u64 17870283321406128128, .int .u64 0]] X fun e w' => e = .returned (.agg #[.int .u64 11529215046068469760, .int .u64 0]) ∧ Frm [] X w' := by
  have h := mand_c 11547229444577951744 0 17870283321406128128 0 X (by decide) (by decide) (by decide) (by decide)
  rw [show 11547229444577951744 &&& 17870283321406128128 = 11529215046068469760 from by decide +kernel, show 0 &&& 0 = 0 from by decide +kernel] at h
  exact h

theorem exCL (w X : World) (hf : Frm [] w X) : Calls Tryd.prog 21 #[.agg #[.int .u64 11529215046068469760, .int .u64 0]] X fun e w' => ∃ a c, e = .returned (.slice a 2 c) ∧ Frm [] X w' := by
  have h := list_c 11529215046068469760 0 X (by decide) (by decide)
  rw [exBits] at h
  exact h.mono fun e w' ⟨a, c, he, hS⟩ => ⟨a, c, he, hS.frm⟩
theorem exCO (w Y : World) (hf : Frm [] w Y) : Calls Tryd.prog 29 #[.slice (some ⟨Y.heap.size, 0, none⟩) 1 1] (Y.alloc (.cells #[.int .i64 9] 3)) fun e w' => e = .returned (.agg #[.int .u64 18014398509481984, .int .u64 0]) ∧ Frm [] Y w' := by
  have h := of_c (some ⟨Y.heap.size, 0, none⟩) 1 [9] (Y.alloc (.cells #[.int .i64 9] 3)) (RdV.of_blk (vs := [.int .i64 9]) (Blk.made _ _ _)) (by decide) (by intro z hz; simp at hz; omega)
  rw [show ofH [9] = 18014398509481984 from by decide +kernel, show ofL [9] = 0 from by decide +kernel] at h
  exact h.mono fun e w' ⟨he, hf2⟩ => ⟨he, ((Frm.refl [] Y).alloc _).trans hf2⟩

end Go.Proofs.YtlkhjffbhcjdfaaDoor
