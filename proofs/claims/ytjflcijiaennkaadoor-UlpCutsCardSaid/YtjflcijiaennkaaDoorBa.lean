/-
  MANY SMALL TEXTS AS ONE: K, O, StP, WiP, Sep, Os, Row, Reg, Mks, App.
-/
import Derived.WalkKit
import Derived.Lib.Hide
import Derived.Laws.Rows
import Derived.Deep.Draws
import Derived.Test.YtjflcijiaennkaaDoorRows
import Derived.ProofKit
import Derived.OpenShut
import Derived.ShutString
import Derived.ChangeOld
import Derived.Below
import Derived.SizedLaws
import Derived.Maps.AppendAt
import Derived.Deep.Slices
import Derived.Deep.Fields
import Derived.ChangeSame
import Derived.Lib.AppendZerosOnto
import Derived.Laws.AppendOwn
import Derived.Laws.CopyOwn
import Derived.OwnWalk
import Derived.StillTailTactics
import Derived.Deep.QuietTactic
import Derived.BigQuiet
import Derived.Laws.AppendOwnNone
import Derived.Deep.Upon
set_option linter.unusedVariables false
set_option linter.unusedSimpArgs false
namespace Go.Proofs.YtjflcijiaennkaaDoor
/- Small laws of my own on blocks, frames and ends of walks; they speak of no program. -/
section
open Go.RowKit

/-- Block b is just the cells cs, of element type t, none of them frozen. -/
def Blk (w : World) (b : Nat) (t : TypeId) (cs : Array Value) : Prop := w.heap[b]? = some (.cells cs t (0, 0))

theorem Blk.lt {w : World} {b : Nat} {t : TypeId} {cs : Array Value} (h : Blk w b t cs) : b < w.heap.size := by
  unfold Blk at h
  exact (Array.getElem?_eq_some_iff.1 h).1
theorem Blk.cell {w : World} {b : Nat} {t : TypeId} {cs : Array Value} (h : Blk w b t cs) (i : Nat) {v : Value} (hv : cs[i]? = some v) : w.cell? ⟨b, i, none⟩ = some v := by
  unfold Blk at h
  simp [World.cell?, h, hv]
theorem Blk.free {w : World} {b : Nat} {t : TypeId} {cs : Array Value} (h : Blk w b t cs) (i : Nat) : w.frozen? ⟨b, i, none⟩ = false := by
  unfold Blk at h
  simp [World.frozen?, h]
theorem Blk.made (w : World) (t : TypeId) (cs : Array Value) : Blk (w.alloc (.cells cs t)) w.heap.size t cs := heap_alloc_new w _
theorem Blk.drew {w : World} {b : Nat} {t : TypeId} {cs : Array Value} (h : Blk w b t cs) : Blk w.drew b t cs := h
theorem Blk.drewN {w : World} {b : Nat} {t : TypeId} {cs : Array Value} (h : Blk w b t cs) (n : Nat) : Blk (w.drewN n) b t cs := h
theorem Blk.alloc {w : World} {b : Nat} {t : TypeId} {cs : Array Value} (h : Blk w b t cs) (o : Obj) : Blk (w.alloc o) b t cs := (Below.heap_alloc w o b h.lt).trans h
theorem Blk.put {w : World} {b : Nat} {t : TypeId} {cs : Array Value} (h : Blk w b t cs) (i : Nat) (u : Value) : Blk (w.setCell ⟨b, i, none⟩ u) b t (cs.setIfInBounds i u) := by
  unfold Blk at *
  simp [World.setCell, Array.getElem?_modify, h]
theorem Blk.away {w : World} {b : Nat} {t : TypeId} {cs : Array Value} (h : Blk w b t cs) {p : Addr} (hp : b ≠ p.block) (u : Value) : Blk (w.setCell p u) b t cs := (Below.heap_setCell w p u b hp).trans h
theorem Blk.below {w w' : World} {b B : Nat} {t : TypeId} {cs : Array Value} (h : Blk w b t cs) (hb : Below B w w') (hB : b < B) : Blk w' b t cs := (hb.block b hB).trans h
theorem Blk.grown {w w' : World} {b : Nat} {t : TypeId} {cs : Array Value} {row : Option Nat} (h : Blk w b t cs) (hg : w.grownBy w' row) (hne : some b ≠ row) : Blk w' b t cs := (hg.block b h.lt hne).trans h

/-- A store into block b: nothing else turns. -/
theorem grown_refl (w : World) (row : Option Nat) : w.grownBy w row := ⟨rfl, rfl, rfl, Nat.le_refl _, fun _ _ _ => rfl⟩
theorem grown_drew {a w : World} {row : Option Nat} (h : a.grownBy w row) : a.grownBy w.drew row := ⟨h.os, h.tape, h.output, h.size, h.block⟩
theorem grown_drewN {a w : World} {row : Option Nat} (h : a.grownBy w row) (n : Nat) : a.grownBy (w.drewN n) row := ⟨h.os, h.tape, h.output, h.size, h.block⟩
theorem grown_put {a w : World} {b : Nat} (h : a.grownBy w (some b)) (i : Nat) (u : Value) : a.grownBy (w.setCell ⟨b, i, none⟩ u) (some b) :=
  ⟨h.os, h.tape, h.output, by simpa [World.setCell] using h.size, fun k hk hne => (Below.heap_setCell w _ u k (fun e => hne (by rw [e]))).trans (h.block k hk hne)⟩
theorem grown_alloc {a w : World} {row : Option Nat} (h : a.grownBy w row) (o : Obj) : a.grownBy (w.alloc o) row :=
  ⟨h.os, h.tape, h.output, by have := h.size; simp; omega, fun k hk hne => (Below.heap_alloc w o k (Nat.lt_of_lt_of_le hk h.size)).trans (h.block k hk hne)⟩
theorem grown_put_new {a w : World} {row : Option Nat} (h : a.grownBy w row) {p : Addr} (hp : a.heap.size ≤ p.block) (u : Value) : a.grownBy (w.setCell p u) row :=
  ⟨h.os, h.tape, h.output, by simpa [World.setCell] using h.size, fun k hk hne => (Below.heap_setCell w p u k (by omega)).trans (h.block k hk hne)⟩
theorem grown_trans {a b c : World} {row : Option Nat} (h : a.grownBy b row) (k : b.grownBy c row) : a.grownBy c row :=
  ⟨k.os.trans h.os, k.tape.trans h.tape, k.output.trans h.output, Nat.le_trans h.size k.size, fun i hi hne => (k.block i (Nat.lt_of_lt_of_le hi h.size) hne).trans (h.block i hi hne)⟩
/-- What changed only in new memory and in one block, seen from an elder world. -/
theorem grown_of_new {a b c : World} {row : Option Nat} (h : a.grownBy b row) {r : Nat} (hr : a.heap.size ≤ r) (k : b.grownBy c (some r)) : a.grownBy c row :=
  ⟨k.os.trans h.os, k.tape.trans h.tape, k.output.trans h.output, Nat.le_trans h.size k.size,
    fun i hi hne => (k.block i (Nat.lt_of_lt_of_le hi h.size) (fun e => by injection e with e; omega)).trans (h.block i hi hne)⟩
theorem grown_of_below {a b : World} (h : Below a.heap.size a b) (row : Option Nat) : a.grownBy b row :=
  ⟨h.os, h.tape, h.output, h.size, fun k hk _ => h.block k hk⟩
theorem below_of_grown {a b : World} (h : a.grownBy b none) : Below a.heap.size a b :=
  ⟨h.os, h.tape, h.output, h.size, fun k hk => h.block k hk (by simp)⟩

theorem same_of {P : Program} {f : FuncId} {args : Array Value} {w : World} {v : Value} (h : Calls P f args w fun e w' => e = .returned v ∧ w = w') : Calls P f args w fun e w' => e = .returned v ∧ w' = w :=
  h.mono fun _ _ ⟨he, hw⟩ => ⟨he, hw.symm⟩

theorem ret_int {k : IntKind} {a b : Int} (h : a = b) : Ending.returned (.int k a) = .returned (.int k b) := by rw [h]
theorem ret_bool {a b : Bool} (h : a = b) : Ending.returned (.bool a) = .returned (.bool b) := by rw [h]

/-- The slice at a reads as the integers zs (of kind k). Nothing is said of an empty slice's address. -/
def RdI (k : IntKind) (w : World) (a : Option Addr) (zs : List Int) : Prop :=
  ∀ i x, zs[i]? = some x → ∃ b off, a = some ⟨b, off, none⟩ ∧ b < w.heap.size ∧ w.cell? ⟨b, off + i, none⟩ = some (.int k x)

theorem RdI.nil (k : IntKind) (w : World) (a : Option Addr) : RdI k w a [] := fun i x h => by simp at h
theorem RdI.below {k : IntKind} {w w' : World} {a : Option Addr} {zs : List Int} (h : RdI k w a zs) (hb : Below w.heap.size w w') : RdI k w' a zs := fun i x hx => by
  obtain ⟨b, off, ha, hl, hc⟩ := h i x hx
  exact ⟨b, off, ha, Nat.lt_of_lt_of_le hl hb.size, (hb.cell (p := ⟨b, off + i, none⟩) hl).trans hc⟩
theorem RdI.drew {k : IntKind} {w : World} {a : Option Addr} {zs : List Int} (h : RdI k w a zs) : RdI k w.drew a zs := h
theorem RdI.alloc {k : IntKind} {w : World} {a : Option Addr} {zs : List Int} (h : RdI k w a zs) (o : Obj) : RdI k (w.alloc o) a zs := h.below ((Below.refl _ _).alloc (Nat.le_refl _) o)
theorem RdI.at_ {k : IntKind} {w : World} {a : Option Addr} {zs : List Int} (h : RdI k w a zs) (i : Nat) (hi : i < zs.length) : ∃ b off x, zs[i]? = some x ∧ a = some ⟨b, off, none⟩ ∧ b < w.heap.size ∧ w.cell? ⟨b, off + i, none⟩ = some (.int k x) := by
  obtain ⟨b, off, ha, hl, hc⟩ := h i zs[i] (List.getElem?_eq_getElem hi)
  exact ⟨b, off, _, List.getElem?_eq_getElem hi, ha, hl, hc⟩
theorem RdI.of_own {w : World} {base e : Nat} {v : Value} {n : Nat} {k : IntKind} {zs : List Int} (h : w.ownsRow base e 1 v n (zs.map (Value.int k))) : ∃ a cap, v = .slice a zs.length cap ∧ zs.length ≤ cap ∧ RdI k w a zs := by
  have hn : n = zs.length := by have := h.1; simpa using this.symm
  subst hn
  rcases h.2 with ⟨rfl, h0⟩ | ⟨g, cap, cur, rfl, hb, hh, hc, _⟩
  · have : zs = [] := by simpa using h0
    subst this
    exact ⟨none, 0, rfl, Nat.le_refl _, RdI.nil _ _ _⟩
  · refine ⟨_, cap, rfl, hc, fun i x hx => ⟨g, 0, rfl, (Array.getElem?_eq_some_iff.1 hh).1, ?_⟩⟩
    have := h.cells (g := g) rfl i (.int k x) (by simp [hx])
    have hadd : (⟨g, 0, none⟩ : Addr).add i = ⟨g, 0 + i, none⟩ := by unfold Addr.add; split <;> simp_all
    rw [hadd] at this
    exact this
/-- 'append(s, x)' of one element, s the call's own. -/
theorem wpList_append_one {P : Program} {w : World} {ops : Array Oper} {rest : List Oper} {o : Oper} {a : Act} {Q : Exit → Act → World → Prop} (hgd : o.guard = none) (s x : Operand) (t : TypeId)
    (ho : o.op = .call { callee := .builtin .append, args := #[s, x], argTypes := #[t, t] })
    (base : Nat) (e : TypeId) (i : TypeInfo) (z : Value) (bytes : Nat) (ht : P.underlying t = some (.slice e)) (hi : P.info? e = some i) (hz : i.zero = some z)
    (hsize : i.size = 1) (hby : i.bytes = bytes) (hzs : z.cells.size = 1)
    (v : Value) (n : Nat) (xs : List Value) (hs : a.eval s = v) (hown : w.ownsRow base e 1 v n xs)
    (g c : Nat) (u : Value) (hx : a.eval x = .slice (some ⟨g, 0, none⟩) 1 c) (hu : w.cell? ⟨g, 0, none⟩ = some u) (h1 : u.oneCell' = true)
    (h63 : n + 1 ≤ maxLen) (hbytes : (n + 1) * bytes ≤ 140737488355328) (hbase : base ≤ w.heap.size)
    (h : ∀ v' w', w'.ownsRow base e 1 v' (n + 1) (xs ++ [u]) → w.grownBy w' v.ownBlock → wpList P ops Q rest (a.put o.dst v') w') : wpList P ops Q (o :: rest) a w :=
  wpList_append_own w hgd s x t ho base e i z 1 bytes ht hi hz hsize hby hzs (by decide) v n xs hs hown ⟨g, 0, none⟩ 1 c [u] hx rfl
    (fun j y hj => by
      match j, hj with
      | 0, hj => simp at hj; subst hj; simpa [Addr.add] using hu)
    (fun y hy => by simp at hy; subst hy; exact h1) h63 hbytes hbase (fun v' w' h2 h3 _ => h v' w' h2 h3)

/-- A row of the call's own and a block that lies below its base. -/
theorem own_ne_low {w : World} {base e size : Nat} {v : Value} {n : Nat} {xs : List Value} (h : w.ownsRow base e size v n xs) {b : Nat} (hb : b < base) : some b ≠ v.ownBlock := fun he => by
  have := h.lt b he.symm
  omega
end

/- ARGUMENTS OPENED: what a law's argument reads as, in the words of this claim's walks. -/
section
open Go.ChangeShapes Go.WideShapes Go.ChangeAt Go.RowKit

section
variable {H : Type} {enc : TypeId × Value → H} {P : Program} {W : World} {base : Nat}

/-- A slice of integers. -/
theorem sl_open {t e : TypeId} {k : IntKind} {v : Value} {d : DataW H} {p : List MemPlace} (ht : P.underlying t = some (.slice e)) (he : P.underlying e = some (.int k)) (hc : P.cellsOf e = 1)
    (hv : Value.okWide P W .any base t v) (h : DataW.Trod enc P W 0 (fun _ => true) true t v d p) :
    ∃ (a : Option Addr) (cap : Nat) (zs : List Int), v = .slice a zs.length cap ∧ zs.length ≤ cap ∧ cap ≤ maxLen ∧ RdI k W a zs ∧ ∀ x ∈ zs, (Lit.int k x).wf = true := by
  obtain ⟨a, len, cap, rfl⟩ := okWide_slice ht hv
  obtain ⟨fuel, hf⟩ := h
  rcases open_ints ht he hc hf with ⟨hcs, _⟩ | ⟨x, l, c, zs, hcs, _, hl, hm, hz, _, hcell, hwz⟩
  · simp [Value.cells] at hcs
    obtain ⟨rfl, rfl, rfl⟩ := hcs
    exact ⟨none, 0, [], rfl, Nat.le_refl _, Nat.zero_le _, RdI.nil _ _ _, by simp⟩
  · simp [Value.cells] at hcs
    obtain ⟨rfl, rfl, rfl⟩ := hcs
    have hz' : zs.length = cap := by simpa using hz
    have hlen : (zs.take len).length = len := by rw [List.length_take]; omega
    refine ⟨some x, cap, zs.take len, by rw [hlen], by rw [hlen]; exact hl, hm, fun i y hy => ?_, fun y hy => hwz y (List.mem_of_mem_take hy)⟩
    have hi : i < len := by
      have := (List.getElem?_eq_some_iff.1 hy).1
      omega
    have hi' : i < zs.length := by omega
    rw [List.getElem?_take_of_lt hi] at hy
    have hcl := hcell i hi'
    have hyv : zs.getD i 0 = y := by rw [List.getD_eq_getElem?_getD, hy]; rfl
    rw [hyv] at hcl
    obtain ⟨b, off, spot⟩ := x
    have hs : spot = none := by simpa [Addr.add] using World.cell?_spot (hcell 0 (by omega))
    subst hs
    have hcl' : W.cell? ⟨b, off + i, none⟩ = some (.int k y) := by
      by_cases h0 : i = 0
      · subst h0; simpa [Addr.add] using hcl
      · simpa [Addr.add, h0] using hcl
    exact ⟨b, off, rfl, World.block_lt_of_cell? W _ hcl', hcl'⟩
end
end

/- Plain: bytes held against each other. -/
section
open Go.RowKit

/-- Two bytes held against each other. -/
def bx (a b : Int) : Int := ((a.toNat ^^^ b.toNat : Nat) : Int)
theorem bx_lt {a b : Int} (a0 : 0 ≤ a) (a1 : a ≤ 255) (b0 : 0 ≤ b) (b1 : b ≤ 255) : 0 ≤ bx a b ∧ bx a b ≤ 255 := by
  unfold bx
  have : a.toNat ^^^ b.toNat < 2 ^ 8 := Nat.xor_lt_two_pow (by omega) (by omega)
  omega
theorem bx_comm (a b : Int) : bx a b = bx b a := by unfold bx; rw [Nat.xor_comm]
theorem bx_assoc (a b c : Int) : bx (bx a b) c = bx a (bx b c) := by unfold bx; simp [Nat.xor_assoc]
theorem bx_self (a : Int) : bx a a = 0 := by unfold bx; simp
theorem bx_zero {a : Int} (h : 0 ≤ a) : bx a 0 = a := by unfold bx; simp; omega
theorem zero_bx {a : Int} (h : 0 ≤ a) : bx 0 a = a := by rw [bx_comm]; exact bx_zero h
theorem bx_eq_zero {a b : Int} (a0 : 0 ≤ a) (b0 : 0 ≤ b) : bx a b = 0 ↔ a = b := by
  constructor
  · intro h
    have h2 : bx (bx a b) b = b := by rw [h, zero_bx b0]
    rw [bx_assoc, bx_self, bx_zero a0] at h2
    exact h2
  · rintro rfl; exact bx_self a
theorem bits_xor_u8 {a b : Int} (a0 : 0 ≤ a) (a1 : a ≤ 255) (b0 : 0 ≤ b) (b1 : b ≤ 255) : bits .xor .u8 a b = bx a b := by
  have h : bits .xor .u8 a b = IntKind.u8.wrap ((BitVec.ofInt 8 a ^^^ BitVec.ofInt 8 b).toNat : Int) := rfl
  have hb := bx_lt a0 a1 b0 b1
  have e : ((BitVec.ofInt 8 a ^^^ BitVec.ofInt 8 b).toNat : Int) = bx a b := by
    unfold bx
    rw [BitVec.toNat_xor, BitVec.toNat_ofInt, BitVec.toNat_ofInt]
    have e1 : (a % ((2 ^ 8 : Nat) : Int)).toNat = a.toNat := by omega
    have e2 : (b % ((2 ^ 8 : Nat) : Int)).toNat = b.toNat := by omega
    rw [e1, e2]
  rw [h, e]
  simp only [IntKind.wrap, IntKind.bits, IntKind.signed]
  simp
  omega

/-- A row of bytes. -/
def Byt (l : List Int) : Prop := ∀ x ∈ l, 0 ≤ x ∧ x ≤ 255
theorem Byt.get {l : List Int} (h : Byt l) (i : Nat) : 0 ≤ l.getD i 0 ∧ l.getD i 0 ≤ 255 := by
  rw [List.getD_eq_getElem?_getD]
  cases hi : l[i]? with
  | none => simp
  | some x => exact h x (List.mem_of_getElem? hi)
theorem Byt.nil : Byt [] := fun x h => by simp at h
theorem Byt.of_get {l : List Int} (h : ∀ i, i < l.length → 0 ≤ l.getD i 0 ∧ l.getD i 0 ≤ 255) : Byt l := fun x hx => by
  obtain ⟨i, hi, rfl⟩ := List.mem_iff_getElem.1 hx
  have := h i hi
  rwa [List.getD_eq_getElem?_getD, List.getElem?_eq_getElem hi] at this

/-- Two rows held against each other. -/
def xo : List Int → List Int → List Int
  | [], ys => ys
  | x :: xs, [] => x :: xs
  | x :: xs, y :: ys => bx x y :: xo xs ys
theorem xo_nil (xs : List Int) : xo xs [] = xs := by cases xs <;> rfl
theorem xo_length : ∀ (xs ys : List Int), (xo xs ys).length = max xs.length ys.length
  | [], ys => by simp [xo]
  | x :: xs, [] => by simp [xo]
  | x :: xs, y :: ys => by simp only [xo, List.length_cons, xo_length xs ys]; omega
theorem xo_get : ∀ {xs ys : List Int} (hx : Byt xs) (hy : Byt ys) (i : Nat), (xo xs ys).getD i 0 = bx (xs.getD i 0) (ys.getD i 0)
  | [], ys, hx, hy, i => by simp only [xo]; rw [show ([] : List Int).getD i 0 = 0 from by simp, zero_bx (hy.get i).1]
  | x :: xs, [], hx, hy, i => by simp only [xo]; rw [show ([] : List Int).getD i 0 = 0 from by simp, bx_zero (hx.get i).1]
  | x :: xs, y :: ys, hx, hy, i => by
    cases i with
    | zero => simp [xo]
    | succ i =>
      simp only [xo, List.getD_cons_succ]
      exact xo_get (fun z hz => hx z (List.mem_cons_of_mem _ hz)) (fun z hz => hy z (List.mem_cons_of_mem _ hz)) i
theorem xo_byt {xs ys : List Int} (hx : Byt xs) (hy : Byt ys) : Byt (xo xs ys) := Byt.of_get fun i _ => by
  rw [xo_get hx hy]
  exact bx_lt (hx.get i).1 (hx.get i).2 (hy.get i).1 (hy.get i).2
theorem rows_ext {xs ys : List Int} (hl : xs.length = ys.length) (h : ∀ i, i < xs.length → xs.getD i 0 = ys.getD i 0) : xs = ys := by
  apply List.ext_getElem hl
  intro i h1 h2
  have := h i h1
  rwa [List.getD_eq_getElem?_getD, List.getD_eq_getElem?_getD, List.getElem?_eq_getElem h1, List.getElem?_eq_getElem h2] at this
theorem getD_out {xs : List Int} {i : Nat} (h : xs.length ≤ i) : xs.getD i 0 = 0 := by
  rw [List.getD_eq_getElem?_getD, List.getElem?_eq_none h]; rfl
theorem getD_take (xs : List Int) (k i : Nat) : (xs.take k).getD i 0 = if i < k then xs.getD i 0 else 0 := by
  rw [List.getD_eq_getElem?_getD, List.getElem?_take]
  split <;> simp [List.getD_eq_getElem?_getD]
theorem getD_pad (xs : List Int) (n i : Nat) : (xs ++ List.replicate n 0).getD i 0 = xs.getD i 0 := by
  by_cases h : i < xs.length
  · rw [List.getD_eq_getElem?_getD, List.getElem?_append_left h, ← List.getD_eq_getElem?_getD]
  · rw [getD_out (xs := xs) (by omega), List.getD_eq_getElem?_getD, List.getElem?_append_right (by omega), List.getElem?_replicate]
    split <;> rfl
theorem Byt.take {xs : List Int} (h : Byt xs) (k : Nat) : Byt (xs.take k) := fun x hx => h x (List.mem_of_mem_take hx)
theorem Byt.drop {xs : List Int} (h : Byt xs) (k : Nat) : Byt (xs.drop k) := fun x hx => h x (List.mem_of_mem_drop hx)
theorem Byt.pad {xs : List Int} (h : Byt xs) (n : Nat) : Byt (xs ++ List.replicate n 0) := fun x hx => by
  rcases List.mem_append.1 hx with h1 | h1
  · exact h x h1
  · rw [(List.mem_replicate.1 h1).2]; omega
theorem xo_pad {xs ys : List Int} (hx : Byt xs) (hy : Byt ys) (n : Nat) (hn : xs.length + n = max xs.length ys.length) : xo (xs ++ List.replicate n 0) ys = xo xs ys := by
  refine rows_ext (by rw [xo_length, xo_length, List.length_append, List.length_replicate]; omega) fun i _ => ?_
  rw [xo_get (hx.pad n) hy, xo_get hx hy, getD_pad]
theorem xo_at {xs ys : List Int} (hx : Byt xs) (hy : Byt ys) (k : Nat) : (xo xs (ys.take k)).getD k 0 = xs.getD k 0 := by
  rw [xo_get hx (hy.take k), getD_take, if_neg (by omega), bx_zero (hx.get k).1]
theorem getD_set {xs : List Int} {k : Nat} (hk : k < xs.length) (u : Int) (i : Nat) : (xs.set k u).getD i 0 = if k = i then u else xs.getD i 0 := by
  rw [List.getD_eq_getElem?_getD, List.getElem?_set]
  by_cases h : k = i
  · subst h; rw [if_pos rfl, if_pos hk, if_pos rfl]; rfl
  · rw [if_neg h, if_neg h, List.getD_eq_getElem?_getD]
theorem xo_step {xs ys : List Int} (hx : Byt xs) (hy : Byt ys) (k : Nat) (hk : k < ys.length) (hl : ys.length ≤ xs.length) : xo xs (ys.take (k + 1)) = (xo xs (ys.take k)).set k (bx (xs.getD k 0) (ys.getD k 0)) := by
  refine rows_ext (by rw [List.length_set, xo_length, xo_length, List.length_take, List.length_take]; omega) fun i hi => ?_
  rw [getD_set (by rw [xo_length]; omega), xo_get hx (hy.take (k + 1)), getD_take]
  by_cases h : k = i
  · subst h
    rw [if_pos (by omega), if_pos rfl]
  · rw [if_neg h, xo_get hx (hy.take k), getD_take]
    by_cases h2 : i < k
    · rw [if_pos (by omega), if_pos h2]
    · rw [if_neg (by omega), if_neg h2]
theorem xo_comm {xs ys : List Int} (hx : Byt xs) (hy : Byt ys) : xo xs ys = xo ys xs := rows_ext (by rw [xo_length, xo_length]; omega) fun i _ => by
  rw [xo_get hx hy, xo_get hy hx, bx_comm]
theorem xo_assoc {xs ys zs : List Int} (hx : Byt xs) (hy : Byt ys) (hz : Byt zs) : xo (xo xs ys) zs = xo xs (xo ys zs) := rows_ext (by simp only [xo_length]; omega) fun i _ => by
  rw [xo_get (xo_byt hx hy) hz, xo_get hx hy, xo_get hx (xo_byt hy hz), xo_get hy hz, bx_assoc]
/-- All rows held against each other. -/
def xoAll (rows : List (List Int)) : List Int := rows.foldl xo []
theorem xoAll_snoc (rows : List (List Int)) (r : List Int) : xoAll (rows ++ [r]) = xo (xoAll rows) r := by simp [xoAll]
theorem foldl_byt {rows : List (List Int)} (h : ∀ r ∈ rows, Byt r) : ∀ {a : List Int}, Byt a → Byt (rows.foldl xo a) := by
  induction rows with
  | nil => intro a ha; exact ha
  | cons r rows ih => intro a ha; exact ih (fun s hs => h s (List.mem_cons_of_mem _ hs)) (xo_byt ha (h r (List.mem_cons_self ..)))
theorem xoAll_byt {rows : List (List Int)} (h : ∀ r ∈ rows, Byt r) : Byt (xoAll rows) := foldl_byt h Byt.nil
theorem foldl_xo {rows : List (List Int)} (h : ∀ r ∈ rows, Byt r) : ∀ {a : List Int}, Byt a → rows.foldl xo a = xo a (xoAll rows) := by
  induction rows with
  | nil => intro a ha; exact (xo_nil a).symm
  | cons r rows ih =>
    intro a ha
    have hr := h r (List.mem_cons_self ..)
    have ht := fun s hs => h s (List.mem_cons_of_mem _ hs)
    show rows.foldl xo (xo a r) = xo a (rows.foldl xo r)
    rw [ih ht (xo_byt ha hr), ih ht hr, xo_assoc ha hr (xoAll_byt ht)]
theorem xoAll_cons {r : List Int} {rows : List (List Int)} (hr : Byt r) (h : ∀ r ∈ rows, Byt r) : xoAll (r :: rows) = xo r (xoAll rows) := foldl_xo h hr
theorem xoAll_append {r1 r2 : List (List Int)} (h1 : ∀ r ∈ r1, Byt r) (h2 : ∀ r ∈ r2, Byt r) : xoAll (r1 ++ r2) = xo (xoAll r1) (xoAll r2) := by
  unfold xoAll
  rw [List.foldl_append]
  exact foldl_xo h2 (foldl_byt h1 Byt.nil)
theorem xoAll_perm {r1 r2 : List (List Int)} (hp : r1.Perm r2) (h1 : ∀ r ∈ r1, Byt r) : xoAll r1 = xoAll r2 := by
  induction hp with
  | nil => rfl
  | cons x hp ih =>
    have h2 := fun s hs => h1 s (List.mem_cons_of_mem _ hs)
    rw [xoAll_cons (h1 _ (List.mem_cons_self ..)) h2, xoAll_cons (h1 _ (List.mem_cons_self ..)) (fun s hs => h2 s (hp.mem_iff.2 hs)), ih h2]
  | swap x y l =>
    have hl := fun s hs => h1 s (List.mem_cons_of_mem _ (List.mem_cons_of_mem _ hs))
    have hx := h1 x (List.mem_cons_of_mem _ (List.mem_cons_self ..))
    have hy := h1 y (List.mem_cons_self ..)
    rw [xoAll_cons hy (fun s hs => h1 s (List.mem_cons_of_mem _ hs)), xoAll_cons hx hl, xoAll_cons hx (fun s hs => by rcases List.mem_cons.1 hs with rfl | hs; exact hy; exact hl s hs), xoAll_cons hy hl, ← xo_assoc hy hx (xoAll_byt hl), ← xo_assoc hx hy (xoAll_byt hl), xo_comm hy hx]
  | trans p q ih1 ih2 => rw [ih1 h1, ih2 (fun s hs => h1 s (p.mem_iff.2 hs))]
end

/- READING STEP BY STEP, IN PLAIN LEAN: numbers of bytes, what a row of steps reads of bytes. No program is named here. -/
section
open Go.RowKit

/-- The number of bytes, the first one the highest. -/
def bigN (zs : List Int) : Int := zs.foldl (fun a z => a * 256 + z) 0
theorem bigN_snoc (zs : List Int) (z : Int) : bigN (zs ++ [z]) = bigN zs * 256 + z := by simp [bigN]
theorem bigN_nil : bigN [] = 0 := rfl
theorem wsnoc_ind {α : Type} {p : List α → Prop} (h0 : p []) (h1 : ∀ l x, p l → p (l ++ [x])) (l : List α) : p l := by
  rw [← List.reverse_reverse l]
  induction l.reverse with
  | nil => exact h0
  | cons x r ih => rw [List.reverse_cons]; exact h1 _ _ ih
theorem bigN_lt {zs : List Int} (h : Byt zs) : 0 ≤ bigN zs ∧ bigN zs < 256 ^ zs.length := by
  revert h
  refine wsnoc_ind (p := fun zs => Byt zs → 0 ≤ bigN zs ∧ bigN zs < 256 ^ zs.length) (fun _ => by simp [bigN]) ?_ zs
  intro l x ih h
  have h1 := ih fun y hy => h y (by simp [hy])
  have h2 := h x (by simp)
  rw [bigN_snoc, List.length_append, List.length_singleton, Int.pow_succ]
  omega

/-- A step: its kind, its number. -/
structure Stp where
  k : Int
  n : Int
/-- What a step reads: a number, bytes. -/
structure Gt where
  N : Int
  B : List Int
def numK (k : Int) : Bool := decide (k = 1 ∨ k = 2 ∨ k = 4 ∨ k = 8)
/-- The bytes from a place on, so many. -/
def cut (zs : List Int) (at_ m : Nat) : List Int := (zs.drop at_).take m
theorem cut_len {zs : List Int} {at_ m : Nat} (h : at_ + m ≤ zs.length) : (cut zs at_ m).length = m := by simp [cut]; omega
theorem Byt.cut {zs : List Int} (h : Byt zs) (i m : Nat) : Byt (cut zs i m) := (h.drop i).take m
/-- What one step reads, and the place behind it; or the error. -/
def oneL (zs : List Int) (at_ : Nat) (s : Stp) : Except Int (Gt × Nat) :=
  if numK s.k = true then (if zs.length < at_ + s.k.toNat then .error 20 else .ok (⟨bigN (cut zs at_ s.k.toNat), []⟩, at_ + s.k.toNat))
  else if s.k = 0 then (if zs.length < at_ + s.n.toNat then .error 20 else .ok (⟨0, cut zs at_ s.n.toNat⟩, at_ + s.n.toNat))
  else if s.k = -1 then .ok (⟨0, zs.drop at_⟩, zs.length)
  else if s.k = -2 then .error (if s.n = 0 then 21 else s.n)
  else .ok (⟨((zs.length - at_ : Nat) : Int), []⟩, at_)
def stpL (zs : List Int) (r : Except Int (List Gt × Nat)) (s : Stp) : Except Int (List Gt × Nat) :=
  match r with
  | .error e => .error e
  | .ok (out, at_) => match oneL zs at_ s with
    | .error e => .error e
    | .ok (g, n) => .ok (out ++ [g], n)
/-- What steps read, one after the other. -/
def runL (zs : List Int) (ss : List Stp) : Except Int (List Gt × Nat) := ss.foldl (stpL zs) (.ok ([], 0))
theorem runL_snoc (zs : List Int) (ss : List Stp) (s : Stp) : runL zs (ss ++ [s]) = stpL zs (runL zs ss) s := by simp [runL]
theorem runL_take (zs : List Int) (ss : List Stp) (n : Nat) (h : n < ss.length) : runL zs (ss.take (n + 1)) = stpL zs (runL zs (ss.take n)) ss[n] := by
  rw [← runL_snoc, List.take_add_one, List.getElem?_eq_getElem h]; rfl
theorem foldl_error (zs : List Int) (ss : List Stp) (e : Int) : ss.foldl (stpL zs) (.error e) = .error e := by
  induction ss with
  | nil => rfl
  | cons s ss ih => exact ih
theorem runL_error {zs : List Int} {ss : List Stp} {n : Nat} {e : Int} (h : runL zs (ss.take n) = .error e) : runL zs ss = .error e := by
  have h1 : runL zs ss = (ss.drop n).foldl (stpL zs) (runL zs (ss.take n)) := by
    unfold runL
    rw [← List.foldl_append, List.take_append_drop]
  rw [h1, h, foldl_error]
theorem oneL_le {zs : List Int} {at_ : Nat} {s : Stp} {g : Gt} {n : Nat} (h : oneL zs at_ s = .ok (g, n)) (ha : at_ ≤ zs.length) : at_ ≤ n ∧ n ≤ zs.length := by
  unfold oneL at h
  split at h
  · split at h
    · cases h
    · injection h with h; injection h with h1 h2; omega
  · split at h
    · split at h
      · cases h
      · injection h with h; injection h with h1 h2; omega
    · split at h
      · injection h with h; injection h with h1 h2; omega
      · split at h
        · cases h
        · injection h with h; injection h with h1 h2; omega
theorem runL_le {zs : List Int} (ss : List Stp) : ∀ {out : List Gt} {n : Nat}, runL zs ss = .ok (out, n) → n ≤ zs.length ∧ out.length = ss.length := by
  refine wsnoc_ind (p := fun ss => ∀ {out : List Gt} {n : Nat}, runL zs ss = .ok (out, n) → n ≤ zs.length ∧ out.length = ss.length) ?_ ?_ ss
  · intro out n h
    unfold runL at h
    injection h with h; injection h with h1 h2
    subst h1 h2
    simp
  · intro l s ih out n h
    rw [runL_snoc] at h
    unfold stpL at h
    split at h
    · cases h
    · rename_i o a hr
      obtain ⟨h1, h2⟩ := ih hr
      split at h
      · cases h
      · rename_i g m hg
        injection h with h; injection h with h3 h4
        subst h3 h4
        exact ⟨(oneL_le hg h1).2, by simp [h2]⟩
/-- All bytes. -/
def wholeL (zs : List Int) (ss : List Stp) : Except Int (List Gt) :=
  match runL zs ss with
  | .error e => .error e
  | .ok (out, n) => if n < zs.length then .error 22 else .ok out
end

/- THE CALL's OWN MEMORY AS A LIST OF THINGS THAT LIE APART: what each call and each store does to it is said of one thing at a time. No program is named here. -/
section
open Go.RowKit

/-- w' is w with new blocks, and with other contents in the blocks of S alone. -/
structure Frm (S : List Nat) (w w' : World) : Prop where
  os : w'.os = w.os
  tape : w'.tape = w.tape
  output : w'.output = w.output
  size : w.heap.size ≤ w'.heap.size
  block : ∀ k, k < w.heap.size → k ∉ S → w'.heap[k]? = w.heap[k]?

theorem Frm.refl (S : List Nat) (w : World) : Frm S w w := ⟨rfl, rfl, rfl, Nat.le_refl _, fun _ _ _ => rfl⟩
theorem Frm.trans {S : List Nat} {a b c : World} (h : Frm S a b) (k : Frm S b c) : Frm S a c :=
  ⟨k.os.trans h.os, k.tape.trans h.tape, k.output.trans h.output, Nat.le_trans h.size k.size, fun i hi hs => (k.block i (Nat.lt_of_lt_of_le hi h.size) hs).trans (h.block i hi hs)⟩
theorem Frm.mono {S T : List Nat} {a b : World} (h : Frm S a b) (hs : ∀ k ∈ S, k ∈ T) : Frm T a b := ⟨h.os, h.tape, h.output, h.size, fun k hk ht => h.block k hk (fun e => ht (hs k e))⟩
theorem Frm.more {S : List Nat} {a b : World} (h : Frm [] a b) : Frm S a b := h.mono (by simp)
theorem Frm.drew {S : List Nat} {a b : World} (h : Frm S a b) : Frm S a b.drew := ⟨h.os, h.tape, h.output, h.size, h.block⟩
theorem Frm.drewN {S : List Nat} {a b : World} (h : Frm S a b) (n : Nat) : Frm S a (b.drewN n) := ⟨h.os, h.tape, h.output, h.size, h.block⟩
theorem Frm.alloc {S : List Nat} {a b : World} (h : Frm S a b) (o : Obj) : Frm S a (b.alloc o) :=
  ⟨h.os, h.tape, h.output, by have := h.size; simp; omega, fun k hk hs => (Below.heap_alloc b o k (Nat.lt_of_lt_of_le hk h.size)).trans (h.block k hk hs)⟩
theorem Frm.put {S : List Nat} {a b : World} (h : Frm S a b) {g : Nat} (hg : g ∈ S ∨ a.heap.size ≤ g) (i : Nat) (s : Option Nat) (u : Value) : Frm S a (b.setCell ⟨g, i, s⟩ u) :=
  ⟨h.os, h.tape, h.output, by simpa [World.setCell] using h.size, fun k hk hs => (Below.heap_setCell b _ u k (fun e => by
    have e' : k = g := e
    subst e'
    rcases hg with hg | hg
    · exact hs hg
    · omega)).trans (h.block k hk hs)⟩
theorem Frm.of_below {a b : World} (h : Below a.heap.size a b) : Frm [] a b := ⟨h.os, h.tape, h.output, h.size, fun k hk _ => h.block k hk⟩
theorem Frm.below {a b : World} (h : Frm [] a b) : Below a.heap.size a b := ⟨h.os, h.tape, h.output, h.size, fun k hk => h.block k hk (by simp)⟩
theorem Frm.of_grown {a b : World} {g : Nat} (h : a.grownBy b (some g)) : Frm [g] a b := ⟨h.os, h.tape, h.output, h.size, fun k hk hs => h.block k hk (fun e => hs (by injection e with e; simp [e]))⟩
theorem Frm.of_grown_opt {a b : World} {o : Option Nat} (h : a.grownBy b o) : Frm o.toList a b := ⟨h.os, h.tape, h.output, h.size, fun k hk hs => h.block k hk (fun e => hs (by simp [← e]))⟩
theorem Frm.cell {S : List Nat} {a b : World} (h : Frm S a b) {g i : Nat} (hg : g < a.heap.size) (hs : g ∉ S) : b.cell? ⟨g, i, none⟩ = a.cell? ⟨g, i, none⟩ := World.cell?_of_block (w := a) (h.block g hg hs)
theorem Frm.blk {S : List Nat} {a b : World} (h : Frm S a b) {g : Nat} {t : TypeId} {cs : Array Value} (hb : Blk a g t cs) (hs : g ∉ S) : Blk b g t cs := (h.block g hb.lt hs).trans hb
/-- What went on behind a new block, seen from ahead of it. -/
theorem Frm.after {S T : List Nat} {a b c : World} (h : Frm S a b) (k : Frm T b c) (hT : ∀ g ∈ T, g ∈ S ∨ a.heap.size ≤ g) : Frm S a c :=
  ⟨k.os.trans h.os, k.tape.trans h.tape, k.output.trans h.output, Nat.le_trans h.size k.size, fun i hi hs => (k.block i (Nat.lt_of_lt_of_le hi h.size) (fun e => by
    rcases hT i e with h1 | h1
    · exact hs h1
    · omega)).trans (h.block i hi hs)⟩

/-- A thing in memory: its blocks, what it is; it hangs on those blocks alone. -/
structure Res where
  bl : List Nat
  P : World → Prop
  stays : ∀ w w' : World, (∀ k ∈ bl, w'.heap[k]? = w.heap[k]?) → P w → P w'
  lies : ∀ w : World, P w → ∀ k ∈ bl, k < w.heap.size

/-- A block known whole. -/
def blkR (b : Nat) (t : TypeId) (cs : Array Value) : Res := ⟨[b], fun w => Blk w b t cs, fun w w' h hp => (h b (by simp)).trans hp, fun w hp k hk => by simp at hk; subst hk; exact hp.lt⟩
/-- A slice of the call's own that it may append to. -/
def ownR (e : TypeId) (size : Nat) (v : Value) (n : Nat) (xs : List Value) : Res :=
  ⟨v.ownBlock.toList, fun w => w.ownsRow 0 e size v n xs,
   fun w w' h hp => ⟨hp.1, by
      rcases hp.2 with h2 | ⟨g, cap, cur, hv, hg, hh, r⟩
      · exact .inl h2
      · exact .inr ⟨g, cap, cur, hv, hg, (h g (by simp [hv, Value.ownBlock])).trans hh, r⟩⟩,
   fun w hp k hk => by
      have := hp.lt k (by simpa using hk)
      exact this.2⟩
/-- Two things as one. -/
def bothR (r s : Res) : Res :=
  ⟨r.bl ++ s.bl, fun w => r.P w ∧ s.P w, fun w w' h hp => ⟨r.stays w w' (fun k hk => h k (by simp [hk])) hp.1, s.stays w w' (fun k hk => h k (by simp [hk])) hp.2⟩,
   fun w hp k hk => by
      rcases List.mem_append.1 hk with h | h
      · exact r.lies w hp.1 k h
      · exact s.lies w hp.2 k h⟩

/-- From w0 on: the things of L lie apart, in new blocks or in those of S; nothing else has turned. -/
structure Sep (S : List Nat) (w0 w : World) (L : List Res) : Prop where
  frm : Frm S w0 w
  holds : ∀ r ∈ L, r.P w
  apart : L.Pairwise (fun r s => ∀ k ∈ r.bl, k ∉ s.bl)
  mine : ∀ r ∈ L, ∀ k ∈ r.bl, k ∈ S ∨ w0.heap.size ≤ k

theorem Sep.init (w : World) : Sep [] w w [] := ⟨Frm.refl _ _, by simp, List.Pairwise.nil, by simp⟩
theorem Sep.enter {w : World} {r : Res} (h : r.P w) : Sep r.bl w w [r] := ⟨Frm.refl _ _, by simpa using h, by simp, by simp; intro k hk; exact .inl hk⟩
theorem Sep.get {S : List Nat} {w0 w : World} {L : List Res} (h : Sep S w0 w L) (i : Nat) {r : Res} (hi : L[i]? = some r) : r.P w := h.holds r (List.mem_of_getElem? hi)
theorem Sep.blk {S : List Nat} {w0 w : World} {L : List Res} (h : Sep S w0 w L) (i : Nat) {b : Nat} {t : TypeId} {cs : Array Value} (hi : L[i]? = some (blkR b t cs)) : Blk w b t cs := h.get i hi
theorem Sep.own {S : List Nat} {w0 w : World} {L : List Res} (h : Sep S w0 w L) (i : Nat) {e : TypeId} {size : Nat} {v : Value} {n : Nat} {xs : List Value} (hi : L[i]? = some (ownR e size v n xs)) : w.ownsRow 0 e size v n xs := h.get i hi
theorem Sep.lt {S : List Nat} {w0 w : World} {L : List Res} (h : Sep S w0 w L) (i : Nat) {r : Res} (hi : L[i]? = some r) : ∀ k ∈ r.bl, k < w.heap.size := r.lies w (h.get i hi)
theorem Sep.drew {S : List Nat} {w0 w : World} {L : List Res} (h : Sep S w0 w L) : Sep S w0 w.drew L := ⟨h.frm.drew, fun r hr => r.stays w _ (fun _ _ => rfl) (h.holds r hr), h.apart, h.mine⟩
theorem Sep.drewN {S : List Nat} {w0 w : World} {L : List Res} (h : Sep S w0 w L) (n : Nat) : Sep S w0 (w.drewN n) L := ⟨h.frm.drewN n, fun r hr => r.stays w _ (fun _ _ => rfl) (h.holds r hr), h.apart, h.mine⟩
/-- A call that makes new memory alone. -/
theorem Sep.keep {S : List Nat} {w0 w w' : World} {L : List Res} (h : Sep S w0 w L) (hf : Frm [] w w') : Sep S w0 w' L :=
  ⟨h.frm.trans hf.more, fun r hr => r.stays w w' (fun k hk => hf.block k (r.lies w (h.holds r hr) k hk) (by simp)) (h.holds r hr), h.apart, h.mine⟩
theorem Sep.skip {S : List Nat} {w0 w : World} {L : List Res} (h : Sep S w0 w L) (o : Obj) : Sep S w0 (w.alloc o) L := h.keep ((Frm.refl _ _).alloc o)
/-- A new thing, all of whose blocks are new. -/
theorem Sep.add {S : List Nat} {w0 w w' : World} {L : List Res} (h : Sep S w0 w L) (hf : Frm [] w w') {r : Res} (hr : r.P w') (hn : ∀ k ∈ r.bl, w.heap.size ≤ k) : Sep S w0 w' (r :: L) := by
  have hk := h.keep hf
  refine ⟨hk.frm, fun s hs => ?_, List.Pairwise.cons (fun s hs k hkr hks => ?_) hk.apart, fun s hs => ?_⟩
  · rcases List.mem_cons.1 hs with rfl | hs
    · exact hr
    · exact hk.holds s hs
  · have h1 := hn k hkr
    have h2 := s.lies w (h.holds s hs) k hks
    omega
  · rcases List.mem_cons.1 hs with rfl | hs
    · exact fun k hk' => .inr (Nat.le_trans h.frm.size (hn k hk'))
    · exact hk.mine s hs
theorem Sep.alloc {S : List Nat} {w0 w : World} {L : List Res} (h : Sep S w0 w L) (cs : Array Value) (t : TypeId) : Sep S w0 (w.alloc (.cells cs t)) (blkR w.heap.size t cs :: L) :=
  h.add ((Frm.refl _ _).alloc _) (Blk.made w t cs) (by simp [blkR])
/-- A call, or a store, that turns the thing at place i alone. -/
theorem Sep.write {S : List Nat} {w0 w w' : World} {L : List Res} (h : Sep S w0 w L) (i : Nat) {r : Res} (hi : L[i]? = some r) {F : List Nat} (hf : Frm F w w') (hF : ∀ k ∈ F, k ∈ r.bl) {r' : Res} (hr : r'.P w') (hb : ∀ k ∈ r'.bl, k ∈ r.bl ∨ w.heap.size ≤ k) : Sep S w0 w' (L.set i r') := by
  have hil : i < L.length := (List.getElem?_eq_some_iff.1 hi).1
  have hri : L[i] = r := (List.getElem?_eq_some_iff.1 hi).2
  have hrm : r ∈ L := hri ▸ List.getElem_mem hil
  have far : ∀ j (hj : j < L.length), j ≠ i → ∀ k ∈ (L[j]).bl, k ∉ r.bl := by
    intro j hj hne k hk hkr
    rcases Nat.lt_or_ge j i with hlt | hge
    · have := List.pairwise_iff_getElem.1 h.apart j i hj hil hlt k hk
      rw [hri] at this
      exact this hkr
    · have := List.pairwise_iff_getElem.1 h.apart i j hil hj (by omega)
      rw [hri] at this
      exact this k hkr hk
  have hmem : ∀ s ∈ L.set i r', s = r' ∨ ∃ j, ∃ hj : j < L.length, j ≠ i ∧ s = L[j] := by
    intro s hs
    obtain ⟨j, hj, hse⟩ := List.mem_iff_getElem.1 hs
    rw [List.length_set] at hj
    rw [List.getElem_set] at hse
    split at hse
    · exact .inl hse.symm
    · rename_i hne; exact .inr ⟨j, hj, fun e => hne e.symm, hse.symm⟩
  refine ⟨h.frm.after hf (fun g hg => h.mine r hrm g (hF g hg)), fun s hs => ?_, ?_, fun s hs k hk => ?_⟩
  · rcases hmem s hs with rfl | ⟨j, hj, hne, rfl⟩
    · exact hr
    · have hP := h.holds _ (List.getElem_mem hj)
      exact (L[j]).stays w w' (fun k hk => hf.block k ((L[j]).lies w hP k hk) (fun hkF => far j hj hne k hk (hF k hkF))) hP
  · rw [List.pairwise_iff_getElem]
    intro a b ha hb' hab k hka hkb
    rw [List.length_set] at ha hb'
    rw [List.getElem_set] at hka hkb
    split at hka
    · split at hkb
      · omega
      · rename_i e1 e2
        have h1 := far b hb' (fun e => e2 e.symm) k hkb
        have h2 := (L[b]).lies w (h.holds _ (List.getElem_mem hb')) k hkb
        rcases hb k hka with h3 | h3
        · exact h1 h3
        · omega
    · split at hkb
      · rename_i e1 e2
        have h1 := far a ha (fun e => e1 e.symm) k hka
        have h2 := (L[a]).lies w (h.holds _ (List.getElem_mem ha)) k hka
        rcases hb k hkb with h3 | h3
        · exact h1 h3
        · omega
      · exact List.pairwise_iff_getElem.1 h.apart a b ha hb' hab k hka hkb
  · rcases hmem s hs with rfl | ⟨j, hj, hne, rfl⟩
    · rcases hb k hk with h1 | h1
      · exact h.mine r hrm k h1
      · exact .inr (Nat.le_trans h.frm.size h1)
    · exact h.mine _ (List.getElem_mem hj) k hk
/-- A store into a block. -/
theorem Sep.put {S : List Nat} {w0 w : World} {L : List Res} (h : Sep S w0 w L) (i : Nat) {b : Nat} {t : TypeId} {cs : Array Value} (hi : L[i]? = some (blkR b t cs)) (j : Nat) (u : Value) : Sep S w0 (w.setCell ⟨b, j, none⟩ u) (L.set i (blkR b t (cs.setIfInBounds j u))) :=
  h.write i hi (F := [b]) ((Frm.refl _ _).put (.inl (by simp)) j none u) (by simp [blkR]) ((h.blk i hi).put j u) (by simp [blkR])
/-- A call that turns block b, at place i. -/
theorem Sep.call {S : List Nat} {w0 w w' : World} {L : List Res} (h : Sep S w0 w L) (i : Nat) {b : Nat} {t t' : TypeId} {cs cs' : Array Value} (hi : L[i]? = some (blkR b t cs)) (hf : Frm [b] w w') (hb : Blk w' b t' cs') : Sep S w0 w' (L.set i (blkR b t' cs')) :=
  h.write i hi hf (by simp [blkR]) (r' := blkR b t' cs') hb (by simp [blkR])
/-- An append to the slice at place i. -/
theorem Sep.grow {S : List Nat} {w0 w w' : World} {L : List Res} (h : Sep S w0 w L) (i : Nat) {e : TypeId} {size : Nat} {v v' : Value} {n n' : Nat} {xs xs' : List Value} (hi : L[i]? = some (ownR e size v n xs)) (hg : w.grownBy w' v.ownBlock) (ho : w'.ownsRow 0 e size v' n' xs')
    (hv : v'.ownBlock = v.ownBlock ∨ v'.ownBlock = some w.heap.size) : Sep S w0 w' (L.set i (ownR e size v' n' xs')) :=
  h.write i hi (Frm.of_grown_opt hg) (by simp [ownR]) (r' := ownR e size v' n' xs') ho (fun k hk => by
    simp only [ownR, Option.mem_toList] at hk ⊢
    rcases hv with hv | hv
    · rw [hv] at hk; exact .inl hk
    · rw [hv] at hk; simp at hk; exact .inr (by omega))
theorem Sep.sub {S : List Nat} {w0 w : World} {L L' : List Res} (h : Sep S w0 w L) (hs : L'.Sublist L) : Sep S w0 w L' :=
  ⟨h.frm, fun r hr => h.holds r (hs.subset hr), h.apart.sublist hs, fun r hr => h.mine r (hs.subset hr)⟩
theorem Sep.only {S : List Nat} {w0 w : World} {L : List Res} (h : Sep S w0 w L) (i : Nat) {r : Res} (hi : L[i]? = some r) : Sep S w0 w [r] :=
  h.sub (List.singleton_sublist.2 (List.mem_of_getElem? hi))
theorem Sep.swap2 {S : List Nat} {w0 w : World} {r s : Res} {L : List Res} (h : Sep S w0 w (r :: s :: L)) : Sep S w0 w (s :: r :: L) := by
  have hp := h.apart
  rw [List.pairwise_cons, List.pairwise_cons] at hp
  obtain ⟨h1, h2, h3⟩ := hp
  refine ⟨h.frm, fun x hx => h.holds x (by simp at hx ⊢; rcases hx with hx | hx | hx <;> simp [hx]), ?_, fun x hx => h.mine x (by simp at hx ⊢; rcases hx with hx | hx | hx <;> simp [hx])⟩
  rw [List.pairwise_cons, List.pairwise_cons]
  refine ⟨fun x hx => ?_, fun x hx => h1 x (by simp [hx]), h3⟩
  rcases List.mem_cons.1 hx with rfl | hx
  · exact fun k hk hk' => h1 s (by simp) k hk' hk
  · exact h2 x hx
/-- A nil slice is the call's own, too. -/
theorem Sep.nil {S : List Nat} {w0 w : World} {L : List Res} (h : Sep S w0 w L) (e : TypeId) (size : Nat) : Sep S w0 w (ownR e size (.slice none 0 0) 0 [] :: L) :=
  h.add (Frm.refl _ _) (World.ownsRow_nil w 0 e size) (by simp [ownR, Value.ownBlock])
/-- An empty slice made in a new block. -/
theorem Sep.made {S : List Nat} {w0 w : World} {L : List Res} (h : Sep S w0 w L) (e : TypeId) (size cap : Nat) (cur : Array Value) (hm : cap ≤ maxLen) (hs : cur.size = cap * size) : Sep S w0 (w.alloc (.cells cur e)) (ownR e size (.slice (some ⟨w.heap.size, 0, none⟩) 0 cap) 0 [] :: L) :=
  h.add ((Frm.refl _ _).alloc _) (World.ownsRow_made w cur cap (Nat.zero_le _) hm hs) (by simp [ownR, Value.ownBlock])

/-- 'append(s, x)' of one element, s among the call's own things. -/
theorem wpList_append_sep {P : Program} {S : List Nat} {w0 w : World} {L : List Res} {ops : Array Oper} {rest : List Oper} {o : Oper} {a : Act} {Q : Exit → Act → World → Prop} (hgd : o.guard = none) (s x : Operand) (t : TypeId)
    (ho : o.op = .call { callee := .builtin .append, args := #[s, x], argTypes := #[t, t] }) (i : Nat)
    (e : TypeId) (inf : TypeInfo) (z : Value) (bytes : Nat) (ht : P.underlying t = some (.slice e)) (hi : P.info? e = some inf) (hz : inf.zero = some z)
    (hsize : inf.size = 1) (hby : inf.bytes = bytes) (hzs : z.cells.size = 1)
    (v : Value) (n : Nat) (xs : List Value) (hs : a.eval s = v) (hS : Sep S w0 w L) (hL : L[i]? = some (ownR e 1 v n xs))
    (g c : Nat) (u : Value) (hx : a.eval x = .slice (some ⟨g, 0, none⟩) 1 c) (hu : w.cell? ⟨g, 0, none⟩ = some u) (h1 : u.oneCell' = true)
    (h63 : n + 1 ≤ maxLen) (hbytes : (n + 1) * bytes ≤ 140737488355328)
    (h : ∀ (g' c' : Nat) w', Sep S w0 w' (L.set i (ownR e 1 (.slice (some ⟨g', 0, none⟩) (n + 1) c') (n + 1) (xs ++ [u]))) → wpList P ops Q rest (a.put o.dst (.slice (some ⟨g', 0, none⟩) (n + 1) c')) w') : wpList P ops Q (o :: rest) a w :=
  wpList_append_own_at w hgd s x t ho 0 e inf z 1 bytes ht hi hz hsize hby hzs (by decide) v n xs hs (hS.own i hL) ⟨g, 0, none⟩ 1 c [u] hx rfl
    (fun j y hj => by
      match j, hj with
      | 0, hj => simp at hj; subst hj; simpa [Addr.add] using hu)
    (fun y hy => by simp at hy; subst hy; exact h1) h63 hbytes (Nat.zero_le _) (fun v' w' h2 h3 _ h5 => by
      have hv : ∃ g' c', v' = .slice (some ⟨g', 0, none⟩) (n + 1) c' := by
        rcases h2.2 with ⟨hv, he⟩ | ⟨g', cap, cur, hv, _⟩
        · simp at he
        · exact ⟨g', cap, hv⟩
      obtain ⟨g', c', rfl⟩ := hv
      exact h g' c' w' (hS.grow i hL h3 h2 h5))
end

/- ARGUMENTS OPENED: slices of structs whose fields are one cell each. -/
section
open Go.ChangeShapes Go.WideShapes Go.ChangeAt Go.RowKit Go.Deep

/-- The slice at a reads as rows of n cells each. -/
def RdS (n : Nat) (w : World) (a : Option Addr) (rows : List (List Value)) : Prop :=
  ∀ i row, rows[i]? = some row → ∃ b off, a = some ⟨b, off, none⟩ ∧ b < w.heap.size ∧ ∀ j v, row[j]? = some v → w.cell? ⟨b, off + i * n + j, none⟩ = some v
theorem RdS.below {n : Nat} {w w' : World} {a : Option Addr} {rows : List (List Value)} (h : RdS n w a rows) (hb : Below w.heap.size w w') : RdS n w' a rows := fun i row hr => by
  obtain ⟨b, off, ha, hl, hc⟩ := h i row hr
  exact ⟨b, off, ha, Nat.lt_of_lt_of_le hl hb.size, fun j v hv => (hb.cell (p := ⟨b, off + i * n + j, none⟩) hl).trans (hc j v hv)⟩

theorem exists_map {α β : Type} {f : α → β} {Q : α → Prop} : ∀ (rows : List β), (∀ r ∈ rows, ∃ o, r = f o ∧ Q o) → ∃ ops : List α, rows = ops.map f ∧ ∀ o ∈ ops, Q o
  | [], _ => ⟨[], rfl, by simp⟩
  | r :: rows, h => by
    obtain ⟨o, ho, hq⟩ := h r (by simp)
    obtain ⟨ops, hops, hQ⟩ := exists_map rows (fun r' hr' => h r' (by simp [hr']))
    refine ⟨o :: ops, by rw [List.map_cons, ← ho, ← hops], fun x hx => ?_⟩
    rcases List.mem_cons.1 hx with rfl | hx
    · exact hq
    · exact hQ x hx

section
variable {H : Type} {enc : TypeId × Value → H} {P : Program} {W : World} {base : Nat}

theorem sls_open {t e : TypeId} {fs : Array Field} {v : Value} {d : DataW H} {p : List MemPlace} (ht : P.underlying t = some (.slice e)) (he : P.underlying e = some (.struct fs))
    (hone : oneCellFields P fs = true) (hC : P.cellsOf e = fs.size) (hpos : 0 < fs.size) (hv : Value.okWide P W .any base t v) (h : DataW.Trod enc P W 0 (fun _ => true) true t v d p) :
    ∃ (a : Option Addr) (cap : Nat) (rows : List (List Value)), v = .slice a rows.length cap ∧ rows.length ≤ cap ∧ cap ≤ maxLen ∧ RdS fs.size W a rows ∧
      ∀ row ∈ rows, row.length = fs.size ∧ ∀ (j : Nat) (f : Field), fs[j]? = some f → ∃ (u : Value) (y : DataW H × List MemPlace) (n : Nat), row[j]? = some u ∧ DataW.trod enc P W 0 (fun _ => true) true n f.type [u] = some y := by
  obtain ⟨a, len, cap, rfl⟩ := okWide_slice ht hv
  obtain ⟨fuel, hf⟩ := h
  rcases open_slice ht hf with ⟨hcs, _⟩ | ⟨x, l, c, m, n, D, Pl, hcs, hb, hl, hm, hmm, hx, hi⟩
  · simp [Value.cells] at hcs
    obtain ⟨rfl, rfl, rfl⟩ := hcs
    exact ⟨none, 0, [], rfl, Nat.le_refl _, Nat.zero_le _, fun i row hr => by simp at hr, by simp⟩
  · simp [Value.cells] at hcs
    obtain ⟨rfl, rfl, rfl⟩ := hcs
    have hmm' : m = cap := by simpa using hmm
    subst hmm'
    have key : ∀ i, i < len → ∀ (j : Nat) (f : Field), fs[j]? = some f → ∃ (u : Value) (y : DataW H × List MemPlace) (k : Nat), W.cell? (x.add (i * fs.size + j)) = some u ∧ DataW.trod enc P W 0 (fun _ => true) true k f.type [u] = some y := by
      intro i him j f hj
      obtain ⟨cs', hc, ht'⟩ := hi i (by omega)
      rw [hC] at hc
      obtain ⟨ys, n', _, _, hlen, hyl, hf'⟩ := DataW.trod_struct he ht'
      obtain ⟨_, hcl, hat⟩ := World.cells?_some hc
      obtain ⟨ho, hk⟩ := hone_of hone j f hj
      have hjl : j < fs.size := (Array.getElem?_eq_some_iff.1 hj).1
      have hcell := hat j hjl
      have hv' : cs'[j]? = some (cs'[j]'(by omega)) := List.getElem?_eq_getElem (by omega)
      have h1 := hf' j f hj
      rw [ho, hk] at h1
      have hone' : (cs'.drop j).take 1 = [cs'[j]'(by omega)] := by
        rw [List.drop_eq_getElem_cons (by omega)]
        rfl
      rw [hone'] at h1
      have hys : ys[j]? = some (ys[j]'(by omega)) := List.getElem?_eq_getElem (by omega)
      exact ⟨_, _, n', by rw [← Go.Deep.add_add, hcell, hv'], h1.trans hys⟩
    have hrl : ((List.range len).map fun i => (List.range fs.size).map fun j => (W.cell? (x.add (i * fs.size + j))).getD undef).length = len := by simp
    refine ⟨some x, m, (List.range len).map fun i => (List.range fs.size).map fun j => (W.cell? (x.add (i * fs.size + j))).getD undef, by rw [hrl], by rw [hrl]; exact hl, hm, fun i row hr => ?_, fun row hr => ?_⟩
    · have hil : i < len := by
        have := (List.getElem?_eq_some_iff.1 hr).1
        simpa using this
      have hrow : row = (List.range fs.size).map fun j => (W.cell? (x.add (i * fs.size + j))).getD undef := by
        rw [List.getElem?_map, List.getElem?_range hil] at hr
        simpa using hr.symm
      have h0 : fs[0]? = some fs[0] := Array.getElem?_eq_getElem (by omega)
      obtain ⟨u0, _, _, hu0, _⟩ := key 0 (by omega) 0 _ h0
      obtain ⟨b, off, spot⟩ := x
      have hsp : spot = none := by simpa [Addr.add] using World.cell?_spot hu0
      subst hsp
      have hbl : b < W.heap.size := by
        have := World.block_lt_of_cell? W _ hu0
        simpa [Addr.add] using this
      refine ⟨b, off, rfl, hbl, fun j v hv => ?_⟩
      have hjl : j < fs.size := by
        have := (List.getElem?_eq_some_iff.1 hv).1
        rw [hrow] at this
        simpa using this
      obtain ⟨u, _, _, hu, _⟩ := key i hil j fs[j] (Array.getElem?_eq_getElem hjl)
      have hadd : (⟨b, off, none⟩ : Addr).add (i * fs.size + j) = ⟨b, off + i * fs.size + j, none⟩ := by
        unfold Addr.add
        split
        · rename_i h0; rw [Nat.add_assoc, h0]; rfl
        · rw [Nat.add_assoc]
      rw [hrow, List.getElem?_map, List.getElem?_range hjl] at hv
      simp only [Option.map_some] at hv
      rw [hadd] at hu hv
      rw [hu] at hv
      rw [hu]
      simpa using hv
    · obtain ⟨i, hir, rfl⟩ := List.mem_map.1 hr
      have hil : i < len := List.mem_range.1 hir
      refine ⟨by simp, fun j f hj => ?_⟩
      have hjl : j < fs.size := (Array.getElem?_eq_some_iff.1 hj).1
      obtain ⟨u, y, k, hu, hy⟩ := key i hil j f hj
      exact ⟨u, y, k, by rw [List.getElem?_map, List.getElem?_range hjl]; simp [hu], hy⟩
end
end

/- ROWS OF THE CALL'S OWN: zeros appended ('append(s, make([]T, k)...)'), one element stored; a call that turns two things; a slice read across writes that lie apart. No program is named here. -/
section
open Go.RowKit

theorem RdI.frm {k : IntKind} {w w' : World} {a : Option Addr} {zs : List Int} {S : List Nat} (h : RdI k w a zs) (hf : Frm S w w') (hS : ∀ p, a = some p → p.block ∉ S) : RdI k w' a zs := fun i x hx => by
  obtain ⟨b, off, ha, hl, hc⟩ := h i x hx
  exact ⟨b, off, ha, Nat.lt_of_lt_of_le hl hf.size, (hf.cell hl (hS _ ha)).trans hc⟩

theorem zeroCells_one (z : Value) (n : Nat) : Builtin.zeroCells #[z] n = (List.replicate n z).toArray := by
  apply Array.ext
  · simp [Builtin.zeroCells]
  · intro i h1 h2
    simp [Builtin.zeroCells, Nat.mod_one]

section
variable {P : Program} (w : World)
/-- 'append(s, make([]T, k)...)', s the call's own, elements of one cell. -/
theorem run_append_own_zeros (t tn ty e : TypeId) (i : TypeInfo) (z : Value) (bytes : Nat) (kq kn : IntKind) (ht : P.underlying t = some (.slice e)) (htn : P.underlying tn = some (.int kn)) (hi : P.info? e = some i) (hz : i.zero = some z)
    (hsize : i.size = 1) (hby : i.bytes = bytes) (hzs : z.cells = #[z]) (h1 : z.oneCell' = true)
    (v : Value) (n : Nat) (xs : List Value) (hown : w.ownsRow 0 e 1 v n xs) (k : Nat) (h0 : 0 < k)
    (h63 : n + k ≤ maxLen) (hbytes : (n + k) * bytes ≤ 140737488355328) :
    ∃ v' w', (Builtin.append_ #[t, tn] ty #[v, .int kq k]).run P w = .ok v' w' ∧ w'.ownsRow 0 e 1 v' (n + k) (xs ++ List.replicate k z) ∧ w.grownBy w' v.ownBlock ∧ (v'.ownBlock = v.ownBlock ∨ v'.ownBlock = some w.heap.size) := by
  subst hby
  have hsmall : n + k ≤ 9223372036854775807 := by simp only [maxLen] at h63; omega
  have hlen : (xs ++ List.replicate k z).length = (n + k) * 1 := by rw [List.length_append, hown.1, List.length_replicate]; omega
  have grown : ∀ (old : Nat), old < n + k → ∀ (row : Option Nat),
      (w.drew.alloc (.cells (xs.toArray ++ Builtin.zeroCells z.cells k ++ Builtin.zeroCells z.cells (grownCap w (n + k) old e - (n + k))) e)).ownsRow 0 e 1
        (.slice (some ⟨w.heap.size, 0, none⟩) (n + k) (grownCap w (n + k) old e)) (n + k) (xs ++ List.replicate k z) ∧
      w.grownBy (w.drew.alloc (.cells (xs.toArray ++ Builtin.zeroCells z.cells k ++ Builtin.zeroCells z.cells (grownCap w (n + k) old e - (n + k))) e)) row := by
    intro old ho row
    have hge := grownCap_ge w (n + k) old e
    have hcm : grownCap w (n + k) old e ≤ maxLen := grownCap_le_maxLen w (n + k) old e h63
    refine ⟨⟨hlen, .inr ⟨w.heap.size, _, _, rfl, Nat.zero_le _, heap_alloc_new w.drew _, hge, hcm, ?_, ?_⟩⟩, ⟨rfl, rfl, rfl, by simp, fun j hj _ => heap_alloc_old w.drew _ hj⟩⟩
    · rw [hzs, zeroCells_one, zeroCells_one]
      simp only [Array.size_append, List.size_toArray, List.length_replicate, hown.1]
      omega
    · rw [hzs, zeroCells_one, zeroCells_one]
      simp only [Array.toList_append]
      rw [← hlen]
      exact List.take_left
  have h48 : k * i.bytes ≤ 281474976710656 := by
    have : k * i.bytes ≤ (n + k) * i.bytes := Nat.mul_le_mul_right _ (by omega)
    omega
  rcases hown.2 with ⟨rfl, rfl⟩ | ⟨g, cap, cur, rfl, hbg, hg, hnc, hcm, hcs, htake⟩
  · have hx : xs = [] := List.eq_nil_of_length_eq_zero (by simpa using hown.1)
    subst hx
    have hr := Lib.run_append_nil_zeros (P := P) w t tn ty e i z kq kn ht htn hi hz k h0 (by omega) (by omega) h48
    have hgr := grown 0 (by omega) (Value.ownBlock (.slice none 0 0))
    simp only [Nat.zero_add, List.nil_append, Array.empty_append] at hgr ⊢
    exact ⟨_, _, hr, hgr.1, hgr.2, .inr rfl⟩
  · by_cases hroom : n + k ≤ cap
    · have hn1 : n * 1 + k ≤ cur.size := by rw [hcs]; omega
      have hst := run_storeCells_at P g n e (List.replicate k z) 0 cur w hg (by simp; omega) (fun u hu => by rw [(List.mem_replicate.1 hu).2]; exact h1)
      simp only [Nat.add_zero] at hst
      have hw : IntKind.i64.wrap (k : Int) = k := by rw [IntKind.wrap_i64]; omega
      have hneg : ¬ ((k : Int) < 0) := by omega
      have h48i : ¬ (281474976710656 < (k : Int) * (i.bytes : Int)) := by rw [← Int.natCast_mul]; omega
      have hk : ¬ (k = 0) := by omega
      have hr : (Builtin.append_ #[t, tn] ty #[.slice (some ⟨g, 0, none⟩) n cap, .int kq k]).run P w = .ok (.slice (some ⟨g, 0, none⟩) (n + k) cap) (w.setRow g (cur.toList.take n ++ List.replicate k z ++ cur.toList.drop (n + (List.replicate k z).length)).toArray) := by
        simp [Builtin.append_, run_underlying ht, run_underlying htn, sizeOf, typeInfo, zeroValue, hi, hz, asInt, asIntOf, hw, hneg, h48i, hsize, hk, hroom, Addr.add_lit, hzs, zeroCells_one]
        have hst2 : Sem.run P (storeCells { block := g, off := n } (List.replicate k z)) w = Result.ok () (w.setRow g (List.take n cur.toList ++ (List.replicate k z ++ List.drop (n + k) cur.toList)).toArray) := by simpa using hst
        rw [hst2]
        rfl
      refine ⟨_, _, hr, ⟨hlen, .inr ⟨g, cap, _, rfl, hbg, setRow_heap w g cur _ e _ hg, hroom, hcm, ?_, ?_⟩⟩, ⟨rfl, rfl, rfl, by simp, fun j _ hj => setRow_other w g j _ (fun e => hj (by simp [Value.ownBlock, e]))⟩, .inl rfl⟩
      · simp only [List.size_toArray, List.length_append, List.length_take, List.length_drop, Array.length_toList, List.length_replicate]
        omega
      · rw [Nat.mul_one] at htake
        rw [htake, ← hlen]
        exact List.take_left
    · have holds : ∀ j u, xs[j]? = some u → w.cell? ((⟨g, 0, none⟩ : Addr).add j) = some u := hown.cells (g := g) rfl
      have hold := run_firstCells_some (P := P) w.drew i.size n ⟨g, 0, none⟩ n cap xs (by rw [hown.1, hsize]) (by simpa using holds)
      have hr := Lib.run_append_grow_zeros (P := P) w t tn ty e i z kq kn ht htn hi hz (some ⟨g, 0, none⟩) n cap xs hold k h0 (by omega) (by omega) (by omega) h48 (growslice_fits (by omega) hbytes)
      have hgr := grown cap (by omega) (Value.ownBlock (.slice (some ⟨g, 0, none⟩) n cap))
      exact ⟨_, _, hr, hgr.1, hgr.2, .inr rfl⟩
end
/-- .. as the walk takes it. -/
theorem wpList_append_zeros {P : Program} {S : List Nat} {w0 w : World} {L : List Res} {ops : Array Oper} {rest : List Oper} {o : Oper} {a : Act} {Q : Exit → Act → World → Prop} (hgd : o.guard = none) (s x : Operand) (t tn : TypeId)
    (ho : o.op = .call { callee := .builtin .append, args := #[s, x], argTypes := #[t, tn] }) (j : Nat)
    (e : TypeId) (i : TypeInfo) (z : Value) (bytes : Nat) (kq kn : IntKind) (ht : P.underlying t = some (.slice e)) (htn : P.underlying tn = some (.int kn)) (hi : P.info? e = some i) (hz : i.zero = some z)
    (hsize : i.size = 1) (hby : i.bytes = bytes) (hzs : z.cells = #[z]) (h1 : z.oneCell' = true)
    (v : Value) (n : Nat) (xs : List Value) (hs : a.eval s = v) (hS : Sep S w0 w L) (hL : L[j]? = some (ownR e 1 v n xs)) (k : Nat) (q : Int) (hx : a.eval x = .int kq q) (hq : q = k) (h0 : 0 < k)
    (h63 : n + k ≤ maxLen) (hbytes : (n + k) * bytes ≤ 140737488355328) (N : Nat) (hN : n + k = N)
    (h : ∀ v' w', Sep S w0 w' (L.set j (ownR e 1 v' N (xs ++ List.replicate k z))) → wpList P ops Q rest (a.put o.dst v') w') : wpList P ops Q (o :: rest) a w := by
  subst hq hN
  obtain ⟨v', w', hr, h2, h3, h4⟩ := run_append_own_zeros (P := P) w t tn o.type e i z bytes kq kn ht htn hi hz hsize hby hzs h1 v n xs (hS.own j hL) k h0 h63 hbytes
  exact Lib.wpList_append_run w hgd s x t tn ho v (.int kq k) hs hx v' w' hr (h v' w' (hS.grow j hL h3 h2 h4))

/-- One element stored. -/
theorem own_put {w : World} {e : TypeId} {g n c : Nat} {k : IntKind} {zs : List Int} (h : w.ownsRow 0 e 1 (.slice (some ⟨g, 0, none⟩) n c) n (zs.map (Value.int k))) (i : Nat) (u : Int) :
    (w.setCell ⟨g, i, none⟩ (.int k u)).ownsRow 0 e 1 (.slice (some ⟨g, 0, none⟩) n c) n ((zs.set i u).map (Value.int k)) := by
  refine ⟨by have := h.1; simpa using this, ?_⟩
  rcases h.2 with ⟨h2, _⟩ | ⟨g', c', cur, e1, e2, e3, e4, e5, e6, e7⟩
  · cases h2
  · injection e1 with e1 e8 e9
    injection e1 with e1
    injection e1 with e1
    subst e1 e9
    have hb : Blk w g e cur := e3
    refine .inr ⟨g, c, _, rfl, e2, hb.put i (.int k u), e4, e5, by rw [Array.size_setIfInBounds]; exact e6, ?_⟩
    rw [Array.toList_setIfInBounds, List.take_set, e7, List.map_set]
theorem Sep.putRow {S : List Nat} {w0 w : World} {L : List Res} (h : Sep S w0 w L) (j : Nat) {e : TypeId} {g n c : Nat} {k : IntKind} {zs : List Int} (hj : L[j]? = some (ownR e 1 (.slice (some ⟨g, 0, none⟩) n c) n (zs.map (Value.int k)))) (i : Nat) (u : Int) :
    Sep S w0 (w.setCell ⟨g, i, none⟩ (.int k u)) (L.set j (ownR e 1 (.slice (some ⟨g, 0, none⟩) n c) n ((zs.set i u).map (Value.int k)))) :=
  h.write j hj (F := [g]) ((Frm.refl [g] w).put (.inl (by simp)) i none (.int k u)) (fun q hq => by simp at hq; subst hq; simp [ownR, Value.ownBlock]) (own_put (h.own j hj) i u) (fun q hq => .inl hq)

/-- One element read; it may be written. -/
theorem row_cell {w : World} {e : TypeId} {g n c : Nat} {k : IntKind} {zs : List Int} (h : w.ownsRow 0 e 1 (.slice (some ⟨g, 0, none⟩) n c) n (zs.map (Value.int k))) (i : Nat) (hi : i < zs.length) : w.cell? ⟨g, i, none⟩ = some (.int k (zs.getD i 0)) := by
  have := h.cells (g := g) rfl i (.int k (zs.getD i 0)) (by rw [List.getElem?_map, List.getD_eq_getElem?_getD, List.getElem?_eq_getElem hi]; rfl)
  have hadd : (⟨g, 0, none⟩ : Addr).add i = ⟨g, i, none⟩ := by unfold Addr.add; split <;> simp_all
  rwa [hadd] at this
theorem row_free {w : World} {e : TypeId} {g n c : Nat} {xs : List Value} (h : w.ownsRow 0 e 1 (.slice (some ⟨g, 0, none⟩) n c) n xs) (i : Nat) : w.frozen? ⟨g, i, none⟩ = false := by
  rcases h.2 with ⟨h2, _⟩ | ⟨g', c', cur, e1, _, e3, _⟩
  · cases h2
  · injection e1 with e1
    injection e1 with e1
    injection e1 with e1
    subst e1
    have hb : Blk w g e cur := e3
    exact hb.free i
theorem row_form {w : World} {e : TypeId} {v : Value} {n : Nat} {xs : List Value} (h : w.ownsRow 0 e 1 v n xs) : (v = .slice none 0 0 ∧ n = 0) ∨ ∃ g c, v = .slice (some ⟨g, 0, none⟩) n c := by
  rcases h.2 with ⟨h1, h2⟩ | ⟨g, c, _, h2, _⟩
  · exact .inl ⟨h1, h2⟩
  · exact .inr ⟨g, c, h2⟩
theorem row_slice {w : World} {e : TypeId} {v : Value} {n : Nat} {xs : List Value} (h : w.ownsRow 0 e 1 v n xs) (hn : 0 < n) : ∃ g c, v = .slice (some ⟨g, 0, none⟩) n c := by
  rcases row_form h with ⟨_, h⟩ | h
  · omega
  · exact h
theorem grown_setRow (w : World) (g : Nat) (cs : Array Value) : w.grownBy (w.setRow g cs) (some g) :=
  ⟨rfl, rfl, rfl, by simp [World.setRow], fun k _ hk => setRow_other w g k cs (fun e => hk (by rw [e]))⟩
/-- 'copy(d, s)' of integers, d the call's own. -/
theorem wpList_copy_sep {P : Program} {S : List Nat} {w0 w : World} {L : List Res} {ops : Array Oper} {rest : List Oper} {o : Oper} {a : Act} {Q : Exit → Act → World → Prop} (hgd : o.guard = none) (d s : Operand) (dT sT : TypeId)
    (ho : o.op = .call { callee := .builtin .copy, args := #[d, s], argTypes := #[dT, sT] }) (elem : TypeId) (hu : P.underlying dT = some (.slice elem)) (hsz : (P.info? elem).map (·.size) = some 1) (k : IntKind)
    (g n c : Nat) (ds : List Int) (j : Nat) (hS : Sep S w0 w L) (hL : L[j]? = some (ownR elem 1 (.slice (some ⟨g, 0, none⟩) n c) n (ds.map (Value.int k)))) (ad : Option Addr) (sLen sCap : Nat) (zs : List Int) (hz : zs.length = sLen)
    (hd : a.eval d = .slice (some ⟨g, 0, none⟩) n c) (hs : a.eval s = .slice ad sLen sCap) (rd : RdI k w ad zs)
    (h : ∀ w', Sep S w0 w' (L.set j (ownR elem 1 (.slice (some ⟨g, 0, none⟩) n c) n ((zs.take (min sLen n) ++ ds.drop (min sLen n)).map (Value.int k)))) → wpList P ops Q rest (a.put o.dst (goInt (min sLen n : Nat))) w') : wpList P ops Q (o :: rest) a w := by
  subst hz
  have hown := hS.own j hL
  have hdl : ds.length = n := by have := hown.1; simpa using this
  by_cases hm : min zs.length n = 0
  · refine wpList_copy_nothing hgd d s dT sT ho elem hu hsz (some ⟨g, 0, none⟩) ad n c zs.length sCap hd hs hm ?_
    have := h w (by
      rw [hm, List.take_zero, List.drop_zero, List.nil_append]
      have e : L.set j (ownR elem 1 (.slice (some ⟨g, 0, none⟩) n c) n (ds.map (Value.int k))) = L := by
        obtain ⟨hj, he⟩ := List.getElem?_eq_some_iff.1 hL
        rw [← he]
        exact List.set_getElem_self hj
      rw [e]
      exact hS)
    rw [hm] at this
    exact this
  · cases ad with
    | none =>
      obtain ⟨b, off, h1, _⟩ := rd 0 zs[0] (List.getElem?_eq_getElem (by omega))
      cases h1
    | some p =>
      obtain ⟨pb, po, ps⟩ := p
      rcases hown.2 with ⟨h2, _⟩ | ⟨g', c', cur, e1, e2, e3, e4, e5, e6, e7⟩
      · cases h2
      · injection e1 with e1 _ e9
        injection e1 with e1
        injection e1 with e1
        subst e1 e9
        rw [Nat.mul_one] at e6 e7
        have hsl : ((zs.take (min zs.length n)).map (Value.int k)).length = Nat.min zs.length n := by
          rw [List.length_map, List.length_take]
          show min (min zs.length n) zs.length = min zs.length n
          omega
        refine wpList_copy_own hgd d s dT sT ho elem hu hsz g 0 n c ⟨pb, po, ps⟩ zs.length sCap hd hs cur elem e3 ((zs.take (min zs.length n)).map (Value.int k)) hsl (fun i v hi => ?_) (by rw [hsl]; show 0 + min zs.length n ≤ _; omega) (fun v hv => by obtain ⟨z, _, rfl⟩ := List.mem_map.1 hv; rfl) ?_
        · rw [List.getElem?_map] at hi
          cases hq : (zs.take (min zs.length n))[i]? with
          | none => rw [hq] at hi; simp at hi
          | some x =>
            rw [hq] at hi
            simp at hi
            subst hi
            have hx : zs[i]? = some x := by
              rw [List.getElem?_take] at hq
              split at hq
              · exact hq
              · cases hq
            obtain ⟨b, off, ha, _, hc⟩ := rd i x hx
            injection ha with ha
            injection ha with h1 h2 h3
            subst h1 h2 h3
            have hadd : (⟨pb, po, none⟩ : Addr).add i = ⟨pb, po + i, none⟩ := by unfold Addr.add; split <;> simp_all
            rw [hadd]
            exact hc
        · have hgi : goInt (((zs.take (min zs.length n)).map (Value.int k)).length) = goInt (min zs.length n : Nat) := by rw [hsl]
          rw [hgi]
          refine h _ (hS.grow j hL (grown_setRow w g _) ⟨?_, .inr ⟨g, c, _, rfl, Nat.zero_le _, setRow_heap w g cur _ elem _ e3, e4, e5, ?_, ?_⟩⟩ (.inl rfl))
          · simp [hdl]; omega
          · simp only [List.size_toArray, List.length_append, List.length_take, List.length_drop, Array.length_toList, List.length_map]
            omega
          · rw [Nat.mul_one, Nat.zero_add, hsl, List.take_zero, List.nil_append]
            show List.take n ((zs.take (min zs.length n)).map (Value.int k) ++ cur.toList.drop (min zs.length n)) = _
            rw [List.take_append, hsl, List.take_of_length_le (by rw [hsl]; show min zs.length n ≤ n; omega), List.map_append, List.map_drop, ← e7, List.drop_take]
theorem madeCells_one (z : Value) (n : Nat) : (madeCells #[z] (n * 1)).toList = List.replicate n z := by
  rw [Nat.mul_one, toList_madeCells_one]
/-- A call that turns the first two things. -/
theorem Sep.call2 {S F : List Nat} {w0 w w' : World} {L : List Res} {A B A' B' : Res} (h : Sep S w0 w (A :: B :: L)) (k : Sep F w w' [A', B']) (hF : ∀ g ∈ F, g ∈ A.bl ∨ g ∈ B.bl) : Sep S w0 w' (A' :: B' :: L) := by
  have hA : ∀ s ∈ L, ∀ g ∈ A.bl, g ∉ s.bl := fun s hs => (List.pairwise_cons.1 h.apart).1 s (by simp [hs])
  have hB : ∀ s ∈ L, ∀ g ∈ B.bl, g ∉ s.bl := fun s hs => (List.pairwise_cons.1 (List.pairwise_cons.1 h.apart).2).1 s hs
  have hFm : ∀ g ∈ F, g ∈ S ∨ w0.heap.size ≤ g := fun g hg => by
    rcases hF g hg with h1 | h1
    · exact h.mine A (by simp) g h1
    · exact h.mine B (by simp) g h1
  have hlt : ∀ s ∈ L, ∀ g ∈ s.bl, g < w.heap.size := fun s hs => s.lies w (h.holds s (by simp [hs]))
  have far : ∀ r ∈ [A', B'], ∀ s ∈ L, ∀ g ∈ r.bl, g ∉ s.bl := fun r hr s hs g hg hgs => by
    rcases k.mine r hr g hg with h1 | h1
    · rcases hF g h1 with h2 | h2
      · exact hA s hs g h2 hgs
      · exact hB s hs g h2 hgs
    · have := hlt s hs g hgs; omega
  refine ⟨h.frm.after k.frm hFm, fun r hr => ?_, ?_, fun r hr g hg => ?_⟩
  · rcases List.mem_cons.1 hr with rfl | hr
    · exact k.holds _ (by simp)
    rcases List.mem_cons.1 hr with rfl | hr
    · exact k.holds _ (by simp)
    · exact r.stays w w' (fun g hg => k.frm.block g (hlt r hr g hg) (fun hgF => by
        rcases hF g hgF with h2 | h2
        · exact hA r hr g h2 hg
        · exact hB r hr g h2 hg)) (h.holds r (by simp [hr]))
  · refine List.Pairwise.cons (fun s hs => ?_) (List.Pairwise.cons (fun s hs => far _ (by simp) s hs) (List.pairwise_cons.1 (List.pairwise_cons.1 h.apart).2).2)
    rcases List.mem_cons.1 hs with rfl | hs
    · exact (List.pairwise_cons.1 k.apart).1 _ (by simp)
    · exact far _ (by simp) s hs
  · have own : ∀ r ∈ [A', B'], ∀ g ∈ r.bl, g ∈ S ∨ w0.heap.size ≤ g := fun r hr g hg => by
      rcases k.mine r hr g hg with h1 | h1
      · exact hFm g h1
      · exact .inr (Nat.le_trans h.frm.size h1)
    rcases List.mem_cons.1 hr with rfl | hr
    · exact own _ (by simp) g hg
    rcases List.mem_cons.1 hr with rfl | hr
    · exact own _ (by simp) g hg
    · exact h.mine r (by simp [hr]) g hg
theorem Sep.part2 {S : List Nat} {w0 w : World} {L : List Res} {A B : Res} (h : Sep S w0 w (A :: B :: L)) : Sep (A.bl ++ B.bl) w w [A, B] :=
  ⟨Frm.refl _ _, fun r hr => h.holds r (by simp at hr; rcases hr with rfl | rfl <;> simp), List.Pairwise.cons (fun s hs => by simp at hs; subst hs; exact (List.pairwise_cons.1 h.apart).1 _ (by simp)) (List.Pairwise.cons (by simp) List.Pairwise.nil),
   fun r hr g hg => .inl (by simp at hr; rcases hr with rfl | rfl <;> simp [hg])⟩
/-- A call that turns the first thing alone. -/
theorem Sep.call1 {S F : List Nat} {w0 w w' : World} {L : List Res} {A A' : Res} (h : Sep S w0 w (A :: L)) (k : Sep F w w' [A']) (hF : ∀ g ∈ F, g ∈ A.bl) : Sep S w0 w' (A' :: L) :=
  h.write 0 rfl k.frm hF (k.holds _ (by simp)) (fun g hg => by
    rcases k.mine _ (by simp) g hg with h1 | h1
    · exact .inl (hF g h1)
    · exact .inr h1)
/-- A call that makes new things alone. -/
theorem Sep.gains {S : List Nat} {w0 w w' : World} {L : List Res} {A : Res} (h : Sep S w0 w L) (k : Sep [] w w' [A]) : Sep S w0 w' (A :: L) :=
  h.add k.frm (k.holds _ (by simp)) (fun g hg => by
    rcases k.mine _ (by simp) g hg with h1 | h1
    · simp at h1
    · exact h1)
end

/- REGIONS THAT DRAW THEIR ORDER: a head whose operations yield one value in every world of a class, and a tail whose order is forced. The class to use: the worlds at which the call's own things are what they were ('Sep'). -/
section
open Go.RowKit

theorem region_tail {P : Program} {id : Nat} {Q : Exit → Act → World → Prop} {a : Act} {w : World} {l : List Oper} (n : Nat) (hm : P.follows .mixedOrders = true) (hB : Region.lexTailB .any l.toArray n = true)
    (h : wpStill P l.toArray w.drew (fun a' => wpList P l.toArray Q (l.drop n) a' w.drew) (l.take n) a) : (Code.region id l.toArray true).wp P Q a w :=
  wp_region_still_tail n hm hB h

section
variable {P : Program} {ops : Array Oper} {md : Region.Mode} {C : World → Prop}

/-- Whatever order is picked till the head is through. -/
def anyHead (P : Program) (md : Region.Mode) (ops : Array Oper) (C : World → Prop) (n : Nat) (L : Array Bool → Act → Prop) : Nat → Array Bool → Act → Prop
  | 0, listed, a => L listed a
  | f + 1, listed, a =>
    Region.ready md ops listed ≠ [] ∧ ∀ i ∈ Region.ready md ops listed, i < n ∧ qOp P ops C i (anyHead P md ops C n L f (listed.setIfInBounds i true)) a

theorem any_of_head {n g : Nat} {L : Array Bool → Act → Prop} {Q' : Exit → Act → World → Prop} (hL : ∀ listed a w, C w → L listed a → wpAny P md ops Q' g listed a w) :
    ∀ (f : Nat) (listed : Array Bool) (a : Act) (w : World), C w → anyHead P md ops C n L f listed a → wpAny P md ops Q' (f + g) listed a w
  | 0, listed, a, w, hw, h => by rw [Nat.zero_add]; exact hL _ _ _ hw h
  | f + 1, listed, a, w, hw, h => by
    rw [show f + 1 + g = (f + g) + 1 by omega]
    exact ⟨fun h0 => absurd h0 h.1, fun i hi => wpOp_of_qOp hw (fun a' w' hw' h' => any_of_head hL f _ a' w' hw' h') (h.2 i hi).2⟩

theorem anyHead_first {n i : Nat} {oi : Oper} {v : Value} {L : Array Bool → Act → Prop} (hi : ops[i]? = some oi) (hsel : ∀ (j : Nat) (o : Oper) cs b, ops[j]? = some o → o.op ≠ .select cs b)
    (hs : Region.sinkB md ops n = true) (hc : Region.chainB md ops n = true) (hn : n < ops.size) (hin : i < n)
    (hdone : ∀ listed a, L listed a → ∀ j ∈ Region.ready md ops listed, n ≤ j) :
    ∀ (f : Nat) (listed : Array Bool) (a : Act), HeadInv md ops n listed →
      (∀ j oj, ops[j]? = some oj → j ≠ i → listed.getD j true = false → (∀ e ∈ oj.after, Region.binds md e = true → e.on ≠ i) → oi.apart ops oj = true) →
      i ∈ Region.ready md ops listed → YieldsIn P ops C oi v a →
      anyHead P md ops C n L f (listed.setIfInBounds i true) (a.put oi.dst v) → anyHead P md ops C n L (f + 1) listed a := by
  intro f
  induction f with
  | zero =>
    intro listed a inv _ hr hy H
    have hun := (mem_ready.1 hr).1
    refine ⟨fun h => (by rw [h] at hr; cases hr), fun j hj => ?_⟩
    have hjn : j < n := by
      rcases Nat.lt_or_ge j n with h | h
      · exact h
      · exact absurd hj (tail_waits hs hc hn inv _ i rfl hin hun j h)
    refine ⟨hjn, ?_⟩
    by_cases hji : j = i
    · subst hji; exact hy.qOp hi H
    · have := hdone _ _ H j (ready_mono hj hji)
      omega
  | succ f ih =>
    intro listed a inv hfree hr hy H
    have hun := (mem_ready.1 hr).1
    refine ⟨fun h => (by rw [h] at hr; cases hr), fun j hj => ?_⟩
    have hjn : j < n := by
      rcases Nat.lt_or_ge j n with h | h
      · exact h
      · exact absurd hj (tail_waits hs hc hn inv _ i rfl hin hun j h)
    refine ⟨hjn, ?_⟩
    by_cases hji : j = i
    · subst hji; exact hy.qOp hi H
    · have h1 := (H.2 j (ready_mono hj hji)).2
      obtain ⟨hjun, oj, hoj, hall⟩ := mem_ready.1 hj
      have hnot : ∀ e ∈ oj.after, Region.binds md e = true → e.on ≠ i := fun e he hb heq => by
        have h1 := hall e he hb
        rw [heq, getD_both hun] at h1
        cases h1
      have h2 := qOp_put hoj (hfree j oj hoj hji hjun hnot) (fun cs b => hsel i oi cs b hi) (fun cs b => hsel j oj cs b hoj) hy h1
      have hfree' : ∀ k ok, ops[k]? = some ok → k ≠ i → (listed.setIfInBounds j true).getD k true = false →
          (∀ e ∈ ok.after, Region.binds md e = true → e.on ≠ i) → oi.apart ops ok = true := fun k ok hk hki hun hno => by
        refine hfree k ok hk hki ?_ hno
        by_cases hjk : j = k
        · subst hjk; exact hjun
        · rw [getD_set_ne true hjk] at hun; exact hun
      refine qOp_mono (fun a' h3 => ih (listed.setIfInBounds j true) a' (inv.set hj hjn) hfree' (ready_mono hr (Ne.symm hji)) h3.1 ?_) h2
      rw [Array.setIfInBounds_comm _ _ hji]
      exact h3.2

theorem anyHead_lex {n g : Nat} {Lq : Act → Prop} (hsel : Region.noSelect ops = true) (hs : Region.sinkB md ops n = true) (hc : Region.chainB md ops n = true) (hn : n < ops.size) :
    ∀ (l : List Oper) (k : Nat) (listed : Array Bool) (a : Act), (∀ j, j < l.length → l[j]? = ops[k + j]?) → k + l.length = n → HeadInv md ops n listed →
    Region.lexHead md ops g l.length k listed = true → wpQuiet P ops C Lq l a →
    anyHead P md ops C n (fun listed' a' => Region.seqB md ops g n listed' = true ∧ Lq a') l.length listed a
  | [], k, listed, a, _, hk, _, hB, h => by
    have : k = n := by simpa using hk
    subst this
    exact ⟨by simpa [Region.lexHead] using hB, h⟩
  | o :: l, k, listed, a, hl, hk, inv, hB, h => by
    have h0 : ops[k]? = some o := by simpa using (hl 0 (by simp)).symm
    simp only [List.length_cons, Region.lexHead, Bool.and_eq_true] at hB
    obtain ⟨⟨hr, hf⟩, hB'⟩ := hB
    have hkn : k < n := by simp only [List.length_cons] at hk; omega
    have hr' : k ∈ Region.ready md ops listed := by simpa using hr
    have hst : qOp P ops C k (wpQuiet P ops C Lq l) a := by unfold qOp; simp only [h0]; exact h
    obtain ⟨v, hy, hK⟩ := yieldsIn_of_qOp h0 hst
    exact anyHead_first h0 (Region.noSelect_spec hsel) hs hc hn hkn (fun listed' a' hL => seqB_ready hL.1) l.length listed a inv (Region.free_spec h0 hf) hr' hy
      (anyHead_lex hsel hs hc hn l (k + 1) _ _ (fun j hj => by have := hl (j + 1) (by simp; omega); simpa [Nat.add_assoc, Nat.add_comm 1 j] using this) (by simp only [List.length_cons] at hk; omega) (inv.set hr' hkn) hB' hK)
end

/-- The worlds of which S holds, as a type: the walk's simp does not look into it. -/
structure Cls (S : World → Prop) where
  world : World
  ok : S world
theorem Cls.inh {S : World → Prop} {w : World} (h : S w) : Nonempty (Cls S) := ⟨⟨w, h⟩⟩

theorem region_class_tail {P : Program} {S : World → Prop} {id : Nat} {Q : Exit → Act → World → Prop} {a : Act} {w : World} {l : List Oper} (n : Nat) (hS : S w.drew) (hm : P.follows .mixedOrders = true) (hB : Region.lexTailB .any l.toArray n = true)
    (h : wpQuiet P l.toArray (fun w' => ∃ x : Cls S, w' = x.world) (fun a' => ∀ w', S w' → wpList P l.toArray Q (l.drop n) a' w') (l.take n) a) : (Code.region id l.toArray true).wp P Q a w := by
  simp only [Region.lexTailB, Bool.and_eq_true, decide_eq_true_eq] at hB
  obtain ⟨⟨⟨⟨hsel, hn⟩, hs⟩, hc⟩, hlex⟩ := hB
  have hn' : n < l.length := by simpa using hn
  have htl : (l.take n).length = n := by simp; omega
  have hdl : (l.drop n).length = l.toArray.size - n := by simp
  have inv0 : HeadInv .any l.toArray n (Array.replicate l.toArray.size false) :=
    ⟨by simp, fun j oj _ hl => (by rw [getD_replicate_false] at hl; cases hl), fun t _ ht => getD_in (by simpa using ht) (getD_replicate_false _ _)⟩
  have H := anyHead_lex (md := .any) (g := l.toArray.size - n) hsel hs hc hn (l.take n) 0 _ a (fun j hj => by
    have hj' : j < n := by rw [htl] at hj; exact hj
    simp [hj']) (by simpa using htl) inv0 (by rw [htl]; exact hlex) h
  refine wp_region_any hm ?_
  have := any_of_head (Q' := Q) (g := l.toArray.size - n) (fun listed a' w' hw' hL => by
    have := wpAny_of_seq (md := .any) (Q' := Q) (l.drop n) n listed a' w' (fun j => by simp [List.getElem?_drop]) (by rw [hdl]; exact hL.1) (hL.2 w' (by obtain ⟨x, rfl⟩ := hw'; exact x.ok))
    rwa [hdl] at this) _ _ _ w.drew ⟨⟨w.drew, hS⟩, rfl⟩ H
  rw [htl, show n + (l.toArray.size - n) = l.toArray.size by omega] at this
  exact this

/-- A region all of whose operations yield one value in every world of the class. -/
theorem region_class {P : Program} {S : World → Prop} {id : Nat} {Q : Exit → Act → World → Prop} {a : Act} {w : World} {l : List Oper} (hS : S w.drew) (hm : P.follows .mixedOrders = true) (hB : Region.lexB .any l.toArray = true)
    (h : wpQuiet P l.toArray (fun w' => ∃ x : Cls S, w' = x.world) (fun a' => ∀ w', S w' → Q .normal a' w') l a) : (Code.region id l.toArray true).wp P Q a w :=
  wp_region_quiet (C := fun w' => ∃ x : Cls S, w' = x.world) hm hB ⟨⟨w.drew, hS⟩, rfl⟩ (by
    have h2 : (fun a' => ∀ w', S w' → Q .normal a' w') = fun a' => ∀ w', (∃ x : Cls S, w' = x.world) → Q .normal a' w' := by
      funext a'
      exact propext ⟨fun h w' ⟨x, hx⟩ => by subst hx; exact h _ x.ok, fun h w' hw' => h w' ⟨⟨w', hw'⟩, rfl⟩⟩
    rw [← h2]
    simpa using h)

/-- A callee's contract, in the class. -/
theorem in_class {P : Program} {S : World → Prop} {f : FuncId} {args : Array Value} {w : World} {v : Value} (h : Calls P f args w fun e w' => e = .returned v ∧ S w') :
    Calls P f args w fun e w'' => e = .returned v ∧ ∃ x : Cls S, w'' = x.world := h.mono fun _ w' ⟨he, hs⟩ => ⟨he, ⟨w', hs⟩, rfl⟩
theorem frm_of {P : Program} {f : FuncId} {args : Array Value} {w : World} {v : Value} (h : Calls P f args w fun e w' => e = .returned v ∧ ∃ m, w' = w.drewN m) :
    Calls P f args w fun e w' => e = .returned v ∧ Frm [] w w' := h.mono fun _ _ ⟨he, m, hm⟩ => ⟨he, hm ▸ (Frm.refl _ _).drewN m⟩
theorem frm_of_same {P : Program} {f : FuncId} {args : Array Value} {w : World} {v : Value} (h : Calls P f args w fun e w' => e = .returned v ∧ w = w') :
    Calls P f args w fun e w' => e = .returned v ∧ Frm [] w w' := h.mono fun _ _ ⟨he, hm⟩ => ⟨he, hm ▸ Frm.refl _ _⟩
/-- A callee that makes new memory alone, in the class of the worlds at which the call's own things are as they were. -/
theorem call_keeps {P : Program} {S : List Nat} {w0 w : World} {L : List Res} {f : FuncId} {args : Array Value} {v : Value} (hS : Sep S w0 w L) (h : Calls P f args w fun e w' => e = .returned v ∧ Frm [] w w') :
    Calls P f args w fun e w' => e = .returned v ∧ ∃ x : Cls (fun v => Sep S w0 v L), w' = x.world := in_class (h.mono fun _ _ ⟨he, hf⟩ => ⟨he, hS.keep hf⟩)
theorem call_same {P : Program} {S : World → Prop} {f : FuncId} {args : Array Value} {w : World} {v : Value} (hS : S w) (h : Calls P f args w fun e w' => e = .returned v ∧ w = w') :
    Calls P f args w fun e w' => e = .returned v ∧ ∃ x : Cls S, w' = x.world := in_class (h.mono fun _ _ ⟨he, hf⟩ => ⟨he, hf ▸ hS⟩)
theorem Sep.inh {S : List Nat} {w0 w : World} {L : List Res} (h : Sep S w0 w L) : Nonempty (Cls fun v => Sep S w0 v L) := ⟨⟨w, h⟩⟩
theorem region_sep {P : Program} {S : List Nat} {w0 : World} {L : List Res} {id : Nat} {Q : Exit → Act → World → Prop} {a : Act} {w : World} {l : List Oper} (hS : Sep S w0 w L) (hm : P.follows .mixedOrders = true) (hB : Region.lexB .any l.toArray = true)
    (h : wpQuiet P l.toArray (fun w' => ∃ x : Cls fun v => Sep S w0 v L, w' = x.world) (fun a' => ∀ w', Sep S w0 w' L → Q .normal a' w') l a) : (Code.region id l.toArray true).wp P Q a w :=
  region_class (S := fun v => Sep S w0 v L) hS.drew hm hB h
theorem region_sep_tail {P : Program} {S : List Nat} {w0 : World} {L : List Res} {id : Nat} {Q : Exit → Act → World → Prop} {a : Act} {w : World} {l : List Oper} (n : Nat) (hS : Sep S w0 w L) (hm : P.follows .mixedOrders = true) (hB : Region.lexTailB .any l.toArray n = true)
    (h : wpQuiet P l.toArray (fun w' => ∃ x : Cls fun v => Sep S w0 v L, w' = x.world) (fun a' => ∀ w', Sep S w0 w' L → wpList P l.toArray Q (l.drop n) a' w') (l.take n) a) : (Code.region id l.toArray true).wp P Q a w :=
  region_class_tail (S := fun v => Sep S w0 v L) n hS.drew hm hB h
/-- A cell of a block among the class's things. -/
theorem Cls.cell {S : List Nat} {w0 : World} {L : List Res} (i : Nat) {b : Nat} {t : TypeId} {cs : Array Value} (hi : L[i]? = some (blkR b t cs)) (j : Nat) {v : Value} (hv : cs[j]? = some v) (x : Cls (fun v => Sep S w0 v L)) : x.world.cell? ⟨b, j, none⟩ = some v := (x.ok.blk i hi).cell j hv
end

/- REGIONS THAT DRAW THEIR ORDER AND WHOSE HEAD MAKES NEW MEMORY ALONE, whatever it makes and in whatever order: of each slot a word is said that new memory does not turn; each operation is shown once. No program is named here. -/
section
open Go.RowKit

/-- The frame, other values in the slots that l writes. -/
def fills (u : Nat → Value) : List Oper → Act → Act
  | [], a => a
  | o :: l, a => fills u l (a.put o.dst (u (o.dst.getD 0)))
/-- Each writes a slot of its own, one that is there. -/
def slotsB (n : Nat) : List Oper → Bool
  | [] => true
  | o :: l => (match o.dst with | some d => decide (d < n) && l.all (fun p => p.dst != some d) | none => false) && slotsB n l
def inDsts (l : List Oper) (j : Nat) : Bool := l.any fun o => o.dst == some j

theorem put_tmps (a : Act) (d : Nat) (v : Value) (j : Nat) : (a.put (some d) v).tmps[j]? = if j = d ∧ d < a.tmps.size then some v else a.tmps[j]? := by
  simp only [Act.put, Array.getElem?_setIfInBounds]
  by_cases h : d = j
  · subst h; by_cases h2 : d < a.tmps.size <;> simp [h2]
  · have : ¬ j = d := fun e => h e.symm
    simp [h, this]
theorem act_ext {a b : Act} (h : ∀ j : Nat, a.tmps[j]? = b.tmps[j]?) (hd : a.defers = b.defers) : a = b := by
  cases a; cases b
  simp only at h hd
  subst hd
  congr 1
  exact Array.ext_getElem? h
theorem put_defers (a : Act) (d : Option Tmp) (v : Value) : (a.put d v).defers = a.defers := by cases d <;> rfl
theorem put_size (a : Act) (d : Option Tmp) (v : Value) : (a.put d v).tmps.size = a.tmps.size := by cases d <;> simp [Act.put]
theorem fills_defers (u : Nat → Value) (l : List Oper) (a : Act) : (fills u l a).defers = a.defers := by
  induction l generalizing a with
  | nil => rfl
  | cons o l ih => simp only [fills]; rw [ih, put_defers]
theorem fills_tmps (u : Nat → Value) (l : List Oper) (a : Act) (hl : slotsB a.tmps.size l = true) (j : Nat) : (fills u l a).tmps[j]? = if inDsts l j = true then some (u j) else a.tmps[j]? := by
  induction l generalizing a with
  | nil => simp [fills, inDsts]
  | cons o l ih =>
    simp only [slotsB, Bool.and_eq_true] at hl
    obtain ⟨h1, h2⟩ := hl
    cases hod : o.dst with
    | none => simp [hod] at h1
    | some d =>
      simp only [hod, Bool.and_eq_true, decide_eq_true_eq, List.all_eq_true, bne_iff_ne] at h1
      obtain ⟨hdl, hdn⟩ := h1
      simp only [fills, hod]
      rw [ih _ (by rw [put_size]; exact h2), put_tmps]
      have hin : inDsts (o :: l) j = ((decide (j = d)) || inDsts l j) := by
        simp only [inDsts, List.any_cons, hod]
        congr 1
        by_cases h : d = j
        · subst h; simp
        · have : ¬ j = d := fun e => h e.symm
          simp [h, this]
      rw [hin]
      by_cases hjd : j = d
      · subst hjd
        by_cases hj : inDsts l j = true
        · simp [hj]
        · simp [hj, hdl]
      · simp [hjd]
theorem fills_same (u u' : Nat → Value) (l : List Oper) (a : Act) (hl : slotsB a.tmps.size l = true) (h : ∀ j, inDsts l j = true → u j = u' j) : fills u l a = fills u' l a :=
  act_ext (fun j => by
    rw [fills_tmps u l a hl, fills_tmps u' l a hl]
    by_cases hj : inDsts l j = true
    · rw [if_pos hj, if_pos hj, h j hj]
    · rw [if_neg hj, if_neg hj]) (by rw [fills_defers, fills_defers])
theorem inDsts_lt {n : Nat} {l : List Oper} (hl : slotsB n l = true) {j : Nat} (hj : inDsts l j = true) : j < n := by
  induction l with
  | nil => simp [inDsts] at hj
  | cons o l ih =>
    simp only [slotsB, Bool.and_eq_true] at hl
    obtain ⟨h1, h2⟩ := hl
    simp only [inDsts, List.any_cons, Bool.or_eq_true, beq_iff_eq] at hj
    rcases hj with hj | hj
    · rw [hj] at h1
      simp only [Bool.and_eq_true, decide_eq_true_eq] at h1
      exact h1.1
    · exact ih h2 hj
theorem fills_put (u : Nat → Value) (l : List Oper) (a : Act) (hl : slotsB a.tmps.size l = true) (d : Nat) (v : Value) (hd : inDsts l d = true) :
    (fills u l a).put (some d) v = fills (fun j => if j = d then v else u j) l a := by
  have hsz : (fills u l a).tmps.size = a.tmps.size := by
    clear hd hl
    induction l generalizing a with
    | nil => rfl
    | cons o l ih => simp only [fills]; rw [ih, put_size]
  refine act_ext (fun j => ?_) (by rw [put_defers, fills_defers, fills_defers])
  rw [put_tmps, hsz, fills_tmps _ l a hl, fills_tmps _ l a hl]
  have hdl := inDsts_lt hl hd
  by_cases hjd : j = d
  · subst hjd; rw [if_pos ⟨rfl, hdl⟩, if_pos hd, if_pos rfl]
  · rw [if_neg (fun e => hjd e.1)]
    by_cases hj : inDsts l j = true
    · rw [if_pos hj, if_pos hj, if_neg hjd]
    · rw [if_neg hj, if_neg hj]
theorem fills_self (l : List Oper) (a : Act) (hl : slotsB a.tmps.size l = true) : fills (fun j => (a.tmps[j]?).getD undef) l a = a := by
  refine act_ext (fun j => ?_) (fills_defers _ _ _)
  rw [fills_tmps _ l a hl]
  by_cases hj : inDsts l j = true
  · rw [if_pos hj]
    have := inDsts_lt hl hj
    simp [this]
  · rw [if_neg hj]

theorem eval_tmp (a : Act) (d : Nat) : a.eval (.tmp d) = (a.tmps[d]?).getD undef := by simp [Act.eval]
/-- An operation that yields v. -/
theorem wp_run {P : Program} {o : Oper} {a : Act} {w : World} {K : Act → World → Prop} {Q : Exit → Act → World → Prop} (v : Value) (w' : World) (h : (execOp a.eval o).run P w = .ok (.value v) w') (hK : K (a.put o.dst v) w') : o.wp P a w K Q := by
  unfold Oper.wp
  rw [h]
  exact hK

/-- How many of the first n are still to come. -/
def toCome (listed : Array Bool) (n : Nat) : Nat := ((List.range n).filter fun i => !listed.getD i true).length
theorem toCome_zero {listed : Array Bool} {n : Nat} (h : toCome listed n = 0) : ∀ i, i < n → listed.getD i true = true := by
  intro i hi
  have h1 := List.eq_nil_of_length_eq_zero h
  have h2 := (List.filter_eq_nil_iff.1 h1) i (List.mem_range.2 hi)
  simpa using h2
theorem toCome_set {listed : Array Bool} {n i : Nat} (hi : i < n) (hun : listed.getD i true = false) : toCome (listed.setIfInBounds i true) n + 1 = toCome listed n := by
  unfold toCome
  have hil : i < listed.size := by
    rcases Nat.lt_or_ge i listed.size with h | h
    · exact h
    · simp [Array.getElem?_eq_none h] at hun
  have hset : (listed.setIfInBounds i true).getD i true = true := by simp [hil]
  induction n with
  | zero => omega
  | succ n ih =>
    rw [List.range_succ, List.filter_append, List.filter_append, List.length_append, List.length_append]
    by_cases h : i = n
    · subst h
      have same : (List.range i).filter (fun j => !(listed.setIfInBounds i true).getD j true) = (List.range i).filter (fun j => !listed.getD j true) := by
        apply List.filter_congr
        intro j hj
        have := List.mem_range.1 hj
        rw [getD_set_ne true (by omega)]
      rw [same]
      have e1 : List.filter (fun j => !(listed.setIfInBounds i true).getD j true) [i] = [] := by simp only [List.filter_cons, hset]; rfl
      have e2 : List.filter (fun j => !listed.getD j true) [i] = [i] := by simp only [List.filter_cons, hun]; rfl
      rw [e1, e2]
      simp
    · have := ih (by omega)
      have hn : (listed.setIfInBounds i true).getD n true = listed.getD n true := getD_set_ne true h
      have he : List.filter (fun j => !(listed.setIfInBounds i true).getD j true) [n] = List.filter (fun j => !listed.getD j true) [n] := by simp only [List.filter_cons, hn, List.filter_nil]
      rw [he]
      omega
theorem toCome_pos {listed : Array Bool} {n k : Nat} (h : toCome listed n = k + 1) : ∃ i, i < n ∧ listed.getD i true = false := by
  cases hl : (List.range n).filter fun i => !listed.getD i true with
  | nil => unfold toCome at h; rw [hl] at h; simp at h
  | cons x r =>
    have hx : x ∈ (List.range n).filter fun i => !listed.getD i true := by rw [hl]; simp
    simp only [List.mem_filter, List.mem_range, Bool.not_eq_true'] at hx
    exact ⟨x, hx.1, hx.2⟩

/-- Each waits for earlier ones alone. -/
def earlierB (ops : Array Oper) (n : Nat) : Bool :=
  (List.range n).all fun i => match ops[i]? with
  | some o => o.guard.isNone && o.after.all fun e => decide (e.on < i)
  | none => false
def makesB (md : Region.Mode) (ops : Array Oper) (n : Nat) : Bool :=
  decide (n < ops.size) && Region.sinkB md ops n && Region.chainB md ops n && earlierB ops n && Region.seqB md ops (ops.size - n) n ((Array.replicate n true) ++ (Array.replicate (ops.size - n) false))

section
variable {P : Program}

theorem region_makes_any {Q : Exit → Act → World → Prop} {a : Act} {w : World} {l : List Oper} (n : Nat) (S : World → Prop) (T : Nat → Value → World → Prop)
    (hS : ∀ w w', Frm [] w w' → S w → S w') (hT : ∀ d v w w', Frm [] w w' → T d v w → T d v w') (h0 : S w.drew) (hB : makesB .any l.toArray n = true) (hD : slotsB a.tmps.size (l.take n) = true)
    (step : ∀ o ∈ l.take n, ∀ (u : Nat → Value) (A : Act) w' (K : Act → World → Prop), (∀ d, inDsts (l.take n) d = true → A.eval (.tmp d) = u d) → (∀ d, inDsts (l.take n) d = false → A.eval (.tmp d) = a.eval (.tmp d)) → S w' →
      (∀ e ∈ o.after, Region.binds .any e = true → ∀ oe d, l[e.on]? = some oe → oe.dst = some d → T d (u d) w') →
      (∀ v w'', Frm [] w' w'' → T (o.dst.getD 0) v w'' → K (A.put o.dst v) w'') → o.wp P A w' K Q)
    (rest : ∀ (u : Nat → Value) w', S w' → (∀ o ∈ l.take n, ∀ d, o.dst = some d → T d (u d) w') → wpList P l.toArray Q (l.drop n) (fills u (l.take n) a) w') : wpAny P .any l.toArray Q l.toArray.size (Array.replicate l.toArray.size false) a w.drew := by
  simp only [makesB, Bool.and_eq_true, decide_eq_true_eq] at hB
  obtain ⟨⟨⟨⟨hn, hs⟩, hc⟩, hE⟩, hseq⟩ := hB
  have hn' : n < l.length := hn
  have hat : ∀ i, i < n → ∃ o, l.toArray[i]? = some o ∧ l[i]? = some o ∧ o ∈ l.take n ∧ o.guard = none ∧ ∀ e ∈ o.after, e.on < i := by
    intro i hi
    have h1 := List.all_eq_true.1 hE i (List.mem_range.2 hi)
    have h2 : l[i]? = some l[i] := List.getElem?_eq_getElem (by omega)
    have h3 : l.toArray[i]? = some l[i] := by simp
    simp only [h3, Bool.and_eq_true] at h1
    refine ⟨l[i], h3, h2, List.mem_iff_getElem?.2 ⟨i, by rw [List.getElem?_take_of_lt hi]; exact h2⟩, by simpa using h1.1, fun e he => ?_⟩
    have := (Array.all_eq_true_iff_forall_mem.1 h1.2) e he
    simpa using this
  have hdl : (l.drop n).length = l.toArray.size - n := by simp
  have main : ∀ (f : Nat) (listed : Array Bool) (u : Nat → Value) (w' : World), toCome listed n = f → HeadInv .any l.toArray n listed → S w' →
      (∀ i o d, i < n → l[i]? = some o → o.dst = some d → listed.getD i true = true → T d (u d) w') →
      wpAny P .any l.toArray Q (f + (l.toArray.size - n)) listed (fills u (l.take n) a) w' := by
    intro f
    induction f with
    | zero =>
      intro listed u w' hcnt inv hSw hTw
      rw [Nat.zero_add]
      have hall := toCome_zero hcnt
      have hls : listed = (Array.replicate n true) ++ (Array.replicate (l.toArray.size - n) false) := by
        apply Array.ext
        · rw [inv.size]; simp; omega
        · intro j h1 h2
          rw [inv.size] at h1
          by_cases hj : j < n
          · have := hall j hj
            rw [Array.getElem_append_left (by simpa using hj)]
            have hj2 : j < listed.size := by rw [inv.size]; exact h1
            simp [hj2] at this
            simp [this]
          · have := inv.tail j (by omega) h1
            rw [Array.getElem_append_right (by simp; omega)]
            have hj2 : j < listed.size := by rw [inv.size]; exact h1
            simp [hj2] at this
            simp [this]
      have hsq : Region.seqB .any l.toArray (l.drop n).length n listed = true := by rw [hdl, hls]; exact hseq
      have := wpAny_of_seq (md := .any) (Q' := Q) (l.drop n) n listed (fills u (l.take n) a) w' (fun j => by simp [List.getElem?_drop]) hsq
        (rest u w' hSw fun o ho d hod => by
          obtain ⟨i, hi⟩ := List.mem_iff_getElem?.1 ho
          have hin : i < n := by
            have := (List.getElem?_eq_some_iff.1 hi).1
            simp at this; omega
          rw [List.getElem?_take_of_lt hin] at hi
          exact hTw i o d hin hi hod (hall i hin))
      rwa [hdl] at this
    | succ f ih =>
      intro listed u w' hcnt inv hSw hTw
      rw [show f + 1 + (l.toArray.size - n) = (f + (l.toArray.size - n)) + 1 by omega]
      obtain ⟨i0, hi0, hun0⟩ := toCome_pos hcnt
      refine ⟨fun hr => ?_, fun i hi => ?_⟩
      · -- the least one that is still to come is ready
        exfalso
        have least : ∀ k i, i ≤ k → i < n → listed.getD i true = false → ∃ j, j ∈ Region.ready .any l.toArray listed := by
          intro k
          induction k with
          | zero =>
            intro i hik hin hun
            obtain ⟨o, ho, _, _, _, haf⟩ := hat i hin
            exact ⟨i, mem_ready.2 ⟨hun, o, ho, fun e he hb => by have := haf e he; omega⟩⟩
          | succ k ihk =>
            intro i hik hin hun
            obtain ⟨o, ho, _, _, _, haf⟩ := hat i hin
            by_cases hex : ∃ e, e ∈ o.after ∧ Region.binds .any e = true ∧ listed.getD e.on false = false
            · obtain ⟨e, he, hb, hf⟩ := hex
              have hlt := haf e he
              exact ihk e.on (by omega) (by omega) (getD_in (by rw [inv.size]; omega) hf)
            · refine ⟨i, mem_ready.2 ⟨hun, o, ho, fun e he hb => ?_⟩⟩
              cases hl : listed.getD e.on false with
              | true => rfl
              | false => exact absurd ⟨e, he, hb, hl⟩ hex
        obtain ⟨j, hj⟩ := least i0 i0 (Nat.le_refl _) hi0 hun0
        rw [hr] at hj
        cases hj
      · have hin : i < n := by
          rcases Nat.lt_or_ge i n with h | h
          · exact h
          · exact absurd hi (tail_waits hs hc hn inv _ i0 rfl hi0 hun0 i h)
        obtain ⟨o, ho, ho2, hmem, hgd, haf⟩ := hat i hin
        have hrd := mem_ready.1 hi
        obtain ⟨hun, o', ho', hdeps⟩ := hrd
        have : o' = o := Option.some.inj (ho'.symm.trans ho)
        subst this
        unfold wpOp
        simp only [ho]
        rw [if_pos (by unfold Region.wanted; simp [hgd])]
        obtain ⟨d, hd⟩ : ∃ d, o'.dst = some d := by
          have hs : ∀ (m : Nat) (l : List Oper), slotsB m l = true → ∀ o ∈ l, ∃ d, o.dst = some d := by
            intro m l
            induction l with
            | nil => intro _ o ho; cases ho
            | cons p l ihl =>
              intro hl o ho
              simp only [slotsB, Bool.and_eq_true] at hl
              rcases List.mem_cons.1 ho with rfl | ho
              · cases hod : o.dst with
                | none => rw [hod] at hl; simp at hl
                | some d => exact ⟨d, rfl⟩
              · exact ihl hl.2 o ho
          exact hs _ _ hD o' hmem
        have hev : ∀ j, (fills u (l.take n) a).eval (.tmp j) = ((fills u (l.take n) a).tmps[j]?).getD undef := fun j => by simp [Act.eval]
        refine .inl (step o' hmem u (fills u (l.take n) a) w' _ (fun j hj => by rw [hev, fills_tmps _ _ _ hD, if_pos hj]; rfl) (fun j hj => by rw [hev, fills_tmps _ _ _ hD, hj]; simp [Act.eval]) hSw (fun e he hb oe d hoe hd => ?_) (fun v w'' hf hv => ?_))
        · have hlt := haf e he
          have hl := hdeps e he hb
          refine hTw e.on oe d (by omega) hoe hd ?_
          have : e.on < listed.size := by rw [inv.size]; omega
          simp [this] at hl ⊢
          exact hl
        · have hin2 : inDsts (l.take n) d = true := by
            simp only [inDsts, List.any_eq_true, beq_iff_eq]
            exact ⟨o', hmem, hd⟩
          rw [hd] at hv ⊢
          rw [fills_put u (l.take n) a hD d v hin2]
          refine ih _ _ _ ?_ (inv.set hi hin) (hS _ _ hf hSw) ?_
          · have := toCome_set hin hun
            omega
          · intro j oj dj hj hoj hdj hlj
            by_cases hji : j = i
            · subst hji
              have : oj = o' := Option.some.inj (hoj.symm.trans ho2)
              subst this
              have : dj = d := Option.some.inj (hdj.symm.trans hd)
              subst this
              simp only [if_pos]
              exact hv
            · have hne : dj ≠ d := by
                intro e
                subst e
                -- two operations of the head write one slot
                have uniq : ∀ (l : List Oper) (m : Nat), slotsB m l = true → ∀ (i j : Nat) oi oj, l[i]? = some oi → l[j]? = some oj → oi.dst = some dj → oj.dst = some dj → i = j := by
                  intro l
                  induction l with
                  | nil => intro m _ i j oi oj h; simp at h
                  | cons o l ihl =>
                    intro m hl i j oi oj hi hj hdi hdj
                    simp only [slotsB, Bool.and_eq_true] at hl
                    obtain ⟨h1, h2⟩ := hl
                    cases i with
                    | zero =>
                      cases j with
                      | zero => rfl
                      | succ j =>
                        simp at hi hj
                        subst hi
                        rw [hdi] at h1
                        simp only [Bool.and_eq_true, decide_eq_true_eq, List.all_eq_true, bne_iff_ne] at h1
                        exact absurd hdj (h1.2 oj (List.mem_of_getElem? hj))
                    | succ i =>
                      cases j with
                      | zero =>
                        simp at hi hj
                        subst hj
                        rw [hdj] at h1
                        simp only [Bool.and_eq_true, decide_eq_true_eq, List.all_eq_true, bne_iff_ne] at h1
                        exact absurd hdi (h1.2 oi (List.mem_of_getElem? hi))
                      | succ j =>
                        simp at hi hj
                        rw [ihl m h2 i j oi oj hi hj hdi hdj]
                exact hji (uniq (l.take n) _ hD j i oj o' (by rw [List.getElem?_take_of_lt hj]; exact hoj) (by rw [List.getElem?_take_of_lt hin]; exact ho2) hdj hd)
              rw [if_neg hne]
              rw [getD_set_ne true (Ne.symm hji)] at hlj
              exact hT _ _ _ _ hf (hTw j oj dj hj hoj hdj hlj)
  have inv0 : HeadInv .any l.toArray n (Array.replicate l.toArray.size false) :=
    ⟨by simp, fun j oj _ hl => (by rw [getD_replicate_false] at hl; cases hl), fun t _ ht => getD_in (by simpa using ht) (getD_replicate_false _ _)⟩
  have hall0 : ∀ i, i < l.toArray.size → (Array.replicate l.toArray.size false).getD i true = false := fun i hi => getD_in (by simpa using hi) (getD_replicate_false _ _)
  have hcnt : toCome (Array.replicate l.toArray.size false) n = n := by
    unfold toCome
    rw [List.filter_eq_self.2]
    · simp
    · intro i hi
      have := List.mem_range.1 hi
      rw [hall0 i (by simp; omega)]
      rfl
  have := main n _ (fun j => (a.tmps[j]?).getD undef) w.drew hcnt inv0 h0 (fun i o d hi _ _ hl => by rw [hall0 i (by simp; omega)] at hl; cases hl)
  rw [fills_self _ _ hD, show n + (l.toArray.size - n) = l.toArray.size by omega] at this
  exact this
theorem region_makes {id : Nat} {Q : Exit → Act → World → Prop} {a : Act} {w : World} {l : List Oper} (n : Nat) (S : World → Prop) (T : Nat → Value → World → Prop)
    (hS : ∀ w w', Frm [] w w' → S w → S w') (hT : ∀ d v w w', Frm [] w w' → T d v w → T d v w') (h0 : S w.drew) (hm : P.follows .mixedOrders = true) (hB : makesB .any l.toArray n = true) (hD : slotsB a.tmps.size (l.take n) = true)
    (step : ∀ o ∈ l.take n, ∀ (u : Nat → Value) (A : Act) w' (K : Act → World → Prop), (∀ d, inDsts (l.take n) d = true → A.eval (.tmp d) = u d) → (∀ d, inDsts (l.take n) d = false → A.eval (.tmp d) = a.eval (.tmp d)) → S w' →
      (∀ e ∈ o.after, Region.binds .any e = true → ∀ oe d, l[e.on]? = some oe → oe.dst = some d → T d (u d) w') →
      (∀ v w'', Frm [] w' w'' → T (o.dst.getD 0) v w'' → K (A.put o.dst v) w'') → o.wp P A w' K Q)
    (rest : ∀ (u : Nat → Value) w', S w' → (∀ o ∈ l.take n, ∀ d, o.dst = some d → T d (u d) w') → wpList P l.toArray Q (l.drop n) (fills u (l.take n) a) w') : (Code.region id l.toArray true).wp P Q a w :=
  wp_region_any hm (region_makes_any n S T hS hT h0 hB hD step rest)

end
end

/- SLICES OF ROWS, OWNED AND READ: append of whatever slice to one of the call's own; a row of the call's own, read. No program is named here. -/
section
open Go.RowKit

theorem flatten_at {size : Nat} {rows : List (List Value)} (hr : ∀ r ∈ rows, r.length = size) {i j : Nat} {row : List Value} {v : Value} (hi : rows[i]? = some row) (hj : row[j]? = some v) : rows.flatten[i * size + j]? = some v := by
  induction rows generalizing i with
  | nil => simp at hi
  | cons r rows ih =>
    have hrl := hr r (by simp)
    cases i with
    | zero =>
      simp at hi
      subst hi
      have hjl : j < r.length := (List.getElem?_eq_some_iff.1 hj).1
      rw [List.flatten_cons, Nat.zero_mul, Nat.zero_add, List.getElem?_append_left hjl]
      exact hj
    | succ i =>
      simp at hi
      have := ih (fun s hs => hr s (by simp [hs])) hi
      rw [List.flatten_cons, List.getElem?_append_right (by rw [hrl, Nat.succ_mul]; omega), hrl, show (i + 1) * size + j - size = i * size + j from by rw [Nat.succ_mul]; omega]
      exact this
theorem flatten_length {size : Nat} {rows : List (List Value)} (hr : ∀ r ∈ rows, r.length = size) : rows.flatten.length = rows.length * size := by
  induction rows with
  | nil => simp
  | cons r rows ih =>
    rw [List.flatten_cons, List.length_append, ih (fun s hs => hr s (by simp [hs])), hr r (by simp), List.length_cons, Nat.succ_mul]
    omega
theorem flatten_back {size : Nat} (hs : 0 < size) {rows : List (List Value)} (hr : ∀ r ∈ rows, r.length = size) {k : Nat} {v : Value} (hk : rows.flatten[k]? = some v) : ∃ row, rows[k / size]? = some row ∧ row[k % size]? = some v := by
  have hlt : k < rows.length * size := by rw [← flatten_length hr]; exact (List.getElem?_eq_some_iff.1 hk).1
  have hi : k / size < rows.length := Nat.div_lt_of_lt_mul (by rw [Nat.mul_comm]; exact hlt)
  have hrow : rows[k / size]? = some rows[k / size] := List.getElem?_eq_getElem hi
  have hl := hr _ (List.getElem_mem hi)
  have hj : k % size < (rows[k / size]).length := by rw [hl]; exact Nat.mod_lt _ hs
  have hv : (rows[k / size])[k % size]? = some (rows[k / size])[k % size] := List.getElem?_eq_getElem hj
  have := flatten_at hr hrow hv
  rw [Nat.div_add_mod'] at this
  rw [this] at hk
  exact ⟨_, hrow, by rw [hv]; exact hk⟩
theorem add_addr (b off i : Nat) : (⟨b, off, none⟩ : Addr).add i = ⟨b, off + i, none⟩ := by unfold Addr.add; split <;> simp_all

/-- A row of the call's own, as a slice that reads as rows. -/
theorem RdS.of_own {w : World} {base e size : Nat} {v : Value} {n : Nat} {rows : List (List Value)} (h : w.ownsRow base e size v n rows.flatten) (hr : ∀ r ∈ rows, r.length = size) (hs : 0 < size) (hn : n = rows.length) :
    ∃ a cap, v = .slice a rows.length cap ∧ rows.length ≤ cap ∧ cap ≤ maxLen ∧ (a = none → cap = 0) ∧ RdS size w a rows ∧ ∀ p, a = some p → p.block < w.heap.size := by
  subst hn
  rcases h.2 with ⟨rfl, h0⟩ | ⟨g, cap, cur, rfl, hb, hh, hc, hm, _⟩
  · have this : rows.length = 0 := h0
    have : rows = [] := List.eq_nil_of_length_eq_zero this
    subst this
    exact ⟨none, 0, rfl, Nat.le_refl _, Nat.zero_le _, fun _ => rfl, (fun i row hi => by simp at hi), (fun p hp => by cases hp)⟩
  · refine ⟨_, cap, rfl, hc, hm, (fun hn => by cases hn), fun i row hi => ⟨g, 0, rfl, (Array.getElem?_eq_some_iff.1 hh).1, fun j u hj => ?_⟩, fun p hp => by injection hp with hp; subst hp; exact (Array.getElem?_eq_some_iff.1 hh).1⟩
    have := h.cells (g := g) rfl (i * size + j) u (flatten_at hr hi hj)
    rw [add_addr] at this
    rw [Nat.add_assoc]
    exact this

/-- A slice of rows as a thing. -/
def rowsR (n : Nat) (a : Option Addr) (rows : List (List Value)) : Res :=
  ⟨match a with | some p => [p.block] | none => [], fun w => RdS n w a rows ∧ ∀ p, a = some p → p.block < w.heap.size,
   fun w w' h hp => by
     refine ⟨fun i row hi => ?_, fun p hpa => ?_⟩
     · obtain ⟨b, off, ha, hb, hc⟩ := hp.1 i row hi
       subst ha
       have hk := h b (by simp)
       refine ⟨b, off, rfl, ?_, fun j v hv => (World.cell?_of_block (w := w) hk).trans (hc j v hv)⟩
       have := (Array.getElem?_eq_some_iff.1 (hk.trans (Array.getElem?_eq_getElem hb))).1
       exact this
     · subst hpa
       have hk := h p.block (by simp)
       exact (Array.getElem?_eq_some_iff.1 (hk.trans (Array.getElem?_eq_getElem (hp.2 p rfl)))).1,
   fun w hp k hk => by
     cases a with
     | none => simp at hk
     | some p => simp at hk; subst hk; exact hp.2 p rfl⟩

section
variable {P : Program} {w : World}

/-- 'append(s, xs...)', s the call's own, xs whatever slice of rows. -/
theorem wp_append_rows {o : Oper} {a : Act} {K : Act → World → Prop} {Q : Exit → Act → World → Prop} (s x : Operand) (t : TypeId)
    (ho : o.op = .call { callee := .builtin .append, args := #[s, x], argTypes := #[t, t] })
    (e : TypeId) (i : TypeInfo) (z : Value) (size bytes : Nat) (ht : P.underlying t = some (.slice e)) (hi : P.info? e = some i) (hz : i.zero = some z)
    (hsize : i.size = size) (hby : i.bytes = bytes) (hzs : z.cells.size = size) (hsz : 0 < size)
    (v : Value) (n : Nat) (xs : List Value) (hs : a.eval s = v) (hown : w.ownsRow 0 e size v n xs)
    (ad : Option Addr) (c : Nat) (rows : List (List Value)) (hx : a.eval x = .slice ad rows.length c) (hc : ad = none → c = 0) (hr : ∀ r ∈ rows, r.length = size) (hrd : RdS size w ad rows) (h1 : ∀ r ∈ rows, ∀ u ∈ r, u.oneCell' = true)
    (h63 : n + rows.length ≤ maxLen) (hbytes : (n + rows.length) * bytes ≤ 140737488355328)
    (h : ∀ v' w', w'.ownsRow 0 e size v' (n + rows.length) (xs ++ rows.flatten) → w.grownBy w' v.ownBlock → (v'.ownBlock = v.ownBlock ∨ v'.ownBlock = some w.heap.size) → K (a.put o.dst v') w') : o.wp P a w K Q := by
  cases ad with
  | none =>
    have hrows : rows = [] := by
      cases rows with
      | nil => rfl
      | cons r rows => obtain ⟨b, off, ha, _⟩ := hrd 0 r rfl; cases ha
    subst hrows
    have hc0 := hc rfl
    subst hc0
    have hrun := run_append_owned_none (P := P) (w := w) 0 t o.type e i size ht hi v n xs hown
    unfold Oper.wp
    simp at hx
    simp [execOp, ho, resolve, invoke, builtin, hs, hx, hrun, Result.andThen]
    exact h v w (by simpa using hown) (grown_refl _ _) (.inl rfl)
  | some p =>
    obtain ⟨b, off, spot⟩ := p
    have hnews : ∀ j u, rows.flatten[j]? = some u → w.cell? ((⟨b, off, spot⟩ : Addr).add j) = some u := fun j u hj => by
      obtain ⟨row, h2, h3⟩ := flatten_back hsz hr hj
      obtain ⟨b', off', ha, hb, hcell⟩ := hrd _ row h2
      injection ha with ha
      injection ha with ha1 ha2 ha3
      subst ha1 ha2 ha3
      rw [add_addr]
      have := hcell _ u h3
      rw [Nat.add_assoc, Nat.div_add_mod'] at this
      exact this
    have h1' : ∀ u ∈ rows.flatten, u.oneCell' = true := fun u hu => by
      obtain ⟨r, hr1, hr2⟩ := List.mem_flatten.1 hu
      exact h1 r hr1 u hr2
    obtain ⟨v', w', hrun, h2, h3, h4, h5⟩ := run_append_own_at (P := P) w 0 t o.type e i z size bytes ht hi hz hsize hby hzs hsz v n xs hown ⟨b, off, spot⟩ rows.length c rows.flatten (flatten_length hr) hnews h1' h63 hbytes (Nat.zero_le _)
    unfold Oper.wp execOp
    simp only [ho, resolve, invoke, builtin, Sem.run_bind, Sem.run_pure, Result.andThen_ok, List.map_toArray, List.map_cons, List.map_nil, hs, hx, hrun]
    exact h v' w' h2 h3 h5
end

theorem RdI.rows {k : IntKind} {w : World} {a : Option Addr} {zs : List Int} (h : RdI k w a zs) : RdS 1 w a (zs.map fun z => [Value.int k z]) := fun i row hi => by
  rw [List.getElem?_map] at hi
  cases hz : zs[i]? with
  | none => rw [hz] at hi; simp at hi
  | some x =>
    rw [hz] at hi
    simp at hi
    subst hi
    obtain ⟨b, off, ha, hb, hc⟩ := h i x hz
    refine ⟨b, off, ha, hb, fun j v hj => ?_⟩
    cases j with
    | zero => simp at hj; subst hj; rw [Nat.mul_one, Nat.add_zero]; exact hc
    | succ j => simp at hj
theorem flatten_ints (k : IntKind) (zs : List Int) : (zs.map fun z => [Value.int k z]).flatten = zs.map (Value.int k) := by
  induction zs with
  | nil => rfl
  | cons z zs ih => simp [ih]
/-- 'append(s, xs...)' of integers, s the call's own, xs whatever slice; s among the call's own things. -/
theorem wpList_append_ints {P : Program} {S : List Nat} {w0 w : World} {L : List Res} {ops : Array Oper} {rest : List Oper} {o : Oper} {a : Act} {Q : Exit → Act → World → Prop} (hgd : o.guard = none) (s x : Operand) (t : TypeId)
    (ho : o.op = .call { callee := .builtin .append, args := #[s, x], argTypes := #[t, t] }) (i : Nat)
    (e : TypeId) (inf : TypeInfo) (z : Value) (bytes : Nat) (ht : P.underlying t = some (.slice e)) (hi : P.info? e = some inf) (hz : inf.zero = some z)
    (hsize : inf.size = 1) (hby : inf.bytes = bytes) (hzs : z.cells.size = 1) (k : IntKind)
    (v : Value) (n : Nat) (xs : List Value) (hs : a.eval s = v) (hS : Sep S w0 w L) (hL : L[i]? = some (ownR e 1 v n xs))
    (ad : Option Addr) (c : Nat) (zs : List Int) (hx : a.eval x = .slice ad zs.length c) (hc : ad = none → c = 0) (hrd : RdI k w ad zs)
    (h63 : n + zs.length ≤ maxLen) (hbytes : (n + zs.length) * bytes ≤ 140737488355328)
    (h : ∀ v' w', Sep S w0 w' (L.set i (ownR e 1 v' (n + zs.length) (xs ++ zs.map (Value.int k)))) → wpList P ops Q rest (a.put o.dst v') w') : wpList P ops Q (o :: rest) a w := by
  refine wpList_plain hgd fun K hK => ?_
  have hl : (zs.map fun z => [Value.int k z]).length = zs.length := List.length_map _
  refine wp_append_rows (P := P) s x t ho e inf z 1 bytes ht hi hz hsize hby hzs (by decide) v n xs hs (hS.own i hL) ad c (zs.map fun z => [Value.int k z]) (by rw [hl]; exact hx) hc (fun r hr => by obtain ⟨z, _, rfl⟩ := List.mem_map.1 hr; rfl) hrd.rows (fun r hr u hu => by obtain ⟨z, _, rfl⟩ := List.mem_map.1 hr; simp at hu; subst hu; rfl) (by rw [hl]; exact h63) (by rw [hl]; exact hbytes) ?_
  intro v' w' h2 h3 h4
  rw [hl, flatten_ints] at h2
  exact hK _ _ (h v' w' (hS.grow i hL h3 h2 h4))

section
variable {P : Program} {w : World}
/-- 'append([]T{}, xs...)': the new row, in new memory. -/
theorem wp_append_fresh {o : Oper} {a : Act} {K : Act → World → Prop} {Q : Exit → Act → World → Prop} (s x : Operand) (t : TypeId)
    (ho : o.op = .call { callee := .builtin .append, args := #[s, x], argTypes := #[t, t] })
    (e : TypeId) (i : TypeInfo) (z : Value) (size bytes : Nat) (ht : P.underlying t = some (.slice e)) (hi : P.info? e = some i) (hz : i.zero = some z)
    (hsize : i.size = size) (hby : i.bytes = bytes) (hzs : z.cells.size = size) (hsz : 0 < size)
    (g : Nat) (hs : a.eval s = .slice (some ⟨g, 0, none⟩) 0 0) (hg : Blk w g e #[])
    (ad : Option Addr) (c : Nat) (rows : List (List Value)) (hx : a.eval x = .slice ad rows.length c) (hc : ad = none → c = 0) (hr : ∀ r ∈ rows, r.length = size) (hrd : RdS size w ad rows)
    (h63 : rows.length ≤ maxLen) (hbytes : rows.length * bytes ≤ 140737488355328)
    (h : ∀ v' w', w'.ownsRow 0 e size v' rows.length rows.flatten → Frm [] w w' → (v'.ownBlock = some g ∨ v'.ownBlock = some w.heap.size) → K (a.put o.dst v') w') : o.wp P a w K Q := by
  subst hsize
  subst hby
  by_cases hm : rows = []
  · subst hm
    have hsrc : Src P i.size t (.slice ad ([] : List (List Value)).length c) 0 [] w := by
      cases ad with
      | none => have := hc rfl; subst this; exact Src.ofNil w ht 0
      | some p => exact Src.ofSlice w ht p 0 c [] (by simp) (fun j u hj => by simp at hj) (fun u hu => by simp at hu)
    have hrun := run_append_nothing (P := P) w t t o.type e i ht hi (some ⟨g, 0, none⟩) 0 0 (Nat.le_refl _) _ hsrc
    unfold Oper.wp execOp
    simp only [ho, resolve, invoke, builtin, Sem.run_bind, Sem.run_pure, Result.andThen_ok, List.map_toArray, List.map_cons, List.map_nil, hs, hx, hrun]
    exact h _ _ ⟨by simp, .inr ⟨g, 0, #[], rfl, Nat.zero_le _, hg, Nat.le_refl _, Nat.zero_le _, by simp, by simp⟩⟩ (Frm.refl _ _) (.inl rfl)
  · have hpos : 0 < rows.length := List.length_pos_iff.2 hm
    cases ad with
    | none =>
      obtain ⟨b, off, ha, _⟩ := hrd 0 rows[0] (List.getElem?_eq_getElem hpos)
      cases ha
    | some p =>
      obtain ⟨b, off, spot⟩ := p
      have hnews : ∀ j u, rows.flatten[j]? = some u → w.cell? ((⟨b, off, spot⟩ : Addr).add j) = some u := fun j u hj => by
        obtain ⟨row, h2, h3⟩ := flatten_back hsz hr hj
        obtain ⟨b', off', ha, hb, hcell⟩ := hrd _ row h2
        injection ha with ha
        injection ha with ha1 ha2 ha3
        subst ha1 ha2 ha3
        rw [add_addr]
        have := hcell _ u h3
        rw [Nat.add_assoc, Nat.div_add_mod'] at this
        exact this
      have hlen := flatten_length hr
      have h63' : rows.length ≤ 9223372036854775807 := by simp only [maxLen] at h63; omega
      have hfit : Builtin.nextslicecap (0 + rows.length) 0 * i.bytes ≤ 281474976710656 := growslice_fits (by omega) (by rw [Nat.zero_add]; exact hbytes)
      have hrun := run_append_grow (P := P) w t o.type e i z ht hi hz ⟨g, 0, none⟩ 0 0 [] (by simp) (by simp) ⟨b, off, spot⟩ rows.length c rows.flatten hlen hnews (by omega) (by omega) hfit
      unfold Oper.wp execOp
      simp only [ho, resolve, invoke, builtin, Sem.run_bind, Sem.run_pure, Result.andThen_ok, List.map_toArray, List.map_cons, List.map_nil, hs, hx, hrun]
      have hge := grownCap_ge w (0 + rows.length) 0 e
      have hcm : grownCap w (0 + rows.length) 0 e ≤ maxLen := grownCap_le_maxLen w (0 + rows.length) 0 e (by rw [Nat.zero_add]; exact h63)
      refine h _ _ ⟨hlen, .inr ⟨w.heap.size, _, _, by rw [Nat.zero_add], Nat.zero_le _, heap_alloc_new w.drew _, by simpa using hge, by simpa using hcm, ?_, ?_⟩⟩ ((Frm.refl _ _).drew.alloc _) (.inr rfl)
      · simp only [Array.size_append, List.size_toArray, size_zeroCells, hzs, hlen, ← Nat.add_mul, List.length_nil, Nat.zero_add]
        congr 1
        rw [Nat.zero_add] at hge
        omega
      · simp only [Array.toList_append, List.append_assoc, List.nil_append]
        rw [← hlen]
        exact List.take_left
end

/-- Writes far from the things. -/
theorem Sep.far {S : List Nat} {w0 w w' : World} {L : List Res} {F : List Nat} {B : Nat} (h : Sep S w0 w L) (hf : Frm F w w') (hF : ∀ k ∈ F, B ≤ k) (hB : ∀ r ∈ L, ∀ k ∈ r.bl, k < B) (h0 : w0.heap.size ≤ B) : Sep S w0 w' L :=
  ⟨h.frm.after hf (fun g hg => .inr (Nat.le_trans h0 (hF g hg))), fun r hr => r.stays w w' (fun k hk => hf.block k (r.lies w (h.holds r hr) k hk) (fun hkF => by have := hF k hkF; have := hB r hr k hk; omega)) (h.holds r hr), h.apart, h.mine⟩
/-- A thing all of whose blocks are newer than the others'. -/
theorem Sep.gain {S : List Nat} {w0 w : World} {L : List Res} {B : Nat} (h : Sep S w0 w L) {r : Res} (hr : r.P w) (hB : ∀ s ∈ L, ∀ k ∈ s.bl, k < B) (hn : ∀ k ∈ r.bl, B ≤ k) (h0 : w0.heap.size ≤ B) : Sep S w0 w (r :: L) := by
  refine ⟨h.frm, fun s hs => ?_, List.Pairwise.cons (fun s hs k hkr hks => ?_) h.apart, fun s hs => ?_⟩
  · rcases List.mem_cons.1 hs with rfl | hs
    · exact hr
    · exact h.holds s hs
  · have h1 := hn k hkr
    have h2 := hB s hs k hks
    omega
  · rcases List.mem_cons.1 hs with rfl | hs
    · exact fun k hk => .inr (Nat.le_trans h0 (hn k hk))
    · exact h.mine s hs
theorem Sep.blocks_lt {S : List Nat} {w0 w : World} {L : List Res} (h : Sep S w0 w L) : ∀ r ∈ L, ∀ k ∈ r.bl, k < w.heap.size := fun r hr => r.lies w (h.holds r hr)

/-- A row that is owned stays so while new memory alone is made. -/
theorem own_frm {w w' : World} {base e size : Nat} {v : Value} {n : Nat} {xs : List Value} (h : w.ownsRow base e size v n xs) (hf : Frm [] w w') : w'.ownsRow base e size v n xs :=
  ⟨h.1, by
    rcases h.2 with h2 | ⟨g, cap, cur, hv, hg, hh, r⟩
    · exact .inl h2
    · exact .inr ⟨g, cap, cur, hv, hg, (hf.block g (Array.getElem?_eq_some_iff.1 hh).1 (by simp)).trans hh, r⟩⟩
theorem rows_frm {w w' : World} {n : Nat} {a : Option Addr} {rows : List (List Value)} (h : (rowsR n a rows).P w) (hf : Frm [] w w') : (rowsR n a rows).P w' :=
  (rowsR n a rows).stays w w' (fun k hk => hf.block k ((rowsR n a rows).lies w h k hk) (by simp)) h
theorem Sep.tail {S : List Nat} {w0 w : World} {r : Res} {L : List Res} (h : Sep S w0 w (r :: L)) : Sep S w0 w L := h.sub (List.sublist_cons_self _ _)

section
/-- 'append(s, xs...)' of integers, as one operation. -/
theorem wp_append_said {P : Program} {S : List Nat} {w0 w : World} {L : List Res} {o : Oper} {a : Act} {K : Act → World → Prop} {Q : Exit → Act → World → Prop} (s x : Operand) (t : TypeId)
    (ho : o.op = .call { callee := .builtin .append, args := #[s, x], argTypes := #[t, t] }) (i : Nat)
    (e : TypeId) (inf : TypeInfo) (z : Value) (bytes : Nat) (ht : P.underlying t = some (.slice e)) (hi : P.info? e = some inf) (hz : inf.zero = some z)
    (hsize : inf.size = 1) (hby : inf.bytes = bytes) (hzs : z.cells.size = 1) (k : IntKind)
    (v : Value) (n : Nat) (xs : List Value) (hs : a.eval s = v) (hS : Sep S w0 w L) (hL : L[i]? = some (ownR e 1 v n xs))
    (ad : Option Addr) (c m : Nat) (zs : List Int) (hm : zs.length = m) (hx : a.eval x = .slice ad m c) (hc : ad = none → c = 0) (hrd : RdI k w ad zs)
    (N : Nat) (hN : n + m = N) (ys : List Value) (hy : xs ++ zs.map (Value.int k) = ys)
    (h63 : N ≤ maxLen) (hbytes : N * bytes ≤ 140737488355328)
    (h : ∀ v' w', Sep S w0 w' (L.set i (ownR e 1 v' N ys)) → K (a.put o.dst v') w') : o.wp P a w K Q := by
  subst hm hN hy
  have hl : (zs.map fun z => [Value.int k z]).length = zs.length := List.length_map _
  refine wp_append_rows (P := P) s x t ho e inf z 1 bytes ht hi hz hsize hby hzs (by decide) v n xs hs (hS.own i hL) ad c (zs.map fun z => [Value.int k z]) (by rw [hl]; exact hx) hc (fun r hr => by obtain ⟨z, _, rfl⟩ := List.mem_map.1 hr; rfl) hrd.rows (fun r hr u hu => by obtain ⟨z, _, rfl⟩ := List.mem_map.1 hr; simp at hu; subst hu; rfl) (by rw [hl]; exact h63) (by rw [hl]; exact hbytes) ?_
  intro v' w' h2 h3 h4
  rw [hl, flatten_ints] at h2
  exact h _ _ (hS.grow i hL h3 h2 h4)

end
theorem RdI.made (w : World) (t : TypeId) (k : IntKind) (zs : List Int) (hz : 0 < zs.length) : RdI k (w.alloc (.cells (zs.map (Value.int k)).toArray t)) (some ⟨w.heap.size, 0, none⟩) zs := fun i x hx =>
  ⟨w.heap.size, 0, rfl, by simp, (Blk.made w t _).cell _ (by simp [hx])⟩
end

end Go.Proofs.YtjflcijiaennkaaDoor
