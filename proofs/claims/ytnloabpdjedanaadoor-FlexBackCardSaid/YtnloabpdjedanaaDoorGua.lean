/-
  WHAT ENDS A READING IS CAUGHT: wire's catch, as a deferred call of a frame that panics, and of one that returns.
-/
import Derived.Test.YtnloabpdjedanaaDoorRdr
import Derived.Test.YtnloabpdjedanaaDoorSpm
import Derived.Defers
import Derived.Recover
set_option linter.unusedVariables false
set_option linter.unusedSimpArgs false
namespace Go.Proofs.YtnloabpdjedanaaDoor
open Go.RowKit

theorem catch_idle (p : Addr) (w : World) :
    CallsD Tryd.prog 75 #[.pointer (some p)] .returning w fun e u' w' => e = .returned (.tuple #[]) ∧ u' = .returning ∧ w' = w := by
  refine callsD_of_wpS Tryd.func75 rfl fun c₀ cs hu => ?_
  apply wpS_seq
  apply wpS_region
  simp [wpOpsS, go_sem, recoverD, hu, Tryd.ntmps75, Exit.thenS]
  apply wpS_of_wp
  go_wp2_with fail
  cases c₀
  simp_all [bodyPostS, results, Tryd.results75]
set_option maxRecDepth 100000 in
set_option maxHeartbeats 4000000 in
theorem catch_fault (b : Nat) (e : Int) (x : Int) (w : World) (hb : Blk w b 32 #[.int .i64 x]) :
    CallsD Tryd.prog 75 #[.pointer (some ⟨b, 0, none⟩)] (.panicking (faultV e)) w fun y u' w' => y = .returned (.tuple #[]) ∧ settle u' = .returning ∧ w' = (w.alloc (.cells #[.int .i64 e] 110)).setCell ⟨b, 0, none⟩ (.int .i64 e) := by
  refine callsD_of_wpS Tryd.func75 rfl fun c₀ cs hu => ?_
  have hta : ∀ (v : Value) (W : World), (Instr.typeAssert (.iface 110 v) 20 110 true).run Tryd.prog W = .ok (.tuple #[v, .bool true]) W := fun v W => by
    kernel_rfl
  have hc := (hb.alloc (.cells #[.int .i64 e] 110)).cell 0 rfl
  have hz := (hb.alloc (.cells #[.int .i64 e] 110)).free 0
  unfold faultV at hu
  apply wpS_seq
  apply wpS_region
  simp [wpOpsS, go_sem, recoverD, hu, Tryd.ntmps75, Exit.thenS]
  apply wpS_of_wp
  change Code.wp _ _ _ { tmps := #[.pointer (some ⟨b, 0, none⟩), undef, undef, undef, undef, .iface 110 (.agg #[.int .i64 e]), undef, undef, undef, undef, undef, undef, undef, undef, undef], defers := [] } w
  go_wp2_with fail
  exact ⟨rfl, _, rfl, _, results_none rfl _ _ _, rfl, rfl, rfl⟩

/-- f has a body. -/
def CallsF (f : FuncId) : Prop := ∀ (args : Array Value) (W : World), (callFunc f args).run Tryd.prog W = .ok (.enter f args) W
/-- What a closure reads of the bytes zs: a value, things in memory, the place behind. -/
def Reads (f : FuncId) (caps : Array Value) (w : World) (a : Option Addr) (c : Nat) (zs : List Int) (Ok : Value → List Res → Nat → Prop) : Prop :=
  ∀ W g, Frm [] w W → w.heap.size ≤ g → Rdr W g a c zs 0 → Calls Tryd.prog f (#[.pointer (some ⟨g, 0, none⟩)] ++ caps) W fun x W' => ∃ v L n, x = .returned v ∧ Ok v L n ∧ n ≤ zs.length ∧ Sep [g] W W' (blkR g 106 #[.slice a zs.length c, .int .i64 (n : Int)] :: L)
/-- .. or the error that ends it. -/
def Ends (f : FuncId) (caps : Array Value) (w : World) (a : Option Addr) (c : Nat) (zs : List Int) (e : Int) : Prop :=
  ∀ W g, Frm [] w W → w.heap.size ≤ g → Rdr W g a c zs 0 → Calls Tryd.prog f (#[.pointer (some ⟨g, 0, none⟩)] ++ caps) W fun x W' => x = .panicked (faultV e) ∧ Frm [g] W W'


end Go.Proofs.YtnloabpdjedanaaDoor
