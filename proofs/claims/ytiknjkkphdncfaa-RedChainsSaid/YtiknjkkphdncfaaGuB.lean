/-
  THE WALKS of wire.guard[T], Part[T], Read[T], whatever the closure reads: T = []conflux/api.Block.
-/
import Derived.Test.YtiknjkkphdncfaaGua
set_option linter.unusedVariables false
set_option linter.unusedSimpArgs false
namespace Go.Proofs.Ytiknjkkphdncfaa
open Go.RowKit

set_option maxRecDepth 100000 in
set_option maxHeartbeats 4000000 in
theorem guardB_ok {f : FuncId} {caps : Array Value} {w : World} {a : Option Addr} {c : Nat} {zs : List Int} {Ok : Value → List Res → Nat → Prop} (hp : Reads f caps w a c zs Ok) {W : World} {g : Nat} (hf : Frm [] w W) (hg : w.heap.size ≤ g) (hR : Rdr W g a c zs 0) (hcf : CallsF f) :
    Calls Try.prog 40 #[.pointer (some ⟨g, 0, none⟩), .func (.func f) #[] caps] W fun x W' => ∃ v L n, x = .returned (.tuple #[v, .int .i64 0]) ∧ Ok v L n ∧ n ≤ zs.length ∧ Sep [g] W W' (blkR g 85 #[.slice a zs.length c, .int .i64 (n : Int)] :: L) := by
  have hcf2 := fun args W => hcf args W
  have HP := Lib.hid hp
  have HF := Lib.hid hf
  have HR := Lib.hid hR
  have HS := Lib.hid (((Sep.enter (r := blkR g 85 #[.slice a zs.length c, .int .i64 ((0 : Nat) : Int)]) hR.blk).alloc #[.int .i64 0] 26).swap2)
  clear hp hf hR
  go_enter_defers Try.func40, Try.ntmps40
  go_wp2_with fail
  refine (HP.out _ g (HF.out.trans ((Frm.refl _ _).alloc _)) hg (HR.out.frm ((Frm.refl _ _).alloc _))).mono ?_
  rintro x W1 ⟨v, L, n, rfl, hok, hn, hS⟩
  have HS1 := Lib.hid (HS.out.callMany hS (by simp [blkR]))
  have hb : Blk W1 W.heap.size 26 #[.int .i64 0] := HS1.out.holds (blkR W.heap.size 26 #[.int .i64 0]) (by simp)
  have c0 := hb.cell 0 rfl
  have f0 := hb.free 0
  have HB := Lib.hid hb
  have HO := Lib.hid (And.intro hok hn)
  clear hok hn hS hb hcf2 HP HS HR
  go_wp2_with fail
  refine leaves_cons (f := 44) (args := #[.pointer (some ⟨W.heap.size, 0, none⟩)]) (by simp) (by simp [go_sem]) ?_
  refine (catch_idle ⟨W.heap.size, 0, none⟩ _).mono ?_
  rintro e u' w'' ⟨rfl, rfl, rfl⟩
  have hb2 := HB.out.put 0 (.int .i64 0)
  have c2 := hb2.cell 0 rfl
  simp [Leaves, settle, results, Try.results40, go_sem, c2]
  refine ⟨L, n, HO.out.1, HO.out.2, ?_⟩
  have h := HS1.out.put (blkR g 85 #[.slice a zs.length c, .int .i64 (n : Int)] :: L).length (b := W.heap.size) (t := 26) (cs := #[.int .i64 0]) (by simp) 0 (.int .i64 0)
  have e : ∀ (A : List Res) (x y : Res), (A ++ [x]).set A.length y = A ++ [y] := fun A x y => by simp
  rw [e] at h
  exact h.sub (List.sublist_append_left _ _)

set_option maxRecDepth 100000 in
set_option maxHeartbeats 4000000 in
theorem guardB_err {f : FuncId} {caps : Array Value} {w : World} {a : Option Addr} {c : Nat} {zs : List Int} {e : Int} (hp : Ends f caps w a c zs e) {W : World} {g : Nat} (hf : Frm [] w W) (hg : w.heap.size ≤ g) (hR : Rdr W g a c zs 0) (hcf : CallsF f) :
    Calls Try.prog 40 #[.pointer (some ⟨g, 0, none⟩), .func (.func f) #[] caps] W fun x W' => x = .returned (.tuple #[.slice none 0 0, .int .i64 e]) ∧ Frm [g] W W' := by
  have hcf2 := fun args W => hcf args W
  have HP := Lib.hid hp
  have HF := Lib.hid hf
  have HR := Lib.hid hR
  clear hp hf hR
  go_enter_defers Try.func40, Try.ntmps40
  go_wp2_with fail
  refine (HP.out _ g (HF.out.trans ((Frm.refl _ _).alloc _)) hg (HR.out.frm ((Frm.refl _ _).alloc _))).mono ?_
  rintro x W1 ⟨rfl, hF1⟩
  have hb : Blk W1 W.heap.size 26 #[.int .i64 0] := hF1.blk (Blk.made W _ _) (fun h => by have := HR.out.blk.lt; simp at h; omega)
  have HF1 := Lib.hid hF1
  clear hF1
  refine leaves_cons (f := 44) (args := #[.pointer (some ⟨W.heap.size, 0, none⟩)]) (by simp) (by simp [go_sem, faultV]) ?_
  refine (catch_fault W.heap.size e 0 W1 hb).mono ?_
  rintro e u' w'' ⟨rfl, hu, rfl⟩
  have hb2 := (hb.alloc (.cells #[.int .i64 e] 89)).put 0 (.int .i64 e)
  have c2 := hb2.cell 0 rfl
  simp [Leaves, hu, results, Try.results40, go_sem, c2]
  exact ((((Frm.refl _ _).alloc _).trans HF1.out).alloc _).put (.inr (Nat.le_refl _)) _ _ _

set_option maxRecDepth 100000 in
set_option maxHeartbeats 4000000 in
theorem partB_ok {f : FuncId} {caps : Array Value} {w : World} {a : Option Addr} {c : Nat} {zs : List Int} {Ok : Value → List Res → Nat → Prop} (hp : Reads f caps w a c zs Ok) (hcf : CallsF f)
    (hr : RdI .u8 w a zs) (hb : Byt zs) (hc : zs.length ≤ c) (hcm : c ≤ 9223372036854775807) (hn : a = none → c = 0) (hs : zs.length ≤ 1000000) :
    Calls Try.prog 34 #[.slice a zs.length c, .func (.func f) #[] caps] w fun x W' => ∃ v L n, x = .returned (.tuple #[v, .int .i64 ((n : Nat) : Int), .int .i64 0]) ∧ Ok v L n ∧ n ≤ zs.length ∧ Sep [] w W' L := by
  have hR := Rdr.new hr hb hc hcm hn hs
  have HG := Lib.hid (guardB_ok hp ((Frm.refl _ _).alloc _) (Nat.le_refl _) hR hcf)
  have HS := Lib.hid ((Sep.init w).alloc #[.slice a zs.length c, .int .i64 ((0 : Nat) : Int)] 85)
  clear hp hcf hr hb hc hcm hn hR
  go_enter Try.func34, Try.ntmps34
  go_wp2_with fail
  refine HG.out.mono ?_
  rintro x W1 ⟨v, L, n, rfl, hok, hn, hS⟩
  have HS1 := Lib.hid (HS.out.callMany hS (by simp [blkR]))
  have hb := HS1.out.blk 0 rfl
  have c1 := hb.cell 1 rfl
  have HO := Lib.hid (And.intro hok hn)
  clear hok hn hS hb HG HS
  go_wp2_with fail
  go_quiet (fail)
  go_wp2_with fail
  refine bodyPost_ret (v := .tuple #[v, .int .i64 (n : Int), .int .i64 0]) ?_ rfl ⟨v, L, n, rfl, HO.out.1, HO.out.2, ?_⟩
  · simp [results, Try.results34]
  · refine (Sep.sub HS1.out ?_).drewN _
    rw [List.append_nil]
    exact List.sublist_cons_self _ _
set_option maxRecDepth 100000 in
set_option maxHeartbeats 4000000 in
theorem partB_err {f : FuncId} {caps : Array Value} {w : World} {a : Option Addr} {c : Nat} {zs : List Int} {e : Int} (he : e ≠ 0) (hp : Ends f caps w a c zs e) (hcf : CallsF f)
    (hr : RdI .u8 w a zs) (hb : Byt zs) (hc : zs.length ≤ c) (hcm : c ≤ 9223372036854775807) (hn : a = none → c = 0) (hs : zs.length ≤ 1000000) :
    Calls Try.prog 34 #[.slice a zs.length c, .func (.func f) #[] caps] w fun x W' => x = .returned (.tuple #[.slice none 0 0, .int .i64 0, .int .i64 e]) ∧ Frm [] w W' := by
  have HG := Lib.hid (guardB_err hp ((Frm.refl _ _).alloc _) (Nat.le_refl _) (Rdr.new hr hb hc hcm hn hs) hcf)
  have e0 : (e == 0) = false := by rw [beq_eq_false_iff_ne]; exact he
  clear hp hcf hr hb hc hcm hn
  go_enter Try.func34, Try.ntmps34
  go_wp2_with fail
  refine HG.out.mono ?_
  rintro x W1 ⟨rfl, hF⟩
  have HF := Lib.hid (show Frm [] w W1 from ((Frm.refl _ _).alloc _).after hF (fun g hg => .inr (by simp at hg; omega)))
  clear hF HG
  go_wp2_with fail
  refine bodyPost_ret (v := .tuple #[.slice none 0 0, .int .i64 0, .int .i64 e]) ?_ rfl ⟨rfl, HF.out⟩
  simp [results, Try.results34]

set_option maxRecDepth 100000 in
set_option maxHeartbeats 4000000 in
/-- All bytes are read. -/
theorem readB_ok {f : FuncId} {caps : Array Value} {w : World} {a : Option Addr} {c : Nat} {zs : List Int} {Ok : Value → List Res → Nat → Prop} (hp : Reads f caps w a c zs Ok) (hcf : CallsF f)
    (hr : RdI .u8 w a zs) (hb : Byt zs) (hc : zs.length ≤ c) (hcm : c ≤ 9223372036854775807) (hn : a = none → c = 0) (hs : zs.length ≤ 1000000) :
    Calls Try.prog 26 #[.slice a zs.length c, .func (.func f) #[] caps] w fun x W' => ∃ v L n, Ok v L n ∧ n ≤ zs.length ∧ Sep [] w W' L ∧ (n = zs.length ∧ x = .returned (.tuple #[v, .int .i64 0]) ∨ n < zs.length ∧ x = .returned (.tuple #[.slice none 0 0, .int .i64 22])) := by
  have HG := Lib.hid (partB_ok hp hcf hr hb hc hcm hn hs)
  clear hp hcf hr hb hc hcm hn
  go_enter Try.func26, Try.ntmps26
  go_wp2_with fail
  refine HG.out.mono ?_
  rintro x W1 ⟨v, L, n, rfl, hok, hn, hS⟩
  have HO := Lib.hid (And.intro hok (And.intro hn hS))
  clear hok hS HG
  by_cases hl : n < zs.length
  · have d1 : decide ((n : Int) < (zs.length : Int)) = true := by rw [decide_eq_true_iff]; omega
    go_wp2_with fail
    refine bodyPost_ret (v := .tuple #[.slice none 0 0, .int .i64 22]) ?_ rfl ⟨v, L, n, HO.out.1, HO.out.2.1, HO.out.2.2, .inr ⟨hl, rfl⟩⟩
    simp [results, Try.results26]
  · have d1 : decide ((n : Int) < (zs.length : Int)) = false := by rw [decide_eq_false_iff_not]; omega
    go_wp2_with fail
    refine bodyPost_ret (v := .tuple #[v, .int .i64 0]) ?_ rfl ⟨v, L, n, HO.out.1, HO.out.2.1, HO.out.2.2, .inl ⟨by omega, rfl⟩⟩
    simp [results, Try.results26]
set_option maxRecDepth 100000 in
set_option maxHeartbeats 4000000 in
theorem readB_err {f : FuncId} {caps : Array Value} {w : World} {a : Option Addr} {c : Nat} {zs : List Int} {e : Int} (he : e ≠ 0) (hp : Ends f caps w a c zs e) (hcf : CallsF f)
    (hr : RdI .u8 w a zs) (hb : Byt zs) (hc : zs.length ≤ c) (hcm : c ≤ 9223372036854775807) (hn : a = none → c = 0) (hs : zs.length ≤ 1000000) :
    Calls Try.prog 26 #[.slice a zs.length c, .func (.func f) #[] caps] w fun x W' => x = .returned (.tuple #[.slice none 0 0, .int .i64 e]) ∧ Frm [] w W' := by
  have HG := Lib.hid (partB_err he hp hcf hr hb hc hcm hn hs)
  have e0 : (e == 0) = false := by rw [beq_eq_false_iff_ne]; exact he
  clear hp hcf hr hb hc hcm hn
  go_enter Try.func26, Try.ntmps26
  go_wp2_with fail
  refine HG.out.mono ?_
  rintro x W1 ⟨rfl, hF⟩
  have HF := Lib.hid hF
  clear hF HG
  go_wp2_with fail
  refine bodyPost_ret (v := .tuple #[.slice none 0 0, .int .i64 e]) ?_ rfl ⟨rfl, HF.out⟩
  simp [results, Try.results26]

end Go.Proofs.Ytiknjkkphdncfaa
