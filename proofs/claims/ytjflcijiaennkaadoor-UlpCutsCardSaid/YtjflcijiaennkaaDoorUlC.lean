/-
  THE WALK of wire.guard[ulp.Pack]. Printed by gen_ulc.py.
-/
import Derived.Test.YtjflcijiaennkaaDoorUlB
set_option linter.unusedVariables false
set_option linter.unusedSimpArgs false
namespace Go.Proofs.YtjflcijiaennkaaDoor
open Go.RowKit

theorem callsF_uparse : CallsF 26 := fun _ _ => rfl
/-- What guard gives. -/
def UGuardP (W : World) (g : Nat) (a : Option Addr) (c : Nat) (zs : List Int) (r : Except Int Ul) (x : Ending) (W' : World) : Prop :=
  match r with
  | .error e => x = .returned (.tuple #[Ul.none.val (.slice none 0 0), .int .i64 e]) ∧ Frm [g] W W'
  | .ok X => ∃ va vn vc qs, qs.map LvV.lv = X.Ls ∧ x = .returned (.tuple #[X.val (.slice va vn vc), .int .i64 0]) ∧ Sep [g] W W' [blkR g 114 #[.slice a zs.length c, .int .i64 (zs.length : Int)], lbR 44 (.slice va vn vc) qs]
set_option maxRecDepth 100000 in
set_option maxHeartbeats 16000000 in
theorem uguard_c {W : World} {g : Nat} {a : Option Addr} {c : Nat} {zs : List Int} (hR : Rdr W g a c zs 0) :
    Calls Tryd.prog 67 #[.pointer (some ⟨g, 0, none⟩), .func (.func 26) #[] #[]] W (UGuardP W g a c zs (urdX zs)) := by
  obtain ⟨R, hRX⟩ : ∃ R, R = urdX zs := ⟨_, rfl⟩
  have hcf := fun args W => callsF_uparse args W
  have HP := Lib.hid (fun (w : World) (h : Rdr w g a c zs 0) => hRX ▸ uparse_c h)
  rw [← hRX]
  have HS0 := Lib.hid (((Sep.enter (r := blkR g 114 #[.slice a zs.length c, .int .i64 (((0 : Nat) : Int) : Int)]) hR.blk).alloc #[.int .u8 0, .int .u8 0, .int .u8 0, .int .u8 0, .int .u8 0, .int .u8 0, .int .u8 0, .int .u8 0, .int .u16 0, .bool false, .slice none 0 0] 29).alloc #[.int .i64 0] 30)
  simp only [World.size_alloc] at HS0
  have HR := Lib.hid hR
  clear hR hRX
  go_enter_defers Tryd.func67, Tryd.ntmps67
  go_upto_region 2 with fail
  obtain ⟨w1, hw1⟩ : ∃ w1, w1 = (W.alloc (.cells #[.int .u8 0, .int .u8 0, .int .u8 0, .int .u8 0, .int .u8 0, .int .u8 0, .int .u8 0, .int .u8 0, .int .u16 0, .bool false, .slice none 0 0] 29)).alloc (.cells #[.int .i64 0] 30) := ⟨_, rfl⟩
  obtain ⟨o, ho⟩ : ∃ o, o = W.heap.size := ⟨_, rfl⟩
  rw [← hw1, ← ho] at HS0
  rw [← hw1, ← ho]
  have HO := Lib.hid (show g < o ∧ W.heap.size ≤ o from by have := HR.out.blk.lt; omega)
  clear hw1 ho
  go_wp2_with fail
  refine (HP.out _ (HR.out.to HS0.out.frm (HS0.out.blk 2 rfl) (Nat.zero_le _))).mono ?_
  intro x w2 hx
  clear HP
  cases R with
  | error e =>
    obtain ⟨rfl, hF⟩ := (show x = .panicked (faultV e) ∧ Frm [g] w1 w2 from hx)
    have hgo := HO.out.1
    have hb : Blk w2 (o + 1) 30 #[.int .i64 0] := hF.blk (HS0.out.blk 0 rfl) (by simp; omega)
    have hz : Blk w2 o 29 #[.int .u8 0, .int .u8 0, .int .u8 0, .int .u8 0, .int .u8 0, .int .u8 0, .int .u8 0, .int .u8 0, .int .u16 0, .bool false, .slice none 0 0] := hF.blk (HS0.out.blk 1 rfl) (by simp; omega)
    have HF1 := Lib.hid (HS0.out.frm.trans hF)
    clear hF hx hgo
    refine leaves_cons (f := 76) (args := #[.pointer (some ⟨o + 1, 0, none⟩)]) (by simp) (by simp [go_sem, faultV]) ?_
    refine (catch_fault (o + 1) e 0 w2 hb).mono ?_
    rintro x u' w'' ⟨rfl, hu, rfl⟩
    have hb2 := (hb.alloc (.cells #[.int .i64 e] 118)).put 0 (.int .i64 e)
    have hz2 := ((Frm.refl (S := [o + 1]) (w2.alloc (.cells #[.int .i64 e] 118))).put (g := o + 1) (.inl (by simp)) 0 none (.int .i64 e)).blk (hz.alloc (.cells #[.int .i64 e] 118)) (by simp)
    have HF2 := Lib.hid ((HF1.out.alloc (.cells #[.int .i64 e] 118)).put (g := o + 1) (.inr (by have := HO.out.2; omega)) 0 none (.int .i64 e))
    obtain ⟨w3, hw3⟩ : ∃ w3, w3 = (w2.alloc (.cells #[.int .i64 e] 118)).setCell ⟨o + 1, 0, none⟩ (.int .i64 e) := ⟨_, rfl⟩
    rw [← hw3] at hb2 hz2 HF2
    rw [← hw3]
    have cb := hb2.cell 0 rfl
    have z0 := hz2.cell 0 rfl
    have z1 := hz2.cell 1 rfl
    have z2 := hz2.cell 2 rfl
    have z3 := hz2.cell 3 rfl
    have z4 := hz2.cell 4 rfl
    have z5 := hz2.cell 5 rfl
    have z6 := hz2.cell 6 rfl
    have z7 := hz2.cell 7 rfl
    have z8 := hz2.cell 8 rfl
    have z9 := hz2.cell 9 rfl
    have z10 := hz2.cell 10 rfl
    have hb3 : w3.cell? ⟨o + 1, 0, none⟩ = some (.int .i64 e) := cb
    simp [Leaves, hu, results, Tryd.results67, go_sem, hb3, z0, z1, z2, z3, z4, z5, z6, z7, z8, z9, z10]
    exact ⟨rfl, HF2.out⟩
  | ok X =>
    obtain ⟨v, qs, hq, rfl, hS⟩ := (show ∃ v qs, qs.map LvV.lv = X.Ls ∧ x = .returned (X.val v) ∧ Sep [g] w1 w2 [blkR g 114 #[.slice a zs.length c, .int .i64 ((zs.length : Int) : Int)], lbR 44 v qs] from hx)
    obtain ⟨va, vn, vc, rfl⟩ : ∃ va vn vc, v = .slice va vn vc := by
      obtain ⟨va, vc, hv, _⟩ := lb_shape (hS.get 1 rfl)
      exact ⟨va, _, vc, hv⟩
    obtain ⟨h0, h1, h2, h3, h4, h5, h6, h7, b, lg, Ls⟩ := X
    have HQ := Lib.hid hq
    clear hq
    have HS1 := Lib.hid (show Sep [g] W w2 [blkR g 114 #[.slice a zs.length c, .int .i64 ((zs.length : Int) : Int)], lbR 44 (.slice va vn vc) qs, blkR (o + 1) 30 #[.int .i64 0], blkR o 29 #[.int .u8 0, .int .u8 0, .int .u8 0, .int .u8 0, .int .u8 0, .int .u8 0, .int .u8 0, .int .u8 0, .int .u16 0, .bool false, .slice none 0 0]] from (HS0.out.at_ [2, 0, 1] (by decide) rfl).callMany hS (by simp [blkR]))
    clear hS hx HS0
    have hz := HS1.out.blk 3 rfl
    have he := HS1.out.blk 2 rfl
    have ce := he.cell 0 rfl
    have fe := he.free 0
    have z0 := hz.cell 0 rfl
    have z1 := hz.cell 1 rfl
    have z2 := hz.cell 2 rfl
    have z3 := hz.cell 3 rfl
    have z4 := hz.cell 4 rfl
    have z5 := hz.cell 5 rfl
    have z6 := hz.cell 6 rfl
    have z7 := hz.cell 7 rfl
    have z8 := hz.cell 8 rfl
    have z9 := hz.cell 9 rfl
    have z10 := hz.cell 10 rfl
    have f0 := hz.free 0
    have f1 := hz.free 1
    have f2 := hz.free 2
    have f3 := hz.free 3
    have f4 := hz.free 4
    have f5 := hz.free 5
    have f6 := hz.free 6
    have f7 := hz.free 7
    have f8 := hz.free 8
    have f9 := hz.free 9
    have f10 := hz.free 10
    simp only [Ul.val, Ul.cells]
    go_wp2_with fail
    obtain ⟨w3, hw3⟩ : ∃ w3, w3 = ((((((((((((w2.setCell ⟨o, 0, none⟩ (.int .u8 h0)).setCell ⟨o, 1, none⟩ (.int .u8 h1)).setCell ⟨o, 2, none⟩ (.int .u8 h2)).setCell ⟨o, 3, none⟩ (.int .u8 h3)).setCell ⟨o, 4, none⟩ (.int .u8 h4)).setCell ⟨o, 5, none⟩ (.int .u8 h5)).setCell ⟨o, 6, none⟩ (.int .u8 h6)).setCell ⟨o, 7, none⟩ (.int .u8 h7)).setCell ⟨o, 8, none⟩ (.int .u16 b)).setCell ⟨o, 9, none⟩ (.bool lg)).setCell ⟨o, 10, none⟩ (.slice va vn vc)).setCell ⟨o + 1, 0, none⟩ (.int .i64 0)) := ⟨_, rfl⟩
    have HS2 := Lib.hid (show Sep [g] W w3 [blkR g 114 #[.slice a zs.length c, .int .i64 ((zs.length : Int) : Int)], lbR 44 (.slice va vn vc) qs, blkR (o + 1) 30 #[.int .i64 0], blkR o 29 #[.int .u8 h0, .int .u8 h1, .int .u8 h2, .int .u8 h3, .int .u8 h4, .int .u8 h5, .int .u8 h6, .int .u8 h7, .int .u16 b, .bool lg, .slice va vn vc]] from hw3 ▸ (HS1.out.puts 3 rfl [.int .u8 h0, .int .u8 h1, .int .u8 h2, .int .u8 h3, .int .u8 h4, .int .u8 h5, .int .u8 h6, .int .u8 h7, .int .u16 b, .bool lg, .slice va vn vc] rfl).put 2 rfl 0 (.int .i64 0))
    rw [← hw3]
    clear hw3 HS1 hz he ce fe z0 z1 z2 z3 z4 z5 z6 z7 z8 z9 z10 f0 f1 f2 f3 f4 f5 f6 f7 f8 f9 f10
    refine leaves_cons (f := 76) (args := #[.pointer (some ⟨o + 1, 0, none⟩)]) (by simp) (by simp [go_sem]) ?_
    refine (catch_idle ⟨o + 1, 0, none⟩ _).mono ?_
    rintro x u' w'' ⟨rfl, rfl, rfl⟩
    have hz := HS2.out.blk 3 rfl
    have ce := (HS2.out.blk 2 rfl).cell 0 rfl
    have z0 := hz.cell 0 rfl
    have z1 := hz.cell 1 rfl
    have z2 := hz.cell 2 rfl
    have z3 := hz.cell 3 rfl
    have z4 := hz.cell 4 rfl
    have z5 := hz.cell 5 rfl
    have z6 := hz.cell 6 rfl
    have z7 := hz.cell 7 rfl
    have z8 := hz.cell 8 rfl
    have z9 := hz.cell 9 rfl
    have z10 := hz.cell 10 rfl
    simp [Leaves, settle, results, Tryd.results67, go_sem, ce, z0, z1, z2, z3, z4, z5, z6, z7, z8, z9, z10]
    exact ⟨va, vn, vc, qs, HQ.out, rfl, HS2.out.at_ [0, 1] (by decide) rfl⟩

end Go.Proofs.YtjflcijiaennkaaDoor
