/-
  THE WALK of red.readHead.
-/
import Derived.Test.YtiknjkkphdncfaaReP
import Derived.Test.YtiknjkkphdncfaaRdr
import Derived.Test.YtiknjkkphdncfaaGua
import Derived.Laws.BitsLemmas
set_option linter.unusedVariables false
set_option linter.unusedSimpArgs false
namespace Go.Proofs.Ytiknjkkphdncfaa
open Go.RowKit

theorem and128 : ∀ v : Fin 256, bits .and .i64 (v.val : Int) 128 = if v.val < 128 then 0 else 128 := by decide +kernel
theorem not128 : ∀ v : Fin 256, bits .andNot .i64 (v.val : Int) 128 = if v.val < 128 then (v.val : Int) else (v.val : Int) - 128 := by decide +kernel
theorem and128_i {v : Int} (h0 : 0 ≤ v) (h1 : v < 256) : bits .and .i64 v 128 = if v < 128 then 0 else 128 := by
  have h := and128 ⟨v.toNat, by omega⟩
  have e : ((v.toNat : Nat) : Int) = v := Int.toNat_of_nonneg h0
  simp only [e] at h
  rw [h]
  by_cases h2 : v < 128
  · rw [if_pos h2, if_pos (by omega)]
  · rw [if_neg h2, if_neg (by omega)]
theorem not128_i {v : Int} (h0 : 0 ≤ v) (h1 : v < 256) (h2 : ¬ v < 128) : bits .andNot .i64 v 128 = v - 128 := by
  have h := not128 ⟨v.toNat, by omega⟩
  have e : ((v.toNat : Nat) : Int) = v := Int.toNat_of_nonneg h0
  simp only [e] at h
  rw [h, if_neg (by omega)]
theorem wrapI64 {n : Int} (h0 : 0 ≤ n) (h1 : n < 4611686018427387904) : IntKind.i64.wrap n = n := IntWalk.i64_in _ (by omega)
theorem or16 {v x : Int} (v0 : 0 ≤ v) (v1 : v ≤ 255) (x0 : 0 ≤ x) (x1 : x ≤ 65535) : bits .or .i64 (v * 65536) x = v * 65536 + x :=
  bits_join .i64 62 (by decide) (fun n a b => wrapI64 a (by simpa using b)) 16 (v * 65536) x (by omega) (by omega) (by simp; omega) x0 (by simp; omega) (by simp; omega)
theorem and1023_i {n : Int} (h0 : 0 ≤ n) (h1 : n < 4611686018427387904) : bits .and .i64 n 1023 = n % 1024 :=
  bits_mask .i64 62 (by decide) (fun n a b => wrapI64 a (by simpa using b)) 10 (by decide) n h0 (by simpa using h1)
theorem big3 {zs : List Int} {p : Nat} (h : p + 3 ≤ zs.length) : bigN (cut zs p 3) = bigN (cut zs p 1) * 65536 + bigN (cut zs (p + 1) 2) := by
  have e : cut zs p 3 = cut zs p 1 ++ cut zs (p + 1) 2 := by
    unfold cut
    rw [← List.drop_drop]
    exact (List.take_add (l := zs.drop p) (i := 1) (j := 2))
  have h1 := cut_len (zs := zs) (at_ := p) (m := 1) (by omega)
  have h2 := cut_len (zs := zs) (at_ := p + 1) (m := 2) (by omega)
  rw [e]
  match hx : cut zs p 1, hy : cut zs (p + 1) 2 with
  | [a], [b, c] => simp [bigN]; omega
  | [], _ => rw [hx] at h1; cases h1
  | _ :: _ :: _, _ => rw [hx] at h1; simp at h1
  | _, [] => rw [hy] at h2; cases h2
  | _, [_] => rw [hy] at h2; cases h2
  | _, _ :: _ :: _ :: _ => rw [hy] at h2; simp at h2
def hdV (h : Hd) : Value := .agg #[.int .i64 h.pt, .int .i64 h.off, .int .i64 h.size, .bool h.last]

set_option maxRecDepth 100000 in
set_option maxHeartbeats 4000000 in
theorem readHead_ok {w : World} {g : Nat} {a : Option Addr} {c : Nat} {zs : List Int} {at_ : Nat} (hR : Rdr w g a c zs at_) {h : Hd} {n : Nat} (ho : hdOne zs at_ = .ok (h, n)) :
    Calls Try.prog 35 #[.pointer (some ⟨g, 0, none⟩)] w fun x w' => x = .returned (hdV h) ∧ Rdr w' g a c zs n ∧ Frm [g] w w' := by
  unfold hdOne at ho
  split at ho
  · cases ho
  rename_i hl1
  have HR0 := Lib.hid hR
  have hg := hR.blk.lt
  have HC := Lib.hid (fun W (hf : Frm [] w W) => byte_ok (hR.frm hf) (by omega))
  have hb := bigN_lt (hR.byt.cut at_ 1)
  rw [cut_len (by omega)] at hb
  obtain ⟨v, hv⟩ : ∃ v, v = bigN (cut zs at_ 1) := ⟨_, rfl⟩
  rw [← hv] at hb HC ho
  have hb2 : v < 256 := by simpa using hb.2
  have e1 := and128_i hb.1 hb2
  have HS := Lib.hid (((Sep.enter (r := blkR g 85 #[.slice a zs.length c, .int .i64 (at_ : Int)]) hR.blk).alloc #[.int .i64 0, .int .i64 0, .int .i64 0, .bool false] 78).swap2)
  split at ho
  · rename_i hlt
    injection ho with ho; injection ho with h1 h2
    subst h1 h2
    rw [if_pos hlt] at e1
    clear hR hv hb hlt
    unfold hdV
    go_enter Try.func35, Try.ntmps35
    go_wp2_with fail
    refine (HC.out _ ((Frm.refl _ _).alloc _)).mono ?_
    rintro x w1 ⟨rfl, hR, hF⟩
    have HS1 := Lib.hid (HS.out.call 0 rfl hF hR.blk)
    clear hR hF HC HS
    have hb := HS1.out.blk 1 rfl
    have f0 := hb.free 0
    have f1 := hb.free 1
    have f2 := hb.free 2
    have f3 := hb.free 3
    have c0 := hb.cell 0 rfl
    have c1 := hb.cell 1 rfl
    have c2 := hb.cell 2 rfl
    have c3 := hb.cell 3 rfl
    have hl := hb.lt
    clear hb
    go_wp2_with fail
    have HX := (((HS1.out.put 1 rfl 0 (.int .i64 v)).put 1 rfl 1 (.int .i64 0)).put 1 rfl 2 (.int .i64 0)).put 1 rfl 3 (.bool true)
    obtain ⟨wx, hwx⟩ : ∃ wx, wx = (((w1.setCell ⟨w.heap.size, 0, none⟩ (.int .i64 v)).setCell ⟨w.heap.size, 1, none⟩ (.int .i64 0)).setCell ⟨w.heap.size, 2, none⟩ (.int .i64 0)).setCell ⟨w.heap.size, 3, none⟩ (.bool true) := ⟨_, rfl⟩
    rw [← hwx] at HX ⊢
    have d0 := (HX.blk 1 rfl).cell 0 rfl
    have d1 := (HX.blk 1 rfl).cell 1 rfl
    have d2 := (HX.blk 1 rfl).cell 2 rfl
    have d3 := (HX.blk 1 rfl).cell 3 rfl
    refine bodyPost_ret (v := .agg #[.int .i64 v, .int .i64 0, .int .i64 0, .bool true]) ?_ rfl ⟨rfl, HR0.out.to HX.frm (HX.blk 0 rfl) (by omega), HX.frm⟩
    simp [results, Try.results35, go_sem, d0, d1, d2, d3]
  · rename_i hge
    split at ho
    · cases ho
    rename_i hl4
    injection ho with ho; injection ho with h1 h2
    subst h1 h2
    rw [if_neg hge] at e1
    have e2 := not128_i hb.1 hb2 hge
    have y0 := bigN_lt (hR.byt.cut (at_ + 1) 1)
    rw [cut_len (by omega)] at y0
    have x0 := bigN_lt (hR.byt.cut (at_ + 2) 2)
    rw [cut_len (by omega)] at x0
    have h3 := big3 (zs := zs) (p := at_ + 1) (by omega)
    rw [show at_ + 1 + 1 = at_ + 2 from rfl] at h3
    obtain ⟨y, hy⟩ : ∃ y, y = bigN (cut zs (at_ + 1) 1) := ⟨_, rfl⟩
    obtain ⟨x, hx⟩ : ∃ x, x = bigN (cut zs (at_ + 2) 2) := ⟨_, rfl⟩
    rw [← hy, ← hx] at h3
    rw [← hy] at y0
    rw [← hx] at x0
    rw [h3]
    have y1 : y ≤ 255 := by have := y0.2; simp at this; omega
    have x1 : x ≤ 65535 := by have := x0.2; simp at this; omega
    have y00 := y0.1
    have x00 := x0.1
    have e3 : IntKind.i64.wrap (y * 65536) = y * 65536 := wrapI64 (by omega) (by omega)
    have e4 := or16 y0.1 y1 x0.1 x1
    have e5 := and1023_i (n := y * 65536 + x) (by omega) (by omega)
    have e6 : IntKind.i64.wrap x = x := wrapI64 (by omega) (by omega)
    have HY := Lib.hid hy
    have HXx := Lib.hid hx
    have v0 := hb.1
    clear hR hv hb h3 hy hx y0 x0
    unfold hdV
    go_enter Try.func35, Try.ntmps35
    go_wp2_with fail
    refine (HC.out _ ((Frm.refl _ _).alloc _)).mono ?_
    rintro xx w1 ⟨rfl, hR, hF⟩
    have HS1 := Lib.hid (HS.out.call 0 rfl hF hR.blk)
    have hC2 := byte_ok hR (by omega)
    rw [← HY.out] at hC2
    have HC2 := Lib.hid hC2
    clear hR hF HC HS hC2
    go_wp2_with fail
    refine HC2.out.mono ?_
    rintro xx w2 ⟨rfl, hR, hF⟩
    have HS2 := Lib.hid (HS1.out.call 0 rfl hF hR.blk)
    have hC3 := word_ok hR (by omega)
    rw [show at_ + 1 + 1 = at_ + 2 from rfl, ← HXx.out] at hC3
    have HC3 := Lib.hid hC3
    clear hR hF HC2 HS1 hC3
    go_wp2_with fail
    refine HC3.out.mono ?_
    rintro xx w1 ⟨rfl, hR, hF⟩
    have HS1 := Lib.hid (HS2.out.call 0 rfl hF hR.blk)
    clear hR hF HC3 HS2
    have hb := HS1.out.blk 1 rfl
    have f0 := hb.free 0
    have f1 := hb.free 1
    have f2 := hb.free 2
    have f3 := hb.free 3
    have c0 := hb.cell 0 rfl
    have c1 := hb.cell 1 rfl
    have c2 := hb.cell 2 rfl
    have c3 := hb.cell 3 rfl
    have hl := hb.lt
    clear hb
    go_wp2_with fail
    have HX := (((HS1.out.put 1 rfl 0 (.int .i64 (v - 128))).put 1 rfl 1 (.int .i64 ((y * 65536 + x) / 1024))).put 1 rfl 2 (.int .i64 ((y * 65536 + x) % 1024))).put 1 rfl 3 (.bool false)
    obtain ⟨wx, hwx⟩ : ∃ wx, wx = (((w1.setCell ⟨w.heap.size, 0, none⟩ (.int .i64 (v - 128))).setCell ⟨w.heap.size, 1, none⟩ (.int .i64 ((y * 65536 + x) / 1024))).setCell ⟨w.heap.size, 2, none⟩ (.int .i64 ((y * 65536 + x) % 1024))).setCell ⟨w.heap.size, 3, none⟩ (.bool false) := ⟨_, rfl⟩
    rw [← hwx] at HX ⊢
    have d0 := (HX.blk 1 rfl).cell 0 rfl
    have d1 := (HX.blk 1 rfl).cell 1 rfl
    have d2 := (HX.blk 1 rfl).cell 2 rfl
    have d3 := (HX.blk 1 rfl).cell 3 rfl
    refine bodyPost_ret (v := .agg #[.int .i64 (v - 128), .int .i64 ((y * 65536 + x) / 1024), .int .i64 ((y * 65536 + x) % 1024), .bool false]) ?_ rfl ⟨rfl, HR0.out.to HX.frm (HX.blk 0 rfl) (by omega), HX.frm⟩
    simp [results, Try.results35, go_sem, d0, d1, d2, d3]

set_option maxRecDepth 100000 in
set_option maxHeartbeats 4000000 in
theorem readHead_err {w : World} {g : Nat} {a : Option Addr} {c : Nat} {zs : List Int} {at_ : Nat} (hR : Rdr w g a c zs at_) {e : Int} (ho : hdOne zs at_ = .error e) :
    Calls Try.prog 35 #[.pointer (some ⟨g, 0, none⟩)] w fun x w' => x = .panicked (faultV e) ∧ Frm [g] w w' := by
  unfold hdOne at ho
  split at ho
  · rename_i hl
    injection ho with ho
    subst ho
    have HC := Lib.hid (fun W (hf : Frm [] w W) => byte_short (hR.frm hf) (by omega))
    clear hR
    go_enter Try.func35, Try.ntmps35
    go_wp2_with fail
    refine (HC.out _ ((Frm.refl _ _).alloc _)).mono ?_
    rintro x w1 ⟨rfl, hF⟩
    exact ⟨rfl, by simp, (((Frm.refl _ _).alloc _).trans hF).more⟩
  rename_i hl1
  have HC := Lib.hid (fun W (hf : Frm [] w W) => byte_ok (hR.frm hf) (by omega))
  have hb := bigN_lt (hR.byt.cut at_ 1)
  rw [cut_len (by omega)] at hb
  obtain ⟨v, hv⟩ : ∃ v, v = bigN (cut zs at_ 1) := ⟨_, rfl⟩
  rw [← hv] at hb HC ho
  have hb2 : v < 256 := by simpa using hb.2
  have e1 := and128_i hb.1 hb2
  split at ho
  · cases ho
  rename_i hge
  split at ho
  · rename_i hl4
    injection ho with ho
    subst ho
    rw [if_neg hge] at e1
    have HBt := Lib.hid hR.byt
    clear hR hv hb
    by_cases h2 : zs.length < at_ + 1 + 1
    · go_enter Try.func35, Try.ntmps35
      go_wp2_with fail
      refine (HC.out _ ((Frm.refl _ _).alloc _)).mono ?_
      rintro x w1 ⟨rfl, hR, hF⟩
      have HC2 := Lib.hid (byte_short hR h2)
      have HF := Lib.hid ((((Frm.refl [] w).alloc (.cells #[.int .i64 0, .int .i64 0, .int .i64 0, .bool false] 78)).more (S := [g])).trans hF)
      clear hR hF HC h2
      go_wp2_with fail
      refine HC2.out.mono ?_
      rintro x w2 ⟨rfl, hF2⟩
      exact ⟨rfl, by simp, HF.out.trans hF2.more⟩
    · have y0 : 0 ≤ bigN (cut zs (at_ + 1) 1) ∧ bigN (cut zs (at_ + 1) 1) < 256 := by
        have h := bigN_lt (HBt.out.cut (at_ + 1) 1)
        rw [cut_len (by omega)] at h
        simpa using h
      obtain ⟨y, hy⟩ : ∃ y, y = bigN (cut zs (at_ + 1) 1) := ⟨_, rfl⟩
      rw [← hy] at y0
      obtain ⟨y00, y1⟩ := y0
      have e3 : IntKind.i64.wrap (y * 65536) = y * 65536 := wrapI64 (by omega) (by omega)
      have HY := Lib.hid hy
      have HLn := Lib.hid (And.intro h2 hl4)
      clear hy h2 hl4
      go_enter Try.func35, Try.ntmps35
      go_wp2_with fail
      refine (HC.out _ ((Frm.refl _ _).alloc _)).mono ?_
      rintro x w1 ⟨rfl, hR, hF⟩
      have hC2 := byte_ok hR (by have := HLn.out.1; omega)
      rw [← HY.out] at hC2
      have HC2 := Lib.hid hC2
      have HF := Lib.hid ((((Frm.refl [] w).alloc (.cells #[.int .i64 0, .int .i64 0, .int .i64 0, .bool false] 78)).more (S := [g])).trans hF)
      clear hR hF HC hC2
      go_wp2_with fail
      refine HC2.out.mono ?_
      rintro x w2 ⟨rfl, hR, hF⟩
      have HC3 := Lib.hid (word_short hR (by have := HLn.out; omega))
      have HF2 := Lib.hid (HF.out.trans hF)
      clear hR hF HC2
      go_wp2_with fail
      refine HC3.out.mono ?_
      rintro x w3 ⟨rfl, hF3⟩
      exact ⟨rfl, by simp, HF2.out.trans hF3.more⟩
  · cases ho

end Go.Proofs.Ytiknjkkphdncfaa
