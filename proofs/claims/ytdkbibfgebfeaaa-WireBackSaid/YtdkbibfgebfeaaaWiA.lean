/-
  THE WALKS of confluxlaw03.one: what one step reads, or the error that ends it.
-/
import Derived.Test.YtdkbibfgebfeaaaRdr
import Derived.Test.YtdkbibfgebfeaaaSpm
set_option linter.unusedVariables false
set_option linter.unusedSimpArgs false
namespace Go.Proofs.Ytdkbibfgebfeaaa
open Go.RowKit

/-- What a step reads, in memory. -/
def OneOk (w : World) (g : Nat) (a : Option Addr) (c : Nat) (zs : List Int) (N : Int) (B : List Int) (m : Nat) (x : Ending) (w' : World) : Prop :=
  ∃ bv, x = .returned (.agg #[.int .u64 N, bv]) ∧ Rdr w' g a c zs m ∧ Sep [g] w w' [blkR g 85 #[.slice a zs.length c, .int .i64 ((m : Nat) : Int)], sumR bv B]

set_option maxRecDepth 100000 in
set_option maxHeartbeats 2000000 in
theorem one_byte_ok {w : World} {g : Nat} {a : Option Addr} {c : Nat} {zs : List Int} {at_ : Nat} (h : Rdr w g a c zs at_) (n : Int) (hs : at_ + 1 ≤ zs.length) :
    Calls Try.prog 44 #[.pointer (some ⟨g, 0, none⟩), .agg #[.int .i64 1, .int .i64 n]] w (OneOk w g a c zs (bigN (cut zs at_ 1)) [] (at_ + 1)) := by
  unfold OneOk
  have HC := Lib.hid (fun W (hf : Frm [] w W) => byte_ok (h.frm hf) hs)
  have HR0 := Lib.hid h
  have hle := h.le
  have hsm := h.sm
  have HS := Lib.hid (((((Sep.enter (r := blkR g 85 #[.slice a zs.length c, .int .i64 (at_ : Int)]) h.blk).alloc #[.int .i64 1, .int .i64 n] 57).swap2).alloc #[.int .u64 0, .slice none 0 0] 28).swap2)
  have hb := bigN_lt (h.byt.cut at_ 1)
  rw [cut_len hs] at hb
  obtain ⟨v, hv⟩ : ∃ v, v = bigN (cut zs at_ 1) := ⟨_, rfl⟩
  rw [← hv] at hb HC ⊢
  have e1 : IntKind.u64.wrap v = v := wrapU64 (by simp at hb; omega) (by simp at hb; omega)
  clear h hv hb
  go_enter Try.func44, Try.ntmps44
  go_wp2_with fail
  refine (HC.out _ (((Frm.refl _ _).alloc _).alloc _)).mono ?_
  rintro x w1 ⟨rfl, hR, hF⟩
  have HS1 := Lib.hid (HS.out.call 0 rfl hF hR.blk)
  clear hR hF HC HS
  have hb := HS1.out.blk 1 rfl
  simp only [World.size_alloc] at hb
  have f0 := hb.free 0
  have f1 := hb.free 1
  have c0 := hb.cell 0 rfl
  have c1 := hb.cell 1 rfl
  have hl := hb.lt
  clear hb
  go_wp2_with fail
  have HX := (HS1.out.put 1 rfl 0 (.int .u64 (v))).put 1 rfl 1 (.slice none 0 0)
  simp only [World.size_alloc] at HX
  obtain ⟨wx, hwx⟩ : ∃ wx, wx = (w1.setCell ⟨w.heap.size + 1, 0, none⟩ (.int .u64 (v))).setCell ⟨w.heap.size + 1, 1, none⟩ (.slice none 0 0) := ⟨_, rfl⟩
  rw [← hwx] at HX ⊢
  have d0 := (HX.blk 1 rfl).cell 0 rfl
  have d1 := (HX.blk 1 rfl).cell 1 rfl
  refine bodyPost_ret (v := .agg #[.int .u64 (v), .slice none 0 0]) ?_ rfl ⟨_, rfl, HR0.out.to HX.frm (HX.blk 0 rfl) (by omega), ((HX.only 0 rfl).nil 5 1).swap2⟩
  simp [results, Try.results44, go_sem, d0, d1]

set_option maxRecDepth 100000 in
set_option maxHeartbeats 2000000 in
theorem one_byte_short {w : World} {g : Nat} {a : Option Addr} {c : Nat} {zs : List Int} {at_ : Nat} (h : Rdr w g a c zs at_) (n : Int) (hs : zs.length < at_ + 1) :
    Calls Try.prog 44 #[.pointer (some ⟨g, 0, none⟩), .agg #[.int .i64 1, .int .i64 n]] w fun x w' => x = .panicked (faultV 20) ∧ Frm [g] w w' := by
  have HC := Lib.hid (fun W (hf : Frm [] w W) => byte_short (h.frm hf) hs)
  clear h
  go_enter Try.func44, Try.ntmps44
  go_wp2_with fail
  refine (HC.out _ (((Frm.refl _ _).alloc _).alloc _)).mono ?_
  rintro x w1 ⟨rfl, hF⟩
  exact ⟨rfl, by simp, ((((Frm.refl _ _).alloc _).alloc _).trans hF).more⟩

set_option maxRecDepth 100000 in
set_option maxHeartbeats 2000000 in
theorem one_word_ok {w : World} {g : Nat} {a : Option Addr} {c : Nat} {zs : List Int} {at_ : Nat} (h : Rdr w g a c zs at_) (n : Int) (hs : at_ + 2 ≤ zs.length) :
    Calls Try.prog 44 #[.pointer (some ⟨g, 0, none⟩), .agg #[.int .i64 2, .int .i64 n]] w (OneOk w g a c zs (bigN (cut zs at_ 2)) [] (at_ + 2)) := by
  unfold OneOk
  have HC := Lib.hid (fun W (hf : Frm [] w W) => word_ok (h.frm hf) hs)
  have HR0 := Lib.hid h
  have hle := h.le
  have hsm := h.sm
  have HS := Lib.hid (((((Sep.enter (r := blkR g 85 #[.slice a zs.length c, .int .i64 (at_ : Int)]) h.blk).alloc #[.int .i64 2, .int .i64 n] 57).swap2).alloc #[.int .u64 0, .slice none 0 0] 28).swap2)
  have hb := bigN_lt (h.byt.cut at_ 2)
  rw [cut_len hs] at hb
  obtain ⟨v, hv⟩ : ∃ v, v = bigN (cut zs at_ 2) := ⟨_, rfl⟩
  rw [← hv] at hb HC ⊢
  have e1 : IntKind.u64.wrap v = v := wrapU64 (by simp at hb; omega) (by simp at hb; omega)
  clear h hv hb
  go_enter Try.func44, Try.ntmps44
  go_wp2_with fail
  refine (HC.out _ (((Frm.refl _ _).alloc _).alloc _)).mono ?_
  rintro x w1 ⟨rfl, hR, hF⟩
  have HS1 := Lib.hid (HS.out.call 0 rfl hF hR.blk)
  clear hR hF HC HS
  have hb := HS1.out.blk 1 rfl
  simp only [World.size_alloc] at hb
  have f0 := hb.free 0
  have f1 := hb.free 1
  have c0 := hb.cell 0 rfl
  have c1 := hb.cell 1 rfl
  have hl := hb.lt
  clear hb
  go_wp2_with fail
  have HX := (HS1.out.put 1 rfl 0 (.int .u64 (v))).put 1 rfl 1 (.slice none 0 0)
  simp only [World.size_alloc] at HX
  obtain ⟨wx, hwx⟩ : ∃ wx, wx = (w1.setCell ⟨w.heap.size + 1, 0, none⟩ (.int .u64 (v))).setCell ⟨w.heap.size + 1, 1, none⟩ (.slice none 0 0) := ⟨_, rfl⟩
  rw [← hwx] at HX ⊢
  have d0 := (HX.blk 1 rfl).cell 0 rfl
  have d1 := (HX.blk 1 rfl).cell 1 rfl
  refine bodyPost_ret (v := .agg #[.int .u64 (v), .slice none 0 0]) ?_ rfl ⟨_, rfl, HR0.out.to HX.frm (HX.blk 0 rfl) (by omega), ((HX.only 0 rfl).nil 5 1).swap2⟩
  simp [results, Try.results44, go_sem, d0, d1]

set_option maxRecDepth 100000 in
set_option maxHeartbeats 2000000 in
theorem one_word_short {w : World} {g : Nat} {a : Option Addr} {c : Nat} {zs : List Int} {at_ : Nat} (h : Rdr w g a c zs at_) (n : Int) (hs : zs.length < at_ + 2) :
    Calls Try.prog 44 #[.pointer (some ⟨g, 0, none⟩), .agg #[.int .i64 2, .int .i64 n]] w fun x w' => x = .panicked (faultV 20) ∧ Frm [g] w w' := by
  have HC := Lib.hid (fun W (hf : Frm [] w W) => word_short (h.frm hf) hs)
  clear h
  go_enter Try.func44, Try.ntmps44
  go_wp2_with fail
  refine (HC.out _ (((Frm.refl _ _).alloc _).alloc _)).mono ?_
  rintro x w1 ⟨rfl, hF⟩
  exact ⟨rfl, by simp, ((((Frm.refl _ _).alloc _).alloc _).trans hF).more⟩

set_option maxRecDepth 100000 in
set_option maxHeartbeats 2000000 in
theorem one_long_ok {w : World} {g : Nat} {a : Option Addr} {c : Nat} {zs : List Int} {at_ : Nat} (h : Rdr w g a c zs at_) (n : Int) (hs : at_ + 4 ≤ zs.length) :
    Calls Try.prog 44 #[.pointer (some ⟨g, 0, none⟩), .agg #[.int .i64 4, .int .i64 n]] w (OneOk w g a c zs (bigN (cut zs at_ 4)) [] (at_ + 4)) := by
  unfold OneOk
  have HC := Lib.hid (fun W (hf : Frm [] w W) => long_ok (h.frm hf) hs)
  have HR0 := Lib.hid h
  have hle := h.le
  have hsm := h.sm
  have HS := Lib.hid (((((Sep.enter (r := blkR g 85 #[.slice a zs.length c, .int .i64 (at_ : Int)]) h.blk).alloc #[.int .i64 4, .int .i64 n] 57).swap2).alloc #[.int .u64 0, .slice none 0 0] 28).swap2)
  have hb := bigN_lt (h.byt.cut at_ 4)
  rw [cut_len hs] at hb
  obtain ⟨v, hv⟩ : ∃ v, v = bigN (cut zs at_ 4) := ⟨_, rfl⟩
  rw [← hv] at hb HC ⊢
  have e1 : IntKind.u64.wrap v = v := wrapU64 (by simp at hb; omega) (by simp at hb; omega)
  clear h hv hb
  go_enter Try.func44, Try.ntmps44
  go_wp2_with fail
  refine (HC.out _ (((Frm.refl _ _).alloc _).alloc _)).mono ?_
  rintro x w1 ⟨rfl, hR, hF⟩
  have HS1 := Lib.hid (HS.out.call 0 rfl hF hR.blk)
  clear hR hF HC HS
  have hb := HS1.out.blk 1 rfl
  simp only [World.size_alloc] at hb
  have f0 := hb.free 0
  have f1 := hb.free 1
  have c0 := hb.cell 0 rfl
  have c1 := hb.cell 1 rfl
  have hl := hb.lt
  clear hb
  go_wp2_with fail
  have HX := (HS1.out.put 1 rfl 0 (.int .u64 (v))).put 1 rfl 1 (.slice none 0 0)
  simp only [World.size_alloc] at HX
  obtain ⟨wx, hwx⟩ : ∃ wx, wx = (w1.setCell ⟨w.heap.size + 1, 0, none⟩ (.int .u64 (v))).setCell ⟨w.heap.size + 1, 1, none⟩ (.slice none 0 0) := ⟨_, rfl⟩
  rw [← hwx] at HX ⊢
  have d0 := (HX.blk 1 rfl).cell 0 rfl
  have d1 := (HX.blk 1 rfl).cell 1 rfl
  refine bodyPost_ret (v := .agg #[.int .u64 (v), .slice none 0 0]) ?_ rfl ⟨_, rfl, HR0.out.to HX.frm (HX.blk 0 rfl) (by omega), ((HX.only 0 rfl).nil 5 1).swap2⟩
  simp [results, Try.results44, go_sem, d0, d1]

set_option maxRecDepth 100000 in
set_option maxHeartbeats 2000000 in
theorem one_long_short {w : World} {g : Nat} {a : Option Addr} {c : Nat} {zs : List Int} {at_ : Nat} (h : Rdr w g a c zs at_) (n : Int) (hs : zs.length < at_ + 4) :
    Calls Try.prog 44 #[.pointer (some ⟨g, 0, none⟩), .agg #[.int .i64 4, .int .i64 n]] w fun x w' => x = .panicked (faultV 20) ∧ Frm [g] w w' := by
  have HC := Lib.hid (fun W (hf : Frm [] w W) => long_short (h.frm hf) hs)
  clear h
  go_enter Try.func44, Try.ntmps44
  go_wp2_with fail
  refine (HC.out _ (((Frm.refl _ _).alloc _).alloc _)).mono ?_
  rintro x w1 ⟨rfl, hF⟩
  exact ⟨rfl, by simp, ((((Frm.refl _ _).alloc _).alloc _).trans hF).more⟩

set_option maxRecDepth 100000 in
set_option maxHeartbeats 2000000 in
theorem one_wide_ok {w : World} {g : Nat} {a : Option Addr} {c : Nat} {zs : List Int} {at_ : Nat} (h : Rdr w g a c zs at_) (n : Int) (hs : at_ + 8 ≤ zs.length) :
    Calls Try.prog 44 #[.pointer (some ⟨g, 0, none⟩), .agg #[.int .i64 8, .int .i64 n]] w (OneOk w g a c zs (bigN (cut zs at_ 8)) [] (at_ + 8)) := by
  unfold OneOk
  have HC := Lib.hid (fun W (hf : Frm [] w W) => wide_ok (h.frm hf) hs)
  have HR0 := Lib.hid h
  have hle := h.le
  have hsm := h.sm
  have HS := Lib.hid (((((Sep.enter (r := blkR g 85 #[.slice a zs.length c, .int .i64 (at_ : Int)]) h.blk).alloc #[.int .i64 8, .int .i64 n] 57).swap2).alloc #[.int .u64 0, .slice none 0 0] 28).swap2)
  have hb := bigN_lt (h.byt.cut at_ 8)
  rw [cut_len hs] at hb
  obtain ⟨v, hv⟩ : ∃ v, v = bigN (cut zs at_ 8) := ⟨_, rfl⟩
  rw [← hv] at hb HC ⊢
  have e1 : IntKind.u64.wrap v = v := wrapU64 (by simp at hb; omega) (by simp at hb; omega)
  clear h hv hb
  go_enter Try.func44, Try.ntmps44
  go_wp2_with fail
  refine (HC.out _ (((Frm.refl _ _).alloc _).alloc _)).mono ?_
  rintro x w1 ⟨rfl, hR, hF⟩
  have HS1 := Lib.hid (HS.out.call 0 rfl hF hR.blk)
  clear hR hF HC HS
  have hb := HS1.out.blk 1 rfl
  simp only [World.size_alloc] at hb
  have f0 := hb.free 0
  have f1 := hb.free 1
  have c0 := hb.cell 0 rfl
  have c1 := hb.cell 1 rfl
  have hl := hb.lt
  clear hb
  go_wp2_with fail
  have HX := (HS1.out.put 1 rfl 0 (.int .u64 (v))).put 1 rfl 1 (.slice none 0 0)
  simp only [World.size_alloc] at HX
  obtain ⟨wx, hwx⟩ : ∃ wx, wx = (w1.setCell ⟨w.heap.size + 1, 0, none⟩ (.int .u64 (v))).setCell ⟨w.heap.size + 1, 1, none⟩ (.slice none 0 0) := ⟨_, rfl⟩
  rw [← hwx] at HX ⊢
  have d0 := (HX.blk 1 rfl).cell 0 rfl
  have d1 := (HX.blk 1 rfl).cell 1 rfl
  refine bodyPost_ret (v := .agg #[.int .u64 (v), .slice none 0 0]) ?_ rfl ⟨_, rfl, HR0.out.to HX.frm (HX.blk 0 rfl) (by omega), ((HX.only 0 rfl).nil 5 1).swap2⟩
  simp [results, Try.results44, go_sem, d0, d1]

set_option maxRecDepth 100000 in
set_option maxHeartbeats 2000000 in
theorem one_wide_short {w : World} {g : Nat} {a : Option Addr} {c : Nat} {zs : List Int} {at_ : Nat} (h : Rdr w g a c zs at_) (n : Int) (hs : zs.length < at_ + 8) :
    Calls Try.prog 44 #[.pointer (some ⟨g, 0, none⟩), .agg #[.int .i64 8, .int .i64 n]] w fun x w' => x = .panicked (faultV 20) ∧ Frm [g] w w' := by
  have HC := Lib.hid (fun W (hf : Frm [] w W) => wide_short (h.frm hf) hs)
  clear h
  go_enter Try.func44, Try.ntmps44
  go_wp2_with fail
  refine (HC.out _ (((Frm.refl _ _).alloc _).alloc _)).mono ?_
  rintro x w1 ⟨rfl, hF⟩
  exact ⟨rfl, by simp, ((((Frm.refl _ _).alloc _).alloc _).trans hF).more⟩

set_option maxRecDepth 100000 in
set_option maxHeartbeats 2000000 in
theorem one_take_ok {w : World} {g : Nat} {a : Option Addr} {c : Nat} {zs : List Int} {at_ : Nat} (h : Rdr w g a c zs at_) (n : Int) (m : Nat) (hm : n.toNat = m) (hs : at_ + m ≤ zs.length) :
    Calls Try.prog 44 #[.pointer (some ⟨g, 0, none⟩), .agg #[.int .i64 0, .int .i64 n]] w (OneOk w g a c zs 0 (cut zs at_ m) (at_ + m)) := by
  unfold OneOk
  have HC := Lib.hid (fun W (hf : Frm [] w W) => take_ok (h.frm hf) n m hm hs)
  have HR0 := Lib.hid h
  have hle := h.le
  have hsm := h.sm
  have HS := Lib.hid (((((Sep.enter (r := blkR g 85 #[.slice a zs.length c, .int .i64 (at_ : Int)]) h.blk).alloc #[.int .i64 0, .int .i64 n] 57).swap2).alloc #[.int .u64 0, .slice none 0 0] 28).swap2)
  clear h hm
  go_enter Try.func44, Try.ntmps44
  go_wp2_with fail
  refine (HC.out _ (((Frm.refl _ _).alloc _).alloc _)).mono ?_
  rintro x w1 ⟨v1, rfl, hR, hS⟩
  have HS1 := Lib.hid (HS.out.callMany hS (by simp [blkR]))
  obtain ⟨a1, p1, rfl, _, _⟩ := RdI.of_own (hS.own 1 rfl)
  obtain ⟨q1, hq1⟩ : ∃ q1, q1 = (cut zs at_ m).length := ⟨_, rfl⟩
  rw [← hq1] at HS1 ⊢
  clear hR hS HC HS hq1
  have hb := HS1.out.blk 2 rfl
  simp only [World.size_alloc] at hb
  have f0 := hb.free 0
  have f1 := hb.free 1
  have c0 := hb.cell 0 rfl
  have c1 := hb.cell 1 rfl
  have hl := hb.lt
  clear hb
  go_wp2_with fail
  have HX := (HS1.out.put 2 rfl 0 (.int .u64 0)).put 2 rfl 1 (.slice a1 q1 p1)
  simp only [World.size_alloc] at HX
  obtain ⟨wx, hwx⟩ : ∃ wx, wx = (w1.setCell ⟨w.heap.size + 1, 0, none⟩ (.int .u64 0)).setCell ⟨w.heap.size + 1, 1, none⟩ (.slice a1 q1 p1) := ⟨_, rfl⟩
  rw [← hwx] at HX ⊢
  have d0 := (HX.blk 2 rfl).cell 0 rfl
  have d1 := (HX.blk 2 rfl).cell 1 rfl
  refine bodyPost_ret (v := .agg #[.int .u64 0, .slice a1 q1 p1]) ?_ rfl ⟨_, rfl, HR0.out.to HX.frm (HX.blk 0 rfl) (by omega), HX.sub (List.sublist_append_left [_, _] [_, _])⟩
  simp [results, Try.results44, go_sem, d0, d1]

set_option maxRecDepth 100000 in
set_option maxHeartbeats 2000000 in
theorem one_rest_ok {w : World} {g : Nat} {a : Option Addr} {c : Nat} {zs : List Int} {at_ : Nat} (h : Rdr w g a c zs at_) (n : Int) :
    Calls Try.prog 44 #[.pointer (some ⟨g, 0, none⟩), .agg #[.int .i64 (-1), .int .i64 n]] w (OneOk w g a c zs 0 (zs.drop at_) (zs.length)) := by
  unfold OneOk
  have HC := Lib.hid (fun W (hf : Frm [] w W) => rest_ok (h.frm hf))
  have HR0 := Lib.hid h
  have hle := h.le
  have hsm := h.sm
  have HS := Lib.hid (((((Sep.enter (r := blkR g 85 #[.slice a zs.length c, .int .i64 (at_ : Int)]) h.blk).alloc #[.int .i64 (-1), .int .i64 n] 57).swap2).alloc #[.int .u64 0, .slice none 0 0] 28).swap2)
  clear h
  go_enter Try.func44, Try.ntmps44
  go_wp2_with fail
  refine (HC.out _ (((Frm.refl _ _).alloc _).alloc _)).mono ?_
  rintro x w1 ⟨v1, rfl, hR, hS⟩
  have HS1 := Lib.hid (HS.out.callMany hS (by simp [blkR]))
  obtain ⟨a1, p1, rfl, _, _⟩ := RdI.of_own (hS.own 1 rfl)
  obtain ⟨q1, hq1⟩ : ∃ q1, q1 = (zs.drop at_).length := ⟨_, rfl⟩
  rw [← hq1] at HS1 ⊢
  clear hR hS HC HS hq1
  have hb := HS1.out.blk 2 rfl
  simp only [World.size_alloc] at hb
  have f0 := hb.free 0
  have f1 := hb.free 1
  have c0 := hb.cell 0 rfl
  have c1 := hb.cell 1 rfl
  have hl := hb.lt
  clear hb
  go_wp2_with fail
  have HX := (HS1.out.put 2 rfl 0 (.int .u64 0)).put 2 rfl 1 (.slice a1 q1 p1)
  simp only [World.size_alloc] at HX
  obtain ⟨wx, hwx⟩ : ∃ wx, wx = (w1.setCell ⟨w.heap.size + 1, 0, none⟩ (.int .u64 0)).setCell ⟨w.heap.size + 1, 1, none⟩ (.slice a1 q1 p1) := ⟨_, rfl⟩
  rw [← hwx] at HX ⊢
  have d0 := (HX.blk 2 rfl).cell 0 rfl
  have d1 := (HX.blk 2 rfl).cell 1 rfl
  refine bodyPost_ret (v := .agg #[.int .u64 0, .slice a1 q1 p1]) ?_ rfl ⟨_, rfl, HR0.out.to HX.frm (HX.blk 0 rfl) (by omega), HX.sub (List.sublist_append_left [_, _] [_, _])⟩
  simp [results, Try.results44, go_sem, d0, d1]

set_option maxRecDepth 100000 in
set_option maxHeartbeats 2000000 in
theorem one_take_short {w : World} {g : Nat} {a : Option Addr} {c : Nat} {zs : List Int} {at_ : Nat} (h : Rdr w g a c zs at_) (n : Int) (hs : zs.length < at_ + n.toNat) :
    Calls Try.prog 44 #[.pointer (some ⟨g, 0, none⟩), .agg #[.int .i64 0, .int .i64 n]] w fun x w' => x = .panicked (faultV 20) ∧ Frm [g] w w' := by
  have HC := Lib.hid (fun W (hf : Frm [] w W) => take_short (h.frm hf) n hs)
  clear h
  go_enter Try.func44, Try.ntmps44
  go_wp2_with fail
  refine (HC.out _ (((Frm.refl _ _).alloc _).alloc _)).mono ?_
  rintro x w1 ⟨rfl, hF⟩
  exact ⟨rfl, by simp, ((((Frm.refl _ _).alloc _).alloc _).trans hF).more⟩

set_option maxRecDepth 100000 in
set_option maxHeartbeats 2000000 in
theorem one_fail {w : World} {g : Nat} {a : Option Addr} {c : Nat} {zs : List Int} {at_ : Nat} (h : Rdr w g a c zs at_) (n : Int) :
    Calls Try.prog 44 #[.pointer (some ⟨g, 0, none⟩), .agg #[.int .i64 (-2), .int .i64 n]] w fun x w' => x = .panicked (faultV (if n = 0 then 21 else n)) ∧ Frm [g] w w' := by
  clear h
  go_enter Try.func44, Try.ntmps44
  go_wp2_with fail
  refine (fail_c _ _ _).mono ?_
  rintro x w1 ⟨rfl, rfl⟩
  exact ⟨rfl, by simp, (((Frm.refl _ _).alloc _).alloc _).more⟩

set_option maxRecDepth 100000 in
set_option maxHeartbeats 2000000 in
theorem one_left_ok {w : World} {g : Nat} {a : Option Addr} {c : Nat} {zs : List Int} {at_ : Nat} (h : Rdr w g a c zs at_) (n : Int) (k : Int) (k1 : (k == 1) = false) (k2 : (k == 2) = false) (k4 : (k == 4) = false) (k8 : (k == 8) = false) (k0 : (k == 0) = false) (km : (k == -1) = false) (kf : (k == -2) = false) :
    Calls Try.prog 44 #[.pointer (some ⟨g, 0, none⟩), .agg #[.int .i64 k, .int .i64 n]] w (OneOk w g a c zs ((zs.length - at_ : Nat) : Int) [] at_) := by
  unfold OneOk
  have HC := Lib.hid (fun W (hf : Frm [] w W) => (left_c (h.frm hf)).mono (R' := fun x w' => x = .returned (.int .i64 ((zs.length - at_ : Nat) : Int)) ∧ Frm [] W w') fun _ _ ⟨h1, m, h2⟩ => ⟨h1, h2 ▸ (Frm.refl _ _).drewN m⟩)
  have HR0 := Lib.hid h
  have hle := h.le
  have hsm := h.sm
  have HS := Lib.hid (((((Sep.enter (r := blkR g 85 #[.slice a zs.length c, .int .i64 (at_ : Int)]) h.blk).alloc #[.int .i64 k, .int .i64 n] 57).swap2).alloc #[.int .u64 0, .slice none 0 0] 28).swap2)
  obtain ⟨v, hv⟩ : ∃ v : Int, v = ((zs.length - at_ : Nat) : Int) := ⟨_, rfl⟩
  rw [← hv] at HC ⊢
  have e1 : IntKind.u64.wrap v = v := wrapU64 (by omega) (by omega)
  clear h hv
  go_enter Try.func44, Try.ntmps44
  go_wp2_with fail
  refine (HC.out _ (((Frm.refl _ _).alloc _).alloc _)).mono ?_
  rintro x w1 ⟨rfl, hF⟩
  have HS1 := Lib.hid (HS.out.keep hF)
  clear hF HC HS
  have hb := HS1.out.blk 1 rfl
  simp only [World.size_alloc] at hb
  have f0 := hb.free 0
  have f1 := hb.free 1
  have c0 := hb.cell 0 rfl
  have c1 := hb.cell 1 rfl
  have hl := hb.lt
  clear hb
  go_wp2_with fail
  have HX := (HS1.out.put 1 rfl 0 (.int .u64 (v))).put 1 rfl 1 (.slice none 0 0)
  simp only [World.size_alloc] at HX
  obtain ⟨wx, hwx⟩ : ∃ wx, wx = (w1.setCell ⟨w.heap.size + 1, 0, none⟩ (.int .u64 (v))).setCell ⟨w.heap.size + 1, 1, none⟩ (.slice none 0 0) := ⟨_, rfl⟩
  rw [← hwx] at HX ⊢
  have d0 := (HX.blk 1 rfl).cell 0 rfl
  have d1 := (HX.blk 1 rfl).cell 1 rfl
  refine bodyPost_ret (v := .agg #[.int .u64 (v), .slice none 0 0]) ?_ rfl ⟨_, rfl, HR0.out.to HX.frm (HX.blk 0 rfl) (by omega), ((HX.only 0 rfl).nil 5 1).swap2⟩
  simp [results, Try.results44, go_sem, d0, d1]

theorem one_ok {w : World} {g : Nat} {a : Option Addr} {c : Nat} {zs : List Int} {at_ : Nat} (h : Rdr w g a c zs at_) (s : Stp) (N : Gt) (m : Nat) (ho : oneL zs at_ s = .ok (N, m)) :
    Calls Try.prog 44 #[.pointer (some ⟨g, 0, none⟩), .agg #[.int .i64 s.k, .int .i64 s.n]] w (OneOk w g a c zs N.N N.B m) := by
  obtain ⟨k, n⟩ := s
  unfold oneL at ho
  simp only at ho ⊢
  split at ho
  · rename_i hk
    split at ho
    · cases ho
    · rename_i hs
      injection ho with ho; injection ho with h1 h2
      subst h1 h2
      simp only [numK, decide_eq_true_eq] at hk
      rcases hk with rfl | rfl | rfl | rfl
      · exact one_byte_ok h n (by simp at hs; omega)
      · exact one_word_ok h n (by simp at hs; omega)
      · exact one_long_ok h n (by simp at hs; omega)
      · exact one_wide_ok h n (by simp at hs; omega)
  · rename_i hk
    split at ho
    · rename_i h0
      subst h0
      split at ho
      · cases ho
      · rename_i hs
        injection ho with ho; injection ho with h1 h2
        subst h1 h2
        exact one_take_ok h n _ rfl (by omega)
    · rename_i h0
      split at ho
      · rename_i h1
        subst h1
        injection ho with ho; injection ho with h1 h2
        subst h1 h2
        exact one_rest_ok h n
      · rename_i hm1
        split at ho
        · cases ho
        · rename_i hm2
          injection ho with ho; injection ho with h1 h2
          subst h1 h2
          simp only [numK, decide_eq_true_eq, not_or] at hk
          exact one_left_ok h n k (by simp; omega) (by simp; omega) (by simp; omega) (by simp; omega) (by simp; omega) (by simp; omega) (by simp; omega)
theorem one_err {w : World} {g : Nat} {a : Option Addr} {c : Nat} {zs : List Int} {at_ : Nat} (h : Rdr w g a c zs at_) (s : Stp) (e : Int) (ho : oneL zs at_ s = .error e) :
    Calls Try.prog 44 #[.pointer (some ⟨g, 0, none⟩), .agg #[.int .i64 s.k, .int .i64 s.n]] w fun x w' => x = .panicked (faultV e) ∧ Frm [g] w w' := by
  obtain ⟨k, n⟩ := s
  unfold oneL at ho
  simp only at ho ⊢
  split at ho
  · rename_i hk
    split at ho
    · rename_i hs
      injection ho with ho
      subst ho
      simp only [numK, decide_eq_true_eq] at hk
      rcases hk with rfl | rfl | rfl | rfl
      · exact one_byte_short h n (by simp at hs; omega)
      · exact one_word_short h n (by simp at hs; omega)
      · exact one_long_short h n (by simp at hs; omega)
      · exact one_wide_short h n (by simp at hs; omega)
    · cases ho
  · split at ho
    · rename_i h0
      subst h0
      split at ho
      · rename_i hs
        injection ho with ho
        subst ho
        exact one_take_short h n hs
      · cases ho
    · split at ho
      · cases ho
      · split at ho
        · rename_i h2
          subst h2
          injection ho with ho
          subst ho
          exact one_fail h n
        · cases ho

end Go.Proofs.Ytdkbibfgebfeaaa
