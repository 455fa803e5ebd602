/-
  THE WALKS of confluxlaw03.parse and of the closures of the document's example.
-/
import Derived.Test.YtdkbibfgebfeaaaWiB
import Derived.Test.YtdkbibfgebfeaaaEaI
import Derived.Test.YtdkbibfgebfeaaaWtr
set_option linter.unusedVariables false
set_option linter.unusedSimpArgs false
namespace Go.Proofs.Ytdkbibfgebfeaaa
open Go.RowKit

theorem parse_c (a : Option Addr) (n c : Nat) (w : World) :
    Calls Try.prog 16 #[.slice a n c] w fun e w' => e = .returned (.func (.func 43) #[] #[.pointer (some ⟨w.heap.size, 0, none⟩)]) ∧ w' = w.alloc (.cells #[.slice a n c] 22) := by
  go_enter Try.func16, Try.ntmps16
  go_wp2_with fail
  go_ret
  exact ⟨rfl, rfl⟩

theorem callsF_parse : CallsF 43 := fun _ _ => rfl
theorem callsF_1 : CallsF 24 := fun _ _ => rfl
theorem callsF_2 : CallsF 27 := fun _ _ => rfl
theorem callsF_3 : CallsF 29 := fun _ _ => rfl
theorem callsF_4 : CallsF 31 := fun _ _ => rfl
theorem callsF_5 : CallsF 33 := fun _ _ => rfl
theorem callsF_6 : CallsF 34 := fun _ _ => rfl

/-- One byte. -/
def rdB (zs : List Int) : Except Int (Int × Nat) := if zs.length = 0 then .error 20 else .ok (bigN (cut zs 0 1), 1)

theorem Rdr.sep {W W' : World} {g : Nat} {a : Option Addr} {c : Nat} {zs : List Int} {m n : Nat} (h : Rdr W g a c zs m) (h' : Rdr W' g a c zs n) (hF : Frm [g] W W') : Sep [g] W W' [blkR g 85 #[.slice a zs.length c, .int .i64 (n : Int)]] :=
  (Sep.enter (r := blkR g 85 #[.slice a zs.length c, .int .i64 (m : Int)]) h.blk).call 0 rfl hF h'.blk
set_option maxHeartbeats 1000000 in
theorem b4_ok (w : World) (a : Option Addr) (c : Nat) (zs : List Int) (h0 : 0 < zs.length) :
    Reads 31 #[] w a c zs (fun v L n' => n' = 1 ∧ ∃ m : Int, m = bigN (cut zs 0 1) ∧ v = .int .i64 m ∧ L = []) := by
  intro W g hf hg hR
  have HR := Lib.hid hR
  have HC := Lib.hid (byte_ok hR (by omega))
  clear hf hg hR
  go_enter Try.func31, Try.ntmps31
  go_wp2_with fail
  refine HC.out.mono ?_
  rintro x w1 ⟨rfl, hR1, hF⟩
  have HS := Lib.hid (HR.out.sep hR1 hF)
  clear hR1 hF
  go_wp2_with fail
  go_ret
  exact ⟨_, [], 1, rfl, ⟨rfl, _, rfl, rfl, rfl⟩, h0, HS.out⟩
set_option maxHeartbeats 1000000 in
theorem b4_err (w : World) (a : Option Addr) (c : Nat) (zs : List Int) (h0 : zs.length = 0) :
    Ends 31 #[] w a c zs 20 := by
  intro W g hf hg hR
  have HC := Lib.hid (byte_short hR (by omega))
  clear hf hg hR h0
  go_enter Try.func31, Try.ntmps31
  go_wp2_with fail
  refine HC.out.mono ?_
  rintro x w1 ⟨rfl, hF⟩
  exact ⟨rfl, by simp, hF.more⟩
set_option maxHeartbeats 1000000 in
theorem b5_ok (w : World) (a : Option Addr) (c : Nat) (zs : List Int) (h0 : 0 < zs.length) :
    Reads 33 #[] w a c zs (fun v L n' => n' = 1 ∧ ∃ m : Int, m = bigN (cut zs 0 1) ∧ v = .int .i64 m ∧ L = []) := by
  intro W g hf hg hR
  have HR := Lib.hid hR
  have HC := Lib.hid (byte_ok hR (by omega))
  clear hf hg hR
  go_enter Try.func33, Try.ntmps33
  go_wp2_with fail
  refine HC.out.mono ?_
  rintro x w1 ⟨rfl, hR1, hF⟩
  have HS := Lib.hid (HR.out.sep hR1 hF)
  clear hR1 hF
  go_wp2_with fail
  go_ret
  exact ⟨_, [], 1, rfl, ⟨rfl, _, rfl, rfl, rfl⟩, h0, HS.out⟩
set_option maxHeartbeats 1000000 in
theorem b5_err (w : World) (a : Option Addr) (c : Nat) (zs : List Int) (h0 : zs.length = 0) :
    Ends 33 #[] w a c zs 20 := by
  intro W g hf hg hR
  have HC := Lib.hid (byte_short hR (by omega))
  clear hf hg hR h0
  go_enter Try.func33, Try.ntmps33
  go_wp2_with fail
  refine HC.out.mono ?_
  rintro x w1 ⟨rfl, hF⟩
  exact ⟨rfl, by simp, hF.more⟩
set_option maxHeartbeats 1000000 in
theorem b6_ok (w : World) (a : Option Addr) (c : Nat) (zs : List Int) (h0 : 0 < zs.length) :
    Reads 34 #[] w a c zs (fun v L n' => n' = 1 ∧ ∃ m : Int, m = bigN (cut zs 0 1) ∧ v = .int .i64 m ∧ L = []) := by
  intro W g hf hg hR
  have HR := Lib.hid hR
  have HC := Lib.hid (byte_ok hR (by omega))
  clear hf hg hR
  go_enter Try.func34, Try.ntmps34
  go_wp2_with fail
  refine HC.out.mono ?_
  rintro x w1 ⟨rfl, hR1, hF⟩
  have HS := Lib.hid (HR.out.sep hR1 hF)
  clear hR1 hF
  go_wp2_with fail
  go_ret
  exact ⟨_, [], 1, rfl, ⟨rfl, _, rfl, rfl, rfl⟩, h0, HS.out⟩
set_option maxHeartbeats 1000000 in
theorem b6_err (w : World) (a : Option Addr) (c : Nat) (zs : List Int) (h0 : zs.length = 0) :
    Ends 34 #[] w a c zs 20 := by
  intro W g hf hg hR
  have HC := Lib.hid (byte_short hR (by omega))
  clear hf hg hR h0
  go_enter Try.func34, Try.ntmps34
  go_wp2_with fail
  refine HC.out.mono ?_
  rintro x w1 ⟨rfl, hF⟩
  exact ⟨rfl, by simp, hF.more⟩

set_option maxHeartbeats 1000000 in
theorem c1_ok (w : World) (a : Option Addr) (c : Nat) :
    Reads 24 #[] w a c [1, 2, 3] (fun v L n' => n' = 3 ∧ v = .int .i64 258003 ∧ L = []) := by
  intro W g hf hg hR
  have HR := Lib.hid hR
  have HC := Lib.hid (word_ok hR (by simp))
  rw [show bigN (cut [1, 2, 3] 0 2) = 258 from rfl] at HC
  clear hf hg hR
  go_enter Try.func24, Try.ntmps24
  go_wp2_with fail
  refine HC.out.mono ?_
  rintro x w1 ⟨rfl, hR1, hF⟩
  have HR1 := Lib.hid hR1
  have HF1 := Lib.hid hF
  have HC1 := Lib.hid (byte_ok hR1 (by simp))
  rw [show bigN (cut [1, 2, 3] (0 + 2) 1) = 3 from rfl] at HC1
  clear hR1 hF HC
  go_wp2_with fail
  refine HC1.out.mono ?_
  rintro x w2 ⟨rfl, hR2, hF2⟩
  have HS := Lib.hid (HR.out.sep hR2 (HF1.out.trans hF2))
  clear hR2 hF2
  go_wp2_with fail
  go_ret
  exact ⟨_, [], 3, rfl, ⟨rfl, rfl, rfl⟩, by simp, HS.out⟩
set_option maxHeartbeats 1000000 in
theorem c2_err (w : World) (a : Option Addr) (c : Nat) :
    Ends 27 #[] w a c [1, 2, 3] 20 := by
  intro W g hf hg hR
  have HC := Lib.hid (long_short hR (by simp))
  clear hf hg hR
  go_enter Try.func27, Try.ntmps27
  go_wp2_with fail
  refine HC.out.mono ?_
  rintro x w1 ⟨rfl, hF⟩
  exact ⟨rfl, by simp, hF.more⟩
set_option maxHeartbeats 1000000 in
theorem c3_ok (w : World) (a : Option Addr) (c : Nat) :
    Reads 29 #[] w a c [1, 2, 3] (fun v L n' => n' = 2 ∧ v = .int .i64 258 ∧ L = []) := by
  intro W g hf hg hR
  have HR := Lib.hid hR
  have HC := Lib.hid (word_ok hR (by simp))
  rw [show bigN (cut [1, 2, 3] 0 2) = 258 from rfl] at HC
  clear hf hg hR
  go_enter Try.func29, Try.ntmps29
  go_wp2_with fail
  refine HC.out.mono ?_
  rintro x w1 ⟨rfl, hR1, hF⟩
  have HS := Lib.hid (HR.out.sep hR1 hF)
  clear hR1 hF HC
  go_wp2_with fail
  go_ret
  exact ⟨_, [], 2, rfl, ⟨rfl, rfl, rfl⟩, by simp, HS.out⟩

end Go.Proofs.Ytdkbibfgebfeaaa
