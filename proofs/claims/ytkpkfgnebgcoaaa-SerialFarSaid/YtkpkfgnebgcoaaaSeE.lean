/-
  THE WALK of the law SerialFar.
-/
import Derived.Test.YtkpkfgnebgcoaaaSeC
set_option linter.unusedVariables false
set_option linter.unusedSimpArgs false
namespace Go.Proofs.Ytkpkfgnebgcoaaa
open Go.RowKit

theorem far_out (f H s : Int) (f0 : 0 ≤ f) (f1 : f ≤ 65535) (h0 : 0 ≤ H) (s0 : -32767 ≤ s) (s1 : s ≤ 32767) : wOut (4294967296 + f + H) (add16 f (H + s)) = 4294967296 + f + (H + s) := by
  unfold wOut ah16 add16
  rw [if_neg (by omega)]
  omega
theorem far_hi (f H s : Int) (f0 : 0 ≤ f) (f1 : f ≤ 65535) (h0 : 0 ≤ H) (s0 : -32767 ≤ s) (s1 : s ≤ 32767) : wHi (4294967296 + f + H) (add16 f (H + s)) = 4294967296 + f + max H (H + s) := by
  unfold wHi
  rw [far_out f H s f0 f1 h0 s0 s1]
  split <;> omega
theorem i16_wf {a : Int} (h : (Lit.int .i16 a).wf = true) : -32768 ≤ a ∧ a ≤ 32767 := by simpa [Lit.wf, IntKind.min, IntKind.max, IntKind.bits, IntKind.signed] using h

set_option maxRecDepth 100000 in
set_option maxHeartbeats 8000000 in
theorem serialFar_w (w : World) (f : Int) (wff : (Lit.int .u16 f).wf = true) (a : Option Addr) (cap : Nat) (ss : List Int) (lc : ss.length ≤ cap) (mc : cap ≤ maxLen) (rd : RdI .i16 w a ss) (ws : ∀ x ∈ ss, (Lit.int .i16 x).wf = true) :
    Calls Try.prog 7 #[.int .u16 f, .slice a ss.length cap] w fun e w' => e = .returned (.bool true) ∧ Below w.heap.size w w' := by
  unfold maxLen at mc
  obtain ⟨f0, f1⟩ := u16_wf wff
  have HR := Lib.hid rd
  have HW := Lib.hid (fun x (hx : x ∈ ss) => i16_wf (ws x hx))
  clear wff rd ws
  by_cases hbig : 100 < ss.length
  · go_enter Try.func7, Try.ntmps7
    go_wp2_with fail
    refine (alive_c _).mono ?_
    rintro e w1 ⟨rfl, hf⟩
    have HF := Lib.hid hf
    clear hf
    go_wp2_with fail
    go_ret
    exact ⟨rfl, HF.out.below⟩
  · have hl : ss.length ≤ 100 := by omega
    clear hbig
    go_enter Try.func7, Try.ntmps7
    go_wp2_with fail
    refine (alive_c _).mono ?_
    rintro e w1 ⟨rfl, hf⟩
    have HS := Lib.hid (((Sep.init w).keep hf).alloc #[wHead (-1), wFlag (-1)] 34)
    clear hf
    go_wp2_with fail
    refine (of_c w1.heap.size 34 _ (-1) f 0 _ (HS.out.blk 0 rfl) rfl rfl (WIn.start 0) (by decide) f0 f1).mono ?_
    rintro e w2 ⟨rfl, hb, hfr⟩
    have o1 : wOut (-1) f = 4294967296 + f := by unfold wOut; rw [if_pos (by decide)]
    have o2 : wHi (-1) f = 4294967296 + f + 0 := by unfold wHi; rw [o1, if_pos (by omega)]; omega
    rw [o1]
    rw [o2] at hb
    have hb2 : Blk w2 w1.heap.size 34 #[wHead (4294967296 + f + 0), wFlag (4294967296 + f + 0)] := hb
    have HS2 := Lib.hid (HS.out.call 0 rfl hfr hb2)
    clear hb hb2 hfr o1 o2
    go_wp2_with fail
    go_loopw [7, 21] (fun h i wr => ∃ (k : Nat) (H : Int), k ≤ ss.length ∧ i = .int .i64 k ∧ h = .int .i64 H ∧ 0 ≤ H ∧ H ≤ 32767 * k ∧ Sep [] w wr [blkR w1.heap.size 34 #[wHead (4294967296 + f + H), wFlag (4294967296 + f + H)]]) (fun _ i _ => ss.length - (intOf i).toNat)
    case atStart => exact ⟨0, 0, Nat.zero_le _, rfl, rfl, by decide, by decide, HS2.out⟩
    case round =>
      obtain ⟨k, H, hk, rfl, rfl, h0, h1, hS⟩ := hrel
      have HS3 := Lib.hid hS
      clear hS
      by_cases hlt : k < ss.length
      · obtain ⟨b, off, s, hs, rfl, hb, cs⟩ := (HR.out.below HS3.out.frm.below).at_ k hlt
        obtain ⟨s0, s1⟩ := HW.out s (List.mem_of_getElem? hs)
        have HSm := Lib.hid hs
        clear hs hb
        by_cases hs2 : s = -32768
        · have g1 : (s == -32768) = true := beq_iff_eq.2 hs2
          clear hs2
          go_wp2_with fail
          go_roundw
          case rel => exact ⟨k + 1, H, by omega, by go_num, rfl, h0, by omega, HS3.out⟩
          case measure => simp [intOf]; omega
        · have g1 : (s == -32768) = false := beq_eq_false_iff_ne.2 hs2
          have s2 : -32767 ≤ s := by omega
          have g2 : decide (H + s < -2147483648) = false := by simp; omega
          have e1 : IntKind.i64.wrap (H + s) = H + s := IntWalk.i64_in _ (by omega)
          have o1 := far_out f H s f0 f1 h0 s2 s1
          have o2 := far_hi f H s f0 f1 h0 s2 s1
          obtain ⟨A, hA⟩ : ∃ A, H + s = A := ⟨_, rfl⟩
          obtain ⟨n, hn⟩ : ∃ n, add16 f A = n := ⟨_, rfl⟩
          have nn : 0 ≤ n ∧ n ≤ 65535 := by rw [← hn]; unfold add16; omega
          obtain ⟨n0, n1⟩ := nn
          rw [hA, hn] at o1 o2
          have a0 : -32767 ≤ A := by omega
          have a1 : A ≤ 32767 * (k + 1) := by omega
          have hwin : WIn (4294967296 + f + H) (k + 1) := .inr ⟨by omega, by omega⟩
          have HA1 := Lib.hid (add_c f A)
          have HO1 := Lib.hid o1
          have HO2 := Lib.hid o2
          have HWn := Lib.hid hwin
          have HNe := Lib.hid hn
          rw [hA] at g2 e1
          have HAe := Lib.hid hA
          clear hs2 o1 o2 hwin hn
          go_wp2_with fail
          clear hA
          refine (HA1.out _ f0 f1).mono ?_
          rintro e w' ⟨rfl, rfl⟩
          rw [HNe.out]
          go_wp2_with fail
          refine (of_c w1.heap.size 34 _ (4294967296 + f + H) n (k + 1) _ (HS3.out.blk 0 rfl) rfl rfl HWn.out (by omega) n0 n1).mono ?_
          rintro e w3 ⟨rfl, hb, hfr⟩
          rw [HO1.out]
          rw [HO2.out] at hb
          have hb2 : Blk w3 w1.heap.size 34 #[wHead (4294967296 + f + max H A), wFlag (4294967296 + f + max H A)] := hb
          have HS4 := Lib.hid (HS3.out.call 0 rfl hfr hb2)
          clear hb hb2 hfr
          have e2 : IntKind.i64.wrap (4294967296 + f + A - (4294967296 + f)) = A := by rw [show 4294967296 + f + A - (4294967296 + f) = A from by omega]; exact IntWalk.i64_in _ (by omega)
          go_wp2_with fail
          all_goals
            clear e1 e2
            go_roundw
            case rel => exact ⟨k + 1, max H A, by omega, by go_num, by exact congrArg (Value.int .i64) (by omega), by omega, by omega, HS4.out⟩
            case measure => simp [intOf]; omega
      · have e3 : (4294967296 + f + H : Int) - (4294967296 + f) = H := by omega
        have e4 : IntKind.i64.wrap (4294967296 + f + H - (4294967296 + f)) = H := by rw [e3]; exact IntWalk.i64_in _ (by omega)
        have hwh : wHead (4294967296 + f + H) = .int .i64 (4294967296 + f + H) := by unfold wHead; rw [if_neg (by omega)]
        have HWh := Lib.hid hwh
        clear e3 hwh
        go_wp2_with fail
        refine (highest_c w1.heap.size 34 _ (4294967296 + f + H) _ (HS3.out.blk 0 rfl) rfl).mono ?_
        rintro e w' ⟨rfl, rfl⟩
        rw [HWh.out]
        go_wp2_with fail
        go_ret
        exact ⟨rfl, HS3.out.frm.below⟩

end Go.Proofs.Ytkpkfgnebgcoaaa
