/-
  THE WALK of the law SmoothRises.
-/
import Derived.Test.YtjjekkpncdmcbaaSmC
import Derived.Laws.Closers25b
set_option linter.unusedVariables false
set_option linter.unusedSimpArgs false
namespace Go.Proofs.Ytjjekkpncdmcbaa
open Go.RowKit

theorem feed_in (fine : Int) (k : Nat) (x : Int) (h0 : 0 ≤ fine) (h1 : fine ≤ 65280) : 0 ≤ feed fine k x ∧ feed fine k x ≤ 65280 := by
  have c0 := clamp_ge x
  have c1 := clamp_le x
  unfold feed
  split
  · omega
  · exact ⟨stepF_ge _ _ h0 (by omega), stepF_le _ _ h1 (by omega)⟩
theorem rises_step (f g : Int) (k : Nat) (x y : Int) (h : f ≤ g) (hxy : clamp x ≤ y) : feed f k x ≤ feed g k y := by
  have c0 := clamp_le x
  have c1 : clamp x ≤ clamp y := by unfold clamp at *; omega
  unfold feed
  split
  · omega
  · exact stepF_mono h (by omega)

theorem bv_and (m : BitVec 64) : (m &&& 255#64).toNat ≤ 255 := by
  rw [BitVec.toNat_and]
  exact Nat.and_le_right
theorem and255 (m : Int) : 0 ≤ bits .and .i64 m 255 ∧ bits .and .i64 m 255 ≤ 255 := by
  have h : bits .and .i64 m 255 = IntKind.i64.wrap ((BitVec.ofInt 64 m &&& 255#64).toNat : Int) := rfl
  have h2 := bv_and (BitVec.ofInt 64 m)
  rw [h, IntWalk.i64_in _ (by omega)]
  omega

set_option maxHeartbeats 2000000 in
theorem smoothRises_w (w : World) (a : Option Addr) (cap : Nat) (zs : List Int) (lc : zs.length ≤ cap) (mc : cap ≤ maxLen) (rd : RdI .i64 w a zs) (wf : ∀ x ∈ zs, (Lit.int .i64 x).wf = true)
    (a2 : Option Addr) (cap2 : Nat) (ms : List Int) (lc2 : ms.length ≤ cap2) (mc2 : cap2 ≤ maxLen) (rd2 : RdI .i64 w a2 ms) (wf2 : ∀ x ∈ ms, (Lit.int .i64 x).wf = true) :
    Calls Try.prog 5 #[.slice a zs.length cap, .slice a2 ms.length cap2] w fun e w' => e = .returned (.bool true) ∧ Below w.heap.size w w' := by
  clear wf wf2
  unfold maxLen at mc mc2
  have HR := Lib.hid rd
  have HR2 := Lib.hid rd2
  clear rd rd2
  by_cases hbig : 100 < zs.length ∨ 100 < ms.length
  · have hb : (100 < zs.length) ∨ (zs.length ≤ 100 ∧ 100 < ms.length) := by omega
    clear hbig
    rcases hb with hb | ⟨hb1, hb2⟩
    all_goals
      go_enter Try.func5, Try.ntmps5
      go_wp2_with fail
      refine (alive_c _).mono ?_
      rintro e w1 ⟨rfl, hB⟩
      have HB1 := Lib.hid hB
      clear hB
      go_wp2_with fail
      go_ret
      exact ⟨rfl, HB1.out⟩
  · have hl : zs.length ≤ 100 := by omega
    have hl2 : ms.length ≤ 100 := by omega
    clear hbig
    go_enter Try.func5, Try.ntmps5
    go_wp2_with fail
    refine (alive_c _).mono ?_
    rintro e w1 ⟨rfl, hB⟩
    have HB1 := Lib.hid hB
    clear hB
    go_wp2_with fail
    go_loopw [22] (fun i wr => ∃ (k : Nat) (fine gine : Int), k ≤ zs.length ∧ i = .int .i64 k ∧ 0 ≤ fine ∧ fine ≤ 65280 ∧ 0 ≤ gine ∧ gine ≤ 65280 ∧ fine ≤ gine ∧ Fl wr w1.heap.size fine k ∧ Fl wr (w1.heap.size + 1) gine k ∧ Below w.heap.size w wr) (fun i _ => zs.length - (intOf i).toNat)
    case atStart => exact ⟨0, 0, 0, Nat.zero_le _, rfl, by decide, by decide, by decide, by decide, by decide, (Blk.made w1 25 #[.int .i64 0, .int .i64 0]).alloc _, by simpa using Blk.made (w1.alloc (.cells #[.int .i64 0, .int .i64 0] 25)) 25 #[.int .i64 0, .int .i64 0], ((HB1.out.alloc HB1.out.size _).alloc (by have := HB1.out.size; simp; omega) _)⟩
    case round =>
      obtain ⟨k, fine, gine, hk, rfl, f0, f1, g0, g1, hle, hF, hG, hB⟩ := hrel
      have HF := Lib.hid hF
      have HGg := Lib.hid hG
      have HB := Lib.hid hB
      clear hF hG hB
      by_cases hlt : k < zs.length
      · obtain ⟨b, off, x, hx, rfl, hb, hc⟩ := (HR.out.below HB.out).at_ k hlt
        have x0 := clamp_ge x
        have x1 := clamp_le x
        clear hx hb
        by_cases hlt2 : k < ms.length
        · obtain ⟨b2, off2, y, hy, rfl, hb2, hc2⟩ := (HR2.out.below HB.out).at_ k hlt2
          obtain ⟨z, hz⟩ : ∃ z, z = bits .and .i64 y 255 := ⟨_, rfl⟩
          have hz' := and255 y
          rw [← hz] at hz'
          obtain ⟨z0, z1⟩ := hz'
          have Hz : bits .and .i64 y 255 = z := hz.symm
          clear hy hb2 hz
          go_wp2_with fail
          refine (rheld255_c _ _).mono ?_
          rintro e w' ⟨rfl, rfl⟩
          go_wp2_with fail
          refine (feed_c _ _ _ _ _ HF.out f0 f1 (by omega) (by omega)).mono ?_
          rintro e w2 ⟨rfl, hF, hG⟩
          have HF2 := Lib.hid hF
          have HG2 := Lib.hid (HGg.out.grown hG (by intro h; injection h with h; omega))
          have HB2 := Lib.hid (HB.out.grown hG HB.out.size (fun j hj => by injection hj with hj; have := HB1.out.size; omega))
          clear hF hG
          go_wp2_with fail
          refine (feed_c _ _ _ _ _ HG2.out g0 g1 (by omega) (by omega)).mono ?_
          rintro e w3 ⟨rfl, hF, hG⟩
          have HG3 := Lib.hid hF
          have HF3 := Lib.hid (HF2.out.grown hG (by intro h; injection h with h; omega))
          have HB3 := Lib.hid (HB2.out.grown hG HB2.out.size (fun j hj => by injection hj with hj; have := HB1.out.size; omega))
          have hs := rises_step fine gine k x (clamp x + z) hle (by omega)
          obtain ⟨q1, q2⟩ := feed_in fine k x f0 f1
          obtain ⟨q3, q4⟩ := feed_in gine k (clamp x + z) g0 g1
          have hvv := val_mono hs
          clear hF hG
          go_wp2_with fail
          refine (value_c _ _ _ _ HF3.out q1 q2).mono ?_
          rintro e w' ⟨rfl, rfl⟩
          go_wp2_with fail
          refine (fine_c _ _ _ _ HG3.out).mono ?_
          rintro e w' ⟨rfl, rfl⟩
          go_wp2_with fail
          refine (fine_c _ _ _ _ HF3.out).mono ?_
          rintro e w' ⟨rfl, rfl⟩
          go_wp2_with fail
          go_roundw
          case rel => exact ⟨k + 1, _, _, by omega, by go_num, q1, q2, q3, q4, hs, by simpa using HF3.out, by simpa using HG3.out, HB3.out⟩
          case measure => simp [intOf]; omega
        · go_wp2_with fail
          refine (rheld255_c _ _).mono ?_
          rintro e w' ⟨rfl, rfl⟩
          go_wp2_with fail
          refine (feed_c _ _ _ _ _ HF.out f0 f1 (by omega) (by omega)).mono ?_
          rintro e w2 ⟨rfl, hF, hG⟩
          have HF2 := Lib.hid hF
          have HG2 := Lib.hid (HGg.out.grown hG (by intro h; injection h with h; omega))
          have HB2 := Lib.hid (HB.out.grown hG HB.out.size (fun j hj => by injection hj with hj; have := HB1.out.size; omega))
          clear hF hG
          go_wp2_with fail
          refine (feed_c _ _ _ _ _ HG2.out g0 g1 (by omega) (by omega)).mono ?_
          rintro e w3 ⟨rfl, hF, hG⟩
          have HG3 := Lib.hid hF
          have HF3 := Lib.hid (HF2.out.grown hG (by intro h; injection h with h; omega))
          have HB3 := Lib.hid (HB2.out.grown hG HB2.out.size (fun j hj => by injection hj with hj; have := HB1.out.size; omega))
          have hs := rises_step fine gine k x (clamp x) hle (by omega)
          obtain ⟨q1, q2⟩ := feed_in fine k x f0 f1
          obtain ⟨q3, q4⟩ := feed_in gine k (clamp x) g0 g1
          have hvv := val_mono hs
          clear hF hG
          go_wp2_with fail
          refine (value_c _ _ _ _ HF3.out q1 q2).mono ?_
          rintro e w' ⟨rfl, rfl⟩
          go_wp2_with fail
          refine (fine_c _ _ _ _ HG3.out).mono ?_
          rintro e w' ⟨rfl, rfl⟩
          go_wp2_with fail
          refine (fine_c _ _ _ _ HF3.out).mono ?_
          rintro e w' ⟨rfl, rfl⟩
          go_wp2_with fail
          go_roundw
          case rel => exact ⟨k + 1, _, _, by omega, by go_num, q1, q2, q3, q4, hs, by simpa using HF3.out, by simpa using HG3.out, HB3.out⟩
          case measure => simp [intOf]; omega
      · go_wp2_with fail
        refine (count_c _ _ _ _ HF.out).mono ?_
        rintro e w' ⟨rfl, rfl⟩
        go_wp2_with fail
        refine (count_c _ _ _ _ HGg.out).mono ?_
        rintro e w' ⟨rfl, rfl⟩
        go_wp2_with fail
        go_ret
        exact ⟨ret_bool (by simp), HB.out⟩

end Go.Proofs.Ytjjekkpncdmcbaa
