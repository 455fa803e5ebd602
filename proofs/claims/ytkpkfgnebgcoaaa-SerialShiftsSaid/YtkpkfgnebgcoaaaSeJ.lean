/-
  THE WALK of the law SerialSorts; ahead of it: Sort of a row of the call's own.
-/
import Derived.Test.YtkpkfgnebgcoaaaSeI
import Derived.Test.YtkpkfgnebgcoaaaSeC
set_option linter.unusedVariables false
set_option linter.unusedSimpArgs false
namespace Go.Proofs.Ytkpkfgnebgcoaaa
open Go.RowKit

set_option maxHeartbeats 2000000 in
theorem sort_zero_c (a : Option Addr) (cap : Nat) (w : World) : Calls Try.prog 27 #[.slice a 0 cap] w fun e w' => e = .returned (.tuple #[]) ∧ w = w' := by
  have hzb : (((0 : Nat) : Int) == 0) = true := rfl
  go_enter Try.func27, Try.ntmps27
  go_wp2_with fail
  refine bodyPost_ret (results_none rfl _ _ _) rfl ?_
  exact ⟨rfl, rfl⟩

theorem sort_own_c (v : Value) (n : Nat) (L : List Int) (w : World) (ho : w.ownsRow 0 22 1 v n (L.map (Value.int .u16))) (hb : n ≤ 1000) (hL : ∀ x ∈ L, 0 ≤ x ∧ x ≤ 65535) :
    Calls Try.prog 27 #[v] w fun e w' => e = .returned (.tuple #[]) ∧ ∃ L', L'.Perm L ∧ SoOn (fun x => ah16 x (L.getD 0 0)) L' 0 n ∧ w'.ownsRow 0 22 1 v n (L'.map (Value.int .u16)) ∧ Frm v.ownBlock.toList w w' := by
  have hlen : L.length = n := by have := ho.1; simpa using this
  by_cases hz : n = 0
  · subst hz
    obtain rfl : L = [] := List.eq_nil_of_length_eq_zero hlen
    have hv : ∃ a c, v = .slice a 0 c := by
      rcases ho.2 with ⟨h, _⟩ | ⟨g, c, cur, h, _⟩
      · exact ⟨_, _, h⟩
      · exact ⟨_, _, h⟩
    obtain ⟨a, c, rfl⟩ := hv
    refine (sort_zero_c a c w).mono ?_
    rintro e w1 ⟨rfl, rfl⟩
    exact ⟨rfl, [], List.Perm.refl _, SoOn.short (by omega), ho, Frm.refl _ _⟩
  · rcases ho.2 with ⟨_, h⟩ | ⟨g, c, cur, rfl, h0, hh, hc, hm, hs, hx⟩
    · exact absurd h hz
    · have hcur : cur = srtCells L (cur.toList.drop n) := by
        unfold srtCells
        rw [Nat.mul_one] at hx
        rw [← hx, List.take_append_drop]
      rw [hcur] at hh
      subst hlen
      unfold maxLen at hm
      refine (sort_c g c L (cur.toList.drop L.length) w hh (by omega) hb ⟨hc, by omega⟩ hm hL).mono ?_
      rintro e w1 ⟨rfl, L', h1, h2, h3, h4⟩
      have hl' := h1.len
      refine ⟨rfl, L', h1.perm, h2, ⟨by simp [hl'], .inr ⟨g, c, _, rfl, h0, h3, hc, by unfold maxLen; exact hm, ?_, ?_⟩⟩, h4⟩
      · rw [← hs]
        have : cur.size = (srtCells L (cur.toList.drop L.length)).size := by rw [← hcur]
        rw [this]
        simp [srtCells, hl']
      · rw [Nat.mul_one]
        unfold srtCells
        rw [show L.length = (L'.map (Value.int .u16)).length from by simp [hl']]
        exact List.take_left

set_option maxRecDepth 100000 in
set_option maxHeartbeats 16000000 in
theorem serialSorts_w (w : World) (a : Option Addr) (cap : Nat) (ns : List Int) (lc : ns.length ≤ cap) (mc : cap ≤ maxLen) (nc : a = none → cap = 0) (rd : RdI .u16 w a ns) (ws : ∀ x ∈ ns, (Lit.int .u16 x).wf = true) :
    Calls Try.prog 5 #[.slice a ns.length cap] w fun e w' => e = .returned (.bool true) ∧ Below w.heap.size w w' := by
  obtain ⟨i0, hi, hz0, hz1, hz2⟩ := info_parts info_u16
  unfold maxLen at mc
  have HR := Lib.hid rd
  have HN := Lib.hid (fun x (hx : x ∈ ns) => u16_wf (ws x hx))
  clear rd ws
  by_cases hbig : 100 < ns.length
  · go_enter Try.func5, Try.ntmps5
    go_wp2_with fail
    refine (alive_c _).mono ?_
    rintro e w1 ⟨rfl, hf⟩
    have HF := Lib.hid hf
    clear hf
    go_wp2_with fail
    go_ret
    exact ⟨rfl, HF.out.below⟩
  · have hl : ns.length ≤ 100 := by omega
    clear hbig
    go_enter Try.func5, Try.ntmps5
    go_wp2_with fail
    refine (alive_c _).mono ?_
    rintro e w1 ⟨rfl, hf⟩
    have HS := Lib.hid ((Sep.init w).keep hf)
    clear hf
    go_wp2_with fail
    refine (span_c a cap ns _ (HR.out.below HS.out.frm.below) (by omega) HN.out).mono ?_
    rintro e w' ⟨rfl, rfl⟩
    go_wp2_with fail
    refine (rspan_c a cap ns _ (HR.out.below HS.out.frm.below) (by omega) HN.out).mono ?_
    rintro e w2 ⟨rfl, hf2⟩
    have HS2 := Lib.hid ((HS.out.keep hf2).made 22 1 0 #[] (by unfold maxLen; omega) rfl)
    clear hf2
    obtain ⟨sl, hsl⟩ : ∃ sl, sl = spanL ns := ⟨_, rfl⟩
    obtain ⟨sn, hsn⟩ : ∃ sn, sn = spanN ns := ⟨_, rfl⟩
    rw [← hsl, ← hsn]
    have e1 : (sl == sl) = true := by simp
    have e2 : (sn == sn) = true := by simp
    clear hsl hsn
    go_wp2_with (at_builtin; refine wpList_append_said rfl _ _ 32 rfl 0 22 i0 (.int .u16 0) 2 Try.underlying32 hi hz0 hz1 hz2 rfl .u16 _ _ _ rfl HS2.out rfl a cap ns.length ns rfl rfl nc (HR.out.below HS2.out.frm.below) ns.length (Nat.zero_add _) (ns.map (Value.int .u16)) rfl (by unfold maxLen; omega) (by omega) ?_; intro v3 w3 hS3; have HS3 := Lib.hid hS3; clear hS3)
    refine (sort_own_c v3 ns.length ns w3 (HS3.out.own 0 rfl) (by omega) HN.out).mono ?_
    rintro e w4 ⟨rfl, L', hp, hso, ho, hf4⟩
    have HS4 := Lib.hid (HS3.out.write 0 rfl hf4 (fun k hk => hk) (r' := ownR 22 1 v3 ns.length (L'.map (Value.int .u16))) ho (fun k hk => .inl hk))
    have hl4 := hp.length_eq
    have HP := Lib.hid (And.intro hp hso)
    have hw4 := hl4 ▸ RdI.of_own ho
    obtain ⟨a4, c4, rfl, hlc4, hrd4⟩ := RdI.of_own ho
    rw [hl4] at hlc4
    clear hp hso ho hf4 hw4
    rw [hl4]
    go_wp2_with fail
    refine (rsorted_c a cap ns _ (HR.out.below HS4.out.frm.below) (by omega) HN.out).mono ?_
    rintro e w5 ⟨g5, c5, R, rfl, hp5, hso5, hS5⟩
    have HS5 := Lib.hid hS5
    have hLR : L' = R := by
      by_cases h0 : ns.length = 0
      · have h1 : L' = [] := List.eq_nil_of_length_eq_zero (by omega)
        have h2 : R = [] := List.eq_nil_of_length_eq_zero (by rw [hp5.length_eq]; exact h0)
        rw [h1, h2]
      · have hf := HN.out (ns.getD 0 0) (mem_of_getD (by omega))
        exact sorted_one (HP.out.1.trans hp5.symm) hl4 HP.out.2 hso5 (fun x hx y hy h => by
          have hx2 := HN.out x (HP.out.1.mem_iff.1 hx)
          have hy2 := HN.out y (HP.out.1.mem_iff.1 hy)
          exact ah16_inj hx2.1 hx2.2 hy2.1 hy2.2 hf.1 hf.2 h)
    have hl5 := hp5.length_eq
    have HLR := Lib.hid hLR
    obtain ⟨a5, c6, hv5, _, hrd5⟩ := RdI.of_own (hS5.own 0 rfl)
    rw [hl5] at hv5
    injection hv5 with hv5 _ _
    have hrd4' : RdI .u16 w5 a4 L' := by
      obtain ⟨a6, c7, hv6, _, hrd6⟩ := RdI.of_own ((HS4.out.keep hS5.frm).own 0 rfl)
      injection hv6 with hv6 _ _
      rw [hv6]
      exact hrd6
    have HRr := Lib.hid (And.intro hrd4' (hv5 ▸ hrd5))
    have HL45 := Lib.hid (And.intro hl4 hl5)
    clear hl4 hl5 hlc4 hrd4 hLR hp5 hso5 hS5 hv5 hrd5 hrd4'
    go_wp2_with fail
    refine (same_c a4 _ _ _ L' R ns.length _ HRr.out.1 HRr.out.2 HL45.out.1 HL45.out.2 (by omega) HLR.out).mono ?_
    rintro e w6 ⟨rfl, m, rfl⟩
    go_wp2_with fail
    go_ret
    exact ⟨rfl, ((HS4.out.frm.trans HS5.out.frm).drewN m).below⟩

end Go.Proofs.Ytkpkfgnebgcoaaa
