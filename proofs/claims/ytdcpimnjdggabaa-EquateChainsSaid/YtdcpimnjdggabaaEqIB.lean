/-
  THE WALK of equate's open (keys [int]).
-/
import Derived.Test.YtdcpimnjdggabaaEqIA
import Derived.Deep.DeepCutAuto
set_option linter.unusedVariables false
set_option linter.unusedSimpArgs false
namespace Go.Proofs.Ytdcpimnjdggabaa
open Go.RowKit Go.Maps

set_option maxRecDepth 100000 in
set_option maxHeartbeats 4000000 in
theorem openI_c (m : Nat) (ks : List Int) (a : Option Addr) (c : Nat) (xs : List Int) (w : World) (hm : MapAt Try.prog 3 w m (setKv (Value.int .i64) ks)) (hr : RdV w a (xs.map (Value.int .i64))) (hl : xs.length ≤ 100000) (hok : ∀ x ∈ xs, okI x) :
    Calls Try.prog 24 #[.map (some m), .slice a xs.length c] w fun e w' => ∃ v, e = .returned v ∧ Sep [] w w' [ownR 3 1 v (opn ks xs).length ((opn ks xs).map (Value.int .i64))] := by
  obtain ⟨i0, hi, hz0, hz1, hz2⟩ := info_parts mapII
  have hmm := @run_makeMap Try.prog
  have HS := Lib.hid (((Sep.init w).nil 3 1).add (r := mapR Try.prog 3 w.heap.size (setKv (Value.int .i64) (addAll [] ([] : List Int)))) ((Frm.refl [] w).alloc (.map #[] 0)) (MapAt.made Try.prog 3 w) (by simp [mapR]))
  have HR := Lib.hid hr
  have HOk := Lib.hid hok
  have HM := Lib.hid hm
  have hnot : ∀ (x : Bool) (w : World), (Op.unary .not (.bool x)).run Try.prog w = .ok (.bool (!x)) w := fun _ _ => rfl
  clear hr hok hm
  go_enter Try.func24, Try.ntmps24
  go_wp2_with fail
  obtain ⟨g, hg⟩ : ∃ g, g = w.heap.size := ⟨_, rfl⟩
  rw [← hg] at HS ⊢
  have HG := Lib.hid hg
  clear hg
  go_loopw [12, 5] (fun i v wr => ∃ n : Nat, n ≤ xs.length ∧ i = .int .i64 n ∧ Sep [] w wr [mapR Try.prog 3 g (setKv (Value.int .i64) (addAll [] (xs.take n))), ownR 3 1 v (opn ks (xs.take n)).length ((opn ks (xs.take n)).map (Value.int .i64))]) (fun i _ _ => xs.length - (intOf i).toNat)
  case atStart => exact ⟨0, Nat.zero_le _, rfl, HS.out⟩
  case round =>
    obtain ⟨n, hn, rfl, hS⟩ := hrel
    have HS2 := Lib.hid hS
    by_cases hlt : n < xs.length
    · obtain ⟨b, off, ha, hb, hcell⟩ := HR.out n (.int .i64 xs[n]) (by rw [List.getElem?_map, List.getElem?_eq_getElem hlt]; rfl)
      have hc := (HS2.out.frm.below.cell (p := ⟨b, off + n, none⟩) hb).trans hcell
      have hts := take_snocI xs n hlt
      have hx := HOk.out _ (List.getElem_mem hlt)
      obtain ⟨x, hxe⟩ : ∃ x, x = xs[n] := ⟨_, rfl⟩
      rw [← hxe] at hc hts hx
      obtain ⟨kl, hkl⟩ := keyI hx
      obtain ⟨ys, hys⟩ : ∃ ys, ys = xs.take n := ⟨_, rfl⟩
      have hyl : ys.length ≤ n := hys ▸ List.length_take_le _ _
      rw [← hys] at HS2 hts
      have HT := Lib.hid hts
      have hsn := opn_snoc ks ys x
      have HSn := Lib.hid hsn
      have hol : (opn ks ys).length ≤ 100000 := by have := opn_len ks ys; omega
      have hlen : (addAll ([] : List Int) ys).length < maxLen := by
        have := addAll_len ([] : List Int) ys
        unfold maxLen
        simp at this
        omega
      have hlk1 := set_look (HM.out.frm HS2.out.frm (by simp)) injI keyedI Try.underlying34 (zeroBI _) x hkl
      have hlk2 := set_look (HS2.out.get 0 rfl) injI keyedI Try.underlying34 (zeroBI _) x hkl
      obtain ⟨w2, hrun, hm2, hg2⟩ := set_store (HS2.out.get 0 rfl) injI keyedI Try.underlying34 x hkl hlen
      subst ha
      clear hS hb hcell hxe hys hts hsn
      by_cases hin : x ∈ ks ∨ x ∈ opn ks ys
      · have HS3 := Lib.hid (HS2.out.write 0 rfl (F := [g]) (Frm.of_grown hg2) (by simp [mapR]) (r' := mapR Try.prog 3 g (setKv (Value.int .i64) (addU (addAll [] ys) x))) hm2 (by simp [mapR]))
        have hcase : isIn ks x = true ∨ (isIn ks x = false ∧ isIn (addAll [] ys) x = true) := by
          by_cases h1 : x ∈ ks
          · exact .inl (isIn_yes.2 h1)
          · exact .inr ⟨isIn_no.2 h1, isIn_yes.2 (((opn_seen ks ys x).2 hin).resolve_left h1)⟩
        have HIn := Lib.hid hin
        clear hin hx hkl hlen hm2 hg2
        rcases hcase with h1 | ⟨h1, h2⟩
        · rw [h1] at hlk1
          clear h1 hlk2
          go_wp2_with fail
          go_roundw
          case rel => exact ⟨n + 1, by omega, by go_num, by rw [HT.out, addAll_snoc, HSn.out, if_pos HIn.out]; exact HS3.out⟩
          case measure => simp [intOf]; omega
        · rw [h1] at hlk1
          rw [h2] at hlk2
          clear h1 h2
          go_wp2_with fail
          go_roundw
          case rel => exact ⟨n + 1, by omega, by go_num, by rw [HT.out, addAll_snoc, HSn.out, if_pos HIn.out]; exact HS3.out⟩
          case measure => simp [intOf]; omega
      · have h1 : isIn ks x = false := isIn_no.2 fun h => hin (.inl h)
        have h2 : isIn (addAll [] ys) x = false := isIn_no.2 fun h => hin ((opn_seen ks ys x).1 (.inr h))
        rw [h1] at hlk1
        rw [h2] at hlk2
        have HIn := Lib.hid hin
        have HX := Lib.hid (And.intro hx (And.intro hkl hlen))
        clear h1 h2 hin hx hkl hlen hm2 hg2 hrun w2
        go_upto_region 8 with (at_builtin; refine wpList_append_sep rfl _ _ 22 rfl 1 3 i0 (.int .i64 0) 8 Try.underlying22 hi hz0 hz1 hz2 rfl _ _ _ rfl (HS2.out.skip _) rfl _ 1 (.int .i64 x) rfl (World.cell?_alloc_at _ _ _ _ rfl) rfl (by unfold maxLen; omega) (by omega) ?_; intro g4 c4 w4 hS4; have HS4 := Lib.hid hS4; clear hS4)
        obtain ⟨hx, hkl, hlen⟩ := HX.out
        obtain ⟨w2, hrun, hm2, hg2⟩ := set_store (HS4.out.get 0 rfl) injI keyedI Try.underlying34 x hkl hlen
        have HS5 := Lib.hid (HS4.out.write 0 rfl (F := [g]) (Frm.of_grown hg2) (by simp [mapR]) (r' := mapR Try.prog 3 g (setKv (Value.int .i64) (addU (addAll [] ys) x))) hm2 (by simp [mapR]))
        clear hx hkl hlen hm2 hg2 hlk1 hlk2
        go_wp2_with fail
        go_roundw
        case rel =>
          refine ⟨n + 1, by omega, by go_num, ?_⟩
          rw [HT.out, addAll_snoc, HSn.out, if_neg HIn.out, List.length_append, List.map_append]
          exact HS5.out
        case measure => simp [intOf]; omega
    · obtain rfl : n = xs.length := by omega
      clear hS
      rw [List.take_length] at HS2
      go_wp2_with fail
      go_ret
      exact ⟨_, rfl, HS2.out.only 1 rfl⟩

end Go.Proofs.Ytdcpimnjdggabaa
