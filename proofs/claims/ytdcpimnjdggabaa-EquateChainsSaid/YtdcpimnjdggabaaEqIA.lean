/-
  THE WALKS of equate's set and open (keys [int]).
-/
import Derived.Test.YtdcpimnjdggabaaSet
import Derived.Test.YtdcpimnjdggabaaEqO
import Derived.Test.YtdcpimnjdggabaaApp
set_option linter.unusedVariables false
set_option linter.unusedSimpArgs false
namespace Go.Proofs.Ytdcpimnjdggabaa
open Go.RowKit Go.Maps

def okI (x : Int) : Prop := (fun x : Int => (Lit.int .i64 x).wf = true) x
theorem keyedI : Keyed Try.prog 3 := int_keyed Try.underlying3
theorem keyI {x : Int} (h : okI x) : ∃ kl, keyOf Try.prog 3 (.int .i64 x) = some kl := ⟨_, keyOf_int_mk Try.underlying3 h⟩
theorem injI (x y : Int) (h : (Value.int .i64) x = (Value.int .i64) y) : x = y := by cases h; rfl
theorem zeroBI (w : World) : (zeroValue 4).run Try.prog w = .ok (.bool false) w := by kernel_rfl
theorem mapII : (Try.prog.info? 3).map (fun i => (i.zero, i.size, i.bytes)) = some (some (.int .i64 0), 1, 8) := by kernel_rfl

theorem take_snocI (xs : List Int) (n : Nat) (h : n < xs.length) : xs.take (n + 1) = xs.take n ++ [xs[n]] := by
  rw [List.take_succ_eq_append_getElem h]

set_option maxRecDepth 100000 in
set_option maxHeartbeats 1000000 in
theorem setI_c (a : Option Addr) (c : Nat) (xs : List Int) (w : World) (hr : RdV w a (xs.map (Value.int .i64))) (hl : xs.length ≤ 100000) (hok : ∀ x ∈ xs, okI x) :
    Calls Try.prog 21 #[.slice a xs.length c] w fun e w' => e = .returned (.map (some w.heap.size)) ∧ Sep [] w w' [mapR Try.prog 3 w.heap.size (setKv (Value.int .i64) (addAll [] xs))] := by
  have hmm := @run_makeMap Try.prog
  have HS := Lib.hid ((Sep.init w).add (r := mapR Try.prog 3 w.heap.size (setKv (Value.int .i64) (addAll [] ([] : List Int)))) ((Frm.refl [] w).alloc (.map #[] 0)) (MapAt.made Try.prog 3 w) (by simp [mapR]))
  have HR := Lib.hid hr
  have HOk := Lib.hid hok
  clear hr hok
  go_enter Try.func21, Try.ntmps21
  go_wp2_with fail
  obtain ⟨g, hg⟩ : ∃ g, g = w.heap.size := ⟨_, rfl⟩
  rw [← hg] at HS ⊢
  have HG := Lib.hid hg
  clear hg
  go_loopw [9] (fun i wr => ∃ n : Nat, n ≤ xs.length ∧ i = .int .i64 n ∧ Sep [] w wr [mapR Try.prog 3 g (setKv (Value.int .i64) (addAll [] (xs.take n)))]) (fun i _ => xs.length - (intOf i).toNat)
  case atStart => exact ⟨0, Nat.zero_le _, rfl, HS.out⟩
  case round =>
    obtain ⟨n, hn, rfl, hS⟩ := hrel
    have HS2 := Lib.hid hS
    by_cases hlt : n < xs.length
    · obtain ⟨b, off, ha, hb, hcell⟩ := HR.out n (.int .i64 xs[n]) (by rw [List.getElem?_map, List.getElem?_eq_getElem hlt]; rfl)
      have hc := (HS2.out.frm.below.cell (p := ⟨b, off + n, none⟩) hb).trans hcell
      have hts := take_snocI xs n hlt
      have hx := HOk.out _ (List.getElem_mem hlt)
      obtain ⟨x, hxe⟩ : ∃ x, x = xs[n] := ⟨_, rfl⟩
      rw [← hxe] at hc hts hx
      obtain ⟨kl, hkl⟩ := keyI hx
      have hlen : (addAll ([] : List Int) (xs.take n)).length < maxLen := by
        have := addAll_len ([] : List Int) (xs.take n)
        have h2 : (xs.take n).length ≤ n := List.length_take_le _ _
        unfold maxLen
        simp at this
        omega
      obtain ⟨w2, hrun, hm2, hg2⟩ := set_store (HS2.out.get 0 rfl) injI keyedI Try.underlying34 x hkl hlen
      have HS3 := Lib.hid (HS2.out.write 0 rfl (F := [g]) (Frm.of_grown hg2) (by simp [mapR]) (r' := mapR Try.prog 3 g (setKv (Value.int .i64) (addU (addAll [] (xs.take n)) x))) hm2 (by simp [mapR]))
      have HT := Lib.hid hts
      subst ha
      clear hS hb hcell hxe hx hkl hlen hm2 hg2 hts HR
      go_wp2_with fail
      go_roundw
      case rel => exact ⟨n + 1, by omega, by go_num, by rw [HT.out, addAll_snoc]; exact HS3.out⟩
      case measure => simp [intOf]; omega
    · obtain rfl : n = xs.length := by omega
      clear hS
      go_wp2_with fail
      go_ret
      refine ⟨by rw [HG.out]; rfl, ?_⟩
      have h := HS2.out
      rw [List.take_length, HG.out] at h
      exact h

end Go.Proofs.Ytdcpimnjdggabaa
