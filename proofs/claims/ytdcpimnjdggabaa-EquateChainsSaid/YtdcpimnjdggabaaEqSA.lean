/-
  THE WALKS of equate's set and open (keys [string]).
-/
import Derived.Test.YtdcpimnjdggabaaSet
import Derived.Test.YtdcpimnjdggabaaEqO
import Derived.Test.YtdcpimnjdggabaaApp
set_option linter.unusedVariables false
set_option linter.unusedSimpArgs false
namespace Go.Proofs.Ytdcpimnjdggabaa
open Go.RowKit Go.Maps

def okS (x : ByteArray) : Prop := (fun x : ByteArray => x.size ≤ maxLen) x
theorem keyedS : Keyed Try.prog 9 := string_keyed Try.underlying9
theorem keyS {x : ByteArray} (h : okS x) : ∃ kl, keyOf Try.prog 9 (.string x) = some kl := ⟨_, WideMaps.keyOf_string_mk Try.underlying9 h⟩
theorem injS (x y : ByteArray) (h : Value.string x = Value.string y) : x = y := by cases h; rfl
theorem zeroBS (w : World) : (zeroValue 4).run Try.prog w = .ok (.bool false) w := by kernel_rfl
theorem mapIS : (Try.prog.info? 9).map (fun i => (i.zero, i.size, i.bytes)) = some (some (.string ByteArray.empty), 1, 16) := by kernel_rfl

theorem take_snocS (xs : List ByteArray) (n : Nat) (h : n < xs.length) : xs.take (n + 1) = xs.take n ++ [xs[n]] := by
  rw [List.take_succ_eq_append_getElem h]

set_option maxRecDepth 100000 in
set_option maxHeartbeats 1000000 in
theorem setS_c (a : Option Addr) (c : Nat) (xs : List ByteArray) (w : World) (hr : RdV w a (xs.map Value.string)) (hl : xs.length ≤ 100000) (hok : ∀ x ∈ xs, okS x) :
    Calls Try.prog 25 #[.slice a xs.length c] w fun e w' => e = .returned (.map (some w.heap.size)) ∧ Sep [] w w' [mapR Try.prog 9 w.heap.size (setKv Value.string (addAll [] xs))] := by
  have hmm := @run_makeMap Try.prog
  have HS := Lib.hid ((Sep.init w).add (r := mapR Try.prog 9 w.heap.size (setKv Value.string (addAll [] ([] : List ByteArray)))) ((Frm.refl [] w).alloc (.map #[] 0)) (MapAt.made Try.prog 9 w) (by simp [mapR]))
  have HR := Lib.hid hr
  have HOk := Lib.hid hok
  clear hr hok
  go_enter Try.func25, Try.ntmps25
  go_wp2_with fail
  obtain ⟨g, hg⟩ : ∃ g, g = w.heap.size := ⟨_, rfl⟩
  rw [← hg] at HS ⊢
  have HG := Lib.hid hg
  clear hg
  go_loopw [9] (fun i wr => ∃ n : Nat, n ≤ xs.length ∧ i = .int .i64 n ∧ Sep [] w wr [mapR Try.prog 9 g (setKv Value.string (addAll [] (xs.take n)))]) (fun i _ => xs.length - (intOf i).toNat)
  case atStart => exact ⟨0, Nat.zero_le _, rfl, HS.out⟩
  case round =>
    obtain ⟨n, hn, rfl, hS⟩ := hrel
    have HS2 := Lib.hid hS
    by_cases hlt : n < xs.length
    · obtain ⟨b, off, ha, hb, hcell⟩ := HR.out n (.string xs[n]) (by rw [List.getElem?_map, List.getElem?_eq_getElem hlt]; rfl)
      have hc := (HS2.out.frm.below.cell (p := ⟨b, off + n, none⟩) hb).trans hcell
      have hts := take_snocS xs n hlt
      have hx := HOk.out _ (List.getElem_mem hlt)
      obtain ⟨x, hxe⟩ : ∃ x, x = xs[n] := ⟨_, rfl⟩
      rw [← hxe] at hc hts hx
      obtain ⟨kl, hkl⟩ := keyS hx
      have hlen : (addAll ([] : List ByteArray) (xs.take n)).length < maxLen := by
        have := addAll_len ([] : List ByteArray) (xs.take n)
        have h2 : (xs.take n).length ≤ n := List.length_take_le _ _
        unfold maxLen
        simp at this
        omega
      obtain ⟨w2, hrun, hm2, hg2⟩ := set_store (HS2.out.get 0 rfl) injS keyedS Try.underlying44 x hkl hlen
      have HS3 := Lib.hid (HS2.out.write 0 rfl (F := [g]) (Frm.of_grown hg2) (by simp [mapR]) (r' := mapR Try.prog 9 g (setKv Value.string (addU (addAll [] (xs.take n)) x))) hm2 (by simp [mapR]))
      have HT := Lib.hid hts
      subst ha
      clear hS hb hcell hxe hx hkl hlen hm2 hg2 hts HR
      go_wp2_with fail
      go_roundw
      case rel => exact ⟨n + 1, by omega, by go_num, by rw [HT.out, addAll_snoc]; exact HS3.out⟩
      case measure => simp [intOf]; omega
    · obtain rfl : n = xs.length := by omega
      clear hS
      go_wp2_with fail
      go_ret
      refine ⟨by rw [HG.out]; rfl, ?_⟩
      have h := HS2.out
      rw [List.take_length, HG.out] at h
      exact h

end Go.Proofs.Ytdcpimnjdggabaa
