/-
  THE WALK of bytes.Equal.
-/
import Derived.Test.YtekjpkppfcmjdaaCln
import Derived.Test.YtekjpkppfcmjdaaPrm
import Derived.Lib.Bytes
set_option linter.unusedVariables false
set_option linter.unusedSimpArgs false
namespace Go.Proofs.Ytekjpkppfcmjdaa
open Go.RowKit

theorem str_inj {xs ys : List Int} (hx : Byt xs) (hy : Byt ys) (h : strOfNums xs = strOfNums ys) : xs = ys := by
  have h2 := congrArg (fun b : ByteArray => b.data.toList) h
  simp only [strOfNums_data] at h2
  refine List.ext_getElem ?_ fun i h3 h4 => ?_
  · have := congrArg List.length h2
    simpa using this
  · have h5 := congrArg (fun l => l[i]?) h2
    simp only [List.getElem?_map, List.getElem?_eq_getElem h3, List.getElem?_eq_getElem h4, Option.map_some, Option.some.injEq] at h5
    have a := hx _ (List.getElem_mem h3)
    have b := hy _ (List.getElem_mem h4)
    have h6 := congrArg UInt8.toNat h5
    simp only [UInt8.toNat_ofNat'] at h6
    omega
theorem str_rd {w : World} {a : Option Addr} {c : Nat} {xs : List Int} (h : RdI .u8 w a xs) : (convert 28 9 (.slice a xs.length c)).run Try.prog w = .ok (.string (strOfNums xs)) w := by
  rcases Nat.eq_zero_or_pos xs.length with h0 | h0
  · obtain rfl : xs = [] := List.eq_nil_of_length_eq_zero h0
    rw [List.length_nil, run_convert_bytes_string w 28 9 5 _ 0 c Try.underlying28 Try.underlying5 Try.underlying9]
    cases a <;> simp [Conv.bytesToString, loadCells]
    all_goals rfl
  · obtain ⟨b, o, x, _, rfl, _⟩ := h.at_ 0 h0
    exact run_convert_bytes_arg w 28 5 Try.underlying28 Try.underlying5 b o xs.length c xs rfl (fun i hi => by
      obtain ⟨b', o', x, hx, ha, _, hc⟩ := h.at_ i hi
      injection ha with ha
      injection ha with e1 e2
      subst e1 e2
      rw [hc, List.getD_eq_getElem?_getD, hx]
      rfl) 9 Try.underlying9
theorem str_eql {xs ys : List Int} (hx : Byt xs) (hy : Byt ys) : ((strOfNums xs).toList == (strOfNums ys).toList) = decide (xs = ys) := by
  rw [Bool.eq_iff_iff, beq_iff_eq, decide_eq_true_eq]
  constructor
  · intro h
    refine str_inj hx hy ?_
    rw [Lib.strOfNums_toList, Lib.strOfNums_toList] at h
    unfold Lib.bytesOf at h
    have h2 : (strOfNums xs).data.toList = (strOfNums ys).data.toList := h
    exact ByteArray.ext (Array.ext' h2)
  · intro h; rw [h]
set_option maxRecDepth 100000 in
set_option maxHeartbeats 4000000 in
/-- A copy of a row, in new memory. -/
theorem bclone_c (a : Option Addr) (cap : Nat) (zs : List Int) (w : World) (rd : RdI .u8 w a zs) (hc : a = none → cap = 0) (hz : zs.length ≤ 1000000) :
    Calls Try.prog 29 #[.slice a zs.length cap] w fun e w' => ∃ v, e = .returned v ∧ Sep [] w w' [sumR v zs] := by
  obtain ⟨i0, hi, hz0, hz1, hz2⟩ := info_parts info_u8
  unfold sumR
  cases a with
  | none =>
    have : zs = [] := by
      cases zs with
      | nil => rfl
      | cons z zs => obtain ⟨b, off, h, _⟩ := rd 0 z rfl; cases h
    subst this
    obtain rfl := hc rfl
    clear rd
    have he : ∀ w : World, (binOp .eql 28 (.slice none 0 0) (.slice none 0 0)).run Try.prog w = .ok (.bool true) w := fun _ => rfl
    go_enter Try.func29, Try.ntmps29
    go_wp2_with fail
    go_ret
    exact ⟨_, rfl, (Sep.init w).nil _ 1⟩
  | some p =>
    have HR := Lib.hid rd
    clear rd hc
    have he : ∀ (w : World) n c, (binOp .eql 28 (.slice (some p) n c) (.slice none 0 0)).run Try.prog w = .ok (.bool false) w := fun _ _ _ => rfl
    have HS := Lib.hid ((Sep.init w).made 5 1 0 #[] (by unfold maxLen; omega) rfl)
    go_enter Try.func29, Try.ntmps29
    go_wp2_with (at_builtin; refine wpList_append_said rfl _ _ 28 rfl 0 5 i0 (.int .u8 0) 1 Try.underlying28 hi hz0 hz1 hz2 rfl .u8 _ _ _ rfl HS.out rfl (some p) cap zs.length zs rfl rfl (fun h => by cases h) (HR.out.alloc _) zs.length (Nat.zero_add _) (zs.map (Value.int .u8)) rfl (by unfold maxLen; omega) (by omega) ?_; intro v3 w3 hS3; have HS3 := Lib.hid hS3; clear hS3)
    go_ret
    exact ⟨_, rfl, HS3.out⟩

end Go.Proofs.Ytekjpkppfcmjdaa
