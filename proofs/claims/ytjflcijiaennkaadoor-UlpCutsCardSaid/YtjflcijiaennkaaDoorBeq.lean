/-
  THE WALK of bytes.Equal.
-/
import Derived.Test.YtjflcijiaennkaaDoorBb
import Derived.Lib.Bytes
set_option linter.unusedVariables false
set_option linter.unusedSimpArgs false
namespace Go.Proofs.YtjflcijiaennkaaDoor
open Go.RowKit

theorem str_inj {xs ys : List Int} (hx : Byt xs) (hy : Byt ys) (h : strOfNums xs = strOfNums ys) : xs = ys := by
  have h2 := congrArg (fun b : ByteArray => b.data.toList) h
  simp only [strOfNums_data] at h2
  refine List.ext_getElem ?_ fun i h3 h4 => ?_
  · have := congrArg List.length h2
    simpa using this
  · have h5 := congrArg (fun l => l[i]?) h2
    simp only [List.getElem?_map, List.getElem?_eq_getElem h3, List.getElem?_eq_getElem h4, Option.map_some, Option.some.injEq] at h5
    have a := hx _ (List.getElem_mem h3)
    have b := hy _ (List.getElem_mem h4)
    have h6 := congrArg UInt8.toNat h5
    simp only [UInt8.toNat_ofNat'] at h6
    omega
theorem str_rd {w : World} {a : Option Addr} {c : Nat} {xs : List Int} (h : RdI .u8 w a xs) : (convert 22 9 (.slice a xs.length c)).run Tryd.prog w = .ok (.string (strOfNums xs)) w := by
  rcases Nat.eq_zero_or_pos xs.length with h0 | h0
  · obtain rfl : xs = [] := List.eq_nil_of_length_eq_zero h0
    rw [List.length_nil, run_convert_bytes_string w 22 9 5 _ 0 c Tryd.underlying22 Tryd.underlying5 Tryd.underlying9]
    cases a <;> simp [Conv.bytesToString, loadCells]
    all_goals rfl
  · obtain ⟨b, o, x, _, rfl, _⟩ := h.at_ 0 h0
    exact run_convert_bytes_arg w 22 5 Tryd.underlying22 Tryd.underlying5 b o xs.length c xs rfl (fun i hi => by
      obtain ⟨b', o', x, hx, ha, _, hc⟩ := h.at_ i hi
      injection ha with ha
      injection ha with e1 e2
      subst e1 e2
      rw [hc, List.getD_eq_getElem?_getD, hx]
      rfl) 9 Tryd.underlying9
theorem str_eql {xs ys : List Int} (hx : Byt xs) (hy : Byt ys) : ((strOfNums xs).toList == (strOfNums ys).toList) = decide (xs = ys) := by
  rw [Bool.eq_iff_iff, beq_iff_eq, decide_eq_true_eq]
  constructor
  · intro h
    refine str_inj hx hy ?_
    rw [Lib.strOfNums_toList, Lib.strOfNums_toList] at h
    unfold Lib.bytesOf at h
    have h2 : (strOfNums xs).data.toList = (strOfNums ys).data.toList := h
    exact ByteArray.ext (Array.ext' h2)
  · intro h; rw [h]
theorem bequal_c (a b : Option Addr) (ca cb : Nat) (xs ys : List Int) (w : World) (rx : RdI .u8 w a xs) (ry : RdI .u8 w b ys) (hx : Byt xs) (hy : Byt ys) :
    Calls Tryd.prog 38 #[.slice a xs.length ca, .slice b ys.length cb] w fun e w' => e = .returned (.bool (decide (xs = ys))) ∧ w = w' := by
  have s1 := str_rd (c := ca) rx
  have s2 := str_rd (c := cb) ry
  have e1 := str_eql hx hy
  obtain ⟨T, hT⟩ : ∃ T, T = decide (xs = ys) := ⟨_, rfl⟩
  obtain ⟨p, hp⟩ : ∃ p, p = strOfNums xs := ⟨_, rfl⟩
  obtain ⟨q, hq⟩ : ∃ q, q = strOfNums ys := ⟨_, rfl⟩
  rw [← hT] at e1 ⊢
  rw [← hp] at s1 e1
  rw [← hq] at s2 e1
  clear rx ry hx hy hT hp hq
  go_enter Tryd.func38, Tryd.ntmps38
  go_wp2_with fail
  go_ret
  exact ⟨rfl, rfl⟩


end Go.Proofs.YtjflcijiaennkaaDoor
