/-
  THE WALKS of slices.Clone at []int, link.New.
-/
import Derived.Test.YtekjpkppfcmjdaaLiB
set_option linter.unusedVariables false
set_option linter.unusedSimpArgs false
namespace Go.Proofs.Ytekjpkppfcmjdaa
open Go.RowKit

theorem info_int : (Try.prog.info? 3).map (fun i => (i.zero, i.size, i.bytes)) = some (some (.int .i64 0), 1, 8) := by kernel_rfl
def intsR (v : Value) (xs : List Int) : Res := ownR 3 1 v xs.length (xs.map (Value.int .i64))
set_option maxRecDepth 100000 in
set_option maxHeartbeats 4000000 in
theorem iclone_c (a : Option Addr) (cap : Nat) (zs : List Int) (w : World) (rd : RdI .i64 w a zs) (hc : a = none → cap = 0) (hz : zs.length ≤ 1000000) :
    Calls Try.prog 21 #[.slice a zs.length cap] w fun e w' => ∃ v, e = .returned v ∧ Sep [] w w' [intsR v zs] := by
  obtain ⟨i0, hi, hz0, hz1, hz2⟩ := info_parts info_int
  unfold intsR
  cases a with
  | none =>
    have : zs = [] := by
      cases zs with
      | nil => rfl
      | cons z zs => obtain ⟨b, off, h, _⟩ := rd 0 z rfl; cases h
    subst this
    obtain rfl := hc rfl
    clear rd
    have he : ∀ w : World, (binOp .eql 23 (.slice none 0 0) (.slice none 0 0)).run Try.prog w = .ok (.bool true) w := fun _ => rfl
    go_enter Try.func21, Try.ntmps21
    go_wp2_with fail
    go_ret
    exact ⟨_, rfl, (Sep.init w).nil _ 1⟩
  | some p =>
    have HR := Lib.hid rd
    clear rd hc
    have he : ∀ (w : World) n c, (binOp .eql 23 (.slice (some p) n c) (.slice none 0 0)).run Try.prog w = .ok (.bool false) w := fun _ _ _ => rfl
    have HS := Lib.hid ((Sep.init w).made 3 1 0 #[] (by unfold maxLen; omega) rfl)
    go_enter Try.func21, Try.ntmps21
    go_wp2_with (at_builtin; refine wpList_append_said rfl _ _ 23 rfl 0 3 i0 (.int .i64 0) 8 Try.underlying23 hi hz0 hz1 hz2 rfl .i64 _ _ _ rfl HS.out rfl (some p) cap zs.length zs rfl rfl (fun h => by cases h) (HR.out.alloc _) zs.length (Nat.zero_add _) (zs.map (Value.int .i64)) (by simp) (by unfold maxLen; omega) (by omega) ?_; intro v3 w3 hS3; have HS3 := Lib.hid hS3; clear hS3)
    go_ret
    exact ⟨_, rfl, HS3.out⟩
set_option maxRecDepth 100000 in
set_option maxHeartbeats 4000000 in
theorem new_c (a : Option Addr) (cap : Nat) (zs : List Int) (w : World) (rd : RdI .i64 w a zs) (hc : a = none → cap = 0) (hz : zs.length ≤ 1000000) :
    Calls Try.prog 8 #[.slice a zs.length cap] w fun e w' => ∃ (p : Nat) (vc : Value), e = .returned (.pointer (some ⟨p, 0, none⟩)) ∧
      Sep [] w w' [blkR p 47 #[vc, .slice none 0 0, .int .i64 0, .int .i64 0, .int .i64 0], intsR vc zs] := by
  have HC := Lib.hid (iclone_c a cap zs w rd hc hz)
  clear rd hc
  go_enter Try.func8, Try.ntmps8
  go_wp2_with fail
  refine HC.out.mono ?_
  rintro e w3 ⟨v3, rfl, hS3⟩
  obtain ⟨a3, c3, hv, -, -⟩ := own_shape (hS3.own 0 rfl)
  subst hv
  have HS4 := Lib.hid (hS3.alloc #[.slice a3 zs.length c3, .slice none 0 0, .int .i64 0, .int .i64 0, .int .i64 0] 47)
  clear hS3 HC
  go_wp2_with fail
  go_ret
  exact ⟨_, _, rfl, HS4.out⟩

end Go.Proofs.Ytekjpkppfcmjdaa
