/-
  THE WALKS of package serial and of its reference: two numbers; what doesn't go round.
-/
import Derived.Test.YtkpkfgnebgcoaaaRows
import Derived.Test.YtkpkfgnebgcoaaaReg
import Derived.Test.YtkpkfgnebgcoaaaSerP
import Derived.WalkKit
import Derived.WalkSpells
import Derived.WalkLawsBesides
import Derived.OneCell
import Derived.Lib.Hide
import Derived.Deep.QuietTactic
import Derived.BigQuiet
set_option linter.unusedVariables false
set_option linter.unusedSimpArgs false
namespace Go.Proofs.Ytkpkfgnebgcoaaa
open Go.RowKit

set_option maxHeartbeats 400000 in
theorem ahead_c (a b : Int) (w : World) (a0 : 0 ≤ a) (a1 : a ≤ 65535) (b0 : 0 ≤ b) (b1 : b ≤ 65535) :
    Calls Try.prog 11 #[.int .u16 a, .int .u16 b] w fun e w' => e = .returned (.int .i64 (ah16 a b)) ∧ w = w' := by
  go_enter Try.func11, Try.ntmps11
  go_wp2
  all_goals (go_ret; exact ⟨ret_int (by unfold ah16; simp only [wrap64, IntKind.wrap, IntKind.bits, IntKind.signed]; simp; omega), rfl⟩)

set_option maxHeartbeats 400000 in
theorem ahead32_c (a b : Int) (w : World) (a0 : 0 ≤ a) (a1 : a ≤ 4294967295) (b0 : 0 ≤ b) (b1 : b ≤ 4294967295) :
    Calls Try.prog 12 #[.int .u32 a, .int .u32 b] w fun e w' => e = .returned (.int .i64 (ah32 a b)) ∧ w = w' := by
  go_enter Try.func12, Try.ntmps12
  go_wp2
  all_goals (go_ret; exact ⟨ret_int (by unfold ah32 wrap64 wrap32; omega), rfl⟩)

set_option maxHeartbeats 400000 in
theorem add_c (a n : Int) (w : World) (a0 : 0 ≤ a) (a1 : a ≤ 65535) :
    Calls Try.prog 16 #[.int .u16 a, .int .i64 n] w fun e w' => e = .returned (.int .u16 (add16 a n)) ∧ w = w' := by
  go_enter Try.func16, Try.ntmps16
  go_wp2
  all_goals (go_ret; exact ⟨ret_int (by unfold add16; rw [IntKind.wrap_u16, IntKind.wrap_u16]; omega), rfl⟩)

set_option maxHeartbeats 400000 in
theorem rahead_c (a b : Int) (w : World) (a0 : 0 ≤ a) (a1 : a ≤ 65535) (b0 : 0 ≤ b) (b1 : b ≤ 65535) :
    Calls Try.prog 10 #[.int .u16 a, .int .u16 b] w fun e w' => e = .returned (.int .i64 (ah16 a b)) ∧ w = w' := by
  go_enter Try.func10, Try.ntmps10
  go_wp2
  all_goals (go_ret; exact ⟨ret_int (by unfold ah16; omega), rfl⟩)

set_option maxHeartbeats 400000 in
theorem rahead32_c (a b : Int) (w : World) (a0 : 0 ≤ a) (a1 : a ≤ 4294967295) (b0 : 0 ≤ b) (b1 : b ≤ 4294967295) :
    Calls Try.prog 13 #[.int .u32 a, .int .u32 b] w fun e w' => e = .returned (.int .i64 (ah32 a b)) ∧ w = w' := by
  go_enter Try.func13, Try.ntmps13
  go_wp2
  all_goals (go_ret; exact ⟨ret_int (by unfold ah32; omega), rfl⟩)

/-- The two cells of a Wide at the head of block b: the highest number (h < 0: none yet). -/
def wHead (h : Int) : Value := .int .i64 (if h < 0 then 0 else h)
def wFlag (h : Int) : Value := .bool (decide (0 ≤ h))

set_option maxHeartbeats 400000 in
theorem started_c (b : Nat) (t : TypeId) (cs : Array Value) (h : Int) (w : World) (hb : Blk w b t cs) (h1 : cs[1]? = some (wFlag h)) :
    Calls Try.prog 23 #[.pointer (some ⟨b, 0, none⟩)] w fun e w' => e = .returned (wFlag h) ∧ w = w' := by
  have c1 : w.cell? ⟨b, 1, none⟩ = some (wFlag h) := hb.cell 1 h1
  have H1 := Lib.hid h1
  clear hb h1
  go_enter Try.func23, Try.ntmps23
  go_wp2
  go_ret
  exact ⟨rfl, rfl⟩

set_option maxHeartbeats 400000 in
theorem highest_c (b : Nat) (t : TypeId) (cs : Array Value) (h : Int) (w : World) (hb : Blk w b t cs) (h0 : cs[0]? = some (wHead h)) :
    Calls Try.prog 24 #[.pointer (some ⟨b, 0, none⟩)] w fun e w' => e = .returned (wHead h) ∧ w = w' := by
  have c1 : w.cell? ⟨b, 0, none⟩ = some (wHead h) := hb.cell 0 h0
  have H1 := Lib.hid h0
  clear hb h0
  go_enter Try.func24, Try.ntmps24
  go_wp2
  go_ret
  exact ⟨rfl, rfl⟩

set_option maxHeartbeats 1000000 in
theorem peek_c (b : Nat) (t : TypeId) (cs : Array Value) (h n : Int) (k : Nat) (w : World) (hb : Blk w b t cs) (h0 : cs[0]? = some (wHead h)) (h1 : cs[1]? = some (wFlag h)) (hw : WIn h k) (hk : k ≤ 100000) (n0 : 0 ≤ n) (n1 : n ≤ 65535) :
    Calls Try.prog 21 #[.pointer (some ⟨b, 0, none⟩), .int .u16 n] w fun e w' => e = .returned (.int .i64 (wOut h n)) ∧ ∃ m, w' = w.drewN m := by
  have ho := hw.out n n0 n1
  obtain ⟨o0, o1⟩ := ho
  have c0 : w.cell? ⟨b, 0, none⟩ = some (wHead h) := hb.cell 0 h0
  have c1 : w.cell? ⟨b, 1, none⟩ = some (wFlag h) := hb.cell 1 h1
  clear hb h0 h1
  rcases hw with rfl | ⟨h0, h1⟩
  · have e : wOut (-1) n = 4294967296 + n := by unfold wOut; rw [if_pos (by decide)]
    rw [e] at o0 o1 ⊢
    rw [show wHead (-1) = .int .i64 0 from rfl] at c0
    rw [show wFlag (-1) = .bool false from rfl] at c1
    clear e
    go_enter Try.func21, Try.ntmps21
    go_wp2_with fail
    go_ret
    exact ⟨rfl, 0, rfl⟩
  · rw [show wHead h = .int .i64 h from by unfold wHead; rw [if_neg (by omega)]] at c0
    rw [show wFlag h = .bool true from by unfold wFlag; simp; omega] at c1
    have e : wOut h n = h + ah16 n (h % 65536) := by unfold wOut; rw [if_neg (by omega)]
    obtain ⟨q, hq⟩ : ∃ q, q = ah16 n (h % 65536) := ⟨_, rfl⟩
    have q2 := ah16_in n (h % 65536)
    rw [← hq] at q2 e
    obtain ⟨q0, q1⟩ := q2
    rw [e] at o0 o1 ⊢
    have HCq : Hid (∀ W, Calls Try.prog 11 #[.int .u16 n, .int .u16 (h % 65536)] W fun e w' => e = .returned (.int .i64 q) ∧ w' = W) := Lib.hid fun W => by
      rw [hq]; exact same_of (ahead_c n (h % 65536) W n0 n1 (by omega) (by omega))
    clear e hq
    go_enter Try.func21, Try.ntmps21
    go_wp2_with fail
    have e1 : IntKind.u16.wrap h = h % 65536 := IntKind.wrap_u16 h
    have e2 : IntKind.i64.wrap (h + q) = h + q := IntWalk.i64_in _ (by omega)
    have e3 : (if h + q < 0 then 0 else h + q) = h + q := if_neg (by omega)
    have e4 : (if 4611686018427387904 < h + q then 4611686018427387904 else h + q) = h + q := if_neg (by omega)
    go_quiet ((go_at_call 11; exact Calls.quiet_of_same (HCq.out _)))
    clear e1 e2 e3 e4
    go_wp2_with fail
    go_ret
    exact ⟨rfl, nq, rfl⟩

theorem set_same (cs : Array Value) (i : Nat) (v : Value) (h : cs[i]? = some v) : cs.setIfInBounds i v = cs := by
  apply Array.ext_getElem?
  intro j
  rw [Array.getElem?_setIfInBounds]
  split
  · rename_i hj
    subst hj
    have := (Array.getElem?_eq_some_iff.1 h).1
    rw [if_pos this, h]
  · rfl

set_option maxHeartbeats 1000000 in
theorem of_c (b : Nat) (t : TypeId) (cs : Array Value) (h n : Int) (k : Nat) (w : World) (hb : Blk w b t cs) (h0 : cs[0]? = some (wHead h)) (h1 : cs[1]? = some (wFlag h)) (hw : WIn h k) (hk : k ≤ 100000) (n0 : 0 ≤ n) (n1 : n ≤ 65535) :
    Calls Try.prog 22 #[.pointer (some ⟨b, 0, none⟩), .int .u16 n] w fun e w' => e = .returned (.int .i64 (wOut h n)) ∧ Blk w' b t ((cs.setIfInBounds 0 (wHead (wHi h n))).setIfInBounds 1 (wFlag (wHi h n))) ∧ Frm [b] w w' := by
  have HP := Lib.hid (peek_c b t cs h n k w hb h0 h1 hw hk n0 n1)
  have ho := hw.out n n0 n1
  obtain ⟨o0, o1⟩ := ho
  have hmod := wOut_mod h n n0 n1
  obtain ⟨O, hO⟩ : ∃ O, O = wOut h n := ⟨_, rfl⟩
  have c0 : w.cell? ⟨b, 0, none⟩ = some (wHead h) := hb.cell 0 h0
  have c1 : w.cell? ⟨b, 1, none⟩ = some (wFlag h) := hb.cell 1 h1
  have f0 := hb.free 0
  have f1 := hb.free 1
  have hlt := hb.lt
  have H := Lib.hid hb
  have H0 := Lib.hid h0
  have H1 := Lib.hid h1
  have hi : wHi h n = if h < O then O else h := by unfold wHi; rw [hO]
  rw [← hO] at o0 o1 hmod
  have HO := Lib.hid hO
  have HI := Lib.hid hi
  clear hb h0 h1 hO hi
  rcases hw with rfl | ⟨g0, g1⟩
  · have hi2 : wHi (-1) n = O := by rw [HI.out, if_pos (by omega)]
    rw [hi2]
    rw [show wHead (-1) = .int .i64 0 from rfl] at c0
    rw [show wFlag (-1) = .bool false from rfl] at c1
    rw [show wHead O = .int .i64 O from by unfold wHead; rw [if_neg (by omega)], show wFlag O = .bool true from by unfold wFlag; simp; omega]
    clear hi2
    go_enter Try.func22, Try.ntmps22
    go_wp2_with fail
    refine HP.out.mono ?_
    rintro e w' ⟨rfl, m, rfl⟩
    rw [← HO.out]
    go_wp2_with fail
    go_ret
    rw [← HO.out]
    exact ⟨rfl, ((H.out.drewN m).put 0 _).put 1 _, (((Frm.refl _ _).drewN m).put (.inl (by simp)) _ _ _).put (.inl (by simp)) _ _ _⟩
  · rw [show wHead h = .int .i64 h from by unfold wHead; rw [if_neg (by omega)]] at c0
    rw [show wFlag h = .bool true from by unfold wFlag; simp; omega] at c1
    by_cases hg : h < O
    · have hi2 : wHi h n = O := by rw [HI.out, if_pos hg]
      rw [hi2]
      rw [show wHead O = .int .i64 O from by unfold wHead; rw [if_neg (by omega)], show wFlag O = .bool true from by unfold wFlag; simp; omega]
      clear hi2
      go_enter Try.func22, Try.ntmps22
      go_wp2_with fail
      refine HP.out.mono ?_
      rintro e w' ⟨rfl, m, rfl⟩
      rw [← HO.out]
      go_wp2_with fail
      go_ret
      rw [← HO.out]
      exact ⟨rfl, ((H.out.drewN m).put 0 _).put 1 _, (((Frm.refl _ _).drewN m).put (.inl (by simp)) _ _ _).put (.inl (by simp)) _ _ _⟩
    · have hi2 : wHi h n = h := by rw [HI.out, if_neg hg]
      have hsame : ((cs.setIfInBounds 0 (wHead (wHi h n))).setIfInBounds 1 (wFlag (wHi h n))) = cs := by
        rw [hi2, set_same cs 0 _ H0.out, set_same cs 1 _ H1.out]
      have HSm := Lib.hid hsame
      clear hi2 hsame
      go_enter Try.func22, Try.ntmps22
      go_wp2_with fail
      refine HP.out.mono ?_
      rintro e w' ⟨rfl, m, rfl⟩
      rw [← HO.out]
      go_wp2_with fail
      go_ret
      rw [HSm.out, ← HO.out]
      exact ⟨rfl, H.out.drewN m, (Frm.refl _ _).drewN m⟩

theorem info_wide : (Try.prog.info? 2).map (fun i => (i.zero, i.size, i.bytes)) = some (some (.int .i64 0), 1, 8) := by kernel_rfl

set_option maxHeartbeats 2000000 in
theorem rwide_c (a : Option Addr) (cap : Nat) (ns : List Int) (w : World) (h : RdI .u16 w a ns) (hl : ns.length ≤ 100000) (hn : ∀ n ∈ ns, 0 ≤ n ∧ n ≤ 65535) :
    Calls Try.prog 20 #[.slice a ns.length cap] w fun e w' => ∃ v, e = .returned v ∧ Sep [] w w' [ownR 2 1 v ns.length ((wOuts (-1) ns).map (Value.int .i64))] := by
  obtain ⟨i0, hi, hz0, hz1, hz2⟩ := info_parts info_wide
  have HR := Lib.hid h
  have HN := Lib.hid hn
  clear h hn
  go_enter Try.func20, Try.ntmps20
  go_wp2_with fail
  go_loopw [3, 4, 5] (fun v hi i wr => ∃ (k : Nat), k ≤ ns.length ∧ i = .int .i64 k ∧ hi = .int .i64 (wHis (-1) (ns.take k)) ∧ Sep [] w wr [ownR 2 1 v k ((wOuts (-1) (ns.take k)).map (Value.int .i64))]) (fun _ _ i _ => ns.length - (intOf i).toNat)
  case atStart => exact ⟨0, Nat.zero_le _, rfl, rfl, by have := (Sep.init w).made 2 1 0 #[] (by unfold maxLen; omega) rfl; simpa [wOuts] using this⟩
  case round =>
    obtain ⟨k, hk, rfl, rfl, hS⟩ := hrel
    have HS := Lib.hid hS
    clear hS
    obtain ⟨H, hH⟩ : ∃ H, H = wHis (-1) (ns.take k) := ⟨_, rfl⟩
    have hwin : WIn H k := by
      have := (WIn.start 0).rows (ns.take k) (fun n hn => HN.out n (List.mem_of_mem_take hn))
      rw [← hH, Nat.zero_add, List.length_take, Nat.min_eq_left hk] at this
      exact this
    rw [← hH]
    by_cases hlt : k < ns.length
    · obtain ⟨b, off, x, hx, rfl, hb, hc⟩ := (HR.out.below HS.out.frm.below).at_ k hlt
      obtain ⟨n0, n1⟩ := HN.out x (List.mem_of_getElem? hx)
      have ho := hwin.out x n0 n1
      obtain ⟨o0, o1⟩ := ho
      obtain ⟨O, hO⟩ : ∃ O, O = wOut H x := ⟨_, rfl⟩
      rw [← hO] at o0 o1
      have ht : ns.take (k + 1) = ns.take k ++ [x] := by rw [List.take_add_one, hx]; rfl
      have hnx : wHis (-1) (ns.take (k + 1)) = if H < O then O else H := by rw [ht, wHis_snoc, ← hH]; unfold wHi; rw [← hO]
      have hox : (wOuts (-1) (ns.take (k + 1))).map (Value.int .i64) = (wOuts (-1) (ns.take k)).map (Value.int .i64) ++ [.int .i64 O] := by rw [ht, wOuts_snoc, ← hH, ← hO]; simp
      have HNX := Lib.hid hnx
      have HOX := Lib.hid hox
      have HO := Lib.hid hO
      have HH := Lib.hid hH
      have hsz := HS.out.frm.size
      clear hx hb ht hnx hox hO hH
      rcases hwin with rfl | ⟨g0, g1⟩
      · have hoe : (4294967296 : Int) + x = O := by rw [HO.out]; unfold wOut; rw [if_pos (by decide)]
        have hcx : wr.cell? ⟨b, off + k, none⟩ = some (.int .u16 x) := hc
        go_wp2_with (at_builtin; go_must (refine wpList_append_sep rfl _ _ 35 rfl 0 2 i0 (.int .i64 0) 8 Try.underlying35 hi hz0 hz1 hz2 rfl _ _ _ rfl (HS.out.skip _) rfl wr.heap.size 1 (.int .i64 O) rfl (World.cell?_alloc_at _ _ _ _ rfl) rfl (by unfold maxLen; omega) (by omega) ?_); intro g' c' w3 hS3; have HS3 := Lib.hid hS3; clear hS3)
        go_roundw
        case rel => exact ⟨k + 1, by omega, by go_num, by rw [HNX.out, if_pos (by omega)], by have h3 := HS3.out; rw [← HOX.out] at h3; exact h3⟩
        case measure => simp [intOf]; omega
      · obtain ⟨q, hq⟩ : ∃ q, q = ah16 x (H % 65536) := ⟨_, rfl⟩
        have hoe : H + q = O := by rw [HO.out, hq]; unfold wOut; rw [if_neg (by omega)]
        have HCq : Hid (∀ W, Calls Try.prog 10 #[.int .u16 x, .int .u16 (H % 65536)] W fun e w' => e = .returned (.int .i64 q) ∧ W = w') := Lib.hid fun W => by
          rw [hq]; exact rahead_c x (H % 65536) W n0 n1 (by omega) (by omega)
        have e1 : IntKind.u16.wrap (H % 65536) = H % 65536 := IntWalk.u16_in _ (by omega)
        have q2 := ah16_in x (H % 65536)
        rw [← hq] at q2
        obtain ⟨q0, q1⟩ := q2
        clear hq
        go_wp2_with fail
        refine (HCq.out _).mono ?_
        rintro e w' ⟨rfl, rfl⟩
        clear e1
        by_cases hg : H < O
        · go_wp2_with (at_builtin; go_must (refine wpList_append_sep rfl _ _ 35 rfl 0 2 i0 (.int .i64 0) 8 Try.underlying35 hi hz0 hz1 hz2 rfl _ _ _ rfl (HS.out.skip _) rfl wr.heap.size 1 (.int .i64 O) rfl (World.cell?_alloc_at _ _ _ _ rfl) rfl (by unfold maxLen; omega) (by omega) ?_); intro g' c' w3 hS3; have HS3 := Lib.hid hS3; clear hS3)
          go_roundw
          case rel => exact ⟨k + 1, by omega, by go_num, by rw [HNX.out, if_pos hg], by have h3 := HS3.out; rw [← HOX.out] at h3; exact h3⟩
          case measure => simp [intOf]; omega
        · go_wp2_with (at_builtin; go_must (refine wpList_append_sep rfl _ _ 35 rfl 0 2 i0 (.int .i64 0) 8 Try.underlying35 hi hz0 hz1 hz2 rfl _ _ _ rfl (HS.out.skip _) rfl wr.heap.size 1 (.int .i64 O) rfl (World.cell?_alloc_at _ _ _ _ rfl) rfl (by unfold maxLen; omega) (by omega) ?_); intro g' c' w3 hS3; have HS3 := Lib.hid hS3; clear hS3)
          go_roundw
          case rel => exact ⟨k + 1, by omega, by go_num, by rw [HNX.out, if_neg (by omega)], by have h3 := HS3.out; rw [← HOX.out] at h3; exact h3⟩
          case measure => simp [intOf]; omega
    · have he : ns.take k = ns := List.take_of_length_le (by omega)
      have hke : k = ns.length := by omega
      rw [he, hke] at HS
      go_wp2_with fail
      go_ret
      exact ⟨_, rfl, HS.out⟩

end Go.Proofs.Ytkpkfgnebgcoaaa
