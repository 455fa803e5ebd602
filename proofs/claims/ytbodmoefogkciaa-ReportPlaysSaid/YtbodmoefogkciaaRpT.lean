/-
  THE WALK of same: all that is told, by the program and by the reference.
-/
import Derived.Test.YtbodmoefogkciaaRpS
set_option linter.unusedVariables false
set_option linter.unusedSimpArgs false
namespace Go.Proofs.Ytbodmoefogkciaa
open Go.RowKit

set_option maxHeartbeats 8000000 in
theorem same_c (b : Nat) (a : Option Addr) (cap : Nat) (ex ca : Int) (ones : List One) (w : World) (h : Stat w b (runS ones ex ca)) (rd : RdS 3 w a (ones.map oneRow)) (hl : ones.length ≤ 900) (ho : ∀ o ∈ ones, o.ok) (e0 : 0 ≤ ex) (e1 : ex ≤ 70000000) (c0 : 0 ≤ ca) (c1 : ca ≤ 1000) :
    Calls Try.prog 11 #[.pointer (some ⟨b, 0, none⟩), .agg #[.slice a ones.length cap, .int .i64 ex, .int .i64 ca]] w fun e w' => e = .returned (.bool true) ∧ Frm [] w w' := by
  have ok := runS_ok ones ex ca ho hl e0 e1 c0 c1
  obtain ⟨s, hs⟩ : ∃ s, s = runS ones ex ca := ⟨_, rfl⟩
  obtain ⟨k, hk⟩ : ∃ k, k = ones.length := ⟨_, rfl⟩
  rw [← hs] at h ok
  rw [← hk] at ok
  have hS : ∀ v, Frm [] w v → Stat v b s := fun v hv => hv.blk h (by simp)
  have hR : s.rcv = ones.length := by rw [hs]; exact runS_rcv _ _ _
  obtain ⟨E, hE⟩ : ∃ E, s.expd = E := ⟨_, rfl⟩
  have gE : (runS ones ex ca).expd = E := hs ▸ hE
  obtain ⟨Lo, hLo⟩ : ∃ Lo, s.lost = Lo := ⟨_, rfl⟩
  have gLo : (runS ones ex ca).lost = Lo := hs ▸ hLo
  obtain ⟨Hi, hHi⟩ : ∃ Hi, s.high = Hi := ⟨_, rfl⟩
  have gHi : (runS ones ex ca).high = Hi := hs ▸ hHi
  obtain ⟨J, hJ⟩ : ∃ J, s.jitter = J := ⟨_, rfl⟩
  have gJ : (runS ones ex ca).jitter = J := hs ▸ hJ
  obtain ⟨F, hF⟩ : ∃ F, s.fraction = F := ⟨_, rfl⟩
  have gF : (runS ones ex ca).fraction = F := hs ▸ hF
  have MR : Hid (∀ v, Frm [] w v → Calls Try.prog 16 #[.pointer (some ⟨b, 0, none⟩)] v fun e w' => e = .returned (.int .i64 ones.length) ∧ Frm [] v w') := Lib.hid fun v hv => hR ▸ frm_of_same (received_c b s v (hS v hv))
  have ME : Hid (∀ v, Frm [] w v → Calls Try.prog 14 #[.pointer (some ⟨b, 0, none⟩)] v fun e w' => e = .returned (.int .i64 E) ∧ Frm [] v w') := Lib.hid fun v hv => hE ▸ frm_of (expected_c b s k v (hS v hv) ok)
  have MLo : Hid (∀ v, Frm [] w v → Calls Try.prog 13 #[.pointer (some ⟨b, 0, none⟩)] v fun e w' => e = .returned (.int .i32 Lo) ∧ Frm [] v w') := Lib.hid fun v hv => hLo ▸ frm_of (lost_c b s k v (hS v hv) ok)
  have MHi : Hid (∀ v, Frm [] w v → Calls Try.prog 15 #[.pointer (some ⟨b, 0, none⟩)] v fun e w' => e = .returned (.int .u32 Hi) ∧ Frm [] v w') := Lib.hid fun v hv => hHi ▸ frm_of_same (high_c b s k v (hS v hv) ok)
  have MJ : Hid (∀ v, Frm [] w v → Calls Try.prog 19 #[.pointer (some ⟨b, 0, none⟩)] v fun e w' => e = .returned (.int .u32 J) ∧ Frm [] v w') := Lib.hid fun v hv => hJ ▸ frm_of_same (jitter_c b s k v (hS v hv) ok)
  have MF : Hid (∀ v, Frm [] w v → Calls Try.prog 18 #[.pointer (some ⟨b, 0, none⟩)] v fun e w' => e = .returned (.int .i64 F) ∧ Frm [] v w') := Lib.hid fun v hv => hF ▸ frm_of (fraction_c b s k v (hS v hv) ok)
  have NE : Hid (∀ v, Frm [] w v → Calls Try.prog 24 #[.agg #[.slice a ones.length cap, .int .i64 ex, .int .i64 ca]] v fun e w' => e = .returned (.int .i64 E) ∧ Frm [] v w') := Lib.hid fun v hv => gE ▸ rexpected_c a cap ex ca ones v (rd.below hv.below) hl ho
  have NLo : Hid (∀ v, Frm [] w v → Calls Try.prog 21 #[.agg #[.slice a ones.length cap, .int .i64 ex, .int .i64 ca]] v fun e w' => e = .returned (.int .i32 Lo) ∧ Frm [] v w') := Lib.hid fun v hv => gLo ▸ rlost_c a cap ex ca ones v (rd.below hv.below) hl ho e0 e1 c0 c1
  have NHi : Hid (∀ v, Frm [] w v → Calls Try.prog 22 #[.agg #[.slice a ones.length cap, .int .i64 ex, .int .i64 ca]] v fun e w' => e = .returned (.int .u32 Hi) ∧ Frm [] v w') := Lib.hid fun v hv => gHi ▸ rhigh_c a cap ex ca ones v (rd.below hv.below) hl ho
  have NJ : Hid (∀ v, Frm [] w v → Calls Try.prog 23 #[.agg #[.slice a ones.length cap, .int .i64 ex, .int .i64 ca]] v fun e w' => e = .returned (.int .u32 J) ∧ Frm [] v w') := Lib.hid fun v hv => gJ ▸ rjitter_c a cap ex ca ones v (rd.below hv.below) hl ho
  have NF : Hid (∀ v, Frm [] w v → Calls Try.prog 20 #[.agg #[.slice a ones.length cap, .int .i64 ex, .int .i64 ca]] v fun e w' => e = .returned (.int .i64 F) ∧ Frm [] v w') := Lib.hid fun v hv => gF ▸ rfraction_c a cap ex ca ones v (rd.below hv.below) hl ho e0 e1 c0 c1
  clear h rd ho e0 e1 c0 c1 ok hs hk hS hR hE gE hLo gLo hHi gHi hJ gJ hF gF
  go_enter Try.func11, Try.ntmps11
  go_wp2_with fail
  have HS := Lib.hid ((Sep.init w).alloc #[.slice a ones.length cap, .int .i64 ex, .int .i64 ca] 31)
  have n1 := HS.out.inh
  have q0 := Cls.cell (S := []) (w0 := w) (L := [blkR w.heap.size 31 #[.slice a ones.length cap, .int .i64 ex, .int .i64 ca]]) 0 rfl 0 (v := .slice a ones.length cap) rfl
  have q1 := Cls.cell (S := []) (w0 := w) (L := [blkR w.heap.size 31 #[.slice a ones.length cap, .int .i64 ex, .int .i64 ca]]) 0 rfl 1 (v := .int .i64 ex) rfl
  have q2 := Cls.cell (S := []) (w0 := w) (L := [blkR w.heap.size 31 #[.slice a ones.length cap, .int .i64 ex, .int .i64 ca]]) 0 rfl 2 (v := .int .i64 ca) rfl
  refine region_sep HS.out (by kernel_rfl) (by kernel_rfl) ?_
  repeat (go_big_quiet_step ((rename_i x; first
    | (go_at_call 16; exact call_keeps x.ok (MR.out _ x.ok.frm))
    | (go_at_call 14; exact call_keeps x.ok (ME.out _ x.ok.frm))
    | (go_at_call 13; exact call_keeps x.ok (MLo.out _ x.ok.frm))
    | (go_at_call 15; exact call_keeps x.ok (MHi.out _ x.ok.frm))
    | (go_at_call 19; exact call_keeps x.ok (MJ.out _ x.ok.frm))
    | (go_at_call 18; exact call_keeps x.ok (MF.out _ x.ok.frm))
    | (go_at_call 24; exact call_keeps x.ok (NE.out _ x.ok.frm))
    | (go_at_call 21; exact call_keeps x.ok (NLo.out _ x.ok.frm))
    | (go_at_call 22; exact call_keeps x.ok (NHi.out _ x.ok.frm))
    | (go_at_call 23; exact call_keeps x.ok (NJ.out _ x.ok.frm))
    | (go_at_call 20; exact call_keeps x.ok (NF.out _ x.ok.frm)))))
  refine wpQuiet_nil ?_
  intro w2 hS2
  have HS2 := Lib.hid hS2
  clear hS2 n1 q0 q1 q2
  go_wp2_with fail
  go_ret
  exact ⟨rfl, HS2.out.frm⟩

end Go.Proofs.Ytbodmoefogkciaa
