/-
  THE WALKS of report's reference: held, highest.
-/
import Derived.Test.YtbodmoefogkciaaRpD
import Derived.Test.YtbodmoefogkciaaRpO
set_option linter.unusedVariables false
set_option linter.unusedSimpArgs false
namespace Go.Proofs.Ytbodmoefogkciaa
open Go.RowKit

set_option maxHeartbeats 400000 in
theorem rheld_c (x : Int) (w : World) :
    Calls Try.prog 30 #[.int .i64 x] w fun e w' => e = .returned (.int .i64 (upTo x 1099511627776)) ∧ w = w' := by
  go_enter Try.func30, Try.ntmps30
  go_wp2
  all_goals (go_ret; exact ⟨ret_int (by unfold upTo; omega), rfl⟩)

/-- The numbers of a row of packets. -/
def seqs (l : List One) : List Int := l.map One.seq
theorem seqs_length (l : List One) : (seqs l).length = l.length := List.length_map _

/-- The first one and the highest one of a row of numbers. -/
def wTop (ns : List Int) : Nat → Int
  | 0 => wOut (-1) (ns.getD 0 0)
  | k + 1 => wHis (-1) (ns.take (k + 1))
theorem take_snoc {α : Type} (l : List α) (k : Nat) (x : α) (hx : l[k]? = some x) : l.take (k + 1) = l.take k ++ [x] := by
  rw [List.take_add_one, hx]; rfl
theorem wOuts_at (ns : List Int) (k : Nat) (n : Int) (hn : ns[k]? = some n) : ∀ h, (wOuts h ns)[k]? = some (wOut (wHis h (ns.take k)) n) := by
  induction ns generalizing k with
  | nil => simp at hn
  | cons m r ih =>
    intro h
    cases k with
    | zero => simp at hn; subst hn; rfl
    | succ k => simp at hn; simp [wOuts, wHis, ih k hn]
theorem wTop_step (ns : List Int) (k : Nat) (n : Int) (hn : ns[k]? = some n) (hr : ∀ m ∈ ns, 0 ≤ m ∧ m ≤ 65535) : (if wTop ns k < wOut (wHis (-1) (ns.take k)) n then wOut (wHis (-1) (ns.take k)) n else wTop ns k) = wTop ns (k + 1) := by
  cases k with
  | zero =>
    have h0 : ns.getD 0 0 = n := by rw [List.getD_eq_getElem?_getD, hn]; rfl
    have hb := hr n (List.mem_of_getElem? hn)
    have ho : wOut (-1) n = 4294967296 + n := by unfold wOut; rw [if_pos (by decide)]
    simp only [wTop, take_snoc ns 0 n hn, h0]
    simp only [List.take_zero, List.nil_append, wHis, wHi]
    rw [ho, if_neg (by omega), if_pos (by omega)]
  | succ k =>
    simp only [wTop]
    rw [take_snoc ns (k + 1) n hn, wHis_snoc]
    rfl

/-- The value of what the reference is told. -/
def refV (a : Option Addr) (n cap : Nat) (ex ca : Int) : Value := .agg #[.slice a n cap, .int .i64 ex, .int .i64 ca]
def refFirst (l : List One) : Int := if l.length = 0 then 0 else wOut (-1) ((seqs l).getD 0 0)
def refLast (l : List One) : Int := if l.length = 0 then 0 else wHis (-1) (seqs l)

theorem info_seqs : (Try.prog.info? 32).map (fun i => (i.zero, i.size, i.bytes)) = some (some (.int .u16 0), 1, 2) := by kernel_rfl

set_option maxHeartbeats 2000000 in
theorem rhighest_c (a : Option Addr) (cap : Nat) (ex ca : Int) (ones : List One) (w : World) (rd : RdS 3 w a (ones.map oneRow)) (hl : ones.length ≤ 1000) (ho : ∀ o ∈ ones, o.ok) :
    Calls Try.prog 29 #[.agg #[.slice a ones.length cap, .int .i64 ex, .int .i64 ca]] w fun e w' => e = .returned (.tuple #[.int .i64 (refFirst ones), .int .i64 (refLast ones)]) ∧ Frm [] w w' := by
  obtain ⟨i0, hi, hz0, hz1, hz2⟩ := info_parts info_seqs
  have HR := Lib.hid rd
  have HO := Lib.hid ho
  clear rd ho
  go_enter Try.func29, Try.ntmps29
  go_wp2_with fail
  go_loopw [4, 5] (fun v i wr => ∃ (k : Nat), k ≤ ones.length ∧ i = .int .i64 k ∧ Sep [] w wr [ownR 32 1 v k ((seqs (ones.take k)).map (Value.int .u16)), blkR w.heap.size 31 #[.slice a ones.length cap, .int .i64 ex, .int .i64 ca]]) (fun _ i _ => ones.length - (intOf i).toNat)
  case atStart => exact ⟨0, Nat.zero_le _, rfl, by have := ((Sep.init w).alloc #[.slice a ones.length cap, .int .i64 ex, .int .i64 ca] 31).made 32 1 0 #[] (by unfold maxLen; omega) rfl; simpa [seqs] using this⟩
  case round =>
    obtain ⟨k, hk, rfl, hS⟩ := hrel
    have HS := Lib.hid hS
    clear hS
    have c0 : wr.cell? ⟨w.heap.size, 0, none⟩ = some (.slice a ones.length cap) := (HS.out.blk 1 rfl).cell 0 rfl
    by_cases hlt : k < ones.length
    · obtain ⟨b, off, o, rfl, hb, x0, x1, x2, hx⟩ := oneRow_at (HR.out.below HS.out.frm.below) k hlt
      have hsx : (seqs (ones.take (k + 1))).map (Value.int .u16) = (seqs (ones.take k)).map (Value.int .u16) ++ [.int .u16 o.seq] := by rw [take_snoc _ _ _ hx]; simp [seqs]
      have HSX := Lib.hid hsx
      have hsz := HS.out.frm.size
      clear hx hb hsx x1 x2
      go_wp2_with (at_builtin; go_must (refine wpList_append_sep rfl _ _ 43 rfl 0 32 i0 (.int .u16 0) 2 Try.underlying43 hi hz0 hz1 hz2 rfl _ _ _ rfl (HS.out.skip _) rfl wr.heap.size 1 (.int .u16 o.seq) rfl (World.cell?_alloc_at _ _ _ _ rfl) rfl (by unfold maxLen; omega) (by omega) ?_); intro g' c' w3 hS3; have HS3 := Lib.hid hS3; clear hS3)
      go_roundw
      case rel => exact ⟨k + 1, by omega, by go_num, by have h3 := HS3.out; rw [← HSX.out] at h3; exact h3⟩
      case measure => simp [intOf]; omega
    · obtain rfl : k = ones.length := by omega
      rw [List.take_length] at HS
      obtain ⟨ns, hns⟩ : ∃ ns, ns = seqs ones := ⟨_, rfl⟩
      have hnl : ns.length = ones.length := by rw [hns]; exact seqs_length ones
      have hnr : ∀ n ∈ ns, 0 ≤ n ∧ n ≤ 65535 := by
        intro n hn
        rw [hns] at hn
        obtain ⟨o, ho, rfl⟩ := List.mem_map.1 hn
        exact ⟨(HO.out o ho).q0, (HO.out o ho).q1⟩
      have hfi : refFirst ones = if ones.length = 0 then 0 else wOut (-1) (ns.getD 0 0) := by rw [hns]; rfl
      have hla : refLast ones = if ones.length = 0 then 0 else wHis (-1) ns := by rw [hns]; rfl
      rw [← hns] at HS
      have hnl1 : ns.length ≤ ones.length := by omega
      have hnl2 : ones.length ≤ ns.length := by omega
      clear hnl
      have HFI := Lib.hid hfi
      have HLA := Lib.hid hla
      have HNR := Lib.hid hnr
      clear hns hfi hla hnr
      obtain ⟨a1, cap1, rfl, hc1, rd1⟩ := RdI.of_own (HS.out.own 0 rfl)
      have HR1 := Lib.hid rd1
      clear rd1 hc1
      go_wp2_with fail
      clear c0
      refine (rwide_c a1 cap1 ns _ HR1.out (by omega) HNR.out).mono ?_
      rintro e w3 ⟨v, rfl, hS⟩
      have hfr := HS.out.frm.trans hS.frm
      have HF3 := Lib.hid hfr
      obtain ⟨a2, cap2, rfl, hc2, rd2⟩ := RdI.of_own (hS.own 0 rfl)
      have HR2 := Lib.hid rd2
      have hwl := wOuts_length (-1) ns
      rw [hwl]
      have HWL := Lib.hid hwl
      clear hfr rd2 hc2 hS hwl
      by_cases hz : ones.length = 0
      · have hn0 : ns.length = 0 := by omega
        have hn2 : ((ns.length : Int) == 0) = true := beq_iff_eq.2 (by omega)
        go_wp2_with fail
        refine bodyPost_ret (v := .tuple #[.int .i64 (refFirst ones), .int .i64 (refLast ones)]) ?_ rfl ⟨rfl, HF3.out⟩
        rw [HFI.out, HLA.out, if_pos hz, if_pos hz]
        simp [results, Try.results29, go_sem]
      · have hn0 : 0 < ns.length := by omega
        have hn1 : ((ns.length : Int) == 0) = false := beq_eq_false_iff_ne.2 (by omega)
        obtain ⟨n0, hg0⟩ : ∃ n, ns[0]? = some n := ⟨_, List.getElem?_eq_getElem hn0⟩
        have hg1 : ns.getD 0 0 = n0 := by rw [List.getD_eq_getElem?_getD, hg0]; rfl
        have hw0 := wOuts_at ns 0 n0 hg0 (-1)
        obtain ⟨b, off, hab, hb, d0⟩ := HR2.out 0 _ hw0
        subst hab
        rw [show wHis (-1) (ns.take 0) = -1 from rfl] at d0
        obtain ⟨X, hX⟩ : ∃ X, X = wOut (-1) n0 := ⟨_, rfl⟩
        rw [← hX] at d0
        have hX2 : wOut (-1) (ns.getD 0 0) = X := by rw [hg1, hX]
        have HX2 := Lib.hid hX2
        clear hX2
        have hwt : wTop ns 0 = X := by simp only [wTop]; rw [hg1, hX]
        have HWT := Lib.hid hwt
        clear hw0 hg0 hg1 hX hwt hb
        have d1 : w3.cell? ⟨b, off, none⟩ = some (.int .i64 X) := d0
        go_wp2_with fail
        go_loop [7, 8] (fun x i => ∃ (k : Nat), k ≤ ns.length ∧ i = .int .i64 k ∧ x = .int .i64 (wTop ns k)) (fun _ i => ns.length - (intOf i).toNat)
        case atStart => exact ⟨0, Nat.zero_le _, rfl, by rw [HWT.out]⟩
        case round =>
          obtain ⟨k, hk, rfl, rfl⟩ := hrel
          by_cases hlt : k < ns.length
          · obtain ⟨n, hn⟩ : ∃ n, ns[k]? = some n := ⟨_, List.getElem?_eq_getElem hlt⟩
            have hwk := wOuts_at ns k n hn (-1)
            have hst := wTop_step ns k n hn HNR.out
            obtain ⟨O, hO⟩ : ∃ O, O = wOut (wHis (-1) (ns.take k)) n := ⟨_, rfl⟩
            rw [← hO] at hwk hst
            obtain ⟨b', off', hab, hb, dk⟩ := HR2.out k _ hwk
            simp at hab
            obtain ⟨rfl, rfl⟩ := hab
            have HST := Lib.hid hst
            obtain ⟨M, hM⟩ : ∃ M, M = wTop ns k := ⟨_, rfl⟩
            rw [← hM] at HST ⊢
            clear hn hwk hst hO hb hM
            by_cases hlt2 : M < O
            · go_wp2_with fail
              go_round
              case rel => exact ⟨k + 1, by omega, by go_num, by rw [← HST.out, if_pos hlt2]⟩
              case measure => simp [intOf]; omega
            · go_wp2_with fail
              go_round
              case rel => exact ⟨k + 1, by omega, by go_num, by rw [← HST.out, if_neg (by omega)]⟩
              case measure => simp [intOf]; omega
          · obtain rfl : k = ns.length := by omega
            have he : wTop ns ns.length = wHis (-1) ns := by
              obtain ⟨m, hm⟩ : ∃ m, ns.length = m + 1 := ⟨ns.length - 1, by omega⟩
              rw [hm]
              simp only [wTop]
              rw [← hm, List.take_length]
            rw [he]
            go_wp2_with fail
            refine bodyPost_ret (v := .tuple #[.int .i64 (refFirst ones), .int .i64 (refLast ones)]) ?_ rfl ⟨rfl, HF3.out⟩
            rw [HFI.out, HLA.out, if_neg hz, if_neg hz, HX2.out]
            simp [results, Try.results29, go_sem]

end Go.Proofs.Ytbodmoefogkciaa
