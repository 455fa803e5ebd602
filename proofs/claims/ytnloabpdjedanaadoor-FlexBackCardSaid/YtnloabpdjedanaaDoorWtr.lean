/-
  A WRITER IN MEMORY; wire's Writer: number, Byte, Word, Long, Wide, Put, Len, Done.
-/
import Derived.Test.YtnloabpdjedanaaDoorRdr
import Derived.Test.YtnloabpdjedanaaDoorSpm
import Derived.Test.YtnloabpdjedanaaDoorPrm
import Derived.Deep.RegionLaw
import Derived.Deep.DeepCutAuto
import Derived.Deep.DeepMust
set_option linter.unusedVariables false
set_option linter.unusedSimpArgs false
namespace Go.Proofs.YtnloabpdjedanaaDoor
open Go.RowKit

/-- A writer at s. -/
def wtrR (s : Nat) (v : Value) : Res := blkR s 75 #[v]
/-- The j-th byte of a number of k bytes. -/
def dig (n : Int) (k j : Nat) : Int := n / 256 ^ (k - 1 - j) % 256
/-- A number as so many bytes. -/
def bigL (n : Int) (k : Nat) : List Int := (List.range k).map (dig n k)
theorem bigL_len (n : Int) (k : Nat) : (bigL n k).length = k := by simp [bigL]
theorem bigL_take (n : Int) {k j : Nat} (h : j < k) : (bigL n k).take (j + 1) = (bigL n k).take j ++ [dig n k j] := by
  rw [List.take_add_one]
  congr 1
  simp [bigL, h]
theorem dig_byte (n : Int) (k j : Nat) : 0 ≤ dig n k j ∧ dig n k j ≤ 255 := by unfold dig; omega
theorem bigL_byt (n : Int) (k : Nat) : Byt (bigL n k) := fun x hx => by
  obtain ⟨j, _, rfl⟩ := List.mem_map.1 hx
  exact dig_byte n k j

set_option maxRecDepth 100000 in
set_option maxHeartbeats 8000000 in
theorem wnumber_c (s : Nat) (v : Value) (xs : List Int) (w : World) (F : List Nat) (h : Sep F w w [sumR v xs, wtrR s v]) (hx : xs.length ≤ 1000000) (n : Int) (n0 : 0 ≤ n) (n1 : n < 18446744073709551616) (K : Int) (k : Nat) (hK : K = k) (hk : k ≤ 8) :
    Calls Tryd.prog 60 #[.pointer (some ⟨s, 0, none⟩), .int .u64 n, .int .i64 K] w fun e w' => e = .returned (.tuple #[]) ∧ ∃ v', Sep F w w' [sumR v' (xs ++ bigL n k), wtrR s v'] := by
  subst hK
  obtain ⟨i0, hi, hz0, hz1, hz2⟩ := info_parts info_u8
  have HS := Lib.hid h
  clear h
  go_enter Tryd.func60, Tryd.ntmps60
  go_wp2_with fail
  go_loopw [8] (fun i wr => ∃ (j : Nat) (v' : Value), j ≤ k ∧ i = .int .i64 j ∧ Sep F w wr [sumR v' (xs ++ (bigL n k).take j), wtrR s v']) (fun i _ => k - (intOf i).toNat)
  case atStart => exact ⟨0, v, Nat.zero_le _, rfl, by rw [List.take_zero, List.append_nil]; exact HS.out⟩
  case round =>
    obtain ⟨j, v2, hj, rfl, hS⟩ := hrel
    have HS2 := Lib.hid hS
    clear hS
    by_cases hlt : j < k
    · obtain ⟨y, hy, hy2⟩ : ∃ y : Nat, 8 * ((k : Int) - 1 - (j : Int)) = (y : Int) ∧ y = 8 * (k - 1 - j) := ⟨8 * (k - 1 - j), by omega, rfl⟩
      have y1 : y ≤ 56 := by omega
      have HT := Lib.hid (bigL_take n hlt)
      have HD : Hid (IntKind.u8.wrap (n / 2 ^ y) = dig n k j) := Lib.hid (by
        unfold dig
        rw [hy2, Int.pow_mul]
        rw [IntKind.wrap_u8]
        rfl)
      have HB := Lib.hid (dig_byte n k j)
      have q1 : (0 : Int) ≤ (y : Int) := by omega
      have q2 : (y : Int) ≤ 64 := by omega
      have k1 : (j : Int) < (k : Int) := by omega
      have q3 : IntKind.i64.wrap ((k : Int) - 1) = (k : Int) - 1 := IntWalk.i64_in _ (by omega)
      have q4 : IntKind.i64.wrap ((k : Int) - 1 - (j : Int)) = (k : Int) - 1 - (j : Int) := IntWalk.i64_in _ (by omega)
      have q5 : IntKind.i64.wrap (8 * ((k : Int) - 1 - (j : Int))) = (y : Int) := by rw [hy]; exact IntWalk.i64_in _ (by omega)
      clear hy hy2
      obtain ⟨wi, hwi⟩ : ∃ wi, wi = wr := ⟨_, rfl⟩
      rw [← hwi] at HS2 ⊢
      clear hwi
      obtain ⟨d, hd⟩ : ∃ d, d = dig n k j := ⟨_, rfl⟩
      rw [← hd] at HT HD HB
      have hd2 := HD.out
      clear hd
      obtain ⟨m, hm⟩ : ∃ m, m = (xs ++ (bigL n k).take j).length := ⟨_, rfl⟩
      have hm2 : m ≤ 1000008 := by rw [hm, List.length_append, List.length_take]; have := bigL_len n k; omega
      have HM := Lib.hid hm
      clear hm
      go_wp2_with fail
      have hsl : s < wi.heap.size := HS2.out.lt 1 rfl s (by simp [wtrR, blkR])
      have cs : wi.cell? ⟨s, 0, none⟩ = some v2 := (HS2.out.blk 1 rfl).cell 0 rfl
      go_region_law ((rw [if_pos (by rfl)]; refine wp_append_said (.tmp 15) (.tmp 24) 22 rfl 0 5 i0 (.int .u8 0) 1 Tryd.underlying22 hi hz0 hz1 hz2 rfl .u8 v2 m ((xs ++ (bigL n k).take j).map (Value.int .u8)) rfl (HS2.out.drew.skip _) (by rw [HM.out]; rfl) (some ⟨wi.heap.size, 0, none⟩) 1 1 [d] rfl rfl (fun h => by cases h) (RdI.made wi.drew _ _ [d] (by simp)) (m + 1) rfl ((xs ++ (bigL n k).take (j + 1)).map (Value.int .u8)) (by rw [HT.out, ← List.append_assoc, List.map_append]; simp only [List.map_append]) (by unfold maxLen; omega) (by omega) ?_; intro v4 w4 hS4; obtain ⟨g4, p4, rfl⟩ := row_slice (hS4.own 0 rfl) (by omega); have HS4 := Lib.hid hS4; have c4 : w4.cell? ⟨s, 0, none⟩ = some v2 := (HS4.out.blk 1 rfl).cell 0 rfl; have f4 : w4.frozen? ⟨s, 0, none⟩ = false := (HS4.out.blk 1 rfl).free 0; clear hS4))
      all_goals
        go_wp2_with fail
        go_roundw
        case rel =>
          refine ⟨j + 1, .slice (some ⟨g4, 0, none⟩) (m + 1) p4, by omega, by go_num, ?_⟩
          have h := HS4.out.put 1 rfl 0 (.slice (some ⟨g4, 0, none⟩) (m + 1) p4)
          have hM := HM.out
          subst hM
          rw [show (xs ++ (bigL n k).take j).length + 1 = (xs ++ (bigL n k).take (j + 1)).length by rw [HT.out]; simp; omega] at h ⊢
          exact h
        case measure => simp [intOf]; omega
    · obtain rfl : j = k := by omega
      rw [show (bigL n j).take j = bigL n j from List.take_of_length_le (by rw [bigL_len]; omega)] at HS2
      go_wp2_with fail
      go_end0
      exact ⟨rfl, v2, HS2.out⟩

theorem bigL_one (n : Int) : bigL n 1 = [n % 256] := by simp [bigL, dig]
set_option maxHeartbeats 1000000 in
theorem wbyte_c (s : Nat) (v : Value) (xs : List Int) (w : World) (F : List Nat) (h : Sep F w w [sumR v xs, wtrR s v]) (hx : xs.length ≤ 1000000) (n : Int) (n0 : 0 ≤ n) (n1 : n < 9223372036854775808) :
    Calls Tryd.prog 35 #[.pointer (some ⟨s, 0, none⟩), .int .i64 n] w fun e w' => e = .returned (.tuple #[]) ∧ ∃ v', Sep F w w' [sumR v' (xs ++ bigL n 1), wtrR s v'] := by
  have HC := Lib.hid (wnumber_c s v xs w F h hx n n0 (by omega) 1 1 rfl (by omega))
  have e1 : IntKind.u64.wrap n = n := wrapU64 n0 (by omega)
  clear h
  go_enter Tryd.func35, Tryd.ntmps35
  go_wp2_with fail
  refine HC.out.mono ?_
  rintro e w1 ⟨rfl, v1, hS⟩
  have HS := Lib.hid hS
  clear hS HC
  go_wp2_with fail
  go_end0
  exact ⟨rfl, v1, HS.out⟩
set_option maxHeartbeats 1000000 in
theorem wword_c (s : Nat) (v : Value) (xs : List Int) (w : World) (F : List Nat) (h : Sep F w w [sumR v xs, wtrR s v]) (hx : xs.length ≤ 1000000) (n : Int) (n0 : 0 ≤ n) (n1 : n < 65536) :
    Calls Tryd.prog 37 #[.pointer (some ⟨s, 0, none⟩), .int .u16 n] w fun e w' => e = .returned (.tuple #[]) ∧ ∃ v', Sep F w w' [sumR v' (xs ++ bigL n 2), wtrR s v'] := by
  have HC := Lib.hid (wnumber_c s v xs w F h hx n n0 (by omega) 2 2 rfl (by omega))
  have e1 : IntKind.u64.wrap n = n := wrapU64 n0 (by omega)
  clear h
  go_enter Tryd.func37, Tryd.ntmps37
  go_wp2_with fail
  refine HC.out.mono ?_
  rintro e w1 ⟨rfl, v1, hS⟩
  have HS := Lib.hid hS
  clear hS HC
  go_wp2_with fail
  go_end0
  exact ⟨rfl, v1, HS.out⟩

theorem wtr_shape {S : List Nat} {w0 w : World} {s : Nat} {v : Value} {xs : List Int} {L : List Res} (h : Sep S w0 w (sumR v xs :: wtrR s v :: L)) : ∃ a c, v = .slice a xs.length c ∧ (a = none → c = 0) ∧ RdI .u8 w a xs ∧ w.cell? ⟨s, 0, none⟩ = some v := by
  have ho := h.own 0 rfl
  obtain ⟨a, c, rfl, hc, hr⟩ := RdI.of_own ho
  refine ⟨a, c, rfl, ?_, hr, (h.blk 1 rfl).cell 0 rfl⟩
  rcases ho.2 with ⟨h2, _⟩ | ⟨g, c', cur, e1, _⟩
  · injection h2 with h3 h4 h5
    exact fun _ => h5
  · injection e1 with e1 _ _
    intro h0
    rw [h0] at e1
    cases e1
set_option maxHeartbeats 2000000 in
theorem wput_c (s : Nat) (v : Value) (xs : List Int) (w : World) (F : List Nat) (h : Sep F w w [sumR v xs, wtrR s v]) (hx : xs.length ≤ 1000000) (a : Option Addr) (c : Nat) (zs : List Int) (rd : RdI .u8 w a zs) (hc : a = none → c = 0) (hz : zs.length ≤ 1000000) :
    Calls Tryd.prog 36 #[.pointer (some ⟨s, 0, none⟩), .slice a zs.length c] w fun e w' => e = .returned (.tuple #[]) ∧ ∃ v', Sep F w w' [sumR v' (xs ++ zs), wtrR s v'] := by
  obtain ⟨i0, hi, hz0, hz1, hz2⟩ := info_parts info_u8
  have HS := Lib.hid h
  have HR := Lib.hid rd
  have HC := Lib.hid hc
  obtain ⟨a0, c0, rfl, _, _, cs⟩ := wtr_shape h
  obtain ⟨n, hn⟩ : ∃ n, n = xs.length := ⟨_, rfl⟩
  obtain ⟨m, hm⟩ : ∃ m, m = zs.length := ⟨_, rfl⟩
  have hx2 : n ≤ 1000000 := by omega
  have hz2' : m ≤ 1000000 := by omega
  have HNn := Lib.hid hn
  have HMm := Lib.hid hm
  rw [← hn] at cs HS
  rw [← hm]
  clear h rd hc hn hm hx hz
  go_enter Tryd.func36, Tryd.ntmps36
  go_wp2_with (at_builtin; go_must (refine wpList_append_said rfl _ _ 22 rfl 0 5 i0 (.int .u8 0) 1 Tryd.underlying22 hi hz0 hz1 hz2 rfl .u8 _ xs.length (xs.map (Value.int .u8)) rfl HS.out rfl a c m zs HMm.out.symm rfl HC.out HR.out (n + m) (by rw [HNn.out]) ((xs ++ zs).map (Value.int .u8)) (by rw [List.map_append]) (by unfold maxLen; omega) (by omega) ?_); intro v4 w4 hS4; obtain ⟨a4, p4, rfl, _, _⟩ := own_shape (hS4.own 0 rfl); have HS4 := Lib.hid hS4; have c4 := (hS4.blk 1 rfl).cell 0 rfl; have f4 := (hS4.blk 1 rfl).free 0; clear hS4)
  go_end0
  refine ⟨rfl, .slice a4 (n + m) p4, ?_⟩
  have h := HS4.out.put 1 rfl 0 (.slice a4 (n + m) p4)
  rw [show n + m = (xs ++ zs).length by rw [HNn.out, HMm.out, List.length_append]] at h ⊢
  exact h
set_option maxHeartbeats 1000000 in
theorem wlen_c (s : Nat) (v : Value) (xs : List Int) (w : World) {S : List Nat} {w0 : World} {L : List Res} (h : Sep S w0 w (sumR v xs :: wtrR s v :: L)) :
    Calls Tryd.prog 39 #[.pointer (some ⟨s, 0, none⟩)] w fun e w' => e = .returned (.int .i64 (xs.length : Int)) ∧ w' = w := by
  obtain ⟨a0, c0, rfl, _, _, cs⟩ := wtr_shape h
  clear h
  go_enter Tryd.func39, Tryd.ntmps39
  go_wp2_with fail
  go_ret
  exact ⟨rfl, rfl⟩
set_option maxHeartbeats 1000000 in
theorem wdone_c (s : Nat) (v : Value) (xs : List Int) (w : World) {S : List Nat} {w0 : World} {L : List Res} (h : Sep S w0 w (sumR v xs :: wtrR s v :: L)) (hx : xs.length ≤ 1000000) :
    Calls Tryd.prog 40 #[.pointer (some ⟨s, 0, none⟩)] w fun e w' => ∃ v', e = .returned v' ∧ Sep [] w w' [sumR v' xs] := by
  obtain ⟨a0, c0, rfl, hc, hr, cs⟩ := wtr_shape h
  have HC := Lib.hid (clone_c a0 c0 xs w hr hc hx)
  clear h hr hc
  go_enter Tryd.func40, Tryd.ntmps40
  go_wp2_with fail
  refine HC.out.mono ?_
  rintro e w1 ⟨v1, rfl, hS⟩
  have HS := Lib.hid hS
  clear hS HC
  go_wp2_with fail
  go_ret
  exact ⟨v1, rfl, HS.out⟩

/-- A call that writes, among other things. -/
theorem Sep.wr {P : Program} {f : FuncId} {args : Array Value} {S : List Nat} {w0 w : World} {v : Value} {xs ys : List Int} {s : Nat} {L : List Res} (h : Sep S w0 w (sumR v xs :: wtrR s v :: L))
    (hc : Calls P f args w fun e w' => e = .returned (.tuple #[]) ∧ ∃ v', Sep ((sumR v xs).bl ++ (wtrR s v).bl) w w' [sumR v' ys, wtrR s v']) :
    Calls P f args w fun e w' => e = .returned (.tuple #[]) ∧ ∃ v', Sep S w0 w' (sumR v' ys :: wtrR s v' :: L) :=
  hc.mono fun _ _ ⟨h1, v', h2⟩ => ⟨h1, v', h.call2 h2 (fun g hg => List.mem_append.1 hg)⟩

end Go.Proofs.YtnloabpdjedanaaDoor
