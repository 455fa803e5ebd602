/-
  THE WALKS of the reference: From, Part, Lay.
-/
import Derived.Test.YtlkhjffbhcjdfaaDoorMaX
import Derived.Test.YtlkhjffbhcjdfaaDoorMaT
set_option linter.unusedVariables false
set_option linter.unusedSimpArgs false
namespace Go.Proofs.YtlkhjffbhcjdfaaDoor
open Go.RowKit

def frB (zs : List Int) (k : Nat) : List Bool := (List.range k).map fun i : Nat => decide ((i : Int) ∈ zs)
theorem frB_succ (zs : List Int) (k : Nat) : frB zs (k + 1) = frB zs k ++ [decide ((k : Int) ∈ zs)] := by unfold frB; rw [List.range_succ, List.map_append]; rfl
theorem frB_nil : frB [] 128 = List.replicate 128 false := by decide +kernel
theorem own_cell2 {w : World} {e : TypeId} {g n c : Nat} {xs : List Value} (h : w.ownsRow 0 e 1 (.slice (some ⟨g, 0, none⟩) n c) n xs) {j : Nat} {v : Value} (hv : xs[j]? = some v) : w.cell? ⟨g, j, none⟩ = some v := by
  have h3 := h.cells (g := g) rfl j v hv
  have hadd : (⟨g, 0, none⟩ : Addr).add j = ⟨g, 0 + j, none⟩ := by unfold Addr.add; split <;> simp_all
  rw [hadd, Nat.zero_add] at h3
  exact h3
theorem own_addr2 {w : World} {e : TypeId} {a : Option Addr} {n c : Nat} {xs : List Value} (h : w.ownsRow 0 e 1 (.slice a n c) n xs) (hn : 0 < n) : ∃ g, a = some ⟨g, 0, none⟩ := by
  rcases h.2 with ⟨he, h0⟩ | ⟨g, cap, cur, hv, _⟩
  · omega
  · injection hv with h1; exact ⟨g, h1⟩
theorem own_free {w : World} {e : TypeId} {g n c : Nat} {xs : List Value} (h : w.ownsRow 0 e 1 (.slice (some ⟨g, 0, none⟩) n c) n xs) (j : Nat) : w.frozen? ⟨g, j, none⟩ = false := by
  rcases h.2 with ⟨he, h0⟩ | ⟨g2, cap, cur, hv, _, hh, _⟩
  · cases he
  · injection hv with h1 _ _
    injection h1 with h1
    injection h1 with h1 _ _
    subst h1
    simp [World.frozen?, hh]
theorem own_set {w : World} {e : TypeId} {g n c : Nat} {xs : List Value} (h : w.ownsRow 0 e 1 (.slice (some ⟨g, 0, none⟩) n c) n xs) (j : Nat) (u : Value) (hj : j < n) : (w.setCell ⟨g, j, none⟩ u).ownsRow 0 e 1 (.slice (some ⟨g, 0, none⟩) n c) n (xs.set j u) := by
  refine ⟨by rw [List.length_set]; exact h.1, ?_⟩
  rcases h.2 with ⟨he, h0⟩ | ⟨g2, cap, cur, hv, hb, hh, hc, hm, hs, ht⟩
  · cases he
  · injection hv with h1 _ h3
    injection h1 with h1
    injection h1 with h1 _ _
    subst h1; subst h3
    have hB : Blk w g e cur := hh
    refine .inr ⟨g, c, _, rfl, hb, hB.put j u, hc, hm, by simpa using hs, ?_⟩
    rw [← ht]
    simp [List.take_set]

set_option maxRecDepth 100000 in
set_option maxHeartbeats 4000000 in
theorem rfrom_c (a : Option Addr) (c : Nat) (zs : List Int) (w : World) (h : RdZ w a zs) (hl : zs.length ≤ 1000000) :
    Calls Tryd.prog 11 #[.slice a zs.length c] w fun e w' => ∃ a c, e = .returned (.slice a 128 c) ∧ Sep [] w w' [ownR 4 1 (.slice a 128 c) 128 ((frB zs 128).map Value.bool)] := by
  obtain ⟨i0, hi, hz0, hz1, hz2⟩ := info_parts info_bool
  have HS0 := Lib.hid ((Sep.init w).made 4 1 0 #[] (Nat.zero_le _) rfl)
  have HR := Lib.hid h
  clear h
  go_enter Tryd.func11, Tryd.ntmps11
  go_wp2_with fail
  go_loopw [3, 4] (fun v i wr => ∃ j : Nat, j ≤ 128 ∧ i = .int .i64 (j : Int) ∧ Sep [] w wr [ownR 4 1 v j ((frB zs j).map Value.bool)]) (fun _ i _ => 128 - (intOf i).toNat)
  case atStart => exact ⟨0, by omega, rfl, HS0.out⟩
  case round =>
    obtain ⟨j, hj, rfl, hS⟩ := hrel
    have HRw := Lib.hid (HR.out.below hS.frm.below)
    have HS := Lib.hid hS
    clear hS
    by_cases hlt : j < 128
    · have i1 : (j : Int) < 128 := by omega
      go_wp2_with fail
      go_loopw [5, 6] (fun b k wi => ∃ m : Nat, m ≤ zs.length ∧ k = .int .i64 (m : Int) ∧ b = .bool (decide ((j : Int) ∈ zs.take m)) ∧ wi = wr) (fun _ k _ => zs.length - (intOf k).toNat)
      case atStart => exact ⟨0, by omega, rfl, by simp, rfl⟩
      case round =>
        obtain ⟨m, hm, rfl, rfl, rfl⟩ := hrel
        by_cases hmt : m < zs.length
        · obtain ⟨b, off, y, hy, rfl, hb, hc⟩ := HRw.out.at_ hmt
          have k0 : (0 : Int) ≤ (m : Int) := by omega
          have k1 : (m : Int) < (zs.length : Int) := by omega
          have hs : decide ((j : Int) ∈ zs.take (m + 1)) = (decide ((j : Int) ∈ zs.take m) || decide (y = (j : Int))) := by
            rw [List.take_succ_eq_append_getElem hmt, ← hy, Bool.eq_iff_iff]
            simp only [List.mem_append, List.mem_singleton, Bool.or_eq_true, decide_eq_true_eq]
            exact ⟨fun h => h.imp id Eq.symm, fun h => h.imp id Eq.symm⟩
          obtain ⟨x, hx⟩ : ∃ x, x = decide ((j : Int) ∈ zs.take m) := ⟨_, rfl⟩
          obtain ⟨z, hz⟩ : ∃ z, z = decide (y = (j : Int)) := ⟨_, rfl⟩
          have b1 : (y == (j : Int)) = z := by rw [hz, Bool.eq_iff_iff]; simp
          rw [← hx, ← hz] at hs
          rw [← hx]
          have HSt := Lib.hid hs
          clear hs hx hz hy hb HR HRw HS0
          cases x
          all_goals
            go_wp2_with fail
            go_roundw
            case rel => exact ⟨m + 1, by omega, by go_num, by rw [HSt.out]; rfl, by first | rfl | trivial⟩
            case measure => simp [intOf]; omega
        · obtain rfl : m = zs.length := by omega
          rw [List.take_length]
          have HX := Lib.hid (frB_succ zs j)
          obtain ⟨x, hx⟩ : ∃ x, x = decide ((j : Int) ∈ zs) := ⟨_, rfl⟩
          rw [← hx] at HX ⊢
          clear hx
          go_wp2_with (at_builtin; refine wpList_append_sep rfl _ _ 27 rfl 0 4 i0 (.bool false) 1 Tryd.underlying27 hi hz0 hz1 hz2 rfl _ _ _ rfl (HS.out.skip _) rfl _ 1 (.bool x) rfl (World.cell?_alloc_at _ _ _ _ rfl) rfl (by unfold maxLen; omega) (by omega) ?_; intro g4 c4 w4 hS4; have HS4 := Lib.hid hS4; clear hS4)
          go_roundw
          case rel => exact ⟨j + 1, by omega, by go_num, by rw [HX.out, List.map_append]; exact HS4.out⟩
          case measure => simp [intOf]; omega
    · obtain rfl : j = 128 := by omega
      obtain ⟨a5, c5, hv, _⟩ := own_cases (HS.out.own 0 rfl)
      subst hv
      go_wp2_with fail
      go_ret
      exact ⟨a5, c5, rfl, HS.out⟩

set_option maxRecDepth 100000 in
set_option maxHeartbeats 4000000 in
theorem rpart_c (a : Option Addr) (c : Nat) (bs : List Bool) (f : Int) (N : Nat) (w : World) (h : RdB w a bs) (hl : bs.length = 128) (hf : -200 ≤ f ∧ f ≤ 200) (hn : N ≤ 64) :
    Calls Tryd.prog 31 #[.slice a 128 c, .int .i64 f, .int .i64 (N : Int)] w fun e w' => e = .returned (.int .u64 (nb (prL bs f N) : Int)) ∧ w = w' := by
  have HHas := Lib.hid (fun i => rhas_c a c bs i w h hl)
  have HP := Lib.hid (prL_succ bs f)
  have HL := Lib.hid (fun k => nb_lt (prL bs f k))
  have HZ := Lib.hid (fun k => (show (prL bs f k).length = k by simp [prL]))
  clear h hl
  go_enter Tryd.func31, Tryd.ntmps31
  go_wp2_with fail
  go_loop [7, 8] (fun x i => ∃ j : Nat, j ≤ N ∧ i = .int .i64 j ∧ x = .int .u64 (nb (prL bs f j) : Int)) (fun _ i => N - (intOf i).toNat)
  case atStart => exact ⟨0, by omega, rfl, rfl⟩
  case round =>
    obtain ⟨j, hj, rfl, rfl⟩ := hrel
    by_cases hlt : j < N
    · have e1 : nb (prL bs f (j + 1)) = 2 * nb (prL bs f j) + (hasB bs (f + (j : Int))).toNat := by rw [HP.out, nb_snoc]
      have p1 := HL.out j
      rw [HZ.out] at p1
      have p3 : 2 ^ j ≤ 2 ^ 63 := Nat.pow_le_pow_right (by omega) (by omega)
      have hh := HHas.out (f + (j : Int))
      obtain ⟨x, hx⟩ : ∃ x, x = hasB bs (f + (j : Int)) := ⟨_, rfl⟩
      rw [← hx] at e1 hh
      obtain ⟨H, hH⟩ : ∃ H, H = nb (prL bs f j) := ⟨_, rfl⟩
      rw [← hH] at e1 p1 ⊢
      have k1 : H < 9223372036854775808 := by omega
      have m1 : IntKind.u64.wrap ((H : Int) * 2) = ((2 * H : Nat) : Int) := by rw [show (H : Int) * 2 = ((2 * H : Nat) : Int) by omega]; exact u_wrap (by omega)
      obtain ⟨H2, hH2⟩ : ∃ H2, H2 = 2 * H := ⟨_, rfl⟩
      rw [← hH2] at m1 e1
      have m3 : IntKind.u64.wrap ((H2 : Int) + 1) = ((H2 + 1 : Nat) : Int) := by rw [show (H2 : Int) + 1 = ((H2 + 1 : Nat) : Int) by omega]; exact u_wrap (by omega)
      have m5 : IntKind.i64.wrap (f + (j : Int)) = f + (j : Int) := IntWalk.i64_in _ (by omega)
      have i1 : (j : Int) < (N : Int) := by omega
      have HE := Lib.hid e1
      have HH := Lib.hid hh
      clear e1 p1 p3 hx hH k1 hH2 hh HHas HP HL HZ
      cases x
      all_goals
        go_wp2_with fail
        refine HH.out.mono ?_
        rintro e w' ⟨rfl, rfl⟩
        go_wp2_with fail
        go_round
        case rel => exact ⟨j + 1, by omega, by go_num, by rw [HE.out]; rfl⟩
        case measure => simp [intOf]; omega
    · obtain rfl : j = N := by omega
      go_wp2_with fail
      go_ret
      exact ⟨rfl, rfl⟩

set_option maxRecDepth 100000 in
set_option maxHeartbeats 8000000 in
theorem rlay_c (f : Int) (N X : Nat) (w : World) (hf : -200 ≤ f ∧ f ≤ 200) (hn : N ≤ 64) (hX : X < 18446744073709551616) :
    Calls Tryd.prog 33 #[.int .i64 f, .int .i64 (N : Int), .int .u64 (X : Int)] w fun e w' => ∃ a c, e = .returned (.slice a 128 c) ∧ Sep [] w w' [ownR 4 1 (.slice a 128 c) 128 ((lyK f (N : Int) X N).map Value.bool)] := by
  have hfr := rfrom_c none 0 [] w (RdV.nil _ _) (by simp)
  rw [frB_nil, ← lyK_zero f (N : Int) X] at hfr
  have HFr := Lib.hid hfr
  have HIn := Lib.hid (lyK_in f (N : Int) X)
  have HOut := Lib.hid (lyK_out f (N : Int) X)
  have HLn := Lib.hid (fun k => (show (lyK f (N : Int) X k).length = 128 by simp [lyK]))
  clear hfr
  go_enter Tryd.func33, Tryd.ntmps33
  go_wp2_with fail
  refine HFr.out.mono ?_
  rintro e w1 ⟨a, c, rfl, hS⟩
  obtain ⟨g, rfl⟩ := own_addr2 (hS.own 0 rfl) (by decide)
  have HS0 := Lib.hid hS
  clear hS HFr
  go_wp2_with fail
  go_loopw [2, 8] (fun y i wr => ∃ j : Nat, j ≤ N ∧ i = .int .i64 (j : Int) ∧ y = .int .u64 ((X / 2 ^ j : Nat) : Int) ∧ Sep [] w wr [ownR 4 1 (.slice (some ⟨g, 0, none⟩) 128 c) 128 ((lyK f (N : Int) X j).map Value.bool)]) (fun _ i _ => N - (intOf i).toNat)
  case atStart => exact ⟨0, by omega, rfl, by simp, HS0.out⟩
  case round =>
    obtain ⟨j, hj, rfl, rfl, hS⟩ := hrel
    have HS := Lib.hid hS
    clear hS
    by_cases hlt : j < N
    · have i1 : (j : Int) < (N : Int) := by omega
      have q1 : X / 2 ^ (j + 1) = (X / 2 ^ j) / 2 := by rw [Nat.pow_succ, Nat.div_div_eq_div_mul]
      have hb := bit_eq X j
      obtain ⟨D, hD⟩ : ∃ D, D = X / 2 ^ j := ⟨_, rfl⟩
      rw [← hD] at q1 hb ⊢
      have q2 : (D : Int).tdiv 2 = ((D / 2 : Nat) : Int) := by rw [Int.tdiv_eq_ediv_of_nonneg (by omega)]; omega
      have q3 : (D : Int) / 2 = ((D / 2 : Nat) : Int) := by omega
      obtain ⟨D2, hD2⟩ : ∃ D2, D2 = D / 2 := ⟨_, rfl⟩
      rw [← hD2] at q1 q2 q3
      have q4 : IntKind.u64.wrap (D2 : Int) = (D2 : Int) := u_wrap (by have := Nat.div_le_self X (2 ^ j); omega)
      have m1 : Int.tmod (D : Int) 2 = ((D % 2 : Nat) : Int) := by rw [Int.tmod_eq_emod_of_nonneg (by omega)]; omega
      have m2 : (D : Int) % 2 = ((D % 2 : Nat) : Int) := by omega
      obtain ⟨x, hx⟩ : ∃ x, x = X.testBit j := ⟨_, rfl⟩
      have m3 : (((D % 2 : Nat) : Int) == 1) = x := by rw [hx, ← hb]; exact Bool.eq_iff_iff.2 (by simp only [beq_iff_eq]; omega)
      obtain ⟨E, hE⟩ : ∃ E, E = D % 2 := ⟨_, rfl⟩
      rw [← hE] at m1 m2 m3
      have s1 : IntKind.i64.wrap (f + (N : Int)) = f + (N : Int) := IntWalk.i64_in _ (by omega)
      have s2 : IntKind.i64.wrap (f + (N : Int) - 1) = f + (N : Int) - 1 := IntWalk.i64_in _ (by omega)
      obtain ⟨T, hT⟩ : ∃ T, T = f + (N : Int) - 1 - (j : Int) := ⟨_, rfl⟩
      have s3 : IntKind.i64.wrap (f + (N : Int) - 1 - (j : Int)) = T := by rw [hT]; exact IntWalk.i64_in _ (by omega)
      have HQ := Lib.hid q1
      have hin := HIn.out j
      have hout := HOut.out j
      rw [← hT] at hin hout
      rw [← hx] at hin
      clear hT hx hb hD hD2 hE q1
      by_cases hc : 0 ≤ T ∧ T < 128
      · obtain ⟨k, rfl⟩ := Int.eq_ofNat_of_zero_le hc.1
        have hk : k < 128 := by omega
        have hn := hin hc
        rw [Int.toNat_natCast] at hn
        have k0 : (0 : Int) ≤ (k : Int) := by omega
        have k1 : (k : Int) < 128 := by omega
        have b1 : decide ((k : Int) ≥ 0) = true := decide_eq_true k0
        have hov : ∃ v, ((lyK f (N : Int) X j).map Value.bool)[k]? = some v := ⟨_, List.getElem?_eq_getElem (by rw [List.length_map, HLn.out]; exact hk)⟩
        obtain ⟨v, hv⟩ := hov
        obtain ⟨vb, rfl⟩ : ∃ vb, v = .bool vb := by rw [List.getElem?_map] at hv; obtain ⟨b, _, rfl⟩ := Option.map_eq_some_iff.1 hv; exact ⟨b, rfl⟩
        have c0 := own_cell2 (HS.out.own 0 rfl) hv
        have f0 := own_free (HS.out.own 0 rfl) k
        have h5 := own_set (HS.out.own 0 rfl) k (.bool x) hk
        rw [← List.map_set, ← hn] at h5
        have HS5 := Lib.hid (HS.out.grow 0 rfl (grown_put (grown_refl wr _) k (.bool x)) h5 (.inl rfl))
        clear hin hout hn hv hc h5 HS0 HIn HOut HLn
        go_wp2_with fail
        go_roundw
        case rel => exact ⟨j + 1, by omega, by go_num, by rw [HQ.out], HS5.out⟩
        case measure => simp [intOf]; omega
      · have hn := hout hc
        have HN := Lib.hid hn
        by_cases hc1 : 0 ≤ T
        · have b1 : decide (T ≥ 0) = true := decide_eq_true hc1
          have b2 : decide (T < 128) = false := decide_eq_false (fun h => hc ⟨hc1, h⟩)
          clear hin hout hn hc HS0 HIn HOut HLn
          go_wp2_with fail
          go_roundw
          case rel => exact ⟨j + 1, by omega, by go_num, by rw [HQ.out], by rw [HN.out]; exact HS.out⟩
          case measure => simp [intOf]; omega
        · have b1 : decide (T ≥ 0) = false := decide_eq_false hc1
          clear hin hout hn hc HS0 HIn HOut HLn
          go_wp2_with fail
          go_roundw
          case rel => exact ⟨j + 1, by omega, by go_num, by rw [HQ.out], by rw [HN.out]; exact HS.out⟩
          case measure => simp [intOf]; omega
    · obtain rfl : j = N := by omega
      go_wp2_with fail
      go_ret
      exact ⟨_, c, rfl, HS.out⟩

end Go.Proofs.YtlkhjffbhcjdfaaDoor
