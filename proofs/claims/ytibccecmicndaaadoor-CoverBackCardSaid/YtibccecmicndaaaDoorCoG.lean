/-
  THE WALKS of cover's reference: In, Missing, From, Of.
-/
import Derived.Test.YtibccecmicndaaaDoorCoF
set_option linter.unusedVariables false
set_option linter.unusedSimpArgs false
namespace Go.Proofs.YtibccecmicndaaaDoor
open Go.RowKit

set_option maxRecDepth 100000 in
set_option maxHeartbeats 4000000 in
theorem rin_c (a : Option Addr) (c : Nat) (ns : List Int) (x : Int) (w : World) (rd : RdI .u16 w a ns) (hl : ns.length ≤ 1000000) :
    Calls Tryd.prog 11 #[.slice a ns.length c, .int .u16 x] w fun e w' => e = .returned (.bool (decide (x ∈ ns))) ∧ w = w' := by
  have HR := Lib.hid rd
  clear rd
  go_enter Tryd.func11, Tryd.ntmps11
  go_wp2_with fail
  go_loop [5] (fun i => ∃ j : Nat, j ≤ ns.length ∧ i = .int .i64 (j : Int) ∧ x ∉ ns.take j) (fun i => ns.length - (intOf i).toNat)
  case atStart => exact ⟨0, by omega, rfl, by simp⟩
  case round =>
    obtain ⟨j, hj, rfl, hp⟩ := hrel
    have HP := Lib.hid hp
    clear hp
    by_cases hlt : j < ns.length
    · obtain ⟨g, off, y, hy, rfl, hb, cy⟩ := HR.out.at_ j hlt
      have i0 : (0 : Int) ≤ (j : Int) := by omega
      have i1 : (j : Int) < (ns.length : Int) := by omega
      have htk : ns.take (j + 1) = ns.take j ++ [y] := by rw [List.take_add_one, hy]; rfl
      by_cases hxy : y = x
      · have b1 : (y == x) = true := beq_iff_eq.2 hxy
        have HE := Lib.hid (show decide (x ∈ ns) = true from decide_eq_true (hxy ▸ List.mem_of_getElem? hy))
        clear hy hb htk hxy
        go_wp2_with fail
        go_ret
        exact ⟨ret_bool HE.out.symm, rfl⟩
      · have b1 : (y == x) = false := beq_eq_false_iff_ne.2 hxy
        have HE := Lib.hid (show x ∉ ns.take (j + 1) from by rw [htk, List.mem_append]; rintro (h | h); exact HP.out h; exact hxy (List.mem_singleton.1 h).symm)
        clear hy hb htk hxy
        go_wp2_with fail
        go_round
        case rel => exact ⟨j + 1, by omega, by go_num, HE.out⟩
        case measure => simp [intOf]; omega
    · obtain rfl : j = ns.length := by omega
      have hp := HP.out
      rw [List.take_length] at hp
      have HE := Lib.hid (show decide (x ∈ ns) = false from decide_eq_false hp)
      clear hp
      go_wp2_with fail
      go_ret
      exact ⟨ret_bool HE.out.symm, rfl⟩

/-- Those that aren't among some. -/
def miL (known ns : List Int) : List Int := ns.filter fun x => !decide (x ∈ known)
theorem miL_snoc (known ns : List Int) (x : Int) : miL known (ns ++ [x]) = miL known ns ++ if decide (x ∈ known) = true then [] else [x] := by
  unfold miL
  rw [List.filter_append]
  by_cases h : x ∈ known <;> simp [h]
theorem miL_len (known ns : List Int) : (miL known ns).length ≤ ns.length := List.length_filter_le _ _

set_option maxRecDepth 100000 in
set_option maxHeartbeats 4000000 in
theorem rmissing_c (a : Option Addr) (c : Nat) (ns : List Int) (ka : Option Addr) (kc : Nat) (known : List Int) (w : World) (rd : RdI .u16 w a ns) (rk : RdI .u16 w ka known) (hl : ns.length ≤ 1000) (hk : known.length ≤ 1000) :
    Calls Tryd.prog 15 #[.slice a ns.length c, .slice ka known.length kc] w fun e w' => ∃ v, e = .returned v ∧ Sep [] w w' [ownR 22 1 v (miL known ns).length ((miL known ns).map (Value.int .u16))] := by
  obtain ⟨i0, hi, hz0, hz1, hz2⟩ := info_parts info_u16
  have HR := Lib.hid rd
  have HIn := Lib.hid (fun x W hW => rin_c ka kc known x W (rk.below hW) (by omega))
  have HS0 := Lib.hid ((Sep.init w).made 22 1 0 #[] (Nat.zero_le _) rfl)
  clear rd rk
  go_enter Tryd.func15, Tryd.ntmps15
  go_wp2_with fail
  go_loopw [5, 6] (fun v i wr => ∃ j : Nat, j ≤ ns.length ∧ i = .int .i64 (j : Int) ∧ Sep [] w wr [ownR 22 1 v (miL known (ns.take j)).length ((miL known (ns.take j)).map (Value.int .u16))]) (fun _ i _ => ns.length - (intOf i).toNat)
  case atStart => exact ⟨0, by omega, rfl, HS0.out⟩
  case round =>
    obtain ⟨j, hj, rfl, hS⟩ := hrel
    have hrw := HR.out.below hS.frm.below
    have HS := Lib.hid hS
    clear hS
    by_cases hlt : j < ns.length
    · obtain ⟨g, off, y, hy, rfl, hb, cy⟩ := hrw.at_ j hlt
      have i0' : (0 : Int) ≤ (j : Int) := by omega
      have i1 : (j : Int) < (ns.length : Int) := by omega
      have hst := miL_snoc known (ns.take j) y
      rw [show ns.take j ++ [y] = ns.take (j + 1) by rw [List.take_add_one, hy]; rfl] at hst
      have hle : (miL known (ns.take j)).length ≤ j := Nat.le_trans (miL_len _ _) (by rw [List.length_take]; omega)
      have HI := Lib.hid (HIn.out y wr HS.out.frm.below)
      obtain ⟨t, ht⟩ : ∃ t, t = decide (y ∈ known) := ⟨_, rfl⟩
      rw [← ht] at hst HI
      obtain ⟨Y, hY⟩ : ∃ Y, Y = miL known (ns.take j) := ⟨_, rfl⟩
      rw [← hY] at hst hle HS
      obtain ⟨n, hn⟩ : ∃ n, n = Y.length := ⟨_, rfl⟩
      rw [← hn] at HS hle
      have HN := Lib.hid hn
      have HSt := Lib.hid hst
      clear hy hb hrw hst ht hY hn
      cases t
      · go_wp2_with fail
        refine HI.out.mono ?_
        rintro e w5 ⟨rfl, rfl⟩
        go_wp2_with (at_builtin; refine wpList_append_sep rfl _ _ 24 rfl 0 22 i0 (.int .u16 0) 2 Tryd.underlying24 hi hz0 hz1 hz2 rfl _ _ _ rfl (HS.out.skip _) rfl _ 1 (.int .u16 y) rfl (World.cell?_alloc_at _ _ _ _ rfl) rfl (by unfold maxLen; omega) (by omega) ?_; intro g4 c4 w4 hS4; have HS4 := Lib.hid hS4; clear hS4)
        go_roundw
        case rel => exact ⟨j + 1, by omega, by go_num, by rw [HSt.out, if_neg (by decide), List.length_append, List.map_append, ← HN.out]; exact HS4.out⟩
        case measure => simp [intOf]; omega
      · go_wp2_with fail
        refine HI.out.mono ?_
        rintro e w5 ⟨rfl, rfl⟩
        go_wp2_with fail
        go_roundw
        case rel => exact ⟨j + 1, by omega, by go_num, by rw [HSt.out, show ∀ (p : Prop) (h : Decidable p), p → (if p then ([] : List Int) else [y]) = [] from fun p h hp => if_pos hp] <;> first | trivial | (rw [List.append_nil, ← HN.out]; exact HS.out)⟩
        case measure => simp [intOf]; omega
    · obtain rfl : j = ns.length := by omega
      rw [List.take_length] at HS
      clear hrw
      obtain ⟨a5, c5, hv, hj5⟩ := own_cases (HS.out.own 0 rfl)
      subst hv
      clear hj5
      go_wp2_with fail
      go_ret
      exact ⟨_, rfl, HS.out⟩

theorem rdv_own {w : World} {e : TypeId} {a : Option Addr} {n c : Nat} {xs : List Value} (h : w.ownsRow 0 e 1 (.slice a n c) n xs) : RdV w a xs := fun i v hv => by
  have hn : 0 < n := by have h1 := h.1; have h2 := (List.getElem?_eq_some_iff.1 hv).1; omega
  obtain ⟨g, rfl⟩ := own_addr2 h hn
  exact ⟨g, 0, rfl, (h.lt g rfl).2, by rw [Nat.zero_add]; exact own_cell2 h hv⟩
theorem ds_len (b : Int) (ns : List Int) : (dsL b ns).length = ns.length := by simp [dsL]
theorem frB_bools (zs : List Int) : frB zs 128 = bools (ofH zs) (ofL zs) := by
  unfold frB bools
  apply List.map_congr_left
  intro i hi
  exact (bt_of zs i (List.mem_range.1 hi)).symm

set_option maxRecDepth 100000 in
set_option maxHeartbeats 8000000 in
theorem rfr_c (a : Option Addr) (c : Nat) (b : Int) (ns : List Int) (w : World) (rd : RdI .u16 w a ns) (hl : ns.length ≤ 1000) (hn : ∀ n ∈ ns, 0 ≤ n ∧ n ≤ 65535) (b0 : 0 ≤ b) (b1 : b ≤ 65535) :
    Calls Tryd.prog 22 #[.int .u16 b, .slice a ns.length c] w fun e w' => e = .returned (.tuple #[.int .u64 (frH b ns : Int), .int .u64 (frL b ns : Int), .int .i64 (frE b ns)]) ∧ Frm [] w w' := by
  obtain ⟨i0, hi, hz0, hz1, hz2⟩ := info_parts info_int
  have HR := Lib.hid rd
  have HN := Lib.hid hn
  clear rd hn
  by_cases hz : ns.length = 0
  · have hzb : ((ns.length : Int) == 0) = true := beq_iff_eq.2 (by omega)
    obtain ⟨e1, e2, e3⟩ := frE_none (b := b) hz
    rw [e1, e2, e3]
    clear e1 e2 e3 hz
    go_enter Tryd.func22, Tryd.ntmps22
    go_wp2_with fail
    refine bodyPost_ret (v := .tuple #[.int .u64 0, .int .u64 0, .int .i64 4]) ?_ rfl ⟨rfl, Frm.refl _ _⟩
    simp [results, Tryd.results22, go_sem]
  have hzb : ((ns.length : Int) == 0) = false := beq_eq_false_iff_ne.2 (by omega)
  have HS0 := Lib.hid ((Sep.init w).made 3 1 0 #[] (Nat.zero_le _) rfl)
  have HNz := Lib.hid hz
  clear hz
  go_enter Tryd.func22, Tryd.ntmps22
  go_upto_region 4 with fail
  clear hzb
  go_wp2_with fail
  go_loopw [7, 8, 9] (fun v t i wr => ∃ j : Nat, j ≤ ns.length ∧ i = .int .i64 j ∧ t = .bool (twB ((dsL b ns).take j)) ∧ (∀ d ∈ (dsL b ns).take j, inS d = true) ∧ Sep [] w wr [ownR 3 1 v j (((dsL b ns).take j).map (Value.int .i64))]) (fun _ _ i _ => ns.length - (intOf i).toNat)
  case atStart => exact ⟨0, Nat.zero_le _, rfl, rfl, by simp, HS0.out⟩
  case round =>
    obtain ⟨j, hj, rfl, rfl, hin, hS⟩ := hrel
    have hrw := HR.out.below hS.frm.below
    have HS := Lib.hid hS
    have HIn := Lib.hid hin
    clear hin hS
    by_cases hlt : j < ns.length
    · obtain ⟨g, off, x, hx, rfl, hb, hc⟩ := hrw.at_ j hlt
      have i0' : (0 : Int) ≤ (j : Int) := by omega
      have i1 : (j : Int) < (ns.length : Int) := by omega
      obtain ⟨x0, x1⟩ := HN.out x (List.mem_of_getElem? hx)
      have hdx : (dsL b ns)[j]? = some (ah16 x b) := by unfold dsL; rw [List.getElem?_map, hx]; rfl
      have hds : (dsL b ns).take (j + 1) = (dsL b ns).take j ++ [ah16 x b] := by rw [List.take_add_one, hdx]; rfl
      have hdi := ah16_in x b
      have HA := Lib.hid (fun W => rahead_c x b W x0 x1 b0 b1)
      obtain ⟨d, hd⟩ : ∃ d, d = ah16 x b := ⟨_, rfl⟩
      rw [← hd] at hdx hds hdi
      simp only [← hd] at HA
      have hdm : d ∈ dsL b ns := List.mem_of_getElem? hdx
      clear hd hx hrw
      by_cases hs : inS d = true
      · have hs' := of_decide_eq_true hs
        have t0 : decide (d < 0) = false := decide_eq_false (by omega)
        have t1 : decide (109 ≤ d) = false := decide_eq_false (by omega)
        have htw := twB_snoc ((dsL b ns).take j) d
        have hdl : ((dsL b ns).take j).length = j := by rw [List.length_take, ds_len]; omega
        rw [← hds] at htw
        have HIn2 := Lib.hid (show ∀ z ∈ (dsL b ns).take (j + 1), inS z = true from fun z hz => by
          rw [hds] at hz
          rcases List.mem_append.1 hz with hz | hz
          · exact HIn.out z hz
          · rw [List.mem_singleton.1 hz]; exact hs)
        have hmp : ((dsL b ns).take (j + 1)).map (Value.int .i64) = ((dsL b ns).take j).map (Value.int .i64) ++ [.int .i64 d] := by rw [hds, List.map_append]; rfl
        obtain ⟨D, hD⟩ : ∃ D, D = (dsL b ns).take j := ⟨_, rfl⟩
        rw [← hD] at htw hdl hmp HS
        rw [← hD]
        obtain ⟨t, ht⟩ : ∃ t, t = twB D := ⟨_, rfl⟩
        rw [← ht] at htw ⊢
        have HTw := Lib.hid htw
        have HMp := Lib.hid hmp
        have HDl := Lib.hid hdl
        clear htw hmp hdl ht hD hs hs' hds hdx hdm HIn hb
        go_wp2_with fail
        refine (HA.out _).mono ?_
        rintro e w2 ⟨rfl, rfl⟩
        obtain ⟨va, vc, rfl, hj5⟩ := own_cases (HS.out.own 0 rfl)
        clear hj5
        go_wp2_with fail
        go_loopw [8, 11] (fun s k wi => ∃ m : Nat, m ≤ j ∧ k = .int .i64 (m : Int) ∧ s = .bool (t || decide (d ∈ D.take m)) ∧ wi = wr) (fun _ k _ => j - (intOf k).toNat)
        case atStart => exact ⟨0, Nat.zero_le _, rfl, by simp, rfl⟩
        case round =>
          obtain ⟨m, hm, rfl, rfl, rfl⟩ := hrel
          by_cases hmt : m < j
          · obtain ⟨q, rfl⟩ := own_addr2 (HS.out.own 0 rfl) (by omega)
            obtain ⟨y, hy⟩ : ∃ y, D[m]? = some y := ⟨_, List.getElem?_eq_getElem (by rw [HDl.out]; exact hmt)⟩
            have cy : _ = some (Value.int .i64 y) := own_cell2 (HS.out.own 0 rfl) (j := m) (by rw [List.getElem?_map, hy]; rfl)
            have k0 : (0 : Int) ≤ (m : Int) := by omega
            have k1 : (m : Int) < (j : Int) := by omega
            have hst : (t || decide (d ∈ D.take (m + 1))) = ((t || decide (d ∈ D.take m)) || decide (y = d)) := by
              rw [List.take_add_one, hy, Bool.or_assoc]
              congr 1
              rw [Bool.eq_iff_iff]
              simp only [List.mem_append, Option.toList_some, List.mem_singleton, Bool.or_eq_true, decide_eq_true_eq]
              exact ⟨fun h => h.imp id Eq.symm, fun h => h.imp id Eq.symm⟩
            obtain ⟨u, hu⟩ : ∃ u, u = (t || decide (d ∈ D.take m)) := ⟨_, rfl⟩
            obtain ⟨z, hz⟩ : ∃ z, z = decide (y = d) := ⟨_, rfl⟩
            have bz : (y == d) = z := by rw [hz, Bool.eq_iff_iff]; simp
            rw [← hu, ← hz] at hst
            rw [← hu]
            have HSt := Lib.hid hst
            clear hst hu hz hy
            cases u
            all_goals
              go_wp2_with fail
              go_roundw
              case rel => exact ⟨m + 1, by omega, by go_num, by rw [HSt.out]; rfl, by first | rfl | trivial⟩
              case measure => simp [intOf]; omega
          · obtain rfl : m = j := by omega
            have htm : D.take m = D := List.take_of_length_le (by rw [HDl.out]; omega)
            rw [htm, ← HTw.out]
            obtain ⟨t2, ht2⟩ : ∃ t2, t2 = twB ((dsL b ns).take (m + 1)) := ⟨_, rfl⟩
            rw [← ht2]
            have HT2 := Lib.hid ht2
            clear htm ht2
            go_wp2_with (at_builtin; refine wpList_append_sep rfl _ _ 63 rfl 0 3 i0 (.int .i64 0) 8 Tryd.underlying63 hi hz0 hz1 hz2 rfl _ _ _ rfl (HS.out.skip _) rfl _ 1 (.int .i64 d) rfl (World.cell?_alloc_at _ _ _ _ rfl) rfl (by unfold maxLen; omega) (by omega) ?_; intro g4 c4 w4 hS4; have HS4 := Lib.hid hS4; clear hS4)
            go_roundw
            case rel => exact ⟨m + 1, by omega, by go_num, by rw [HT2.out], HIn2.out, by rw [HMp.out]; exact HS4.out⟩
            case measure => simp [intOf]; omega
      · have hs0 : inS d = false := by simpa using hs
        have hsn : ¬ (0 ≤ d ∧ d < 109) := of_decide_eq_false hs0
        have HE := Lib.hid (frE_out (b := b) (ns := ns) ⟨d, hdm, hs0⟩)
        obtain ⟨t, ht⟩ : ∃ t, t = twB ((dsL b ns).take j) := ⟨_, rfl⟩
        rw [← ht]
        clear hs hs0 hdx hds hdm HIn hb ht
        by_cases hd0 : d < 0
        · have t0 : decide (d < 0) = true := decide_eq_true hd0
          clear hsn hd0
          go_wp2_with fail
          refine (HA.out _).mono ?_
          rintro e w2 ⟨rfl, rfl⟩
          go_wp2_with fail
          rw [HE.out.1, HE.out.2.1, HE.out.2.2]
          refine bodyPost_ret (v := .tuple #[.int .u64 0, .int .u64 0, .int .i64 31]) ?_ rfl ⟨rfl, HS.out.frm⟩
          simp [results, Tryd.results22, go_sem]
        · have t0 : decide (d < 0) = false := decide_eq_false hd0
          have t1 : decide (109 ≤ d) = true := decide_eq_true (by omega)
          clear hsn hd0
          go_wp2_with fail
          refine (HA.out _).mono ?_
          rintro e w2 ⟨rfl, rfl⟩
          go_wp2_with fail
          rw [HE.out.1, HE.out.2.1, HE.out.2.2]
          refine bodyPost_ret (v := .tuple #[.int .u64 0, .int .u64 0, .int .i64 31]) ?_ rfl ⟨rfl, HS.out.frm⟩
          simp [results, Tryd.results22, go_sem]
    · obtain rfl : j = ns.length := by omega
      have htk : (dsL b ns).take ns.length = dsL b ns := List.take_of_length_le (by simp [dsL])
      rw [htk] at HS HIn ⊢
      have HE := Lib.hid (frE_in (b := b) (ns := ns) HIn.out HNz.out)
      have hof := frB_bools (dsL b ns)
      have hlH := ofH_lt (dsL b ns)
      have hlL := ofL_lt (dsL b ns)
      have hdl : (dsL b ns).length = ns.length := ds_len b ns
      obtain ⟨t, ht⟩ : ∃ t, t = twB (dsL b ns) := ⟨_, rfl⟩
      rw [← ht] at HE ⊢
      obtain ⟨H, hH⟩ : ∃ H, H = ofH (dsL b ns) := ⟨_, rfl⟩
      obtain ⟨L, hL⟩ : ∃ L, L = ofL (dsL b ns) := ⟨_, rfl⟩
      rw [← hH, ← hL] at HE hof
      rw [← hH] at hlH
      rw [← hL] at hlL
      obtain ⟨D, hD⟩ : ∃ D, D = dsL b ns := ⟨_, rfl⟩
      rw [← hD] at HS hof hdl
      clear htk ht hH hL HIn hrw hD
      cases t
      · have HE2 := Lib.hid (HE.out.2 rfl)
        obtain ⟨va, vc, rfl, hj5⟩ := own_cases (HS.out.own 0 rfl)
        have hrz : RdZ _ va D := rdv_own (HS.out.own 0 rfl)
        clear hj5
        have HFr := Lib.hid (rfrom_c va vc D _ hrz (by omega))
        rw [hdl, hof] at HFr
        have HNu := Lib.hid (fun a c W (hW : RdB W a (bools H L)) => rnums_c a c (bools H L) W hW (bools_len128 _ _))
        rw [nb_hi hlH, nb_lo hlL] at HNu
        obtain ⟨BB, hBB⟩ : ∃ BB, BB = bools H L := ⟨_, rfl⟩
        rw [← hBB] at HFr HNu
        have hbl : BB.length = 128 := hBB ▸ bools_len128 _ _
        have HBl := Lib.hid hbl
        clear hBB hrz hof hdl hlH hlL hbl HE
        go_wp2_with fail
        refine HFr.out.mono ?_
        rintro e w2 ⟨a2, c2, rfl, hS⟩
        obtain ⟨a', c', e1, hj1, hj2, hrd⟩ := rdB_own (hS.own 0 rfl)
        injection e1 with e1 e2 e3
        subst e1
        have HRd := Lib.hid hrd
        have HF2 := Lib.hid (HS.out.frm.trans hS.frm)
        clear hS e2 e3 hrd hj1 hj2
        go_wp2_with fail
        refine (HNu.out a2 c2 _ HRd.out).mono ?_
        rintro e w3 ⟨rfl, rfl⟩
        go_wp2_with fail
        rw [HE2.out.1, HE2.out.2.1, HE2.out.2.2]
        refine bodyPost_ret (v := .tuple #[.int .u64 (H : Int), .int .u64 (L : Int), .int .i64 0]) ?_ rfl ⟨rfl, HF2.out⟩
        simp [results, Tryd.results22, go_sem]
      · have HE2 := Lib.hid (HE.out.1 rfl)
        clear HE
        go_wp2_with fail
        rw [HE2.out.1, HE2.out.2.1, HE2.out.2.2]
        refine bodyPost_ret (v := .tuple #[.int .u64 0, .int .u64 0, .int .i64 5]) ?_ rfl ⟨rfl, HS.out.frm⟩
        simp [results, Tryd.results22, go_sem]

/- THE WALK of Of of cover's reference. -/
section
open Go.RowKit

set_option maxRecDepth 100000 in
set_option maxHeartbeats 4000000 in
theorem rcof_c (a : Option Addr) (c : Nat) (ns : List Int) (w : World) (rd : RdI .u16 w a ns) (hl : ns.length ≤ 1000) (hn : ∀ n ∈ ns, 0 ≤ n ∧ n ≤ 65535) :
    Calls Tryd.prog 20 #[.slice a ns.length c] w fun e w' => e = .returned (.tuple #[.int .u16 (coB ns), .int .u64 (coH ns : Int), .int .u64 (coL ns : Int), .int .i64 (coE ns)]) ∧ Frm [] w w' := by
  have HSp := Lib.hid (rspan_c a c ns w rd hl hn)
  have hsp := spanL_in ns hn
  have HF := Lib.hid (fun W hW => rfr_c a c (spanL ns) ns W (rd.below hW) hl hn hsp.1 hsp.2)
  have HB := Lib.hid (show coB ns = if coE ns = 0 then spanL ns else 0 from rfl)
  have HE := Lib.hid (show coE ns = if 109 ≤ spanN ns then 31 else frE (spanL ns) ns from rfl)
  have HH := Lib.hid (show coH ns = if 109 ≤ spanN ns then 0 else frH (spanL ns) ns from rfl)
  have HL := Lib.hid (show coL ns = if 109 ≤ spanN ns then 0 else frL (spanL ns) ns from rfl)
  have HZ := Lib.hid (fr_zero (b := spanL ns) (ns := ns))
  have h0s : ns.length = 0 → spanN ns = 0 := fun h => if_pos h
  obtain ⟨B, hB⟩ : ∃ B, B = coB ns := ⟨_, rfl⟩
  obtain ⟨E, hE⟩ : ∃ E, E = coE ns := ⟨_, rfl⟩
  obtain ⟨H, hH⟩ : ∃ H, H = coH ns := ⟨_, rfl⟩
  obtain ⟨L, hL⟩ : ∃ L, L = coL ns := ⟨_, rfl⟩
  obtain ⟨b, hb⟩ : ∃ b, b = spanL ns := ⟨_, rfl⟩
  obtain ⟨s, hs⟩ : ∃ s, s = spanN ns := ⟨_, rfl⟩
  obtain ⟨fe, hfe⟩ : ∃ fe, fe = frE b ns := ⟨_, rfl⟩
  obtain ⟨fh, hfh⟩ : ∃ fh, fh = frH b ns := ⟨_, rfl⟩
  obtain ⟨fl, hfl⟩ : ∃ fl, fl = frL b ns := ⟨_, rfl⟩
  simp only [← hb, ← hs, ← hfe, ← hfh, ← hfl] at HSp HF
  rw [← hB, ← hE, ← hb] at HB
  rw [← hE, ← hb, ← hs, ← hfe] at HE
  rw [← hH, ← hb, ← hs, ← hfh] at HH
  rw [← hL, ← hb, ← hs, ← hfl] at HL
  rw [← hb, ← hfe, ← hfh, ← hfl] at HZ
  rw [← hs] at h0s
  rw [← hB, ← hE, ← hH, ← hL]
  have HPos := Lib.hid (show 109 ≤ s → decide (0 < ns.length) = true from fun h => decide_eq_true (by
    rcases Nat.eq_zero_or_pos ns.length with h1 | h1
    · have := h0s h1; omega
    · omega))
  clear hB hE hH hL hb hs hfe hfh hfl hsp rd hn h0s
  go_enter Tryd.func20, Tryd.ntmps20
  go_wp2_with fail
  refine HSp.out.mono ?_
  rintro e w1 ⟨rfl, hf⟩
  have HF1 := Lib.hid hf
  clear hf
  by_cases h1 : 109 ≤ s
  · have t1 : decide (109 ≤ s) = true := decide_eq_true h1
    have t2 := HPos.out h1
    have hE : E = 31 := by rw [HE.out, if_pos h1]
    have hB : B = 0 := by rw [HB.out, hE]; rfl
    have hH : H = 0 := by rw [HH.out, if_pos h1]
    have hL : L = 0 := by rw [HL.out, if_pos h1]
    subst hE hB hH hL
    clear h1
    go_wp2_with fail
    refine bodyPost_ret (v := .tuple #[.int .u16 0, .int .u64 0, .int .u64 0, .int .i64 31]) ?_ rfl ⟨rfl, HF1.out⟩
    simp [results, Tryd.results20, go_sem]
  · have t1 : decide (109 ≤ s) = false := decide_eq_false h1
    have hE : E = fe := by rw [HE.out, if_neg h1]
    have hH : H = fh := by rw [HH.out, if_neg h1]
    have hL : L = fl := by rw [HL.out, if_neg h1]
    subst hE hH hL
    clear h1 HE HH HL HPos
    obtain ⟨t, ht⟩ : ∃ t, t = decide (0 < ns.length) := ⟨_, rfl⟩
    have t2 := ht.symm
    clear ht
    cases t
    all_goals
      go_wp2_with fail
      refine (HF.out _ HF1.out.below).mono ?_
      rintro e w2 ⟨rfl, hf⟩
      have HF2 := Lib.hid (HF1.out.trans hf)
      clear hf t2
      by_cases hz : E = 0
      · subst hz
        have hB : B = b := by rw [HB.out, if_pos rfl]
        subst hB
        clear HB HZ
        go_wp2_with fail
        refine bodyPost_ret (v := .tuple #[.int .u16 B, .int .u64 (H : Int), .int .u64 (L : Int), .int .i64 0]) ?_ rfl ⟨rfl, HF2.out⟩
        simp [results, Tryd.results20, go_sem]
      · have hzb : (E == 0) = false := beq_eq_false_iff_ne.2 hz
        have hzc : (E != 0) = true := bne_iff_ne.2 hz
        obtain ⟨zH, zL⟩ := HZ.out hz
        have hB : B = 0 := by rw [HB.out, if_neg hz]
        subst hB
        have HzH := Lib.hid (And.intro zH zL)
        clear hz HB HZ zH zL
        go_wp2_with fail
        rw [HzH.out.1, HzH.out.2]
        refine bodyPost_ret (v := .tuple #[.int .u16 0, .int .u64 0, .int .u64 0, .int .i64 E]) ?_ rfl ⟨rfl, HF2.out⟩
        simp [results, Tryd.results20, go_sem]
end

end Go.Proofs.YtibccecmicndaaaDoor
