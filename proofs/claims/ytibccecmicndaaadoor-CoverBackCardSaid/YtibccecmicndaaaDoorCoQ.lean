/-
  THE WALK of CoverBack.
-/
import Derived.Test.YtibccecmicndaaaDoorSgs
import Derived.Test.YtibccecmicndaaaDoorBits
import Derived.Test.YtibccecmicndaaaDoorCel
import Derived.Test.YtibccecmicndaaaDoorPic
import Derived.Test.YtibccecmicndaaaDoorCoM
set_option linter.unusedVariables false
set_option linter.unusedSimpArgs false
namespace Go.Proofs.YtibccecmicndaaaDoor
open Go.RowKit Go.Maps Go.Shelf
attribute [local go_sem] Oper.semAt_some

/- PLAIN: the numbers of a mask, the last one first, have that mask again, from the first one on. -/
section
open Go.RowKit

/-- Two rows that rise and have the same members are one. -/
theorem rise_eq : ∀ (A B : List Nat), A.Pairwise (· < ·) → B.Pairwise (· < ·) → (∀ x, x ∈ A ↔ x ∈ B) → A = B
  | [], [], _, _, _ => rfl
  | [], b :: B, _, _, h => absurd ((h b).2 (by simp)) (by simp)
  | a :: A, [], _, _, h => absurd ((h a).1 (by simp)) (by simp)
  | a :: A, b :: B, hA, hB, h => by
    rw [List.pairwise_cons] at hA hB
    have e : a = b := by
      rcases List.mem_cons.1 ((h a).1 (by simp)) with h1 | h1
      · exact h1
      · rcases List.mem_cons.1 ((h b).2 (by simp)) with h2 | h2
        · exact h2.symm
        · have := hB.1 a h1; have := hA.1 b h2; omega
    subst e
    congr 1
    refine rise_eq A B hA.2 hB.2 (fun x => ?_)
    constructor
    · intro hx
      rcases List.mem_cons.1 ((h x).1 (by simp [hx])) with h1 | h1
      · subst h1; exact absurd (hA.1 x hx) (by omega)
      · exact h1
    · intro hx
      rcases List.mem_cons.1 ((h x).2 (by simp [hx])) with h1 | h1
      · subst h1; exact absurd (hB.1 x hx) (by omega)
      · exact h1

theorem ah_ad (b x y : Nat) (hx : x < 128) (hy : y < 128) : ah16 ((adN b x : Nat) : Int) ((adN b y : Nat) : Int) = (x : Int) - (y : Int) := by unfold ah16 adN; omega
theorem ah_ad0 (b x : Nat) (hb : b < 65536) (hx : x < 128) : ah16 ((adN b x : Nat) : Int) (b : Int) = (x : Int) := by unfold ah16 adN; omega
theorem ad_ad (b x y : Nat) (h : x ≤ y) : adN (adN b x) (y - x) = adN b y := by unfold adN; omega
theorem ad_add (b x y : Nat) : add16 ((adN b y : Nat) : Int) ((x : Int) - (y : Int)) = ((adN b x : Nat) : Int) := by unfold add16 adN; omega
theorem bits_cut {h l : Nat} (x : Nat) (hx : x ∈ bitsOf (h &&& fuH 109) (l &&& fuL 109)) : x < 109 := by
  obtain ⟨h1, h2⟩ := bitsOf_mem.1 hx
  rw [bt_and, bt_full _ _ h1, Bool.and_eq_true, decide_eq_true_eq] at h2
  omega

section
variable {b r : Nat} {t : List Nat} (hR : (r :: t).Pairwise (· < ·)) (hlt : ∀ x ∈ r :: t, x < 109)
include hR hlt

theorem back_head : ∃ z, z ∈ r :: t ∧ (∀ x ∈ r :: t, x ≤ z) ∧ ((sqL b (r :: t)).reverse).getD 0 0 = ((adN b z : Nat) : Int) := by
  have h9 := hlt
  obtain ⟨z, hz⟩ : ∃ z, (r :: t).getLast? = some z := ⟨_, List.getLast?_cons⟩
  refine ⟨z, List.mem_of_getLast? hz, fun x hx => ?_, ?_⟩
  · obtain ⟨i, hi, rfl⟩ := List.mem_iff_getElem.1 hx
    rw [List.getLast?_eq_getElem?] at hz
    have hl : (r :: t).length - 1 < (r :: t).length := by simp
    rw [List.getElem?_eq_getElem hl] at hz
    have hz' := Option.some.inj hz
    rcases Nat.lt_or_ge i ((r :: t).length - 1) with h | h
    · have := List.pairwise_iff_getElem.1 hR i _ hi hl h
      omega
    · have e : i = (r :: t).length - 1 := by omega
      subst e
      omega
  · unfold sqL
    rw [List.getD_eq_getElem?_getD, ← List.head?_eq_getElem?, List.head?_reverse, List.getLast?_map, hz]
    rfl

theorem least_r : ∀ x ∈ r :: t, r ≤ x := fun x hx => by
  have h9 := hlt
  rw [List.pairwise_cons] at hR
  rcases List.mem_cons.1 hx with rfl | h
  · exact Nat.le_refl _
  · exact Nat.le_of_lt (hR.1 x h)

theorem back_span : spanL (sqL b (r :: t)).reverse = ((adN b r : Nat) : Int) ∧ spanN (sqL b (r :: t)).reverse < 109 := by
  obtain ⟨z, hz, hmx, hhd⟩ := back_head (b := b) hR hlt
  have hl : ((sqL b (r :: t)).reverse).length ≠ 0 := by simp [sqL]
  have hrz := hmx r (by simp)
  have hz9 := hlt z hz
  have hmem : ∀ n ∈ ((sqL b (r :: t)).reverse.take (sqL b (r :: t)).reverse.length).reverse, ∃ x ∈ r :: t, n = ((adN b x : Nat) : Int) ∧ ah16 n ((adN b z : Nat) : Int) = (x : Int) - (z : Int) := fun n hn => by
    rw [List.take_length, List.reverse_reverse] at hn
    obtain ⟨x, hx, rfl⟩ := List.mem_map.1 hn
    have := hlt x hx
    exact ⟨x, hx, rfl, ah_ad b x z (by omega) (by omega)⟩
  have hin : ((adN b r : Nat) : Int) ∈ ((sqL b (r :: t)).reverse.take (sqL b (r :: t)).reverse.length).reverse := by
    rw [List.take_length, List.reverse_reverse]
    exact List.mem_map.2 ⟨r, by simp, rfl⟩
  have hr9 := hlt r (by simp)
  have hlo : lowR (sqL b (r :: t)).reverse (sqL b (r :: t)).reverse.length = (r : Int) - (z : Int) := by
    unfold lowR
    rw [hhd]
    have h1 := spLow_le ((adN b z : Nat) : Int) _ _ hin
    rw [ah_ad b r z (by omega) (by omega)] at h1
    rcases spLow_mem ((adN b z : Nat) : Int) ((sqL b (r :: t)).reverse.take (sqL b (r :: t)).reverse.length).reverse with h2 | ⟨n, hn, h2⟩
    · omega
    · obtain ⟨x, hx, _, e⟩ := hmem n hn
      have := least_r hR hlt x hx
      omega
  have hhi : highR (sqL b (r :: t)).reverse (sqL b (r :: t)).reverse.length = 0 := by
    unfold highR
    rw [hhd]
    have h1 := spHigh_in ((adN b z : Nat) : Int) ((sqL b (r :: t)).reverse.take (sqL b (r :: t)).reverse.length).reverse
    rcases spHigh_mem ((adN b z : Nat) : Int) ((sqL b (r :: t)).reverse.take (sqL b (r :: t)).reverse.length).reverse with h2 | ⟨n, hn, h2⟩
    · exact h2
    · obtain ⟨x, hx, _, e⟩ := hmem n hn
      have := hmx x hx
      omega
  unfold spanL spanN
  rw [if_neg hl, if_neg hl, hlo, hhi, hhd, ad_add]
  exact ⟨rfl, by omega⟩

theorem back_ds : dsL ((adN b r : Nat) : Int) (sqL b (r :: t)).reverse = (fwL ((r :: t).map (· - r))).reverse := by
  unfold dsL sqL fwL
  rw [List.map_reverse, List.map_map, List.map_map]
  congr 1
  apply List.map_congr_left
  intro x hx
  have h1 := hlt x hx
  have h2 := hlt r (by simp)
  have h3 := least_r hR hlt x hx
  show ah16 ((adN b x : Nat) : Int) ((adN b r : Nat) : Int) = (((x - r : Nat)) : Int)
  rw [ah_ad b x r (by omega) (by omega)]
  omega

theorem sub_rise : ((r :: t).map (· - r)).Pairwise (· < ·) := by
  rw [List.pairwise_map]
  exact List.Pairwise.imp_of_mem (fun {x y} hx hy h => by have := least_r hR hlt x hx; omega) hR

theorem back_ok : frE ((adN b r : Nat) : Int) (sqL b (r :: t)).reverse = 0 := by
  have hin : ∀ d ∈ dsL ((adN b r : Nat) : Int) (sqL b (r :: t)).reverse, inS d = true := fun d hd => by
    rw [back_ds hR hlt, List.mem_reverse] at hd
    obtain ⟨x, hx, rfl⟩ := List.mem_map.1 hd
    obtain ⟨y, hy, rfl⟩ := List.mem_map.1 hx
    have := hlt y hy
    exact decide_eq_true (by omega)
  refine ((frE_in hin (by simp [sqL])).2 ?_).1
  unfold twB
  rw [back_ds hR hlt]
  have h5 : (fwL ((r :: t).map (· - r))).Nodup := by
    unfold fwL
    exact List.Pairwise.map (fun x : Nat => (x : Int)) (fun a b (h : a < b) e => by have := Int.ofNat.inj e; omega) (sub_rise hR hlt)
  have h6 : ((fwL ((r :: t).map (· - r))).reverse).Nodup := List.pairwise_reverse.2 (List.Pairwise.imp (fun h e => h e.symm) h5)
  rw [decide_eq_true h6]
  rfl

theorem back_co : coE (sqL b (r :: t)).reverse = 0 ∧ coB (sqL b (r :: t)).reverse = ((adN b r : Nat) : Int) := by
  obtain ⟨h1, h2⟩ := back_span (b := b) hR hlt
  have h3 := back_ok (b := b) hR hlt
  have e : coE (sqL b (r :: t)).reverse = 0 := by
    unfold coE
    rw [if_neg (by omega), h1, h3]
  exact ⟨e, by unfold coB; rw [if_pos e, h1]⟩

theorem back_bits : (∀ i : Nat, i < 128 → (bt (coH (sqL b (r :: t)).reverse) (coL (sqL b (r :: t)).reverse) i = true ↔ i ∈ (r :: t).map (· - r))) ∧ coH (sqL b (r :: t)).reverse < 18446744073709551616 ∧ coL (sqL b (r :: t)).reverse < 18446744073709551616 := by
  obtain ⟨h1, h2⟩ := back_co (b := b) hR hlt
  obtain ⟨_, e1, e2, _, _⟩ := co_ok h1
  rw [e1, e2, h2, back_ds hR hlt]
  refine ⟨fun i hi => ?_, ofH_lt _, ofL_lt _⟩
  rw [bt_of _ i hi, decide_eq_true_eq, List.mem_reverse]
  unfold fwL
  constructor
  · intro h
    obtain ⟨x, hx, e⟩ := List.mem_map.1 h
    have := Int.ofNat.inj e
    subst this
    exact hx
  · intro h
    exact List.mem_map.2 ⟨i, h, rfl⟩

theorem back_list : bitsOf (coH (sqL b (r :: t)).reverse) (coL (sqL b (r :: t)).reverse) = (r :: t).map (· - r) := by
  obtain ⟨hb, _, _⟩ := back_bits (b := b) hR hlt
  refine rise_eq _ _ (bits_sorted _ _) (sub_rise hR hlt) (fun i => ?_)
  rw [bitsOf_mem]
  constructor
  · rintro ⟨h1, h2⟩
    exact (hb i h1).1 h2
  · intro h
    have hi : i < 128 := by
      obtain ⟨x, hx, rfl⟩ := List.mem_map.1 h
      have := hlt x hx
      omega
    exact ⟨hi, (hb i hi).2 h⟩

theorem back_sq : sqL (adN b r) ((r :: t).map (· - r)) = sqL b (r :: t) := by
  unfold sqL
  rw [List.map_map]
  apply List.map_congr_left
  intro x hx
  show ((adN (adN b r) (x - r) : Nat) : Int) = ((adN b x : Nat) : Int)
  rw [ad_ad b r x (least_r hR hlt x hx)]

theorem back_down {h l : Nat} (h0 : h < 18446744073709551616) (h1 : l < 18446744073709551616) (hb : bitsOf h l = r :: t) : coH (sqL b (r :: t)).reverse = dwH h l (-(r : Int)) ∧ coL (sqL b (r :: t)).reverse = dwL h l (-(r : Int)) := by
  obtain ⟨hbt, c0, c1⟩ := back_bits (b := b) hR hlt
  refine bt_eq c0 c1 (dwH_lt _ _ _ h0 h1) (dwL_lt _ _ _ h0 h1) (fun i hi => ?_)
  rw [Bool.eq_iff_iff, hbt i hi, bt_down h0 h1 _ i hi]
  constructor
  · intro h
    obtain ⟨x, hx, rfl⟩ := List.mem_map.1 h
    have h3 := least_r hR hlt x hx
    have h4 := hlt x hx
    rw [if_pos (by omega), show (((x - r : Nat) : Int) - -(r : Int)).toNat = x by omega]
    exact (bitsOf_mem.1 (hb ▸ hx)).2
  · intro h
    split at h
    · rename_i hc
      have hm : ((i : Int) - -(r : Int)).toNat ∈ r :: t := hb ▸ bitsOf_mem.2 ⟨by omega, h⟩
      exact List.mem_map.2 ⟨_, hm, by omega⟩
    · cases h

theorem from_sq {h l : Nat} (hb : b < 65536) (h0 : h < 18446744073709551616) (h1 : l < 18446744073709551616) (hbs : bitsOf h l = r :: t) : frE (b : Int) (sqL b (r :: t)) = 0 ∧ frH (b : Int) (sqL b (r :: t)) = h ∧ frL (b : Int) (sqL b (r :: t)) = l := by
  have hds : dsL (b : Int) (sqL b (r :: t)) = fwL (r :: t) := by
    unfold dsL sqL fwL
    rw [List.map_map]
    apply List.map_congr_left
    intro x hx
    have := hlt x hx
    exact ah_ad0 b x hb (by omega)
  have hin : ∀ d ∈ dsL (b : Int) (sqL b (r :: t)), inS d = true := fun d hd => by
    rw [hds] at hd
    obtain ⟨x, hx, rfl⟩ := List.mem_map.1 hd
    have := hlt x hx
    exact decide_eq_true (by omega)
  have hnd : (fwL (r :: t)).Nodup := by
    unfold fwL
    exact List.Pairwise.map (fun x : Nat => (x : Int)) (fun a b (h : a < b) e => by have := Int.ofNat.inj e; omega) hR
  obtain ⟨e1, e2, e3⟩ := (frE_in hin (by simp [sqL])).2 (by unfold twB; rw [hds]; simp [hnd])
  obtain ⟨f1, f2⟩ := fwL_all h0 h1
  rw [hbs] at f1 f2
  exact ⟨e1, by rw [e2, hds, f1], by rw [e3, hds, f2]⟩
end

theorem nd_more {L : Int} (h : -1 ≤ L) (h2 : L < 128) : L < ndN L := by
  rw [ndN_if]
  split
  · omega
  split
  · omega
  split
  · omega
  split
  · omega
  split
  · omega
  split
  · omega
  · omega
end

theorem own_slice0 {w : World} {e : TypeId} {v : Value} {n : Nat} {xs : List Value} (h : w.ownsRow 0 e 1 v n xs) : ∃ a c, v = .slice a n c := by
  obtain ⟨a, c, hv, _⟩ := own_cases h
  exact ⟨a, c, hv⟩
theorem rev_take {ns : List Int} {j : Nat} {x : Int} (hj : j < ns.length) (hx : ns[ns.length - 1 - j]? = some x) : ns.reverse.take (j + 1) = ns.reverse.take j ++ [x] := by
  rw [List.take_add_one, List.getElem?_reverse hj, hx]; rfl

theorem Sep.ne {S : List Nat} {w0 w : World} {L : List Res} (h : Sep S w0 w L) (i j : Nat) (hij : i < j) {r s : Res} (hi : L[i]? = some r) (hj : L[j]? = some s) {k : Nat} (hk : k ∈ r.bl) : k ∉ s.bl := by
  obtain ⟨hil, hie⟩ := List.getElem?_eq_some_iff.1 hi
  obtain ⟨hjl, hje⟩ := List.getElem?_eq_some_iff.1 hj
  have h2 := List.pairwise_iff_getElem.1 h.apart i j hil hjl hij
  rw [hie, hje] at h2
  exact h2 k hk
def tC (r p s gz N nc q g M h l b : Nat) (Z : List Int) (pre : List Nat) : List Res := [blkR (r + 1) 27 #[.int .u64 (h : Int), .int .u64 (l : Int)], blkR r 22 #[.int .u16 (b : Int)], blkR p 3 #[.int .i64 (pre.length : Int)], blkR s 24 #[.slice (some ⟨gz, 0, none⟩) N nc], ownR 22 1 (.slice (some ⟨gz, 0, none⟩) N nc) N (Z.map (Value.int .u16)), blkR q 27 #[.int .u64 (h : Int), .int .u64 (l : Int)], blkR (g + 1 + 1) 4 #[.bool false], blkR (g + 1) 3 #[.int .i64 (1 + (M : Int))], blkR g 22 #[.int .u16 (b : Int)]]
theorem pre_at {R pre : List Nat} {y : Nat} (e : (pre ++ [y]) <+: R) : R[pre.length]? = some y ∧ y ∈ R ∧ pre.length + 1 ≤ R.length := by
  obtain ⟨t, rfl⟩ := e
  refine ⟨by simp, by simp, by simp⟩

set_option maxRecDepth 100000 in
set_option maxHeartbeats 16000000 in
theorem coverBack_f (w : World) (hT : Tabs w) (b0 : Int) (wb : (Lit.int .u16 b0).wf = true) (x0 : Int) (wh : (Lit.int .u64 x0).wf = true) (l0 : Int) (wl : (Lit.int .u64 l0).wf = true) (mo : Int) (wm : (Lit.int .i64 mo).wf = true) :
    Calls Tryd.prog 6 #[.int .u16 b0, .int .u64 x0, .int .u64 l0, .int .i64 mo] w fun e w' => e = .returned (.bool true) ∧ Below w.heap.size w w' := by
  obtain ⟨b, rfl, hb⟩ := u16_nat wb
  obtain ⟨hh, rfl, hh0⟩ := u64_nat wh
  obtain ⟨ll, rfl, ll0⟩ := u64_nat wl
  obtain ⟨M, hM, M1⟩ := below_of _ 127 (and_i64 mo 127 (by omega) (by omega))
  obtain ⟨i0, hi, hz0, hz1, hz2⟩ := info_parts info_u16
  have hnot : ∀ (x : Bool) (w : World), (Op.unary .not (.bool x)).run Tryd.prog w = .ok (.bool (!x)) w := fun _ _ => rfl
  have HT := Lib.hid hT
  have HCut := Lib.hid (fun X => cut_c hh ll 109 X hh0 ll0)
  have h0 : hh &&& fuH 109 < 18446744073709551616 := less_lt _ _ hh0
  have h1 : ll &&& fuL 109 < 18446744073709551616 := less_lt _ _ ll0
  have hlt := fun x hx => bits_cut (h := hh) (l := ll) x hx
  obtain ⟨h, hH⟩ : ∃ h, h = hh &&& fuH 109 := ⟨_, rfl⟩
  obtain ⟨l, hL⟩ : ∃ l, l = ll &&& fuL 109 := ⟨_, rfl⟩
  rw [← hH, ← hL] at HCut hlt
  rw [← hH] at h0
  rw [← hL] at h1
  have HSq := Lib.hid (fun X => seqs_c b h l X hb h0 h1)
  have HCo := Lib.hid (fun X => count_c h l X h0 h1)
  rw [← count_len] at HCo
  have hri := bits_sorted h l
  have hle := (show (bitsOf h l).length ≤ 128 from by unfold bitsOf; exact Nat.le_trans (List.length_filter_le _ _) (by simp))
  have HE := Lib.hid (fun X => each_c b h l X)
  have HEs := Lib.hid (fun p q X => each_seq 7 (by omega) p q h l b h0 h1 hb X)
  have HFi := Lib.hid (fun X => first_c h l X h0 h1)
  rw [fiN_eq h0 h1] at HFi
  have HLa := Lib.hid (fun X h3 h4 => last_c h l X h0 h1 h3 h4)
  have HNe := Lib.hid (fun X h3 h4 => needs_c h l X h0 h1 h3 h4)
  rw [laN_eq h0 h1] at HLa HNe
  have hlc := lastOf_cases (bitsOf h l)
  have HDn := Lib.hid (fun n X => down_c h l n X h0 h1)
  have HHa := Lib.hid (fun k hk X => chas_c b h l k X hb hk h0 h1)
  have hfs := fun r t (e : bitsOf h l = r :: t) hR hl => from_sq (b := b) (r := r) (t := t) hR hl hb h0 h1 e
  have hbd := fun r t (e : bitsOf h l = r :: t) hR hl => back_down (b := b) (r := r) (t := t) hR hl h0 h1 e
  have hbm := fun i : Nat => (bitsOf_mem (h := h) (l := l) (i := i))
  obtain ⟨R, hR⟩ : ∃ R, R = bitsOf h l := ⟨_, rfl⟩
  rw [← hR] at hlt HSq HCo hri hle HFi HEs HLa HNe hlc
  simp only [← hR] at hfs hbd hbm
  have HS0 := Lib.hid ((((Sep.init w).alloc #[.int .u16 (b : Int)] 22).alloc #[.int .i64 mo] 3).alloc #[.bool false] 4)
  simp only [World.size_alloc] at HS0
  have HFs := Lib.hid hfs
  have HBd := Lib.hid hbd
  have HBm := Lib.hid hbm
  have HRi := Lib.hid hri
  have HLt := Lib.hid hlt
  have HLc := Lib.hid hlc
  unfold mV at *
  clear hT hR hH hL hfs hbd hbm hri hlt hlc wb wh wl wm hh0 ll0
  refine (callsIn_wide (n := 8)).1 ?_
  refine callsIn_of_wp_marks Tryd.func6 rfl trivial ?_ rfl
  simp only [Tryd.ntmps6, List.size_toArray, List.length_cons, List.length_nil, Nat.reduceAdd, Nat.reduceSub, Array.replicate_succ, Array.replicate_zero, List.push_toArray, List.append_toArray, List.nil_append, List.cons_append]
  gi_upto_region 1 with fail
  obtain ⟨wz, hwz⟩ : ∃ wz, wz = ((w.alloc (.cells #[.int .u16 (b : Int)] 22)).alloc (.cells #[.int .i64 mo] 3)).alloc (.cells #[.bool false] 4) := ⟨_, rfl⟩
  obtain ⟨g, hg⟩ : ∃ g, g = w.heap.size := ⟨_, rfl⟩
  rw [← hwz, ← hg] at HS0
  rw [← hwz, ← hg]
  have HG := Lib.hid (Nat.le_of_eq hg.symm)
  clear hwz hg
  gi_wp2_with fail
  refine ⟨trivial, (callsIn_wide.2 (alive_c _ (HT.out.frm HS0.out.frm))).mono ?_⟩
  rintro e w1 ⟨rfl, hf⟩
  have HS1 := Lib.hid ((HS0.out.keep hf).alloc #[.int .u64 (hh : Int), .int .u64 (ll : Int)] 27)
  clear hf HS0
  gi_upto_region 4 with fail
  obtain ⟨w2, hw2⟩ : ∃ w2, w2 = w1.alloc (.cells #[.int .u64 (hh : Int), .int .u64 (ll : Int)] 27) := ⟨_, rfl⟩
  obtain ⟨q, hq⟩ : ∃ q, q = w1.heap.size := ⟨_, rfl⟩
  rw [← hw2, ← hq] at HS1
  rw [← hw2, ← hq]
  clear hw2 hq
  have c0 := (HS1.out.blk 0 rfl).cell 0 rfl
  have c1 := (HS1.out.blk 0 rfl).cell 1 rfl
  gi_wp2_with fail
  refine ⟨trivial, (callsIn_wide.2 (HCut.out _)).mono ?_⟩
  rintro e w3 ⟨rfl, hf⟩
  have HS2 := Lib.hid (HS1.out.keep hf)
  clear hf HS1 c0 c1 HCut
  have f0 := (HS2.out.blk 0 rfl).free 0
  have f1 := (HS2.out.blk 0 rfl).free 1
  have c0 : ∃ v, w3.cell? ⟨q, 0, none⟩ = some v := ⟨_, (HS2.out.blk 0 rfl).cell 0 rfl⟩
  have c1 : ∃ v, w3.cell? ⟨q, 1, none⟩ = some v := ⟨_, (HS2.out.blk 0 rfl).cell 1 rfl⟩
  obtain ⟨v0, c0⟩ := c0
  obtain ⟨v1, c1⟩ := c1
  have HS3 := Lib.hid ((HS2.out.put 0 rfl 0 (.int .u64 (h : Int))).put 0 rfl 1 (.int .u64 (l : Int)))
  gi_upto_region 5 with fail
  obtain ⟨w4, hw4⟩ : ∃ w4, w4 = (w3.setCell ⟨q, 0, none⟩ (.int .u64 (h : Int))).setCell ⟨q, 1, none⟩ (.int .u64 (l : Int)) := ⟨_, rfl⟩
  rw [← hw4] at HS3
  rw [← hw4]
  clear hw4 f0 f1 c0 c1 HS2
  have c0 := (HS3.out.blk 0 rfl).cell 0 rfl
  have c1 := (HS3.out.blk 0 rfl).cell 1 rfl
  have cb := (HS3.out.blk 3 rfl).cell 0 rfl
  gi_wp2_with fail
  refine ⟨trivial, (callsIn_wide.2 (HSq.out _)).mono ?_⟩
  rintro e w5 ⟨v, rfl, hS⟩
  obtain ⟨na, nc, rfl, hj1, hj2, hj3⟩ := own_sq (hS.own 0 rfl)
  have HS4 := Lib.hid ((HS3.out.more hS).alloc #[.slice na R.length nc] 24)
  clear hj1 hj2 hj3 hS c0 c1 cb HS3
  gi_upto_region 6 with fail
  obtain ⟨s, hs⟩ : ∃ s, s = w5.heap.size := ⟨_, rfl⟩
  obtain ⟨w6, hw6⟩ : ∃ w6, w6 = w5.alloc (.cells #[.slice na R.length nc] 24) := ⟨_, rfl⟩
  rw [← hw6, ← hs] at HS4
  rw [← hw6, ← hs]
  clear hw6 hs
  have cs := (HS4.out.blk 0 rfl).cell 0 rfl
  by_cases hz : R.length = 0
  · have hzb : ((R.length : Int) == 0) = true := beq_iff_eq.2 (by omega)
    have c0 := (HS4.out.blk 2 rfl).cell 0 rfl
    have c1 := (HS4.out.blk 2 rfl).cell 1 rfl
    have HZ := Lib.hid hz
    clear hz
    gi_wp2_with fail
    refine ⟨trivial, (callsIn_wide.2 (HCo.out _)).mono ?_⟩
    rintro e w7 ⟨rfl, hf⟩
    have HS5 := Lib.hid (HS4.out.keep hf)
    clear hf c0 c1 cs HS4
    have cr := (HS5.out.blk 3 rfl).cell 0 rfl
    have fr := (HS5.out.blk 3 rfl).free 0
    have h5 := Lib.hid (HS5.out.put 3 rfl 0 (.bool true))
    gi_wp2_with fail
    exact cell_end0 rfl (h5.out.blk 3 rfl) rfl h5.out.frm
  have hzb : ((R.length : Int) == 0) = false := beq_eq_false_iff_ne.2 (by omega)
  obtain ⟨r, t, hrt⟩ : ∃ r t, R = r :: t := by
    cases R with
    | nil => exact absurd rfl hz
    | cons r t => exact ⟨r, t, rfl⟩
  have hRi : (r :: t).Pairwise (· < ·) := hrt ▸ HRi.out
  have hLt : ∀ x ∈ r :: t, x < 109 := hrt ▸ HLt.out
  have F1 := back_co (b := b) hRi hLt
  have F2 := HBd.out r t hrt hRi hLt
  have F3 := back_list (b := b) hRi hLt
  have F4 := back_sq (b := b) hRi hLt
  have F5 := HFs.out r t hrt hRi hLt
  have F6 := (back_bits (b := b) hRi hLt).2
  have F7 : firstOf R = (r : Int) := by rw [hrt]; rfl
  have F8 : (sqL b R)[0]? = some ((adN b r : Nat) : Int) := by rw [hrt]; rfl
  have F9 : r < 109 := hLt r (by simp)
  rw [← hrt] at F1 F2 F3 F4 F5 F6
  have hZl : (sqL b R).length = R.length := sq_len b R
  have hZi : ∀ n ∈ sqL b R, 0 ≤ n ∧ n ≤ 65535 := fun n hn => sq_in hn
  rw [sq_enc] at HS4
  obtain ⟨Z, hZ⟩ : ∃ Z, Z = sqL b R := ⟨_, rfl⟩
  rw [← hZ] at F1 F2 F3 F4 F5 F6 F8 hZl hZi
  rw [← hZ] at HS4
  have HZ := Lib.hid hZ
  obtain ⟨N, hN⟩ : ∃ N, N = R.length := ⟨_, rfl⟩
  rw [← hN] at hzb hle hZl
  rw [← hN] at HS4 cs ⊢
  have hN0 : 0 < N := by omega
  have HN := Lib.hid hN
  have HF1 := Lib.hid F1
  have HF2 := Lib.hid F2
  have HF3 := Lib.hid F3
  have HF4 := Lib.hid F4
  have HF5 := Lib.hid F5
  have HF6 := Lib.hid F6
  have HF7 := Lib.hid F7
  have HF8 := Lib.hid F8
  have HZl := Lib.hid hZl
  have HZi := Lib.hid hZi
  clear hrt hRi hLt F1 F2 F3 F4 F5 F6 F7 F8 hZl hZi hZ hN hz HBd HFs HSq HCo
  have HS5 := Lib.hid (HS4.out.made 22 1 0 #[] (Nat.zero_le _) rfl)
  gi_upto_region 9 with fail
  obtain ⟨w7, hw7⟩ : ∃ w7, w7 = w6.alloc (.cells #[] 22) := ⟨_, rfl⟩
  obtain ⟨k0, hk0⟩ : ∃ k0, k0 = w6.heap.size := ⟨_, rfl⟩
  rw [← hw7, ← hk0] at HS5
  rw [← hw7, ← hk0]
  clear hw7 hk0 hzb cs HS4
  have cs := (HS5.out.blk 1 rfl).cell 0 rfl
  gi_wp2_with fail
  clear cs
  gi_loopw [11, 40] (fun v i wr => ∃ j : Nat, j ≤ N ∧ i = .int .i64 (j : Int) ∧ Sep [] w wr [ownR 22 1 v j ((Z.reverse.take j).map (Value.int .u16)), blkR s 24 #[.slice na N nc], ownR 22 1 (.slice na N nc) N (Z.map (Value.int .u16)), blkR q 27 #[.int .u64 (h : Int), .int .u64 (l : Int)], blkR (g + 1 + 1) 4 #[.bool false], blkR (g + 1) 3 #[.int .i64 mo], blkR g 22 #[.int .u16 (b : Int)]]) (fun _ i _ => N - (intOf i).toNat)
  case atStart => exact ⟨0, by omega, rfl, HS5.out⟩
  case round =>
    obtain ⟨j, hj, rfl, hS⟩ := hrel
    have HS := Lib.hid hS
    clear hS HS5
    by_cases hlt : j < N
    · obtain ⟨gz, rfl⟩ := own_addr2 (HS.out.own 2 rfl) hN0
      obtain ⟨x, hx⟩ : ∃ x, Z[N - 1 - j]? = some x := ⟨_, List.getElem?_eq_getElem (by rw [HZl.out]; omega)⟩
      have cx : _ = some (Value.int .u16 x) := own_cell2 (HS.out.own 2 rfl) (j := N - 1 - j) (by rw [List.getElem?_map, hx]; rfl)
      have htk : Z.reverse.take (j + 1) = Z.reverse.take j ++ [x] := rev_take (by rw [HZl.out]; exact hlt) (by rw [HZl.out]; exact hx)
      have HTk := Lib.hid htk
      have cs := (HS.out.blk 1 rfl).cell 0 rfl
      obtain ⟨k, hk⟩ : ∃ k, k = N - 1 - j := ⟨_, rfl⟩
      rw [← hk] at cx
      have e1 : IntKind.i64.wrap ((N : Int) - 1) = (N : Int) - 1 := IntWalk.i64_in _ (by omega)
      have e2 : IntKind.i64.wrap ((N : Int) - 1 - (j : Int)) = (k : Int) := by rw [show (N : Int) - 1 - (j : Int) = (k : Int) by omega]; exact IntWalk.i64_in _ (by omega)
      have k0' : (0 : Int) ≤ (k : Int) := by omega
      have k1 : (k : Int) < (N : Int) := by omega
      have j0 : (0 : Int) ≤ (j : Int) := by omega
      have j1 : (j : Int) < (N : Int) := by omega
      clear hx htk hk
      gi_wp2_with (gi_at_builtin; refine wpListIn_append_sep rfl _ _ 24 rfl 0 22 i0 (.int .u16 0) 2 Tryd.underlying24 hi hz0 hz1 hz2 rfl _ _ _ rfl (HS.out.skip _) rfl _ 1 (.int .u16 x) rfl (World.cell?_alloc_at _ _ _ _ rfl) rfl (by unfold maxLen; omega) (by omega) ?_; intro g4 c4 w4 hS4 hsz4; have HS4 := Lib.hid hS4; clear hS4)
      go_roundw
      case rel => exact ⟨j + 1, by omega, by go_num, by rw [HTk.out, List.map_append]; exact HS4.out⟩
      case measure => simp [intOf]; omega
    · obtain rfl : j = N := by omega
      have htk : Z.reverse.take j = Z.reverse := List.take_of_length_le (by rw [List.length_reverse, HZl.out]; exact Nat.le_refl _)
      rw [htk] at HS
      obtain ⟨ra, rc, rfl⟩ := own_slice0 (HS.out.own 0 rfl)
      have hrd : RdI .u16 wr ra Z.reverse := fun i z hz => rdv_own (HS.out.own 0 rfl) i (.int .u16 z) (by rw [List.getElem?_map, hz]; rfl)
      have hof := cof_c ra rc Z.reverse wr hrd (by rw [List.length_reverse, HZl.out]; omega) (fun n hn => HZi.out n (List.mem_reverse.1 hn))
      rw [HF1.out.1, HF1.out.2, List.length_reverse, HZl.out] at hof
      obtain ⟨oH, hoH⟩ : ∃ oH, oH = coH Z.reverse := ⟨_, rfl⟩
      obtain ⟨oL, hoL⟩ : ∃ oL, oL = coL Z.reverse := ⟨_, rfl⟩
      rw [← hoH, ← hoL] at hof HF2 HF3 HF6
      unfold mV at hof
      have HOf := Lib.hid hof
      clear hof hrd htk hoH hoL
      gi_wp2_with fail
      refine ⟨trivial, (callsIn_wide.2 HOf.out).mono ?_⟩
      rintro e w8 ⟨rfl, hf⟩
      have HS6 := Lib.hid ((HS.out.keep hf).alloc #[.int .u64 (oH : Int), .int .u64 (oL : Int)] 27)
      clear hf HS HOf
      gi_upto_region 15 with fail
      obtain ⟨o, ho⟩ : ∃ o, o = w8.heap.size := ⟨_, rfl⟩
      obtain ⟨w9, hw9⟩ : ∃ w9, w9 = w8.alloc (.cells #[.int .u64 (oH : Int), .int .u64 (oL : Int)] 27) := ⟨_, rfl⟩
      rw [← hw9, ← ho] at HS6
      rw [← hw9, ← ho]
      clear hw9 ho
      obtain ⟨gz, rfl⟩ := own_addr2 (HS6.out.own 3 rfl) hN0
      have cz : w9.cell? ⟨gz, 0, none⟩ = some (.int .u16 ((adN b r : Nat) : Int)) := own_cell2 (HS6.out.own 3 rfl) (j := 0) (by rw [List.getElem?_map, HF8.out]; rfl)
      have hzl : gz < w9.heap.size := ((HS6.out.own 3 rfl).lt gz rfl).2
      have hrz : RdI .u16 w9 (some ⟨gz, 0, none⟩) Z := fun i z hz => rdv_own (HS6.out.own 3 rfl) i (.int .u16 z) (by rw [List.getElem?_map, hz]; rfl)
      have HRz := Lib.hid hrz
      have HSf := Lib.hid (fun X (hf : Frm [] w9 X) => (show X.cell? ⟨q, 0, none⟩ = some (.int .u64 (h : Int)) ∧ X.cell? ⟨q, 1, none⟩ = some (.int .u64 (l : Int)) ∧ X.cell? ⟨o, 0, none⟩ = some (.int .u64 (oH : Int)) ∧ X.cell? ⟨o, 1, none⟩ = some (.int .u64 (oL : Int)) ∧ X.cell? ⟨s, 0, none⟩ = some (.slice (some ⟨gz, 0, none⟩) j nc) ∧ X.cell? ⟨gz, 0, none⟩ = some (.int .u16 ((adN b r : Nat) : Int)) from
        ⟨(hf.blk (HS6.out.blk 4 rfl) (by simp)).cell 0 rfl, (hf.blk (HS6.out.blk 4 rfl) (by simp)).cell 1 rfl, (hf.blk (HS6.out.blk 0 rfl) (by simp)).cell 0 rfl, (hf.blk (HS6.out.blk 0 rfl) (by simp)).cell 1 rfl, (hf.blk (HS6.out.blk 2 rfl) (by simp)).cell 0 rfl, by rw [hf.cell hzl (by simp)]; exact cz⟩))
      have hne : ∀ X, (binOp .neq 27 (.agg #[.int .u64 (oH : Int), .int .u64 (oL : Int)]) (.agg #[.int .u64 (oH : Int), .int .u64 (oL : Int)])).run Tryd.prog X = .ok (.bool false) X := fun X => by rw [mneq]; simp
      have hFi := HFi.out
      rw [HF7.out] at hFi
      have HFi2 := Lib.hid hFi
      have hDn := HDn.out (-(r : Int))
      rw [← HF2.out.1, ← HF2.out.2] at hDn
      have HDn2 := Lib.hid hDn
      have hSq := fun X => seqs_c (adN b r) oH oL X (adN_lt _ _) HF6.out.1 HF6.out.2
      simp only [HF3.out, sq_enc, HF4.out, List.length_map, ← HN.out] at hSq
      have HSq2 := Lib.hid hSq
      unfold mV at HDn2 HSq2
      have e1 : IntKind.i64.wrap (-(r : Int)) = -(r : Int) := IntWalk.i64_in _ (by omega)
      have HC := Lib.hid ((Frm.refl [] w9).drew)
      have i0' : (0 : Int) < (j : Int) := by omega
      clear cz hzl hrz hFi hDn hSq HFi HDn HF2 HF3 HF4 HF6 HF7 HF8
      refine wpIn_wide.2 ?_
      refine region_segsP (G := []) [0, 1, 2, 3, 4, 5, 6, 7, 8, 9, 10, 11, 12, 13, 14, 15, 16, 17, 18, 19, 20, 22, 21, 23, 24, 25] [13, 1, 6, 0] (by decide) (by kernel_rfl) (by kernel_rfl) (by kernel_rfl) (by kernel_rfl) (by kernel_rfl) (by kernel_rfl) (by kernel_rfl) ?_
      simp only [remOf, List.filterMap_cons, List.filterMap_nil, List.getElem?_cons_zero, List.getElem?_cons_succ]
      obtain ⟨y0, hy0⟩ : ∃ y0, y0 = w9.drew := ⟨_, rfl⟩
      rw [← hy0] at HC ⊢
      clear hy0
      unfold wpSegs
      simp only [List.take_succ_cons, List.take_zero, List.drop_succ_cons, List.drop_zero]
      have n1 : Nonempty (Cls (fun v => Frm [] y0 v)) := ⟨⟨_, Frm.refl _ _⟩⟩
      have q0 := fun x : Cls (fun v => Frm [] y0 v) => (HSf.out x.world (HC.out.trans x.ok)).1
      have q1 := fun x : Cls (fun v => Frm [] y0 v) => (HSf.out x.world (HC.out.trans x.ok)).2.1
      have q2 := fun x : Cls (fun v => Frm [] y0 v) => (HSf.out x.world (HC.out.trans x.ok)).2.2.1
      have q3 := fun x : Cls (fun v => Frm [] y0 v) => (HSf.out x.world (HC.out.trans x.ok)).2.2.2.1
      have q4 := fun x : Cls (fun v => Frm [] y0 v) => (HSf.out x.world (HC.out.trans x.ok)).2.2.2.2.1
      have q5 := fun x : Cls (fun v => Frm [] y0 v) => (HSf.out x.world (HC.out.trans x.ok)).2.2.2.2.2
      repeat (go_big_quiet_step (fail))
      refine wpQuiet_nil ?_
      refine only_step (fun K' hK => ?_)
      clear q0 q1 q2 q3 q4 q5 n1
      go_wp2_with fail
      refine (HFi2.out _).mono ?_
      rintro e y1 ⟨rfl, hf⟩
      replace HC := Lib.hid (HC.out.trans hf)
      have HF1 := Lib.hid hf
      clear hf
      go_wp2_with fail
      refine hK.out _ _ ⟨HF1.out, ?_⟩
      clear hK HF1
      unfold wpSegs
      simp only [List.take_succ_cons, List.take_zero, List.drop_succ_cons, List.drop_zero]
      have n1 : Nonempty (Cls (fun v => Frm [] y1 v)) := ⟨⟨_, Frm.refl _ _⟩⟩
      have q0 := fun x : Cls (fun v => Frm [] y1 v) => (HSf.out x.world (HC.out.trans x.ok)).1
      have q1 := fun x : Cls (fun v => Frm [] y1 v) => (HSf.out x.world (HC.out.trans x.ok)).2.1
      have q2 := fun x : Cls (fun v => Frm [] y1 v) => (HSf.out x.world (HC.out.trans x.ok)).2.2.1
      have q3 := fun x : Cls (fun v => Frm [] y1 v) => (HSf.out x.world (HC.out.trans x.ok)).2.2.2.1
      have q4 := fun x : Cls (fun v => Frm [] y1 v) => (HSf.out x.world (HC.out.trans x.ok)).2.2.2.2.1
      have q5 := fun x : Cls (fun v => Frm [] y1 v) => (HSf.out x.world (HC.out.trans x.ok)).2.2.2.2.2
      repeat (go_big_quiet_step (fail))
      refine wpQuiet_nil ?_
      refine only_step (fun K' hK => ?_)
      clear q0 q1 q2 q3 q4 q5 n1
      go_wp2_with fail
      refine (HDn2.out _).mono ?_
      rintro e y2 ⟨rfl, hf⟩
      replace HC := Lib.hid (HC.out.trans hf)
      have HF1 := Lib.hid hf
      clear hf
      go_wp2_with fail
      refine hK.out _ _ ⟨HF1.out, ?_⟩
      clear hK HF1
      unfold wpSegs
      simp only [List.take_succ_cons, List.take_zero, List.drop_succ_cons, List.drop_zero]
      have n1 : Nonempty (Cls (fun v => Frm [] y2 v)) := ⟨⟨_, Frm.refl _ _⟩⟩
      have q0 := fun x : Cls (fun v => Frm [] y2 v) => (HSf.out x.world (HC.out.trans x.ok)).1
      have q1 := fun x : Cls (fun v => Frm [] y2 v) => (HSf.out x.world (HC.out.trans x.ok)).2.1
      have q2 := fun x : Cls (fun v => Frm [] y2 v) => (HSf.out x.world (HC.out.trans x.ok)).2.2.1
      have q3 := fun x : Cls (fun v => Frm [] y2 v) => (HSf.out x.world (HC.out.trans x.ok)).2.2.2.1
      have q4 := fun x : Cls (fun v => Frm [] y2 v) => (HSf.out x.world (HC.out.trans x.ok)).2.2.2.2.1
      have q5 := fun x : Cls (fun v => Frm [] y2 v) => (HSf.out x.world (HC.out.trans x.ok)).2.2.2.2.2
      repeat (go_big_quiet_step (fail))
      refine wpQuiet_nil ?_
      refine only_step (fun K' hK => ?_)
      clear q0 q1 q2 q3 q4 q5 n1
      go_wp2_with fail
      refine (HSq2.out _).mono ?_
      rintro e y3 ⟨v, rfl, hS⟩
      have hf := hS.frm
      obtain ⟨sa, sc, rfl⟩ := own_slice0 (hS.own 0 rfl)
      have hrs : RdI .u16 y3 sa Z := fun i z hz => rdv_own (hS.own 0 rfl) i (.int .u16 z) (by rw [List.getElem?_map, hz]; rfl)
      have hsm := same_c sa (some ⟨gz, 0, none⟩) sc nc Z Z j y3 hrs (HRz.out.below (HC.out.trans hf).below) HZl.out HZl.out (by omega) rfl
      have HSm := Lib.hid hsm
      clear hS hrs hsm
      replace HC := Lib.hid (HC.out.trans hf)
      have HF1 := Lib.hid hf
      clear hf
      go_wp2_with fail
      refine hK.out _ _ ⟨HF1.out, ?_⟩
      clear hK HF1
      unfold wpSegs
      simp only [List.take_succ_cons, List.take_zero, List.drop_succ_cons, List.drop_zero]
      have n1 : Nonempty (Cls (fun v => Frm [] y3 v)) := ⟨⟨_, Frm.refl _ _⟩⟩
      have q0 := fun x : Cls (fun v => Frm [] y3 v) => (HSf.out x.world (HC.out.trans x.ok)).1
      have q1 := fun x : Cls (fun v => Frm [] y3 v) => (HSf.out x.world (HC.out.trans x.ok)).2.1
      have q2 := fun x : Cls (fun v => Frm [] y3 v) => (HSf.out x.world (HC.out.trans x.ok)).2.2.1
      have q3 := fun x : Cls (fun v => Frm [] y3 v) => (HSf.out x.world (HC.out.trans x.ok)).2.2.2.1
      have q4 := fun x : Cls (fun v => Frm [] y3 v) => (HSf.out x.world (HC.out.trans x.ok)).2.2.2.2.1
      have q5 := fun x : Cls (fun v => Frm [] y3 v) => (HSf.out x.world (HC.out.trans x.ok)).2.2.2.2.2
      repeat (go_big_quiet_step (fail))
      refine wpQuiet_nil ?_
      refine only_step (fun K' hK => ?_)
      clear q0 q1 q2 q3 q4 q5 n1
      go_wp2_with fail
      refine (HSm.out).mono ?_
      rintro e y4 ⟨rfl, m4, hm4⟩
      have hf : Frm [] y3 y4 := by rw [hm4]; exact (Frm.refl [] y3).drewN m4
      clear hm4
      replace HC := Lib.hid (HC.out.trans hf)
      have HF1 := Lib.hid hf
      clear hf
      go_wp2_with fail
      refine hK.out _ _ ⟨HF1.out, ?_⟩
      clear hK HF1
      unfold wpSegs
      have n1 : Nonempty (Cls (fun v => Frm [] y4 v)) := ⟨⟨_, Frm.refl _ _⟩⟩
      show wpQuiet _ _ _ _ [_, _] _
      repeat (go_big_quiet_step (fail))
      refine wpQuiet_nil ?_
      refine NoPanic.normal ?_
      clear n1
      have HS7 := Lib.hid (HS6.out.keep HC.out)
      clear HSf hne HSm HSq2 HDn2 HFi2 e1 HC HS6
      gi_upto_region 17 with fail
      have cb := (HS7.out.blk 7 rfl).cell 0 rfl
      have cs := (HS7.out.blk 2 rfl).cell 0 rfl
      have hrz : RdI .u16 y4 (some ⟨gz, 0, none⟩) Z := fun i z hz => rdv_own (HS7.out.own 3 rfl) i (.int .u16 z) (by rw [List.getElem?_map, hz]; rfl)
      have hfr := from_c (some ⟨gz, 0, none⟩) nc (b : Int) Z y4 hrz (by rw [HZl.out]; omega) HZi.out (by omega) (by omega)
      rw [HF5.out.1, HF5.out.2.1, HF5.out.2.2, HZl.out] at hfr
      have HFr := Lib.hid hfr
      unfold mV at HFr
      clear hrz hfr HF5
      gi_wp2_with fail
      refine ⟨trivial, (callsIn_wide.2 HFr.out).mono ?_⟩
      rintro e z1 ⟨rfl, hf⟩
      have HS8 := Lib.hid ((HS7.out.keep hf).alloc #[.int .u64 (h : Int), .int .u64 (l : Int)] 27)
      clear hf HFr cb cs HS7
      gi_upto_region 18 with fail
      obtain ⟨f, hf⟩ : ∃ f, f = z1.heap.size := ⟨_, rfl⟩
      obtain ⟨z2, hz2⟩ : ∃ z2, z2 = z1.alloc (.cells #[.int .u64 (h : Int), .int .u64 (l : Int)] 27) := ⟨_, rfl⟩
      rw [← hz2, ← hf] at HS8
      rw [← hz2, ← hf]
      clear hz2 hf
      have c0 := (HS8.out.blk 0 rfl).cell 0 rfl
      have c1 := (HS8.out.blk 0 rfl).cell 1 rfl
      have d0 := (HS8.out.blk 5 rfl).cell 0 rfl
      have d1 := (HS8.out.blk 5 rfl).cell 1 rfl
      have cm := (HS8.out.blk 7 rfl).cell 0 rfl
      have fm := (HS8.out.blk 7 rfl).free 0
      have hne : ∀ X, (binOp .neq 27 (.agg #[.int .u64 (h : Int), .int .u64 (l : Int)]) (.agg #[.int .u64 (h : Int), .int .u64 (l : Int)])).run Tryd.prog X = .ok (.bool false) X := fun X => by rw [mneq]; simp
      have hk1 : IntKind.i64.wrap (1 + (M : Int)) = 1 + (M : Int) := IntWalk.i64_in _ (by omega)
      have HS9 := Lib.hid (HS8.out.put 7 rfl 0 (.int .i64 (1 + (M : Int))))
      gi_upto_region 21 with fail
      obtain ⟨z3, hz3⟩ : ∃ z3, z3 = z2.setCell ⟨g + 1, 0, none⟩ (.int .i64 (1 + (M : Int))) := ⟨_, rfl⟩
      rw [← hz3] at HS9
      rw [← hz3]
      clear hz3 c0 c1 d0 d1 cm fm hne hk1 HS8
      have HS10 := Lib.hid (HS9.out.alloc #[.int .i64 0] 3)
      gi_upto_region 22 with fail
      obtain ⟨p, hp⟩ : ∃ p, p = z3.heap.size := ⟨_, rfl⟩
      obtain ⟨z4, hz4⟩ : ∃ z4, z4 = z3.alloc (.cells #[.int .i64 0] 3) := ⟨_, rfl⟩
      rw [← hz4, ← hp] at HS10
      rw [← hz4, ← hp]
      clear hz4 hp HS9
      have cb := (HS10.out.blk 9 rfl).cell 0 rfl
      have c0 := (HS10.out.blk 6 rfl).cell 0 rfl
      have c1 := (HS10.out.blk 6 rfl).cell 1 rfl
      gi_wp2_with fail
      refine ⟨trivial, (callsIn_wide.2 (HE.out _)).mono ?_⟩
      rintro e z5 ⟨rfl, hz5⟩
      have HS11 := Lib.hid (show Sep [] w z5 _ from hz5 ▸ (HS10.out.alloc #[.int .u16 (b : Int)] 22).alloc #[.int .u64 (h : Int), .int .u64 (l : Int)] 27)
      simp only [World.size_alloc] at HS11
      obtain ⟨r2, hr2⟩ : ∃ r2, r2 = z4.heap.size := ⟨_, rfl⟩
      rw [← hr2] at HS11 ⊢
      clear cb c0 c1 hr2 hz5 HS10 HE
      gi_wp2_with fail
      have hsz := HS11.out.frm.size
      have HSz := Lib.hid hsz
      have HSq3 := Lib.hid (HEs.out (r2 + 1) r2 z5)
      have hst : Sep [] w z5 (tC r2 p s gz j nc q g M h l b Z []) := HS11.out.at_ [0, 1, 2, 6, 7, 8, 9, 10, 11] (by decide) rfl
      have HSt := Lib.hid hst
      clear HEs hst HS11
      refine range_f (n := 8) (by omega) (gf := 48) (lb := _) rfl (enters_of Tryd.func48 (by kernel_rfl) rfl) HSq3.out (Below.refl _ _) (fun _ => rfl) (fun _ _ _ _ _ _ h => h) [] (by simp)
        (fun pre F W => pre.length < 1 + M ∧ Sep [] w W (frgR F W :: tC r2 p s gz j nc q g M h l b Z pre))
        (fun cd pre F W => (cd = .exit 2 ∧ pre.length = 1 + M) ∧ Sep [] w W (frgR F W :: tC r2 p s gz j nc q g M h l b Z pre)) (bears_and (bears_sep [] _) _) (fun cd => bears_and (bears_sep [] _) _) ?hQ ?h0 ?round ?done ?stop
      case hQ =>
        rintro pre F W ⟨_, hS⟩
        exact ⟨(hS.blk 1 rfl).cell 0 rfl, (hS.blk 1 rfl).cell 1 rfl, (hS.blk 2 rfl).cell 0 rfl⟩
      case h0 => exact ⟨by simp; omega, HSt.out.add (r := frgR [] z5) (Frm.refl _ _) (by intro k hk; cases hk) (by simp [frgR])⟩
      case round =>
        rintro lb pre F y W Wb K ⟨hpl, hS⟩ hF hx hK
        have HKx := Lib.hid hK
        obtain ⟨hy, hyR, hyl⟩ := pre_at hx
        have hy9 := HLt.out y hyR
        have hbt := (HBm.out y).1 hyR
        have hlen : (pre ++ [y]).length = pre.length + 1 := by simp
        have hzy : Z[pre.length]? = some ((adN b y : Nat) : Int) := by rw [HZ.out]; unfold sqL; rw [List.getElem?_map, hy]; rfl
        have cz : Wb.cell? ⟨gz, pre.length, none⟩ = some (.int .u16 ((adN b y : Nat) : Int)) := own_cell2 (hS.own 5 rfl) (j := pre.length) (by rw [List.getElem?_map, hzy]; rfl)
        have hzl : gz < Wb.heap.size := ((hS.own 5 rfl).lt gz rfl).2
        have hah := fun X => rahead_c ((adN b y : Nat) : Int) (b : Int) X (by have := adN_lt b y; omega) (by have := adN_lt b y; omega) (by omega) (by omega)
        rw [ah_ad0 b y hb (by omega)] at hah
        have hha := HHa.out (adN b y) (adN_lt b y)
        rw [show ahN b (adN b y) = y by unfold ahN adN; omega, hbt.2, decide_eq_true hbt.1, Bool.and_true] at hha
        have HAh := Lib.hid hah
        have HHs := Lib.hid hha
        have ci : Wb.cell? ⟨p, 0, none⟩ = some (.int .i64 (pre.length : Int)) := (hS.blk 3 rfl).cell 0 rfl
        have cb : Wb.cell? ⟨g, 0, none⟩ = some (.int .u16 (b : Int)) := (hS.blk 9 rfl).cell 0 rfl
        have HSf := Lib.hid (fun X (hf : Frm [] Wb X) => (show X.cell? ⟨q, 0, none⟩ = some (.int .u64 (h : Int)) ∧ X.cell? ⟨q, 1, none⟩ = some (.int .u64 (l : Int)) ∧ X.cell? ⟨p, 0, none⟩ = some (.int .i64 (pre.length : Int)) ∧ X.cell? ⟨g, 0, none⟩ = some (.int .u16 (b : Int)) ∧ X.cell? ⟨s, 0, none⟩ = some (.slice (some ⟨gz, 0, none⟩) j nc) ∧ X.cell? ⟨gz, pre.length, none⟩ = some (.int .u16 ((adN b y : Nat) : Int)) ∧ X.cell? ⟨g + 1, 0, none⟩ = some (.int .i64 (1 + (M : Int))) from
          ⟨(hf.blk (hS.blk 6 rfl) (by simp)).cell 0 rfl, (hf.blk (hS.blk 6 rfl) (by simp)).cell 1 rfl, (hf.blk (hS.blk 3 rfl) (by simp)).cell 0 rfl, (hf.blk (hS.blk 9 rfl) (by simp)).cell 0 rfl, (hf.blk (hS.blk 4 rfl) (by simp)).cell 0 rfl, by rw [hf.cell hzl (by simp)]; exact cz, (hf.blk (hS.blk 8 rfl) (by simp)).cell 0 rfl⟩))
        have HS := Lib.hid hS
        obtain ⟨NN, hNN⟩ : ∃ NN, NN = pre.length := ⟨_, rfl⟩
        have HNe := Lib.hid hNN
        rw [← hNN] at hpl hyl ci
        simp only [← hNN] at HSf
        rw [← HN.out] at hyl
        have HLen := Lib.hid hlen
        have n0 : (0 : Int) ≤ (NN : Int) := by omega
        have n1 : (NN : Int) < (j : Int) := by omega
        clear hK hS hF hx hy hyR hbt hlen hzy cz hzl hah hha hNN
        gi_wp2
        refine HKx.out _ ?_
        clear HKx
        gi_wp2_with fail
        refine ⟨trivial, (CallsIn.inRound lb (callsIn_wide.2 (HAh.out _))).mono ?_⟩
        rintro e v1 ⟨rfl, rfl⟩
        clear ci cb HAh
        obtain ⟨c0, c1, cp, cb, cs, cz, cm⟩ := HSf.out Wb (Frm.refl _ _)
        gi_wp2_with fail
        refine ⟨trivial, (CallsIn.inRound lb (callsIn_wide.2 (HHs.out _))).mono ?_⟩
        rintro e v2 ⟨rfl, hf⟩
        have HC := Lib.hid hf
        clear hf c0 c1 cp cb cs cz cm HHs
        obtain ⟨c0, c1, cp, cb, cs, cz, cm⟩ := HSf.out v2 HC.out
        have HS1 := Lib.hid (HS.out.keep HC.out)
        have fp := (HS1.out.blk 3 rfl).free 0
        have hk2 : IntKind.i64.wrap ((NN : Int) + 1) = (NN : Int) + 1 := IntWalk.i64_in _ (by omega)
        have HS2 := Lib.hid (HS1.out.put 3 rfl 0 (.int .i64 ((NN : Int) + 1)))
        have HNx := Lib.hid (show ∀ W', Sep [] w W' ((frgR F Wb :: tC r2 p s gz j nc q g M h l b Z pre).set 3 (blkR p 3 #[.int .i64 ((NN : Int) + 1)])) → Sep [] w W' (frgR F Wb :: tC r2 p s gz j nc q g M h l b Z (pre ++ [y])) from fun W' hW => by
          have e : (((pre ++ [y]).length : Nat) : Int) = (NN : Int) + 1 := by rw [HLen.out, HNe.out]; simp
          unfold tC
          rw [e]
          exact hW)
        gi_upto_region 28 with fail
        obtain ⟨v3, hv3⟩ : ∃ v3, v3 = v2.setCell ⟨p, 0, none⟩ (.int .i64 ((NN : Int) + 1)) := ⟨_, rfl⟩
        have HSz3 := Lib.hid (show Wb.heap.size ≤ v3.heap.size by rw [hv3]; have := HC.out.size; simpa using this)
        rw [← hv3] at HS2
        rw [← hv3]
        clear hv3 c0 c1 cp cb cs cz cm fp hk2 HSf HC HS1 HS
        have cp := (HS2.out.blk 3 rfl).cell 0 rfl
        have cm := (HS2.out.blk 8 rfl).cell 0 rfl
        have HS3 := Lib.hid (HNx.out _ HS2.out)
        clear HS2 HNx
        by_cases hm : NN = M
        · have b9 : ((NN : Int) + 1 == 1 + (M : Int)) = true := by rw [beq_iff_eq]; omega
          gi_wp2_with fail
          exact ⟨kpF_of HSz3.out HS3.out, ⟨rfl, by rw [HLen.out, ← HNe.out]; omega⟩, HS3.out.pin⟩
        · have b9 : ((NN : Int) + 1 == 1 + (M : Int)) = false := by rw [beq_eq_false_iff_ne]; omega
          gi_wp2_with fail
          exact ⟨kpF_of HSz3.out HS3.out, by rw [HLen.out, ← HNe.out]; omega, HS3.out.pin⟩
      case done =>
        rintro D xs F W hD hDF hF rfl ⟨hpl, hS⟩ hK
        obtain ⟨NN, hNN⟩ : ∃ NN, NN = xs.length := ⟨_, rfl⟩
        have HNe' := HNe
        have HNe := Lib.hid hNN
        rw [← hNN] at hpl
        have hNj : j = NN := HN.out.trans hNN.symm
        have mm1 : min (1 + (M : Int)) (j : Int) = (NN : Int) := by omega
        have mm2 : (if (1 + (M : Int)) ≤ (j : Int) then (1 + (M : Int)) else (j : Int)) = (NN : Int) := by split <;> omega
        have mm3 : (if (j : Int) < (1 + (M : Int)) then (j : Int) else (1 + (M : Int))) = (NN : Int) := by split <;> omega
        have mm4 : (if (1 + (M : Int)) > (j : Int) then (j : Int) else (1 + (M : Int))) = (NN : Int) := by split <;> omega
        obtain ⟨R, hR⟩ : ∃ R, R = xs := ⟨_, rfl⟩
        rw [← hR] at HNe' HLa HLc HLt
        clear hF hNj hpl hNN hR
        have HK2 := Lib.hid hK
        have HS := Lib.hid hS
        have HDz := Lib.hid (Nat.le_trans HSz.out hD)
        have hqn : q ≠ g + 1 + 1 := by have := hS.ne 6 7 (by decide) rfl rfl (k := q) (by simp [blkR]); simpa [blkR] using this
        have hpn : p ≠ g + 1 + 1 := by have := hS.ne 3 7 (by decide) rfl rfl (k := p) (by simp [blkR]); simpa [blkR] using this
        have hsn : s ≠ g + 1 + 1 := by have := hS.ne 4 7 (by decide) rfl rfl (k := s) (by simp [blkR]); simpa [blkR] using this
        have HSf := Lib.hid (fun X (hf : Frm [g + 1 + 1] W X) => (show X.cell? ⟨q, 0, none⟩ = some (.int .u64 (h : Int)) ∧ X.cell? ⟨q, 1, none⟩ = some (.int .u64 (l : Int)) ∧ X.cell? ⟨p, 0, none⟩ = some (.int .i64 (NN : Int)) ∧ X.cell? ⟨s, 0, none⟩ = some (.slice (some ⟨gz, 0, none⟩) j nc) ∧ X.cell? ⟨g + 1, 0, none⟩ = some (.int .i64 (1 + (M : Int))) from
          ⟨(hf.blk (HS.out.blk 6 rfl) (by simpa using hqn)).cell 0 rfl, (hf.blk (HS.out.blk 6 rfl) (by simpa using hqn)).cell 1 rfl, by rw [HNe.out]; exact (hf.blk (HS.out.blk 3 rfl) (by simpa using hpn)).cell 0 rfl, (hf.blk (HS.out.blk 4 rfl) (by simpa using hsn)).cell 0 rfl, (hf.blk (HS.out.blk 8 rfl) (by simp)).cell 0 rfl⟩))
        have hLA : -1 ≤ lastOf R ∧ lastOf R < 128 := by
          rcases HLc.out with ⟨_, h3⟩ | ⟨i, h3, h4⟩
          · omega
          · have := HLt.out i h3; omega
        have hnd := nd_more hLA.1 hLA.2
        obtain ⟨LA, hLA2⟩ : ∃ LA, LA = lastOf R := ⟨_, rfl⟩
        obtain ⟨ND, hND⟩ : ∃ ND, ND = ndN LA := ⟨_, rfl⟩
        have hNe := HNe'.out
        have hLa := HLa.out
        rw [← hLA2] at hnd hNe hLa
        rw [← hND] at hnd hNe
        have HNe2 := Lib.hid hNe
        have HLa2 := Lib.hid hLa
        have bnd : decide (LA < ND) = true := decide_eq_true hnd
        have HC := Lib.hid ((Frm.refl [] W).drew)
        have HTb := Lib.hid (HT.out.frm HS.out.frm)
        clear hS hK hqn hpn hsn hLA hnd hLA2 hND hNe hLa hD
        gi_upto_region 29 with fail
        refine wpIn_wide.2 ?_
        refine region_segsP (G := [g + 1 + 1]) [0, 1, 2, 3, 4, 5, 6, 7, 9, 8, 10, 11, 12, 13] [9, 0, 2] (by decide) (by kernel_rfl) (by kernel_rfl) (by kernel_rfl) (by kernel_rfl) (by kernel_rfl) (by kernel_rfl) (by kernel_rfl) ?_
        simp only [remOf, List.filterMap_cons, List.filterMap_nil, List.getElem?_cons_zero, List.getElem?_cons_succ]
        obtain ⟨y0, hy0⟩ : ∃ y0, y0 = W.drew := ⟨_, rfl⟩
        rw [← hy0] at HC ⊢
        clear hy0
        unfold wpSegs
        simp only [List.take_succ_cons, List.take_zero, List.drop_succ_cons, List.drop_zero]
        have n1 : Nonempty (Cls (fun v => Frm [g + 1 + 1] y0 v)) := ⟨⟨_, Frm.refl _ _⟩⟩
        have q0 := fun x : Cls (fun v => Frm [g + 1 + 1] y0 v) => (HSf.out x.world (HC.out.more.trans x.ok)).1
        have q1 := fun x : Cls (fun v => Frm [g + 1 + 1] y0 v) => (HSf.out x.world (HC.out.more.trans x.ok)).2.1
        have q2 := fun x : Cls (fun v => Frm [g + 1 + 1] y0 v) => (HSf.out x.world (HC.out.more.trans x.ok)).2.2.1
        have q3 := fun x : Cls (fun v => Frm [g + 1 + 1] y0 v) => (HSf.out x.world (HC.out.more.trans x.ok)).2.2.2.1
        have q4 := fun x : Cls (fun v => Frm [g + 1 + 1] y0 v) => (HSf.out x.world (HC.out.more.trans x.ok)).2.2.2.2
        repeat (go_big_quiet_step (fail))
        refine wpQuiet_nil ?_
        refine only_step (fun K' hK => ?_)
        clear q0 q1 q2 q3 q4 n1
        go_wp2_with fail
        refine (HNe2.out _ (HTb.out.frm HC.out).1 (HTb.out.frm HC.out).2).mono ?_
        rintro e y1 ⟨rfl, hf⟩
        replace HC := Lib.hid (HC.out.trans hf)
        have HF1 := Lib.hid hf
        clear hf
        go_wp2_with fail
        refine hK.out _ _ ⟨HF1.out.more, ?_⟩
        clear hK HF1
        unfold wpSegs
        simp only [List.take_succ_cons, List.take_zero, List.drop_succ_cons, List.drop_zero]
        have n1 : Nonempty (Cls (fun v => Frm [g + 1 + 1] y1 v)) := ⟨⟨_, Frm.refl _ _⟩⟩
        have q0 := fun x : Cls (fun v => Frm [g + 1 + 1] y1 v) => (HSf.out x.world (HC.out.more.trans x.ok)).1
        have q1 := fun x : Cls (fun v => Frm [g + 1 + 1] y1 v) => (HSf.out x.world (HC.out.more.trans x.ok)).2.1
        have q2 := fun x : Cls (fun v => Frm [g + 1 + 1] y1 v) => (HSf.out x.world (HC.out.more.trans x.ok)).2.2.1
        have q3 := fun x : Cls (fun v => Frm [g + 1 + 1] y1 v) => (HSf.out x.world (HC.out.more.trans x.ok)).2.2.2.1
        have q4 := fun x : Cls (fun v => Frm [g + 1 + 1] y1 v) => (HSf.out x.world (HC.out.more.trans x.ok)).2.2.2.2
        repeat (go_big_quiet_step (fail))
        refine wpQuiet_nil ?_
        refine only_step (fun K' hK => ?_)
        clear q0 q1 q2 q3 q4 n1
        go_wp2_with fail
        refine (HLa2.out _ (HTb.out.frm HC.out).1 (HTb.out.frm HC.out).2).mono ?_
        rintro e y2 ⟨rfl, hf⟩
        replace HC := Lib.hid (HC.out.trans hf)
        have HF1 := Lib.hid hf
        clear hf
        go_wp2_with fail
        refine hK.out _ _ ⟨HF1.out.more, ?_⟩
        clear hK HF1
        unfold wpSegs
        simp only [List.take_succ_cons, List.take_zero, List.drop_succ_cons, List.drop_zero]
        have n1 : Nonempty (Cls (fun v => Frm [g + 1 + 1] y2 v)) := ⟨⟨_, Frm.refl _ _⟩⟩
        have q0 := fun x : Cls (fun v => Frm [g + 1 + 1] y2 v) => (HSf.out x.world (HC.out.more.trans x.ok)).1
        have q1 := fun x : Cls (fun v => Frm [g + 1 + 1] y2 v) => (HSf.out x.world (HC.out.more.trans x.ok)).2.1
        have q2 := fun x : Cls (fun v => Frm [g + 1 + 1] y2 v) => (HSf.out x.world (HC.out.more.trans x.ok)).2.2.1
        have q3 := fun x : Cls (fun v => Frm [g + 1 + 1] y2 v) => (HSf.out x.world (HC.out.more.trans x.ok)).2.2.2.1
        have q4 := fun x : Cls (fun v => Frm [g + 1 + 1] y2 v) => (HSf.out x.world (HC.out.more.trans x.ok)).2.2.2.2
        repeat (go_big_quiet_step (fail))
        refine wpQuiet_nil ?_
        refine only_step (fun K' hK => ?_)
        clear q0 q1 q2 q3 q4 n1
        have hb2 := HC.out.blk (HS.out.blk 7 rfl) (by simp)
        have cr := hb2.cell 0 rfl
        have fr := hb2.free 0
        have HBl := Lib.hid (hb2.put 0 (.bool true))
        clear hb2
        go_wp2_with fail
        refine hK.out _ _ ⟨(Frm.refl _ _).put (.inl (by simp)) _ _ _, ?_⟩
        clear hK cr fr
        unfold wpSegs
        refine wpQuiet_nil ?_
        refine NoPanic.normal ?_
        have hDlt : D < W.heap.size := (Array.getElem?_eq_some_iff.1 HK2.out).1
        have hDn : D ≠ g + 1 + 1 := no_cells HK2.out (HS.out.blk 7 rfl)
        have HK3 := Lib.hid ((Below.heap_setCell y2 ⟨g + 1 + 1, 0, none⟩ (.bool true) D hDn).trans ((HC.out.block D hDlt (by simp)).trans HK2.out))
        have HF3 := Lib.hid ((HS.out.frm.trans HC.out).put (g := g + 1 + 1) (.inr (by have := HG.out; omega)) 0 none (.bool true))
        clear hDlt hDn HK2 HC HS HSf HTb HT HNe2 HLa2 bnd
        gi_wp2
        exact cell_end1 rfl HK3.out HBl.out rfl HF3.out HDz.out
      case stop =>
        rintro D cd pre F W hD hDF hF hpre ⟨⟨rfl, hlen⟩, hS⟩ hK
        obtain ⟨NN, hNN⟩ : ∃ NN, NN = pre.length := ⟨_, rfl⟩
        have hpr : pre.length ≤ R.length := hpre.length_le
        have HNe' := HNe
        have HNe := Lib.hid hNN
        rw [← hNN] at hpr hlen
        rw [← HN.out] at hpr
        have mm1 : min (1 + (M : Int)) (j : Int) = (NN : Int) := by omega
        have mm2 : (if (1 + (M : Int)) ≤ (j : Int) then (1 + (M : Int)) else (j : Int)) = (NN : Int) := by split <;> omega
        have mm3 : (if (j : Int) < (1 + (M : Int)) then (j : Int) else (1 + (M : Int))) = (NN : Int) := by split <;> omega
        have mm4 : (if (1 + (M : Int)) > (j : Int) then (j : Int) else (1 + (M : Int))) = (NN : Int) := by split <;> omega
        clear hF hpr hlen hpre hNN
        have HK2 := Lib.hid hK
        have HS := Lib.hid hS
        have HDz := Lib.hid (Nat.le_trans HSz.out hD)
        have hqn : q ≠ g + 1 + 1 := by have := hS.ne 6 7 (by decide) rfl rfl (k := q) (by simp [blkR]); simpa [blkR] using this
        have hpn : p ≠ g + 1 + 1 := by have := hS.ne 3 7 (by decide) rfl rfl (k := p) (by simp [blkR]); simpa [blkR] using this
        have hsn : s ≠ g + 1 + 1 := by have := hS.ne 4 7 (by decide) rfl rfl (k := s) (by simp [blkR]); simpa [blkR] using this
        have HSf := Lib.hid (fun X (hf : Frm [g + 1 + 1] W X) => (show X.cell? ⟨q, 0, none⟩ = some (.int .u64 (h : Int)) ∧ X.cell? ⟨q, 1, none⟩ = some (.int .u64 (l : Int)) ∧ X.cell? ⟨p, 0, none⟩ = some (.int .i64 (NN : Int)) ∧ X.cell? ⟨s, 0, none⟩ = some (.slice (some ⟨gz, 0, none⟩) j nc) ∧ X.cell? ⟨g + 1, 0, none⟩ = some (.int .i64 (1 + (M : Int))) from
          ⟨(hf.blk (HS.out.blk 6 rfl) (by simpa using hqn)).cell 0 rfl, (hf.blk (HS.out.blk 6 rfl) (by simpa using hqn)).cell 1 rfl, by rw [HNe.out]; exact (hf.blk (HS.out.blk 3 rfl) (by simpa using hpn)).cell 0 rfl, (hf.blk (HS.out.blk 4 rfl) (by simpa using hsn)).cell 0 rfl, (hf.blk (HS.out.blk 8 rfl) (by simp)).cell 0 rfl⟩))
        have hLA : -1 ≤ lastOf R ∧ lastOf R < 128 := by
          rcases HLc.out with ⟨_, h3⟩ | ⟨i, h3, h4⟩
          · omega
          · have := HLt.out i h3; omega
        have hnd := nd_more hLA.1 hLA.2
        obtain ⟨LA, hLA2⟩ : ∃ LA, LA = lastOf R := ⟨_, rfl⟩
        obtain ⟨ND, hND⟩ : ∃ ND, ND = ndN LA := ⟨_, rfl⟩
        have hNe := HNe'.out
        have hLa := HLa.out
        rw [← hLA2] at hnd hNe hLa
        rw [← hND] at hnd hNe
        have HNe2 := Lib.hid hNe
        have HLa2 := Lib.hid hLa
        have bnd : decide (LA < ND) = true := decide_eq_true hnd
        have HC := Lib.hid ((Frm.refl [] W).drew)
        have HTb := Lib.hid (HT.out.frm HS.out.frm)
        clear hS hK hqn hpn hsn hLA hnd hLA2 hND hNe hLa hD
        gi_upto_region 29 with fail
        refine wpIn_wide.2 ?_
        refine region_segsP (G := [g + 1 + 1]) [0, 1, 2, 3, 4, 5, 6, 7, 9, 8, 10, 11, 12, 13] [9, 0, 2] (by decide) (by kernel_rfl) (by kernel_rfl) (by kernel_rfl) (by kernel_rfl) (by kernel_rfl) (by kernel_rfl) (by kernel_rfl) ?_
        simp only [remOf, List.filterMap_cons, List.filterMap_nil, List.getElem?_cons_zero, List.getElem?_cons_succ]
        obtain ⟨y0, hy0⟩ : ∃ y0, y0 = W.drew := ⟨_, rfl⟩
        rw [← hy0] at HC ⊢
        clear hy0
        unfold wpSegs
        simp only [List.take_succ_cons, List.take_zero, List.drop_succ_cons, List.drop_zero]
        have n1 : Nonempty (Cls (fun v => Frm [g + 1 + 1] y0 v)) := ⟨⟨_, Frm.refl _ _⟩⟩
        have q0 := fun x : Cls (fun v => Frm [g + 1 + 1] y0 v) => (HSf.out x.world (HC.out.more.trans x.ok)).1
        have q1 := fun x : Cls (fun v => Frm [g + 1 + 1] y0 v) => (HSf.out x.world (HC.out.more.trans x.ok)).2.1
        have q2 := fun x : Cls (fun v => Frm [g + 1 + 1] y0 v) => (HSf.out x.world (HC.out.more.trans x.ok)).2.2.1
        have q3 := fun x : Cls (fun v => Frm [g + 1 + 1] y0 v) => (HSf.out x.world (HC.out.more.trans x.ok)).2.2.2.1
        have q4 := fun x : Cls (fun v => Frm [g + 1 + 1] y0 v) => (HSf.out x.world (HC.out.more.trans x.ok)).2.2.2.2
        repeat (go_big_quiet_step (fail))
        refine wpQuiet_nil ?_
        refine only_step (fun K' hK => ?_)
        clear q0 q1 q2 q3 q4 n1
        go_wp2_with fail
        refine (HNe2.out _ (HTb.out.frm HC.out).1 (HTb.out.frm HC.out).2).mono ?_
        rintro e y1 ⟨rfl, hf⟩
        replace HC := Lib.hid (HC.out.trans hf)
        have HF1 := Lib.hid hf
        clear hf
        go_wp2_with fail
        refine hK.out _ _ ⟨HF1.out.more, ?_⟩
        clear hK HF1
        unfold wpSegs
        simp only [List.take_succ_cons, List.take_zero, List.drop_succ_cons, List.drop_zero]
        have n1 : Nonempty (Cls (fun v => Frm [g + 1 + 1] y1 v)) := ⟨⟨_, Frm.refl _ _⟩⟩
        have q0 := fun x : Cls (fun v => Frm [g + 1 + 1] y1 v) => (HSf.out x.world (HC.out.more.trans x.ok)).1
        have q1 := fun x : Cls (fun v => Frm [g + 1 + 1] y1 v) => (HSf.out x.world (HC.out.more.trans x.ok)).2.1
        have q2 := fun x : Cls (fun v => Frm [g + 1 + 1] y1 v) => (HSf.out x.world (HC.out.more.trans x.ok)).2.2.1
        have q3 := fun x : Cls (fun v => Frm [g + 1 + 1] y1 v) => (HSf.out x.world (HC.out.more.trans x.ok)).2.2.2.1
        have q4 := fun x : Cls (fun v => Frm [g + 1 + 1] y1 v) => (HSf.out x.world (HC.out.more.trans x.ok)).2.2.2.2
        repeat (go_big_quiet_step (fail))
        refine wpQuiet_nil ?_
        refine only_step (fun K' hK => ?_)
        clear q0 q1 q2 q3 q4 n1
        go_wp2_with fail
        refine (HLa2.out _ (HTb.out.frm HC.out).1 (HTb.out.frm HC.out).2).mono ?_
        rintro e y2 ⟨rfl, hf⟩
        replace HC := Lib.hid (HC.out.trans hf)
        have HF1 := Lib.hid hf
        clear hf
        go_wp2_with fail
        refine hK.out _ _ ⟨HF1.out.more, ?_⟩
        clear hK HF1
        unfold wpSegs
        simp only [List.take_succ_cons, List.take_zero, List.drop_succ_cons, List.drop_zero]
        have n1 : Nonempty (Cls (fun v => Frm [g + 1 + 1] y2 v)) := ⟨⟨_, Frm.refl _ _⟩⟩
        have q0 := fun x : Cls (fun v => Frm [g + 1 + 1] y2 v) => (HSf.out x.world (HC.out.more.trans x.ok)).1
        have q1 := fun x : Cls (fun v => Frm [g + 1 + 1] y2 v) => (HSf.out x.world (HC.out.more.trans x.ok)).2.1
        have q2 := fun x : Cls (fun v => Frm [g + 1 + 1] y2 v) => (HSf.out x.world (HC.out.more.trans x.ok)).2.2.1
        have q3 := fun x : Cls (fun v => Frm [g + 1 + 1] y2 v) => (HSf.out x.world (HC.out.more.trans x.ok)).2.2.2.1
        have q4 := fun x : Cls (fun v => Frm [g + 1 + 1] y2 v) => (HSf.out x.world (HC.out.more.trans x.ok)).2.2.2.2
        repeat (go_big_quiet_step (fail))
        refine wpQuiet_nil ?_
        refine only_step (fun K' hK => ?_)
        clear q0 q1 q2 q3 q4 n1
        have hb2 := HC.out.blk (HS.out.blk 7 rfl) (by simp)
        have cr := hb2.cell 0 rfl
        have fr := hb2.free 0
        have HBl := Lib.hid (hb2.put 0 (.bool true))
        clear hb2
        go_wp2_with fail
        refine hK.out _ _ ⟨(Frm.refl _ _).put (.inl (by simp)) _ _ _, ?_⟩
        clear hK cr fr
        unfold wpSegs
        refine wpQuiet_nil ?_
        refine NoPanic.normal ?_
        have hDlt : D < W.heap.size := (Array.getElem?_eq_some_iff.1 HK2.out).1
        have hDn : D ≠ g + 1 + 1 := no_cells HK2.out (HS.out.blk 7 rfl)
        have HK3 := Lib.hid ((Below.heap_setCell y2 ⟨g + 1 + 1, 0, none⟩ (.bool true) D hDn).trans ((HC.out.block D hDlt (by simp)).trans HK2.out))
        have HF3 := Lib.hid ((HS.out.frm.trans HC.out).put (g := g + 1 + 1) (.inr (by have := HG.out; omega)) 0 none (.bool true))
        clear hDlt hDn HK2 HC HS HSf HTb HT HNe2 HLa2 bnd
        gi_wp2
        exact cell_end1 rfl HK3.out HBl.out rfl HF3.out HDz.out

end Go.Proofs.YtibccecmicndaaaDoor
