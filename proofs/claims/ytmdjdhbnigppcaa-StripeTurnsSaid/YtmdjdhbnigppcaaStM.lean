/-
  THE WALK of the law StripeRows.
-/
import Derived.Test.YtmdjdhbnigppcaaStL
import Derived.Test.YtmdjdhbnigppcaaStK
import Derived.Test.YtmdjdhbnigppcaaOr
set_option linter.unusedVariables false
set_option linter.unusedSimpArgs false
namespace Go.Proofs.Ytmdjdhbnigppcaa
open Go.RowKit Go.Shelf

set_option maxRecDepth 100000 in
set_option maxHeartbeats 16000000 in
theorem stripeRows_w (w : World) (ad : Option Addr) (cap : Nat) (xs : List Bs) (lc : xs.length ≤ cap) (mc : cap ≤ maxLen) (rd : RdHs w ad xs) (rr : ∀ x ∈ xs, RdI .u8 w x.a x.zs ∧ Byt x.zs) :
    Calls Try.prog 3 #[.slice ad xs.length cap] w fun e w' => e = .returned (.bool true) ∧ Below w.heap.size w w' := by
  obtain ⟨inf, hi, hz0, hz1, hz2⟩ := info_parts info_row
  unfold maxLen at mc
  have HR := Lib.hid rd
  have HQ := Lib.hid rr
  clear rd rr
  go_enter Try.func3, Try.ntmps3
  go_wp2_with fail
  refine (alive_c _).mono ?_
  rintro e w1 ⟨rfl, hf⟩
  have HS := Lib.hid ((Sep.init w).keep hf)
  clear hf
  go_wp2_with fail
  refine (small_c ad cap xs w1 (HR.out.below HS.out.frm.below) (by omega)).mono ?_
  rintro e w2 ⟨rfl, ⟨rfl, hs, hn⟩ | ⟨rfl, hno⟩⟩
  · have HA := Lib.hid (show ∀ wx, Below w.heap.size w wx → RdRows wx ad xs from fun wx hb i x hx => ⟨(HR.out.below hb) i x hx, ((HQ.out x (List.mem_of_getElem? hx)).1.below hb), (HQ.out x (List.mem_of_getElem? hx)).2, Nat.le_trans (hs x (List.mem_of_getElem? hx)) (by omega)⟩)
    have HSm := Lib.hid hs
    clear hs HR HQ
    go_wp2_with fail
    refine (rall_c ad cap xs w1 (HA.out _ HS.out.frm.below) (by omega)).mono ?_
    rintro e w2 ⟨vw, rfl, hS2⟩
    have HS2 := Lib.hid (((((HS.out.gains hS2).alloc #[.slice none 0 0, .int .i64 0] 28).nil 5 1).made 25 1 0 #[] (by unfold maxLen; omega) rfl).none)
    clear hS2 HS
    obtain ⟨wa, hwa⟩ : ∃ wa, wa = w2.alloc (.cells #[.slice none 0 0, .int .i64 0] 28) := ⟨_, rfl⟩
    have hwz : wa.heap.size = w2.heap.size + 1 := by rw [hwa]; simp
    rw [← hwa] at HS2
    have HS3 : Hid (Sep [] w (wa.alloc (.cells #[] 25)) [sumR (.slice none 0 0) [], sumB w2.heap.size (.slice none 0 0) 0, ownR 25 1 (.slice (some ⟨wa.heap.size, 0, none⟩) 0 0) 0 [], manyR [], sumR vw (xoAll (xs.map Bs.zs))]) := Lib.hid (HS2.out.perm (by
      refine List.Perm.trans ?_ (List.perm_append_comm (l₁ := [manyR [], ownR 25 1 (.slice (some ⟨wa.heap.size, 0, none⟩) 0 0) 0 []]) (l₂ := [sumR (.slice none 0 0) [], sumB w2.heap.size (.slice none 0 0) 0]) |>.append_right [sumR vw (xoAll (xs.map Bs.zs))] |>.trans ?_)
      · exact List.Perm.refl _
      · exact List.Perm.cons _ (List.Perm.cons _ (List.Perm.swap _ _ _))))
    clear HS2
    go_wp2_with fail
    rw [← hwa]
    rw [hwz] at HS3
    obtain ⟨wb, hwb⟩ : ∃ wb, wb = wa.alloc (.cells #[] 25) := ⟨_, rfl⟩
    rw [← hwb] at HS3 ⊢
    obtain ⟨s, hs⟩ : ∃ s, s = w2.heap.size := ⟨_, rfl⟩
    rw [← hs] at HS3 ⊢
    clear hwa hwz hwb hs
    obtain ⟨W, hW⟩ : ∃ W, W = xoAll (xs.map Bs.zs) := ⟨_, rfl⟩
    rw [← hW] at HS3
    have HW := Lib.hid hW
    clear hW
    go_loopw [22, 5, 6] (fun i lg mv wr => ∃ (k gm cm : Nat) (sv : Value) (ms : List Bs) (A : List Int), k ≤ xs.length ∧ mv = .slice (some ⟨gm, 0, none⟩) k cm ∧ i = .int .i64 k ∧ A = xoAll ((xs.take k).map Bs.zs) ∧ lg = .int .i64 (A.length : Nat) ∧ ms.map Bs.zs = (xs.take k).map Bs.zs ∧
      Sep [] w wr [sumR sv A, sumB s sv k, ownR 25 1 (.slice (some ⟨gm, 0, none⟩) k cm) k (ms.map Bs.val), manyR (ms.map copyR), sumR vw W]) (fun i _ _ _ => xs.length - (intOf i).toNat)
    case atStart => exact ⟨0, _, _, _, [], [], Nat.zero_le _, rfl, rfl, rfl, rfl, rfl, HS3.out⟩
    case round =>
      obtain ⟨k, gm, cm, sv, ms, A, hk, rfl, rfl, hA, rfl, hms, hS⟩ := hrel
      by_cases hlt : k < xs.length
      · obtain ⟨x, hx⟩ : ∃ x, xs[k]? = some x := ⟨_, List.getElem?_eq_getElem hlt⟩
        obtain ⟨⟨b, off, rfl, hb2, hb3⟩, hok⟩ := HA.out _ hS.frm.below k x hx
        have hft : Byt A ∧ A.length ≤ 1000000 := by
          rw [hA]
          refine fit_all (fun y hy => ?_)
          obtain ⟨i, hi'⟩ := List.getElem?_of_mem (List.mem_of_mem_take hy)
          exact (HA.out _ hS.frm.below i y hi').2.2
        have htk : xoAll ((xs.take (k + 1)).map Bs.zs) = xo A x.zs := by rw [List.take_add_one, hx, hA]; simp [xoAll_snoc]
        have hlx := hok.2.2
        have hla := hft.2
        obtain ⟨N, hN⟩ : ∃ N, N = (xo A x.zs).length := ⟨_, rfl⟩
        have HN := Lib.hid hN
        have HC := Lib.hid (bcopy_c x.a x.c x.zs wr hok.1 hok.2.2)
        have HTk := Lib.hid htk
        have HFt := Lib.hid hft
        have HOk := Lib.hid hok.2
        have HX := Lib.hid hx
        have HMs := Lib.hid hms
        have HSr := Lib.hid hS
        have i0 : (0 : Int) ≤ (k : Int) := by omega
        have i1 : (k : Int) < (xs.length : Int) := by omega
        unfold Bs.val at hb3
        clear hx hok hft htk hA hS hb2 hms hN
        go_wp2_with fail
        refine HC.out.mono ?_
        rintro e w3 ⟨g, c, rfl, hS3⟩
        have HS4 := Lib.hid (HSr.out.many 3 rfl hS3)
        clear hS3 HC hb3
        go_wp2_with (at_builtin; refine wpList_append_sep rfl _ _ 22 rfl 2 25 inf (.slice none 0 0) 24 Try.underlying22 hi hz0 hz1 hz2 rfl _ _ _ rfl (HS4.out.skip _) rfl _ 1 (.slice (some ⟨g, 0, none⟩) x.zs.length c) rfl (World.cell?_alloc_at _ _ _ _ rfl) rfl (by unfold maxLen; omega) (by omega) ?_; intro g4 c4 w4 hS4; have HS5 := Lib.hid hS4; clear hS4)
        obtain ⟨m, hm⟩ : ∃ m : Bs, m = ⟨some ⟨g, 0, none⟩, c, x.zs⟩ := ⟨_, rfl⟩
        have HS6 : Hid (Sep [] w w4 [sumR sv A, sumB s sv k, ownR 25 1 (.slice (some ⟨g4, 0, none⟩) (k + 1) c4) (k + 1) ((ms ++ [m]).map Bs.val), manyR ((ms ++ [m]).map copyR), sumR vw W]) := by
          rw [List.map_append, List.map_append, List.map_singleton, List.map_singleton, hm]
          exact HS5
        have hmem : copyR m ∈ (ms ++ [m]).map copyR := by simp
        have hrm := copy_rd ((HS6.out.get 3 rfl) _ hmem)
        have hbl : g ∈ (manyR ((ms ++ [m]).map copyR)).bl := List.mem_flatMap.2 ⟨copyR m, hmem, by rw [hm]; simp [copyR, Bs.val, sumR, ownR, Value.ownBlock]⟩
        have hmz : m.zs = x.zs := by rw [hm]
        rw [hm] at hrm
        have hap : g ∉ (sumR sv A).bl ++ (sumB s sv k).bl := HS6.out.far2 (r := manyR ((ms ++ [m]).map copyR)) (by simp) hbl
        have HAd := Lib.hid (sadd_sep HS6.out (some ⟨g, 0, none⟩) c x.zs hrm (fun _ p hp => by injection hp with hp; subst hp; exact hap) HFt.out.1 HOk.out.1 HFt.out.2 HOk.out.2 (by omega) (by omega))
        have HMz := Lib.hid (zs_snoc HMs.out HX.out hmz)
        clear hmem hrm hbl hmz hap hm HS5 HS6
        refine HAd.out.mono ?_
        rintro e w5 ⟨rfl, sv', hS⟩
        have HS7 := Lib.hid hS
        clear hS HAd
        go_wp2_with fail
        go_roundw
        case rel => exact ⟨k + 1, g4, c4, sv', ms ++ [m], xo A x.zs, by omega, rfl, by go_num, HTk.out.symm, (by rw [← HN.out]; refine congrArg (Value.int .i64) ?_; have := HN.out; rw [xo_length] at this; split <;> omega), HMz.out, HS7.out⟩
        case measure => simp [intOf]; omega
      · obtain rfl : k = xs.length := by omega
        rw [List.take_length] at hA hms
        rw [← HW.out] at hA
        subst hA
        have hml : ms.length = xs.length := by have := congrArg List.length hms; simpa using this
        have hft : Byt A ∧ A.length ≤ 1000000 := by
          rw [HW.out]
          refine fit_all (fun y hy => ?_)
          obtain ⟨i, hi'⟩ := List.getElem?_of_mem hy
          exact (HA.out _ hS.frm.below i y hi').2.2
        have hlA := hft.2
        have HFt := Lib.hid hft
        have HMs := Lib.hid hms
        have HMl := Lib.hid hml
        have HSr := Lib.hid hS
        have HB := Lib.hid (bytes_c s sv A xs.length wr (hS.blk 1 rfl) (hS.get 0 rfl) hlA)
        clear hft hms hml hS
        go_wp2_with fail
        refine HB.out.mono ?_
        rintro e w3 ⟨vf, rfl, hS3⟩
        have HS4 := Lib.hid (HSr.out.gains hS3)
        obtain ⟨fa, fc, rfl, _, _⟩ := RdI.of_own (hS3.own 0 rfl)
        clear hS3 HB
        go_wp2_with fail
        go_loopw [42] (fun i wr2 => ∃ (k : Nat) (zs : List Int), k ≤ A.length ∧ zs.length = A.length ∧ i = .int .i64 k ∧
          Sep [] w wr2 [ownR 5 1 (.slice fa A.length fc) A.length (zs.map (Value.int .u8)), sumR sv A, sumB s sv xs.length, ownR 25 1 (.slice (some ⟨gm, 0, none⟩) xs.length cm) xs.length (ms.map Bs.val), manyR (ms.map copyR), sumR vw A]) (fun i _ => A.length - (intOf i).toNat)
        case atStart => exact ⟨0, A, Nat.zero_le _, rfl, rfl, HS4.out⟩
        case round =>
          obtain ⟨k, zs, hk2, hzl, rfl, hS⟩ := hrel
          have HS5 := Lib.hid hS
          clear hS
          by_cases hlt2 : k < A.length
          · obtain ⟨g, c, hv⟩ := row_slice (HS5.out.own 0 rfl) (by omega)
            injection hv with hv1 _ hv3
            subst hv1 hv3
            have cz := row_cell (HS5.out.own 0 rfl) k (by omega)
            have cf := row_free (HS5.out.own 0 rfl) k
            obtain ⟨z, hz⟩ : ∃ z, z = zs.getD k 0 := ⟨_, rfl⟩
            rw [← hz] at cz
            have i1 : (0 : Int) ≤ (k : Int) := by omega
            have i2 : (k : Int) < (A.length : Int) := by omega
            have HZl := Lib.hid hzl
            clear hz hzl
            go_wp2_with fail
            go_roundw
            case rel => exact ⟨k + 1, zs.set k _, by omega, by rw [List.length_set]; exact HZl.out, by go_num, HS5.out.putRow 0 rfl k _⟩
            case measure => simp [intOf]; omega
          · obtain rfl : k = A.length := by omega
            have HZl := Lib.hid hzl
            clear hzl
            go_wp2_with fail
            have hmf : ∀ m ∈ ms, m.fit := fun m hm => by
              obtain ⟨i, hi'⟩ := List.getElem?_of_mem hm
              have hil : i < xs.length := by rw [← HMl.out]; exact (List.getElem?_eq_some_iff.1 hi').1
              have hx := HA.out _ HS5.out.frm.below i xs[i] (List.getElem?_eq_getElem hil)
              have hz : m.zs = xs[i].zs := by
                have h := congrArg (fun l => l[i]?) HMs.out
                simp only [List.getElem?_map, hi', List.getElem?_eq_getElem hil, Option.map_some, Option.some.injEq] at h
                exact h
              exact ⟨hz ▸ hx.2.2.1, hz ▸ hx.2.2.2⟩
            have HMf := Lib.hid hmf
            clear hmf
            have HRo : Hid (∀ wx, Frm [] wr wx → ∃ a c, (Value.slice (some ⟨gm, 0, none⟩) xs.length cm) = .slice a ms.length c ∧ RdRows wx a ms) := Lib.hid (fun wx hf => by
              have h := HS5.out.keep hf
              exact rows_of (h.own 3 rfl) (h.get 4 rfl) HMf.out)
            have HRr : Hid (∀ wx, Frm [] wr wx → RdRows wx (some ⟨gm, 0, none⟩) ms) := Lib.hid (fun wx hf => by
              obtain ⟨a, c, hv, hr⟩ := HRo.out wx hf
              injection hv with h1 _ _
              rw [h1]
              exact hr)
            have HAl := Lib.hid (all_c (some ⟨gm, 0, none⟩) cm ms wr (HRr.out _ (Frm.refl _ _)) (by have := HMl.out; omega))
            rw [HMl.out, HMs.out, ← HW.out] at HAl
            clear HRo HMf
            refine HAl.out.mono ?_
            rintro e w4 ⟨v4, rfl, hS4⟩
            have HS6 := Lib.hid (HS5.out.gains hS4)
            have HF4 := Lib.hid hS4.frm
            obtain ⟨a4, c4, rfl, _, r4⟩ := RdI.of_own (hS4.own 0 rfl)
            obtain ⟨aw, cw, rfl, _, r5⟩ := RdI.of_own ((HS5.out.gains hS4).own 6 rfl)
            have HRs := Lib.hid (And.intro r4 r5)
            have HX := Lib.hid (fun p q : Nat => bsame_c a4 aw p q A A w4 HRs.out.1 HRs.out.2 HFt.out.2 HFt.out.2)
            simp only [show decide (A = A) = true from by simp] at HX
            clear hS4 r4 r5 HAl HRs
            go_wp2_with fail
            refine (HX.out _ _).mono ?_
            rintro e w5 ⟨rfl, m5, rfl⟩
            have HS7 := Lib.hid (HS6.out.drewN m5)
            have HF5 := Lib.hid (HF4.out.drewN m5)
            clear HS6 HF4 HX
            obtain ⟨w6, hw6⟩ : ∃ w6, w6 = w4.drewN m5 := ⟨_, rfl⟩
            rw [← hw6] at HS7 HF5 ⊢
            clear hw6
            go_wp2_with fail
            have HB := Lib.hid (bytes_c s sv A xs.length w6 (HS7.out.blk 3 rfl) (HS7.out.get 2 rfl) HFt.out.2)
            refine HB.out.mono ?_
            rintro e w7 ⟨v7, rfl, hS4⟩
            have HS8 := Lib.hid (HS7.out.gains hS4)
            have HF7 := Lib.hid (HF5.out.trans hS4.frm)
            obtain ⟨a7, c7, rfl, _, r4⟩ := RdI.of_own (hS4.own 0 rfl)
            obtain ⟨aw', cw', hv, _, r5⟩ := RdI.of_own ((HS7.out.gains hS4).own 7 rfl)
            injection hv with hv1 _ hv2
            subst hv1 hv2
            have HRs := Lib.hid (And.intro r4 r5)
            have HX := Lib.hid (fun p q : Nat => bsame_c a7 aw p q A A w7 HRs.out.1 HRs.out.2 HFt.out.2 HFt.out.2)
            simp only [show decide (A = A) = true from by simp] at HX
            clear hS4 r4 r5 HB HRs HS7 HF5
            go_wp2_with fail
            refine (HX.out _ _).mono ?_
            rintro e w8 ⟨rfl, m8, rfl⟩
            have HS9 := Lib.hid (HS8.out.drewN m8)
            have HF8 := Lib.hid (HF7.out.drewN m8)
            obtain ⟨w9, hw9⟩ : ∃ w9, w9 = w7.drewN m8 := ⟨_, rfl⟩
            rw [← hw9] at HS9 HF8 ⊢
            clear hw9 HX HS8 HF7
            go_wp2_with fail
            refine (count_c s sv xs.length w9 (HS9.out.blk 4 rfl)).mono ?_
            rintro e w' ⟨rfl, rfl⟩
            have e1 : ((xs.length : Int) == (xs.length : Int)) = true := by simp
            go_wp2_with fail
            refine (longest_c s sv A xs.length w9 (HS9.out.blk 4 rfl) (HS9.out.get 3 rfl)).mono ?_
            rintro e w' ⟨rfl, rfl⟩
            have e2 : ((A.length : Int) == (A.length : Int)) = true := by simp
            go_wp2_with fail
            have HSA := Lib.hid (sameall_c (some ⟨gm, 0, none⟩) ad cm cap ms xs w9 (HRr.out _ HF8.out) (HA.out _ HS9.out.frm.below) (by have := HMl.out; omega) (by omega) HMs.out)
            rw [HMl.out] at HSA
            refine HSA.out.mono ?_
            rintro e w10 ⟨rfl, m10, rfl⟩
            go_wp2_with fail
            go_ret
            exact ⟨rfl, (HS9.out.drewN m10).frm.below⟩
  · clear hno
    go_wp2_with fail
    go_ret
    exact ⟨rfl, HS.out.frm.below⟩

def IRow.bs (r : IRow) : Bs := ⟨r.a, r.c, r.zs⟩
theorem RdV.bs {w : World} {ad : Option Addr} {rs : List IRow} (h : RdV w ad (rs.map IRow.val)) : RdHs w ad (rs.map IRow.bs) := fun i x hx => by
  rw [List.getElem?_map] at hx
  cases hr : rs[i]? with
  | none => rw [hr] at hx; simp at hx
  | some r =>
    rw [hr] at hx
    simp at hx
    subst hx
    exact h i r.val (by simp [hr])
theorem rows_bs {w : World} {rs : List IRow} (h : ∀ r ∈ rs, r.zs.length ≤ r.c ∧ r.c ≤ maxLen ∧ (r.a = none → r.c = 0) ∧ RdI .u8 w r.a r.zs ∧ ∀ x ∈ r.zs, (Lit.int .u8 x).wf = true) : ∀ x ∈ rs.map IRow.bs, RdI .u8 w x.a x.zs ∧ Byt x.zs := fun x hx => by
  obtain ⟨r, hr, rfl⟩ := List.mem_map.1 hx
  exact ⟨(h r hr).2.2.2.1, fun y hy => u8_wf ((h r hr).2.2.2.2 y hy)⟩
theorem stripeRows_w2 (w : World) (a : Option Addr) (c : Nat) (rs : List IRow) (lc : rs.length ≤ c) (mc : c ≤ maxLen) (nc : a = none → c = 0) (rd : RdV w a (rs.map IRow.val))
    (wf : ∀ r ∈ rs, r.zs.length ≤ r.c ∧ r.c ≤ maxLen ∧ (r.a = none → r.c = 0) ∧ RdI .u8 w r.a r.zs ∧ ∀ x ∈ r.zs, (Lit.int .u8 x).wf = true) :
    Calls Try.prog 3 #[.slice a rs.length c] w fun e w' => e = .returned (.bool true) ∧ Below w.heap.size w w' := by
  have h := stripeRows_w w a c (rs.map IRow.bs) (by simpa using lc) mc rd.bs (rows_bs wf)
  rwa [List.length_map] at h

end Go.Proofs.Ytmdjdhbnigppcaa
