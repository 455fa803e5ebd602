/-
  THE WALKS of stripe: slices.Values; All; Xor.
-/
import Derived.Test.YtmdjdhbnigppcaaStC
set_option linter.unusedVariables false
set_option linter.unusedSimpArgs false
namespace Go.Proofs.Ytmdjdhbnigppcaa
open Go.RowKit Go.Shelf
attribute [local go_sem] Oper.semAt_some

/-- A slice of slices of bytes. -/
def RdRows (w : World) (ad : Option Addr) (xs : List Bs) : Prop :=
  ∀ i x, xs[i]? = some x → (∃ b off, ad = some ⟨b, off, none⟩ ∧ b < w.heap.size ∧ w.cell? ⟨b, off + i, none⟩ = some x.val) ∧ x.ok w
theorem Bs.ok.below {w w' : World} {x : Bs} (h : x.ok w) (hb : Below w.heap.size w w') : x.ok w' := ⟨h.1.below hb, h.2⟩
theorem RdRows.below {w w' : World} {ad : Option Addr} {xs : List Bs} (h : RdRows w ad xs) (hb : Below w.heap.size w w') : RdRows w' ad xs := fun i x hx => by
  obtain ⟨⟨b, off, h1, h2, h3⟩, h4⟩ := h i x hx
  exact ⟨⟨b, off, h1, Nat.lt_of_lt_of_le h2 hb.size, (hb.cell (p := ⟨b, off + i, none⟩) h2).trans h3⟩, h4.below hb⟩
theorem RdRows.nil (w : World) (ad : Option Addr) : RdRows w ad [] := fun i x h => by simp at h
theorem RdI.lies {k : IntKind} {w : World} {a : Option Addr} {zs : List Int} (h : RdI k w a zs) (hn : 0 < zs.length) : ∀ p, a = some p → p.block < w.heap.size := fun p hp => by
  obtain ⟨b, off, ha, hb, _⟩ := h 0 zs[0] (List.getElem?_eq_getElem hn)
  rw [hp] at ha
  injection ha with ha
  subst ha
  exact hb

set_option maxRecDepth 100000 in
set_option maxHeartbeats 2000000 in
theorem values_seq (n bx : Nat) (hn : 1 ≤ n) (ad : Option Addr) (c : Nat) (xs : List Bs) (w : World) (hbx : w.cell? ⟨bx, 0, none⟩ = some (.slice ad xs.length c)) (hbl : bx < w.heap.size) (hr : RdRows w ad xs) (hlen : xs.length ≤ 1000) :
    SeqRd n Try.prog 34 #[.pointer (some ⟨bx, 0, none⟩)] (fun x : Bs => #[x.val]) (Below w.heap.size) (RdB w.heap.size) (fun ys => ys = xs) xs.length w := by
  intro l J W B0 hW hB0 hal hY h0
  have hcx := (hW.cell (p := ⟨bx, 0, none⟩) hbl).trans hbx
  have HR := Lib.hid hr
  have hsz := hW.size
  have HW := Lib.hid hW
  have HY := Lib.hid hY
  clear hr hbx hW hY hal
  refine callsIn_of_wp Try.func34 rfl trivial ?_ rfl
  simp only [Try.ntmps34, List.size_toArray, List.length_cons, List.length_nil, Nat.reduceAdd, Nat.reduceSub, Array.replicate_succ, Array.replicate_zero, List.push_toArray, List.append_toArray, List.nil_append, List.cons_append]
  gi_wp2
  gi_loopw [7] (fun i wr => ∃ (k B : Nat), k ≤ xs.length ∧ i = .int .i64 k ∧ J (xs.take k) B wr ∧ Below w.heap.size W wr)
    (fun i _ => xs.length - (intOf i).toNat)
  case atStart => exact ⟨0, B0, Nat.zero_le _, rfl, h0, Below.refl _ _⟩
  case round =>
    obtain ⟨k, B, hk, rfl, hJs, hnx⟩ := hrel
    by_cases hlt : k < xs.length
    · obtain ⟨x, hx⟩ : ∃ x, xs[k]? = some x := ⟨_, List.getElem?_eq_getElem hlt⟩
      obtain ⟨⟨b, off, rfl, hb2, hb3⟩, hok⟩ := (HR.out.below (HW.out.trans hnx)) k x hx
      have hlie : 0 < x.zs.length → ∀ p, x.a = some p → p.block < w.heap.size := (HR.out k x hx).2.1.lies
      obtain ⟨fn, tmps, assign, body, hy, hR⟩ := HY.out (xs.take k) B x wr hJs ⟨hok, fun h p hp => .inl (hlie h p hp)⟩ (by rw [List.length_take]; omega)
      have htk : xs.take k ++ [x] = xs.take (k + 1) := by rw [List.take_add_one, hx]; rfl
      rw [htk] at hR
      have HTk := Lib.hid htk
      have HNx := Lib.hid hnx
      have i0 : (0 : Int) ≤ (k : Int) := by omega
      have i1 : (k : Int) < (xs.length : Int) := by omega
      have HR3 := Lib.hid hR
      unfold Bs.val at hy hb3
      clear hx hok hlie htk hnx hR hcx
      gi_wp2
      refine HR3.out.mono ?_
      rintro e W3 ⟨rfl, hJ3, hk3⟩
      gi_wp2
      go_roundw
      case rel => exact ⟨k + 1, _, by omega, by go_num, hJ3, HNx.out.trans hk3⟩
      case measure => simp [intOf]; omega
    · obtain rfl : k = xs.length := by omega
      rw [List.take_length] at hJs
      gi_wp2
      go_end0
      exact ⟨⟨_, rfl⟩, _, B, rfl, hJs⟩


set_option maxHeartbeats 1000000 in
theorem values_c (a : Option Addr) (n c : Nat) (w : World) :
    Calls Try.prog 29 #[.slice a n c] w fun e w' => e = .returned (.func (.func 34) #[] #[.pointer (some ⟨w.heap.size, 0, none⟩)]) ∧ w' = w.alloc (.cells #[.slice a n c] 22) := by
  go_enter Try.func29, Try.ntmps29
  go_wp2_with fail
  go_ret
  exact ⟨rfl, rfl⟩

set_option maxHeartbeats 2000000 in
/-- All rows held against each other: the result in new memory. -/
theorem all_c (ad : Option Addr) (c : Nat) (xs : List Bs) (w : World) (hr : RdRows w ad xs) (hlen : xs.length ≤ 1000) :
    Calls Try.prog 14 #[.slice ad xs.length c] w fun e w' => ∃ v, e = .returned v ∧ Sep [] w w' [sumR v (xoAll (xs.map Bs.zs))] := by
  have hb : Below w.heap.size w (w.alloc (.cells #[.slice ad xs.length c] 22)) := (Below.refl _ w).alloc (Nat.le_refl _) _
  have hbk := Blk.made w 22 #[.slice ad xs.length c]
  have HF := Lib.hid (fold_c 34 #[.pointer (some ⟨w.heap.size, 0, none⟩)] (fun ys => ys = xs) xs.length hlen _ (values_seq 4 w.heap.size (by omega) ad c xs _ (hbk.cell 0 rfl) hbk.lt (hr.below hb) hlen) (enters_of Try.func34 (by kernel_rfl) rfl))
  clear hb hbk hr
  go_enter Try.func14, Try.ntmps14
  go_wp2_with fail
  refine (values_c ad xs.length c _).mono ?_
  rintro e w1 ⟨rfl, rfl⟩
  go_wp2_with fail
  refine HF.out.mono ?_
  rintro e w2 ⟨v, ys, rfl, rfl, hS⟩
  have HS := Lib.hid hS
  clear hS
  go_wp2_with fail
  go_ret
  exact ⟨v, rfl, (((Sep.init w).skip (.cells #[.slice ad ys.length c] 22)).gains HS.out).only 0 rfl⟩

set_option maxHeartbeats 2000000 in
theorem xor_c (x y : Bs) (w : World) (hx : x.ok w) (hy : y.ok w) :
    Calls Try.prog 18 #[x.val, y.val] w fun e w' => ∃ v, e = .returned v ∧ Sep [] w w' [sumR v (xo x.zs y.zs)] := by
  have hb : Below w.heap.size w (w.alloc (.cells #[x.val, y.val] 25)) := (Below.refl _ w).alloc (Nat.le_refl _) _
  have hbk := Blk.made w 25 #[x.val, y.val]
  have hr : RdRows (w.alloc (.cells #[x.val, y.val] 25)) (some ⟨w.heap.size, 0, none⟩) [x, y] := fun i z hz => by
    match i, hz with
    | 0, hz => simp at hz; subst hz; exact ⟨⟨_, 0, rfl, hbk.lt, hbk.cell 0 rfl⟩, hx.below hb⟩
    | 1, hz => simp at hz; subst hz; exact ⟨⟨_, 0, rfl, hbk.lt, hbk.cell 1 rfl⟩, hy.below hb⟩
    | (i + 2), hz => simp at hz
  have HA := Lib.hid (all_c (some ⟨w.heap.size, 0, none⟩) 2 [x, y] _ hr (by simp))
  have hxo : xoAll ([x, y].map Bs.zs) = xo x.zs y.zs := rfl
  clear hb hbk hr hx hy
  unfold Bs.val at HA ⊢
  go_enter Try.func18, Try.ntmps18
  go_wp2_with fail
  refine HA.out.mono ?_
  rintro e w2 ⟨v, rfl, hS⟩
  have HS := Lib.hid hS
  clear hS
  go_wp2_with fail
  go_ret
  exact ⟨v, rfl, (((Sep.init w).skip _).gains HS.out).only 0 rfl⟩

end Go.Proofs.Ytmdjdhbnigppcaa
