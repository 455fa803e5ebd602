/-
  A READER IN MEMORY; wire's Fail, Left, next, number, Byte, Word, Long, Wide, Take, Rest.
-/
import Derived.Test.YtnloabpdjedanaaDoorWiP
import Derived.Test.YtnloabpdjedanaaDoorCln
import Derived.Laws.BitsLemmas
import Derived.WalkLawsBesides
set_option linter.unusedVariables false
set_option linter.unusedSimpArgs false
namespace Go.Proofs.YtnloabpdjedanaaDoor
open Go.RowKit

/-- A reader at g over the bytes zs, of which some were read. -/
structure Rdr (w : World) (g : Nat) (a : Option Addr) (c : Nat) (zs : List Int) (at_ : Nat) : Prop where
  blk : Blk w g 106 #[.slice a zs.length c, .int .i64 (at_ : Int)]
  rd : RdI .u8 w a zs
  far : 0 < zs.length → ∀ p, a = some p → p.block ≠ g
  byt : Byt zs
  cap : zs.length ≤ c
  big : c ≤ 9223372036854775807
  nil : a = none → c = 0
  le : at_ ≤ zs.length
  sm : zs.length ≤ 1000000
theorem Rdr.frm {w w' : World} {g : Nat} {a : Option Addr} {c : Nat} {zs : List Int} {at_ : Nat} (h : Rdr w g a c zs at_) (hf : Frm [] w w') : Rdr w' g a c zs at_ :=
  ⟨hf.blk h.blk (by simp), h.rd.below hf.below, h.far, h.byt, h.cap, h.big, h.nil, h.le, h.sm⟩
theorem Rdr.to {w w' : World} {g : Nat} {a : Option Addr} {c : Nat} {zs : List Int} {at_ m : Nat} (h : Rdr w g a c zs at_) (hf : Frm [g] w w') (hb : Blk w' g 106 #[.slice a zs.length c, .int .i64 (m : Int)]) (hm : m ≤ zs.length) : Rdr w' g a c zs m :=
  ⟨hb, by
    rcases Nat.eq_zero_or_pos zs.length with h0 | h0
    · intro i x hx; rw [List.eq_nil_of_length_eq_zero h0] at hx; simp at hx
    · exact h.rd.frm hf (fun p hp hk => h.far h0 p hp (by simpa using hk)), h.far, h.byt, h.cap, h.big, h.nil, hm, h.sm⟩
theorem Rdr.set {w : World} {g : Nat} {a : Option Addr} {c : Nat} {zs : List Int} {at_ m : Nat} (h : Rdr w g a c zs at_) (hm : m ≤ zs.length) : Rdr (w.setCell ⟨g, 1, none⟩ (.int .i64 (m : Int))) g a c zs m :=
  h.to ((Frm.refl _ _).put (.inl (by simp)) _ _ _) (h.blk.put 1 _) hm
theorem RdI.cut {k : IntKind} {w : World} {p : Addr} {c at_ m : Nat} {zs : List Int} (h : RdI k w (some p) zs) (hle : at_ + m ≤ zs.length) (hc : zs.length ≤ c) : RdI k w (if c = at_ then some p else some (p.add at_)) (cut zs at_ m) := fun i x hx => by
  have him : i < m := by
    have := (List.getElem?_eq_some_iff.1 hx).1
    rw [cut_len hle] at this
    exact this
  have hz : zs[at_ + i]? = some x := by
    rw [Go.Proofs.YtnloabpdjedanaaDoor.cut, List.getElem?_take, if_pos him, List.getElem?_drop] at hx
    exact hx
  obtain ⟨b, off, hp, hb, hcell⟩ := h (at_ + i) x hz
  injection hp with hp
  subst hp
  rw [if_neg (by omega)]
  exact ⟨b, off + at_, by rw [add_addr], hb, by rw [Nat.add_assoc]; exact hcell⟩
theorem wrapU64 {n : Int} (h0 : 0 ≤ n) (h1 : n < 18446744073709551616) : IntKind.u64.wrap n = n := by
  simp [IntKind.wrap, IntKind.bits, IntKind.signed]
  omega
theorem orJoin {v x : Int} (h0 : 0 ≤ v) (h1 : v < 72057594037927936) (x0 : 0 ≤ x) (x1 : x ≤ 255) : bits .or .u64 (v * 256) x = v * 256 + x :=
  bits_join .u64 64 (by decide) (fun n a b => wrapU64 a (by simpa using b)) 8 (v * 256) x (by omega) (by omega) (by simp; omega) x0 (by simp; omega) (by simp; omega)
theorem bigN_small {zs : List Int} (h : Byt zs) {k : Nat} (hl : zs.length ≤ k) (hk : k ≤ 7) : 0 ≤ bigN zs ∧ bigN zs < 72057594037927936 := by
  have h1 := bigN_lt h
  refine ⟨h1.1, Int.lt_of_lt_of_le h1.2 ?_⟩
  have h2 : (256 : Nat) ^ zs.length ≤ 256 ^ 7 := Nat.pow_le_pow_right (by omega) (by omega)
  have h3 : ((256 ^ zs.length : Nat) : Int) ≤ ((256 ^ 7 : Nat) : Int) := Int.ofNat_le.2 h2
  simpa using h3
theorem rdI_lies {k : IntKind} {w : World} {a : Option Addr} {zs : List Int} (h : RdI k w a zs) (hn : 0 < zs.length) : ∀ p, a = some p → p.block < w.heap.size := fun p hp => by
  obtain ⟨b, off, ha, hb, _⟩ := h 0 zs[0] (List.getElem?_eq_getElem hn)
  rw [hp] at ha
  injection ha with ha
  subst ha
  exact hb
/-- A new reader. -/
theorem Rdr.new {w : World} {a : Option Addr} {c : Nat} {zs : List Int} (hr : RdI .u8 w a zs) (hb : Byt zs) (hc : zs.length ≤ c) (hcm : c ≤ 9223372036854775807) (hn : a = none → c = 0) (hs : zs.length ≤ 1000000) :
    Rdr (w.alloc (.cells #[.slice a zs.length c, .int .i64 ((0 : Nat) : Int)] 106)) w.heap.size a c zs 0 :=
  ⟨Blk.made w _ _, hr.alloc _, fun h0 p hp => Nat.ne_of_lt (rdI_lies hr h0 p hp), hb, hc, hcm, hn, Nat.zero_le _, hs⟩
/-- What ends a reading. -/
def faultV (e : Int) : List PanicEntry := [{ v := .iface 110 (.agg #[.int .i64 e]), recovered := false }]

set_option maxHeartbeats 1000000 in
theorem fail_c (g : Option Addr) (e : Int) (w : World) :
    Calls Tryd.prog 53 #[.pointer g, .int .i64 e] w fun x w' => x = .panicked (faultV (if e = 0 then 21 else e)) ∧ w' = w := by
  by_cases h : e = 0
  · subst h
    go_enter Tryd.func53, Tryd.ntmps53
    go_wp2_with fail
    exact ⟨rfl, by simp [*, faultV], rfl⟩
  · have e1 : (e == 0) = false := by rw [beq_eq_false_iff_ne]; exact h
    go_enter Tryd.func53, Tryd.ntmps53
    go_wp2_with fail
    exact ⟨rfl, by simp [*, faultV], rfl⟩
set_option maxHeartbeats 1000000 in
theorem left_c {w : World} {g : Nat} {a : Option Addr} {c : Nat} {zs : List Int} {at_ : Nat} (h : Rdr w g a c zs at_) :
    Calls Tryd.prog 72 #[.pointer (some ⟨g, 0, none⟩)] w fun x w' => x = .returned (.int .i64 ((zs.length - at_ : Nat) : Int)) ∧ ∃ m, w' = w.drewN m := by
  have c0 := h.blk.cell 0 rfl
  have c1 := h.blk.cell 1 rfl
  have hle := h.le
  have hsm := h.sm
  have e1 : ((zs.length - at_ : Nat) : Int) = (zs.length : Int) - (at_ : Int) := by omega
  rw [e1]
  clear h e1
  go_enter Tryd.func72, Tryd.ntmps72
  go_wp2_with fail
  go_quiet (fail)
  go_wp2_with fail
  go_ret
  exact ⟨rfl, _, rfl⟩

set_option maxHeartbeats 2000000 in
theorem next_short {w : World} {g : Nat} {a : Option Addr} {c : Nat} {zs : List Int} {at_ : Nat} (h : Rdr w g a c zs at_) (n : Int) (hs : zs.length < at_ + n.toNat) :
    Calls Tryd.prog 69 #[.pointer (some ⟨g, 0, none⟩), .int .i64 n] w fun x w' => x = .panicked (faultV 20) ∧ ∃ m, w' = w.drewN m := by
  have hle := h.le
  have HL := Lib.hid (left_c h)
  have HF := Lib.hid (fun W => fail_c (some ⟨g, 0, none⟩) 20 W)
  have e1 : (if (0 : Int) > n then 0 else n) = n := by rw [if_neg (by omega)]
  have e2 : (if n < 0 then 0 else n) = n := by rw [if_neg (by omega)]
  have e3 : decide (((zs.length - at_ : Nat) : Int) < n) = true := by rw [decide_eq_true_iff]; omega
  clear h
  go_enter Tryd.func69, Tryd.ntmps69
  go_wp2_with fail
  refine HL.out.mono ?_
  rintro x w1 ⟨rfl, m1, rfl⟩
  go_wp2_with fail
  refine (HF.out _).mono ?_
  rintro x w1 ⟨rfl, rfl⟩
  exact ⟨rfl, by simp, _, rfl⟩
set_option maxHeartbeats 4000000 in
theorem next_ok {w : World} {g : Nat} {a : Option Addr} {c : Nat} {zs : List Int} {at_ : Nat} (h : Rdr w g a c zs at_) (n : Int) (m : Nat) (hm : n.toNat = m) (hs : at_ + m ≤ zs.length) :
    Calls Tryd.prog 69 #[.pointer (some ⟨g, 0, none⟩), .int .i64 n] w fun x w' => ∃ a' c', x = .returned (.slice a' m c') ∧ RdI .u8 w' a' (cut zs at_ m) ∧ (a' = none → c' = 0) ∧ Rdr w' g a c zs (at_ + m) ∧ Frm [g] w w' := by
  have hle := h.le
  have hsm := h.sm
  have hcap := h.cap
  have hbig := h.big
  have HR := Lib.hid h
  have HL := Lib.hid (left_c h)
  have c0 := h.blk.cell 0 rfl
  have c1 := h.blk.cell 1 rfl
  have f1 := h.blk.free 1
  have e1 : (if (0 : Int) > n then 0 else n) = (m : Int) := by split <;> omega
  have e2 : (if n < 0 then 0 else n) = (m : Int) := by split <;> omega
  have e3 : decide (((zs.length - at_ : Nat) : Int) < (m : Int)) = false := by rw [decide_eq_false_iff_not]; omega
  have i1 : (0 : Int) ≤ (at_ : Int) := by omega
  have i2 : (at_ : Int) ≤ (at_ : Int) + (m : Int) := by omega
  have i3 : (at_ : Int) + (m : Int) ≤ (c : Int) := by omega
  have i4 : IntKind.i64.wrap ((at_ : Int) + (m : Int)) = (at_ : Int) + (m : Int) := IntWalk.i64_in _ (by omega)
  have i5 : ((at_ : Int) + (m : Int)).toNat = at_ + m := by omega
  clear h
  go_enter Tryd.func69, Tryd.ntmps69
  go_wp2_with fail
  refine HL.out.mono ?_
  rintro x w1 ⟨rfl, m1, rfl⟩
  go_wp2_with fail
  cases a with
  | none =>
    go_quiet (fail)
    go_wp2_with fail
    go_ret
    have h0 : zs = [] := by
      cases zs with
      | nil => rfl
      | cons z zs => obtain ⟨b, off, h, _⟩ := HR.out.rd 0 z rfl; cases h
    refine ⟨none, c - at_, rfl, ?_, fun _ => by have := HR.out.nil rfl; omega, (HR.out.frm ((Frm.refl _ _).drewN _)).set hs, ((Frm.refl _ _).drewN _).put (.inl (by simp)) _ _ _⟩
    subst h0
    exact fun i x hx => by simp [cut] at hx
  | some p =>
    go_quiet (fail)
    obtain ⟨q, hq⟩ : ∃ q, (if c = at_ then some p else some (p.add at_)) = q := ⟨_, rfl⟩
    rw [hq]
    have HQ := Lib.hid hq
    clear hq
    go_wp2_with fail
    go_ret
    refine ⟨q, c - at_, rfl, ?_, ?_, ?_, ?_⟩
    · rw [← HQ.out]
      exact ((HR.out.frm ((Frm.refl _ _).drewN _)).set hs).rd.cut hs HR.out.cap
    · intro h0
      have hq := HQ.out
      rw [h0] at hq
      split at hq <;> cases hq
    · exact (HR.out.frm ((Frm.refl _ _).drewN _)).set hs
    · exact ((Frm.refl _ _).drewN _).put (.inl (by simp)) _ _ _

set_option maxHeartbeats 2000000 in
theorem number_short {w : World} {g : Nat} {a : Option Addr} {c : Nat} {zs : List Int} {at_ : Nat} (h : Rdr w g a c zs at_) (n : Int) (hs : zs.length < at_ + n.toNat) :
    Calls Tryd.prog 68 #[.pointer (some ⟨g, 0, none⟩), .int .i64 n] w fun x w' => x = .panicked (faultV 20) ∧ Frm [] w w' := by
  have HN := Lib.hid (next_short h n hs)
  clear h
  go_enter Tryd.func68, Tryd.ntmps68
  go_wp2_with fail
  refine HN.out.mono ?_
  rintro x w1 ⟨rfl, m, rfl⟩
  exact ⟨rfl, by simp, (Frm.refl _ _).drewN _⟩
set_option maxHeartbeats 4000000 in
theorem number_ok {w : World} {g : Nat} {a : Option Addr} {c : Nat} {zs : List Int} {at_ : Nat} (h : Rdr w g a c zs at_) (n : Int) (k : Nat) (hn : n = k) (hk : k ≤ 8) (hs : at_ + k ≤ zs.length) :
    Calls Tryd.prog 68 #[.pointer (some ⟨g, 0, none⟩), .int .i64 n] w fun x w' => x = .returned (.int .u64 (bigN (cut zs at_ k))) ∧ Rdr w' g a c zs (at_ + k) ∧ Frm [g] w w' := by
  subst hn
  have HN := Lib.hid (next_ok h (k : Int) k (by omega) hs)
  have HB := Lib.hid (h.byt.cut at_ k)
  have hcl := cut_len hs
  have hsm := h.sm
  clear h
  go_enter Tryd.func68, Tryd.ntmps68
  go_wp2_with fail
  refine HN.out.mono ?_
  rintro x w1 ⟨a', c', rfl, hr, _, hR, hF⟩
  obtain ⟨ys, hys⟩ : ∃ ys, ys = cut zs at_ k := ⟨_, rfl⟩
  rw [← hys] at hr HB hcl
  have HY := Lib.hid hys
  have HR := Lib.hid hr
  have HP := Lib.hid (And.intro hR hF)
  have HCl := Lib.hid hcl
  clear hr hR hF hys HN hcl
  go_wp2_with fail
  go_loop [5, 12] (fun v i => ∃ j : Nat, j ≤ k ∧ i = .int .i64 j ∧ v = .int .u64 (bigN (ys.take j))) (fun _ i => k - (intOf i).toNat)
  case atStart => exact ⟨0, Nat.zero_le _, rfl, rfl⟩
  case round =>
    obtain ⟨j, hj, rfl, rfl⟩ := hrel
    by_cases hlt : j < k
    · obtain ⟨b, off, x, hx, rfl, hb, hc⟩ := HR.out.at_ j (by rw [HCl.out]; exact hlt)
      have hb1 := HB.out x (List.mem_of_getElem? hx)
      have hsn : bigN (ys.take (j + 1)) = bigN (ys.take j) * 256 + x := by rw [List.take_add_one, hx]; exact bigN_snoc _ _
      obtain ⟨v0, v1⟩ := bigN_small (HB.out.take j) (k := 7) (by rw [List.length_take]; have := HCl.out; omega) (Nat.le_refl _)
      obtain ⟨v, hv⟩ : ∃ v, v = bigN (ys.take j) := ⟨_, rfl⟩
      rw [← hv] at hsn v0 v1 ⊢
      have e1 : IntKind.u64.wrap (v * 256) = v * 256 := wrapU64 (by omega) (by omega)
      have e2 := orJoin v0 v1 hb1.1 hb1.2
      have e3 : IntKind.u64.wrap x = x := wrapU64 (by omega) (by omega)
      have i1 : (0 : Int) ≤ (j : Int) := by omega
      have i2 : (j : Int) < (k : Int) := by omega
      have HS := Lib.hid hsn
      clear hx hsn hv v0 v1 hb1
      go_wp2_with fail
      exact ⟨⟨j + 1, by omega, by go_num, by rw [HS.out]⟩, by simp [intOf]; omega⟩
    · obtain rfl : j = k := by omega
      go_wp2_with fail
      go_ret
      refine ⟨?_, HP.out⟩
      rw [← HY.out, show ys.take j = ys from by rw [← HCl.out, List.take_length]]
      rfl

set_option maxHeartbeats 1000000 in
theorem byte_short {w : World} {g : Nat} {a : Option Addr} {c : Nat} {zs : List Int} {at_ : Nat} (h : Rdr w g a c zs at_) (hs : zs.length < at_ + 1) :
    Calls Tryd.prog 52 #[.pointer (some ⟨g, 0, none⟩)] w fun x w' => x = .panicked (faultV 20) ∧ Frm [] w w' := by
  have HN := Lib.hid (number_short h 1 (by simpa using hs))
  clear h
  go_enter Tryd.func52, Tryd.ntmps52
  go_wp2_with fail
  refine HN.out.mono ?_
  rintro x w1 ⟨rfl, hF⟩
  exact ⟨rfl, by simp, hF⟩
set_option maxHeartbeats 1000000 in
theorem byte_ok {w : World} {g : Nat} {a : Option Addr} {c : Nat} {zs : List Int} {at_ : Nat} (h : Rdr w g a c zs at_) (hs : at_ + 1 ≤ zs.length) :
    Calls Tryd.prog 52 #[.pointer (some ⟨g, 0, none⟩)] w fun x w' => x = .returned (.int .i64 (bigN (cut zs at_ 1))) ∧ Rdr w' g a c zs (at_ + 1) ∧ Frm [g] w w' := by
  have HN := Lib.hid (number_ok h 1 1 rfl (by omega) hs)
  have hb := bigN_lt (h.byt.cut at_ 1)
  rw [cut_len hs] at hb
  obtain ⟨v, hv⟩ : ∃ v, v = bigN (cut zs at_ 1) := ⟨_, rfl⟩
  rw [← hv] at hb HN ⊢
  have e1 : IntKind.i64.wrap v = v := IntWalk.i64_in _ (by simp at hb; omega)
  clear h hv hb
  go_enter Tryd.func52, Tryd.ntmps52
  go_wp2_with fail
  refine HN.out.mono ?_
  rintro x w1 ⟨rfl, hR⟩
  have HR := Lib.hid hR
  clear hR
  go_wp2_with fail
  go_ret
  exact ⟨rfl, HR.out⟩
set_option maxHeartbeats 1000000 in
theorem word_short {w : World} {g : Nat} {a : Option Addr} {c : Nat} {zs : List Int} {at_ : Nat} (h : Rdr w g a c zs at_) (hs : zs.length < at_ + 2) :
    Calls Tryd.prog 55 #[.pointer (some ⟨g, 0, none⟩)] w fun x w' => x = .panicked (faultV 20) ∧ Frm [] w w' := by
  have HN := Lib.hid (number_short h 2 (by simpa using hs))
  clear h
  go_enter Tryd.func55, Tryd.ntmps55
  go_wp2_with fail
  refine HN.out.mono ?_
  rintro x w1 ⟨rfl, hF⟩
  exact ⟨rfl, by simp, hF⟩
set_option maxHeartbeats 1000000 in
theorem word_ok {w : World} {g : Nat} {a : Option Addr} {c : Nat} {zs : List Int} {at_ : Nat} (h : Rdr w g a c zs at_) (hs : at_ + 2 ≤ zs.length) :
    Calls Tryd.prog 55 #[.pointer (some ⟨g, 0, none⟩)] w fun x w' => x = .returned (.int .u16 (bigN (cut zs at_ 2))) ∧ Rdr w' g a c zs (at_ + 2) ∧ Frm [g] w w' := by
  have HN := Lib.hid (number_ok h 2 2 rfl (by omega) hs)
  have hb := bigN_lt (h.byt.cut at_ 2)
  rw [cut_len hs] at hb
  obtain ⟨v, hv⟩ : ∃ v, v = bigN (cut zs at_ 2) := ⟨_, rfl⟩
  rw [← hv] at hb HN ⊢
  have e1 : IntKind.u16.wrap v = v := IntWalk.u16_in _ (by simp at hb; omega)
  clear h hv hb
  go_enter Tryd.func55, Tryd.ntmps55
  go_wp2_with fail
  refine HN.out.mono ?_
  rintro x w1 ⟨rfl, hR⟩
  have HR := Lib.hid hR
  clear hR
  go_wp2_with fail
  go_ret
  exact ⟨rfl, HR.out⟩
set_option maxHeartbeats 1000000 in
theorem take_short {w : World} {g : Nat} {a : Option Addr} {c : Nat} {zs : List Int} {at_ : Nat} (h : Rdr w g a c zs at_) (n : Int) (hs : zs.length < at_ + n.toNat) :
    Calls Tryd.prog 54 #[.pointer (some ⟨g, 0, none⟩), .int .i64 n] w fun x w' => x = .panicked (faultV 20) ∧ Frm [] w w' := by
  have HN := Lib.hid (next_short h n hs)
  clear h
  go_enter Tryd.func54, Tryd.ntmps54
  go_wp2_with fail
  refine HN.out.mono ?_
  rintro x w1 ⟨rfl, m, rfl⟩
  exact ⟨rfl, by simp, (Frm.refl _ _).drewN _⟩
set_option maxHeartbeats 1000000 in
/-- Take: a copy of the bytes, in new memory. -/
theorem take_ok {w : World} {g : Nat} {a : Option Addr} {c : Nat} {zs : List Int} {at_ : Nat} (h : Rdr w g a c zs at_) (n : Int) (m : Nat) (hm : n.toNat = m) (hs : at_ + m ≤ zs.length) :
    Calls Tryd.prog 54 #[.pointer (some ⟨g, 0, none⟩), .int .i64 n] w fun x w' => ∃ v, x = .returned v ∧ Rdr w' g a c zs (at_ + m) ∧ Sep [g] w w' [blkR g 106 #[.slice a zs.length c, .int .i64 ((at_ + m : Nat) : Int)], sumR v (cut zs at_ m)] := by
  have HN := Lib.hid (next_ok h n m hm hs)
  have hcl := cut_len hs
  have hsm := h.sm
  have HC := Lib.hid (fun (a' : Option Addr) (c' : Nat) (w1 : World) (hr : RdI .u8 w1 a' (cut zs at_ m)) (hc : a' = none → c' = 0) => clone_c a' c' (cut zs at_ m) w1 hr hc (by omega))
  rw [hcl] at HC
  have HS := Lib.hid (Sep.enter (r := blkR g 106 #[.slice a zs.length c, .int .i64 (at_ : Int)]) h.blk)
  clear h hcl hsm hm
  go_enter Tryd.func54, Tryd.ntmps54
  go_wp2_with fail
  refine HN.out.mono ?_
  rintro x w1 ⟨a', c', rfl, hr, hc, hR, hF⟩
  have HS1 := Lib.hid (HS.out.call 0 rfl hF hR.blk)
  have HR := Lib.hid hR
  have HC1 := Lib.hid (HC.out a' c' w1 hr hc)
  clear hr hc hR hF HN HS HC
  go_wp2_with fail
  refine HC1.out.mono ?_
  rintro x w2 ⟨v, rfl, hS⟩
  have HS2 := Lib.hid (HS1.out.gains hS).swap2
  have HR2 := Lib.hid (HR.out.frm hS.frm)
  clear hS HS1 HR HC1
  go_wp2_with fail
  go_ret
  exact ⟨v, rfl, HR2.out, HS2.out⟩
set_option maxHeartbeats 1000000 in
theorem rest_ok {w : World} {g : Nat} {a : Option Addr} {c : Nat} {zs : List Int} {at_ : Nat} (h : Rdr w g a c zs at_) :
    Calls Tryd.prog 58 #[.pointer (some ⟨g, 0, none⟩)] w fun x w' => ∃ v, x = .returned v ∧ Rdr w' g a c zs zs.length ∧ Sep [g] w w' [blkR g 106 #[.slice a zs.length c, .int .i64 (zs.length : Int)], sumR v (zs.drop at_)] := by
  have hle := h.le
  have HL := Lib.hid (left_c h)
  have HT := Lib.hid (fun m => take_ok (h.frm ((Frm.refl _ _).drewN m)) ((zs.length - at_ : Nat) : Int) (zs.length - at_) (by omega) (by omega))
  have e1 : at_ + (zs.length - at_) = zs.length := by omega
  have e2 : cut zs at_ (zs.length - at_) = zs.drop at_ := by rw [Go.Proofs.YtnloabpdjedanaaDoor.cut]; exact List.take_of_length_le (by rw [List.length_drop]; omega)
  rw [e1, e2] at HT
  clear h e1 e2
  go_enter Tryd.func58, Tryd.ntmps58
  go_wp2_with fail
  refine HL.out.mono ?_
  rintro x w1 ⟨rfl, m, rfl⟩
  go_wp2_with fail
  refine (HT.out m).mono ?_
  rintro x w2 ⟨v, rfl, hR, hS⟩
  have HR := Lib.hid hR
  have HS := Lib.hid (show Sep [g] w w2 _ from ⟨((Frm.refl _ _).drewN m).trans hS.frm, hS.holds, hS.apart, hS.mine⟩)
  clear hR hS HT
  go_wp2_with fail
  go_ret
  exact ⟨v, rfl, HR.out, HS.out⟩

end Go.Proofs.YtnloabpdjedanaaDoor
