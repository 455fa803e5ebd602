/-
  MANY SMALL TEXTS AS ONE: Cln, Rdr, Spm, Prm, Wtr, Or, Each, Gua, Pic, Mix, Sgs, Sga, Pm.
-/
import Derived.Test.YtjflcijiaennkaaDoorBa
import Derived.Laws.BitsLemmas
import Derived.WalkLawsBesides
import Derived.Test.YtjflcijiaennkaaDoorMany
import Derived.Deep.RegionLaw
import Derived.Deep.DeepCutAuto
import Derived.Deep.DeepMust
import Derived.Deep.Matrix
import Derived.Defers
import Derived.Recover
import Derived.OrdersHeld
import Derived.Deep.RegionHeld3
set_option linter.unusedVariables false
set_option linter.unusedSimpArgs false
namespace Go.Proofs.YtjflcijiaennkaaDoor
/- BYTES: a row of bytes of the call's own; slices.Clone; the references' Same and Copy. -/
section
open Go.RowKit

theorem info_u8 : (Tryd.prog.info? 5).map (fun i => (i.zero, i.size, i.bytes)) = some (some (.int .u8 0), 1, 1) := by kernel_rfl
/-- The row of a sum, and the sum. -/
def sumR (v : Value) (xs : List Int) : Res := ownR 5 1 v xs.length (xs.map (Value.int .u8))
/-- 'append(s, xs...)' of integers, the lengths and the row as the prover spells them. -/
theorem wpList_append_said {P : Program} {S : List Nat} {w0 w : World} {L : List Res} {ops : Array Oper} {rest : List Oper} {o : Oper} {a : Act} {Q : Exit → Act → World → Prop} (hgd : o.guard = none) (s x : Operand) (t : TypeId)
    (ho : o.op = .call { callee := .builtin .append, args := #[s, x], argTypes := #[t, t] }) (i : Nat)
    (e : TypeId) (inf : TypeInfo) (z : Value) (bytes : Nat) (ht : P.underlying t = some (.slice e)) (hi : P.info? e = some inf) (hz : inf.zero = some z)
    (hsize : inf.size = 1) (hby : inf.bytes = bytes) (hzs : z.cells.size = 1) (k : IntKind)
    (v : Value) (n : Nat) (xs : List Value) (hs : a.eval s = v) (hS : Sep S w0 w L) (hL : L[i]? = some (ownR e 1 v n xs))
    (ad : Option Addr) (c m : Nat) (zs : List Int) (hm : zs.length = m) (hx : a.eval x = .slice ad m c) (hc : ad = none → c = 0) (hrd : RdI k w ad zs)
    (N : Nat) (hN : n + m = N) (ys : List Value) (hy : xs ++ zs.map (Value.int k) = ys)
    (h63 : N ≤ maxLen) (hbytes : N * bytes ≤ 140737488355328)
    (h : ∀ v' w', Sep S w0 w' (L.set i (ownR e 1 v' N ys)) → wpList P ops Q rest (a.put o.dst v') w') : wpList P ops Q (o :: rest) a w := by
  subst hm hN hy
  exact wpList_append_ints hgd s x t ho i e inf z bytes ht hi hz hsize hby hzs k v n xs hs hS hL ad c zs hx hc hrd h63 hbytes h

set_option maxRecDepth 100000 in
set_option maxHeartbeats 4000000 in
/-- A copy of a row, in new memory. -/
theorem clone_c (a : Option Addr) (cap : Nat) (zs : List Int) (w : World) (rd : RdI .u8 w a zs) (hc : a = none → cap = 0) (hz : zs.length ≤ 1000000) :
    Calls Tryd.prog 41 #[.slice a zs.length cap] w fun e w' => ∃ v, e = .returned v ∧ Sep [] w w' [sumR v zs] := by
  obtain ⟨i0, hi, hz0, hz1, hz2⟩ := info_parts info_u8
  unfold sumR
  cases a with
  | none =>
    have : zs = [] := by
      cases zs with
      | nil => rfl
      | cons z zs => obtain ⟨b, off, h, _⟩ := rd 0 z rfl; cases h
    subst this
    obtain rfl := hc rfl
    clear rd
    have he : ∀ w : World, (binOp .eql 22 (.slice none 0 0) (.slice none 0 0)).run Tryd.prog w = .ok (.bool true) w := fun _ => rfl
    go_enter Tryd.func41, Tryd.ntmps41
    go_wp2_with fail
    go_ret
    exact ⟨_, rfl, (Sep.init w).nil _ 1⟩
  | some p =>
    have HR := Lib.hid rd
    clear rd hc
    have he : ∀ (w : World) n c, (binOp .eql 22 (.slice (some p) n c) (.slice none 0 0)).run Tryd.prog w = .ok (.bool false) w := fun _ _ _ => rfl
    have HS := Lib.hid ((Sep.init w).made 5 1 0 #[] (by unfold maxLen; omega) rfl)
    go_enter Tryd.func41, Tryd.ntmps41
    go_wp2_with (at_builtin; refine wpList_append_said rfl _ _ 22 rfl 0 5 i0 (.int .u8 0) 1 Tryd.underlying22 hi hz0 hz1 hz2 rfl .u8 _ _ _ rfl HS.out rfl (some p) cap zs.length zs rfl rfl (fun h => by cases h) (HR.out.alloc _) zs.length (Nat.zero_add _) (zs.map (Value.int .u8)) rfl (by unfold maxLen; omega) (by omega) ?_; intro v3 w3 hS3; have HS3 := Lib.hid hS3; clear hS3)
    go_ret
    exact ⟨_, rfl, HS3.out⟩
set_option maxRecDepth 100000 in
set_option maxHeartbeats 4000000 in
theorem bsame_c (a b : Option Addr) (ca cb : Nat) (xs ys : List Int) (w : World) (rx : RdI .u8 w a xs) (ry : RdI .u8 w b ys) (hx : xs.length ≤ 1000000) (hy : ys.length ≤ 1000000) :
    Calls Tryd.prog 14 #[.slice a xs.length ca, .slice b ys.length cb] w fun e w' => e = .returned (.bool (decide (xs = ys))) ∧ ∃ m, w' = w.drewN m := by
  have HX := Lib.hid rx
  have HY := Lib.hid ry
  clear rx ry
  obtain ⟨T, hT⟩ : ∃ T, T = decide (xs = ys) := ⟨_, rfl⟩
  rw [← hT]
  have HT := Lib.hid hT
  clear hT
  by_cases hl : xs.length = ys.length
  · have g1 : ((xs.length : Int) != (ys.length : Int)) = false := by simp; omega
    have g2 : ys.length ≤ xs.length ∧ xs.length ≤ ys.length := ⟨by omega, by omega⟩
    have HL := Lib.hid hl
    obtain ⟨g3, g4⟩ := g2
    clear hl
    go_enter Tryd.func14, Tryd.ntmps14
    go_wp2_with fail
    go_loopw [5] (fun i wr => ∃ (k m : Nat), k ≤ xs.length ∧ i = .int .i64 k ∧ wr = w.drewN m ∧ xs.take k = ys.take k) (fun i _ => xs.length - (intOf i).toNat)
    case atStart => exact ⟨0, 0, Nat.zero_le _, rfl, rfl, rfl⟩
    case round =>
      obtain ⟨k, m, hk, rfl, hwr, htk⟩ := hrel
      by_cases hlt : k < xs.length
      · obtain ⟨b1, o1, x, hx1, rfl, _, cx⟩ := HX.out.at_ k hlt
        obtain ⟨b2, o2, y, hy1, rfl, _, cy⟩ := HY.out.at_ k (by omega)
        have cx2 : wr.cell? ⟨b1, o1 + k, none⟩ = some (.int .u8 x) := by rw [hwr]; exact cx
        have cy2 : wr.cell? ⟨b2, o2 + k, none⟩ = some (.int .u8 y) := by rw [hwr]; exact cy
        have i1 : (0 : Int) ≤ (k : Int) := by omega
        have i2 : (k : Int) < (xs.length : Int) := by omega
        have i3 : (k : Int) < (ys.length : Int) := by omega
        have HW := Lib.hid hwr
        have HTk := Lib.hid htk
        have HXY := Lib.hid (And.intro hx1 hy1)
        obtain ⟨wi, hwi⟩ : ∃ wi : World, wi = wr := ⟨_, rfl⟩
        rw [← hwi] at HW cx2 cy2 ⊢
        clear hwi hwr htk hx1 hy1 cx cy
        by_cases hxy : x = y
        · have g5 : (x != y) = false := by simp [hxy]
          have hnext : xs.take (k + 1) = ys.take (k + 1) := by rw [List.take_add_one, List.take_add_one, HXY.out.1, HXY.out.2, HTk.out, hxy]
          have HNx := Lib.hid hnext
          clear hnext hxy
          go_wp2_with fail
          go_quiet (fail)
          go_wp2_with fail
          go_roundw
          case rel => exact ⟨k + 1, m + nq, by omega, by go_num, by rw [HW.out]; simp, HNx.out⟩
          case measure => simp [intOf]; omega
        · have g5 : (x != y) = true := by simp [hxy]
          have hno : T = false := by
            rw [HT.out, decide_eq_false_iff_not]
            intro h
            have h2 := HXY.out
            rw [h, h2.2] at h2
            exact hxy (by injection h2.1 with e; exact e.symm)
          have HNo := Lib.hid hno
          clear hno hxy
          go_wp2_with fail
          go_quiet (fail)
          go_wp2_with fail
          go_ret
          exact ⟨by rw [HNo.out]; rfl, m + nq, by rw [HW.out]; simp⟩
      · obtain rfl : k = xs.length := by omega
        have hyes : T = true := by
          rw [HT.out, decide_eq_true_eq]
          have h2 := htk
          rw [List.take_length, HL.out, List.take_length] at h2
          exact h2
        have HW := Lib.hid hwr
        have HYs := Lib.hid hyes
        clear hwr htk hyes
        go_wp2_with fail
        go_ret
        exact ⟨by rw [HYs.out]; rfl, m, HW.out⟩
  · have g1 : ((xs.length : Int) != (ys.length : Int)) = true := by simp; omega
    have hno : T = false := by
      rw [HT.out, decide_eq_false_iff_not]
      intro h
      exact hl (by rw [h])
    have HNo := Lib.hid hno
    clear hno hl
    go_enter Tryd.func14, Tryd.ntmps14
    go_wp2_with fail
    go_ret
    exact ⟨by rw [HNo.out]; rfl, 0, rfl⟩

set_option maxRecDepth 100000 in
set_option maxHeartbeats 4000000 in
theorem bcopy_c (a : Option Addr) (cap : Nat) (zs : List Int) (w : World) (rd : RdI .u8 w a zs) (hn : zs.length ≤ 1000000) :
    Calls Tryd.prog 9 #[.slice a zs.length cap] w fun e w' => ∃ g c, e = .returned (.slice (some ⟨g, 0, none⟩) zs.length c) ∧ Sep [] w w' [sumR (.slice (some ⟨g, 0, none⟩) zs.length c) zs] := by
  obtain ⟨i0, hi, hz0, hz1, hz2⟩ := info_parts info_u8
  have HR := Lib.hid rd
  have HS := Lib.hid ((Sep.init w).made 5 1 0 #[] (by unfold maxLen; omega) rfl)
  clear rd
  go_enter Tryd.func9, Tryd.ntmps9
  go_wp2_with fail
  go_loopw [3, 4] (fun v i wr => ∃ (k g c : Nat), k ≤ zs.length ∧ v = .slice (some ⟨g, 0, none⟩) k c ∧ i = .int .i64 k ∧ Sep [] w wr [ownR 5 1 (.slice (some ⟨g, 0, none⟩) k c) k ((zs.take k).map (Value.int .u8))]) (fun _ i _ => zs.length - (intOf i).toNat)
  case atStart => exact ⟨0, _, 0, Nat.zero_le _, rfl, rfl, HS.out⟩
  case round =>
    obtain ⟨k, g, c, hk, rfl, rfl, hS⟩ := hrel
    have HS2 := Lib.hid hS
    clear hS
    by_cases hlt : k < zs.length
    · obtain ⟨b, off, x, hx, rfl, _, cx⟩ := (HR.out.below HS2.out.frm.below).at_ k hlt
      have HSn := Lib.hid (show zs.take (k + 1) = zs.take k ++ [x] by rw [List.take_add_one, hx]; rfl)
      have i1 : (0 : Int) ≤ (k : Int) := by omega
      have i2 : (k : Int) < (zs.length : Int) := by omega
      clear hx
      go_wp2_with (at_builtin; refine wpList_append_sep rfl _ _ 22 rfl 0 5 i0 (.int .u8 0) 1 Tryd.underlying22 hi hz0 hz1 hz2 rfl _ _ _ rfl (HS2.out.skip _) rfl _ 1 (.int .u8 x) rfl (World.cell?_alloc_at _ _ _ _ rfl) rfl (by unfold maxLen; omega) (by omega) ?_; intro g4 c4 w4 hS4; have HS4 := Lib.hid hS4; clear hS4)
      go_roundw
      case rel => exact ⟨k + 1, g4, c4, by omega, rfl, by go_num, by rw [HSn.out]; simpa using HS4.out⟩
      case measure => simp [intOf]; omega
    · obtain rfl : k = zs.length := by omega
      rw [List.take_length] at HS2
      go_wp2_with fail
      go_ret
      exact ⟨_, _, rfl, HS2.out⟩
end

/- A READER IN MEMORY; wire's Fail, Left, next, number, Byte, Word, Long, Wide, Take, Rest. -/
section
open Go.RowKit

/-- A reader at g over the bytes zs, of which some were read. -/
structure Rdr (w : World) (g : Nat) (a : Option Addr) (c : Nat) (zs : List Int) (at_ : Nat) : Prop where
  blk : Blk w g 114 #[.slice a zs.length c, .int .i64 (at_ : Int)]
  rd : RdI .u8 w a zs
  far : 0 < zs.length → ∀ p, a = some p → p.block ≠ g
  byt : Byt zs
  cap : zs.length ≤ c
  big : c ≤ 9223372036854775807
  nil : a = none → c = 0
  le : at_ ≤ zs.length
  sm : zs.length ≤ 1000000
theorem Rdr.frm {w w' : World} {g : Nat} {a : Option Addr} {c : Nat} {zs : List Int} {at_ : Nat} (h : Rdr w g a c zs at_) (hf : Frm [] w w') : Rdr w' g a c zs at_ :=
  ⟨hf.blk h.blk (by simp), h.rd.below hf.below, h.far, h.byt, h.cap, h.big, h.nil, h.le, h.sm⟩
theorem Rdr.to {w w' : World} {g : Nat} {a : Option Addr} {c : Nat} {zs : List Int} {at_ m : Nat} (h : Rdr w g a c zs at_) (hf : Frm [g] w w') (hb : Blk w' g 114 #[.slice a zs.length c, .int .i64 (m : Int)]) (hm : m ≤ zs.length) : Rdr w' g a c zs m :=
  ⟨hb, by
    rcases Nat.eq_zero_or_pos zs.length with h0 | h0
    · intro i x hx; rw [List.eq_nil_of_length_eq_zero h0] at hx; simp at hx
    · exact h.rd.frm hf (fun p hp hk => h.far h0 p hp (by simpa using hk)), h.far, h.byt, h.cap, h.big, h.nil, hm, h.sm⟩
theorem Rdr.set {w : World} {g : Nat} {a : Option Addr} {c : Nat} {zs : List Int} {at_ m : Nat} (h : Rdr w g a c zs at_) (hm : m ≤ zs.length) : Rdr (w.setCell ⟨g, 1, none⟩ (.int .i64 (m : Int))) g a c zs m :=
  h.to ((Frm.refl _ _).put (.inl (by simp)) _ _ _) (h.blk.put 1 _) hm
theorem RdI.cut {k : IntKind} {w : World} {p : Addr} {c at_ m : Nat} {zs : List Int} (h : RdI k w (some p) zs) (hle : at_ + m ≤ zs.length) (hc : zs.length ≤ c) : RdI k w (if c = at_ then some p else some (p.add at_)) (cut zs at_ m) := fun i x hx => by
  have him : i < m := by
    have := (List.getElem?_eq_some_iff.1 hx).1
    rw [cut_len hle] at this
    exact this
  have hz : zs[at_ + i]? = some x := by
    rw [Go.Proofs.YtjflcijiaennkaaDoor.cut, List.getElem?_take, if_pos him, List.getElem?_drop] at hx
    exact hx
  obtain ⟨b, off, hp, hb, hcell⟩ := h (at_ + i) x hz
  injection hp with hp
  subst hp
  rw [if_neg (by omega)]
  exact ⟨b, off + at_, by rw [add_addr], hb, by rw [Nat.add_assoc]; exact hcell⟩
theorem wrapU64 {n : Int} (h0 : 0 ≤ n) (h1 : n < 18446744073709551616) : IntKind.u64.wrap n = n := by
  simp [IntKind.wrap, IntKind.bits, IntKind.signed]
  omega
theorem orJoin {v x : Int} (h0 : 0 ≤ v) (h1 : v < 72057594037927936) (x0 : 0 ≤ x) (x1 : x ≤ 255) : bits .or .u64 (v * 256) x = v * 256 + x :=
  bits_join .u64 64 (by decide) (fun n a b => wrapU64 a (by simpa using b)) 8 (v * 256) x (by omega) (by omega) (by simp; omega) x0 (by simp; omega) (by simp; omega)
theorem bigN_small {zs : List Int} (h : Byt zs) {k : Nat} (hl : zs.length ≤ k) (hk : k ≤ 7) : 0 ≤ bigN zs ∧ bigN zs < 72057594037927936 := by
  have h1 := bigN_lt h
  refine ⟨h1.1, Int.lt_of_lt_of_le h1.2 ?_⟩
  have h2 : (256 : Nat) ^ zs.length ≤ 256 ^ 7 := Nat.pow_le_pow_right (by omega) (by omega)
  have h3 : ((256 ^ zs.length : Nat) : Int) ≤ ((256 ^ 7 : Nat) : Int) := Int.ofNat_le.2 h2
  simpa using h3
theorem rdI_lies {k : IntKind} {w : World} {a : Option Addr} {zs : List Int} (h : RdI k w a zs) (hn : 0 < zs.length) : ∀ p, a = some p → p.block < w.heap.size := fun p hp => by
  obtain ⟨b, off, ha, hb, _⟩ := h 0 zs[0] (List.getElem?_eq_getElem hn)
  rw [hp] at ha
  injection ha with ha
  subst ha
  exact hb
/-- A new reader. -/
theorem Rdr.new {w : World} {a : Option Addr} {c : Nat} {zs : List Int} (hr : RdI .u8 w a zs) (hb : Byt zs) (hc : zs.length ≤ c) (hcm : c ≤ 9223372036854775807) (hn : a = none → c = 0) (hs : zs.length ≤ 1000000) :
    Rdr (w.alloc (.cells #[.slice a zs.length c, .int .i64 ((0 : Nat) : Int)] 114)) w.heap.size a c zs 0 :=
  ⟨Blk.made w _ _, hr.alloc _, fun h0 p hp => Nat.ne_of_lt (rdI_lies hr h0 p hp), hb, hc, hcm, hn, Nat.zero_le _, hs⟩
/-- What ends a reading. -/
def faultV (e : Int) : List PanicEntry := [{ v := .iface 118 (.agg #[.int .i64 e]), recovered := false }]

set_option maxHeartbeats 1000000 in
theorem fail_c (g : Option Addr) (e : Int) (w : World) :
    Calls Tryd.prog 45 #[.pointer g, .int .i64 e] w fun x w' => x = .panicked (faultV (if e = 0 then 21 else e)) ∧ w' = w := by
  by_cases h : e = 0
  · subst h
    go_enter Tryd.func45, Tryd.ntmps45
    go_wp2_with fail
    exact ⟨rfl, by simp [*, faultV], rfl⟩
  · have e1 : (e == 0) = false := by rw [beq_eq_false_iff_ne]; exact h
    go_enter Tryd.func45, Tryd.ntmps45
    go_wp2_with fail
    exact ⟨rfl, by simp [*, faultV], rfl⟩
set_option maxHeartbeats 1000000 in
theorem left_c {w : World} {g : Nat} {a : Option Addr} {c : Nat} {zs : List Int} {at_ : Nat} (h : Rdr w g a c zs at_) :
    Calls Tryd.prog 48 #[.pointer (some ⟨g, 0, none⟩)] w fun x w' => x = .returned (.int .i64 ((zs.length - at_ : Nat) : Int)) ∧ ∃ m, w' = w.drewN m := by
  have c0 := h.blk.cell 0 rfl
  have c1 := h.blk.cell 1 rfl
  have hle := h.le
  have hsm := h.sm
  have e1 : ((zs.length - at_ : Nat) : Int) = (zs.length : Int) - (at_ : Int) := by omega
  rw [e1]
  clear h e1
  go_enter Tryd.func48, Tryd.ntmps48
  go_wp2_with fail
  go_quiet (fail)
  go_wp2_with fail
  go_ret
  exact ⟨rfl, _, rfl⟩

set_option maxHeartbeats 2000000 in
theorem next_short {w : World} {g : Nat} {a : Option Addr} {c : Nat} {zs : List Int} {at_ : Nat} (h : Rdr w g a c zs at_) (n : Int) (hs : zs.length < at_ + n.toNat) :
    Calls Tryd.prog 69 #[.pointer (some ⟨g, 0, none⟩), .int .i64 n] w fun x w' => x = .panicked (faultV 20) ∧ ∃ m, w' = w.drewN m := by
  have hle := h.le
  have HL := Lib.hid (left_c h)
  have HF := Lib.hid (fun W => fail_c (some ⟨g, 0, none⟩) 20 W)
  have e1 : (if (0 : Int) > n then 0 else n) = n := by rw [if_neg (by omega)]
  have e2 : (if n < 0 then 0 else n) = n := by rw [if_neg (by omega)]
  have e3 : decide (((zs.length - at_ : Nat) : Int) < n) = true := by rw [decide_eq_true_iff]; omega
  clear h
  go_enter Tryd.func69, Tryd.ntmps69
  go_wp2_with fail
  refine HL.out.mono ?_
  rintro x w1 ⟨rfl, m1, rfl⟩
  go_wp2_with fail
  refine (HF.out _).mono ?_
  rintro x w1 ⟨rfl, rfl⟩
  exact ⟨rfl, by simp, _, rfl⟩
set_option maxHeartbeats 4000000 in
theorem next_ok {w : World} {g : Nat} {a : Option Addr} {c : Nat} {zs : List Int} {at_ : Nat} (h : Rdr w g a c zs at_) (n : Int) (m : Nat) (hm : n.toNat = m) (hs : at_ + m ≤ zs.length) :
    Calls Tryd.prog 69 #[.pointer (some ⟨g, 0, none⟩), .int .i64 n] w fun x w' => ∃ a' c', x = .returned (.slice a' m c') ∧ RdI .u8 w' a' (cut zs at_ m) ∧ (a' = none → c' = 0) ∧ Rdr w' g a c zs (at_ + m) ∧ Frm [g] w w' := by
  have hle := h.le
  have hsm := h.sm
  have hcap := h.cap
  have hbig := h.big
  have HR := Lib.hid h
  have HL := Lib.hid (left_c h)
  have c0 := h.blk.cell 0 rfl
  have c1 := h.blk.cell 1 rfl
  have f1 := h.blk.free 1
  have e1 : (if (0 : Int) > n then 0 else n) = (m : Int) := by split <;> omega
  have e2 : (if n < 0 then 0 else n) = (m : Int) := by split <;> omega
  have e3 : decide (((zs.length - at_ : Nat) : Int) < (m : Int)) = false := by rw [decide_eq_false_iff_not]; omega
  have i1 : (0 : Int) ≤ (at_ : Int) := by omega
  have i2 : (at_ : Int) ≤ (at_ : Int) + (m : Int) := by omega
  have i3 : (at_ : Int) + (m : Int) ≤ (c : Int) := by omega
  have i4 : IntKind.i64.wrap ((at_ : Int) + (m : Int)) = (at_ : Int) + (m : Int) := IntWalk.i64_in _ (by omega)
  have i5 : ((at_ : Int) + (m : Int)).toNat = at_ + m := by omega
  clear h
  go_enter Tryd.func69, Tryd.ntmps69
  go_wp2_with fail
  refine HL.out.mono ?_
  rintro x w1 ⟨rfl, m1, rfl⟩
  go_wp2_with fail
  cases a with
  | none =>
    go_quiet (fail)
    go_wp2_with fail
    go_ret
    have h0 : zs = [] := by
      cases zs with
      | nil => rfl
      | cons z zs => obtain ⟨b, off, h, _⟩ := HR.out.rd 0 z rfl; cases h
    refine ⟨none, c - at_, rfl, ?_, fun _ => by have := HR.out.nil rfl; omega, (HR.out.frm ((Frm.refl _ _).drewN _)).set hs, ((Frm.refl _ _).drewN _).put (.inl (by simp)) _ _ _⟩
    subst h0
    exact fun i x hx => by simp [cut] at hx
  | some p =>
    go_quiet (fail)
    obtain ⟨q, hq⟩ : ∃ q, (if c = at_ then some p else some (p.add at_)) = q := ⟨_, rfl⟩
    rw [hq]
    have HQ := Lib.hid hq
    clear hq
    go_wp2_with fail
    go_ret
    refine ⟨q, c - at_, rfl, ?_, ?_, ?_, ?_⟩
    · rw [← HQ.out]
      exact ((HR.out.frm ((Frm.refl _ _).drewN _)).set hs).rd.cut hs HR.out.cap
    · intro h0
      have hq := HQ.out
      rw [h0] at hq
      split at hq <;> cases hq
    · exact (HR.out.frm ((Frm.refl _ _).drewN _)).set hs
    · exact ((Frm.refl _ _).drewN _).put (.inl (by simp)) _ _ _

set_option maxHeartbeats 2000000 in
theorem number_short {w : World} {g : Nat} {a : Option Addr} {c : Nat} {zs : List Int} {at_ : Nat} (h : Rdr w g a c zs at_) (n : Int) (hs : zs.length < at_ + n.toNat) :
    Calls Tryd.prog 68 #[.pointer (some ⟨g, 0, none⟩), .int .i64 n] w fun x w' => x = .panicked (faultV 20) ∧ Frm [] w w' := by
  have HN := Lib.hid (next_short h n hs)
  clear h
  go_enter Tryd.func68, Tryd.ntmps68
  go_wp2_with fail
  refine HN.out.mono ?_
  rintro x w1 ⟨rfl, m, rfl⟩
  exact ⟨rfl, by simp, (Frm.refl _ _).drewN _⟩
set_option maxHeartbeats 4000000 in
theorem number_ok {w : World} {g : Nat} {a : Option Addr} {c : Nat} {zs : List Int} {at_ : Nat} (h : Rdr w g a c zs at_) (n : Int) (k : Nat) (hn : n = k) (hk : k ≤ 8) (hs : at_ + k ≤ zs.length) :
    Calls Tryd.prog 68 #[.pointer (some ⟨g, 0, none⟩), .int .i64 n] w fun x w' => x = .returned (.int .u64 (bigN (cut zs at_ k))) ∧ Rdr w' g a c zs (at_ + k) ∧ Frm [g] w w' := by
  subst hn
  have HN := Lib.hid (next_ok h (k : Int) k (by omega) hs)
  have HB := Lib.hid (h.byt.cut at_ k)
  have hcl := cut_len hs
  have hsm := h.sm
  clear h
  go_enter Tryd.func68, Tryd.ntmps68
  go_wp2_with fail
  refine HN.out.mono ?_
  rintro x w1 ⟨a', c', rfl, hr, _, hR, hF⟩
  obtain ⟨ys, hys⟩ : ∃ ys, ys = cut zs at_ k := ⟨_, rfl⟩
  rw [← hys] at hr HB hcl
  have HY := Lib.hid hys
  have HR := Lib.hid hr
  have HP := Lib.hid (And.intro hR hF)
  have HCl := Lib.hid hcl
  clear hr hR hF hys HN hcl
  go_wp2_with fail
  go_loop [5, 12] (fun v i => ∃ j : Nat, j ≤ k ∧ i = .int .i64 j ∧ v = .int .u64 (bigN (ys.take j))) (fun _ i => k - (intOf i).toNat)
  case atStart => exact ⟨0, Nat.zero_le _, rfl, rfl⟩
  case round =>
    obtain ⟨j, hj, rfl, rfl⟩ := hrel
    by_cases hlt : j < k
    · obtain ⟨b, off, x, hx, rfl, hb, hc⟩ := HR.out.at_ j (by rw [HCl.out]; exact hlt)
      have hb1 := HB.out x (List.mem_of_getElem? hx)
      have hsn : bigN (ys.take (j + 1)) = bigN (ys.take j) * 256 + x := by rw [List.take_add_one, hx]; exact bigN_snoc _ _
      obtain ⟨v0, v1⟩ := bigN_small (HB.out.take j) (k := 7) (by rw [List.length_take]; have := HCl.out; omega) (Nat.le_refl _)
      obtain ⟨v, hv⟩ : ∃ v, v = bigN (ys.take j) := ⟨_, rfl⟩
      rw [← hv] at hsn v0 v1 ⊢
      have e1 : IntKind.u64.wrap (v * 256) = v * 256 := wrapU64 (by omega) (by omega)
      have e2 := orJoin v0 v1 hb1.1 hb1.2
      have e3 : IntKind.u64.wrap x = x := wrapU64 (by omega) (by omega)
      have i1 : (0 : Int) ≤ (j : Int) := by omega
      have i2 : (j : Int) < (k : Int) := by omega
      have HS := Lib.hid hsn
      clear hx hsn hv v0 v1 hb1
      go_wp2_with fail
      exact ⟨⟨j + 1, by omega, by go_num, by rw [HS.out]⟩, by simp [intOf]; omega⟩
    · obtain rfl : j = k := by omega
      go_wp2_with fail
      go_ret
      refine ⟨?_, HP.out⟩
      rw [← HY.out, show ys.take j = ys from by rw [← HCl.out, List.take_length]]
      rfl

set_option maxHeartbeats 1000000 in
theorem byte_short {w : World} {g : Nat} {a : Option Addr} {c : Nat} {zs : List Int} {at_ : Nat} (h : Rdr w g a c zs at_) (hs : zs.length < at_ + 1) :
    Calls Tryd.prog 44 #[.pointer (some ⟨g, 0, none⟩)] w fun x w' => x = .panicked (faultV 20) ∧ Frm [] w w' := by
  have HN := Lib.hid (number_short h 1 (by simpa using hs))
  clear h
  go_enter Tryd.func44, Tryd.ntmps44
  go_wp2_with fail
  refine HN.out.mono ?_
  rintro x w1 ⟨rfl, hF⟩
  exact ⟨rfl, by simp, hF⟩
set_option maxHeartbeats 1000000 in
theorem byte_ok {w : World} {g : Nat} {a : Option Addr} {c : Nat} {zs : List Int} {at_ : Nat} (h : Rdr w g a c zs at_) (hs : at_ + 1 ≤ zs.length) :
    Calls Tryd.prog 44 #[.pointer (some ⟨g, 0, none⟩)] w fun x w' => x = .returned (.int .i64 (bigN (cut zs at_ 1))) ∧ Rdr w' g a c zs (at_ + 1) ∧ Frm [g] w w' := by
  have HN := Lib.hid (number_ok h 1 1 rfl (by omega) hs)
  have hb := bigN_lt (h.byt.cut at_ 1)
  rw [cut_len hs] at hb
  obtain ⟨v, hv⟩ : ∃ v, v = bigN (cut zs at_ 1) := ⟨_, rfl⟩
  rw [← hv] at hb HN ⊢
  have e1 : IntKind.i64.wrap v = v := IntWalk.i64_in _ (by simp at hb; omega)
  clear h hv hb
  go_enter Tryd.func44, Tryd.ntmps44
  go_wp2_with fail
  refine HN.out.mono ?_
  rintro x w1 ⟨rfl, hR⟩
  have HR := Lib.hid hR
  clear hR
  go_wp2_with fail
  go_ret
  exact ⟨rfl, HR.out⟩
set_option maxHeartbeats 1000000 in
theorem word_short {w : World} {g : Nat} {a : Option Addr} {c : Nat} {zs : List Int} {at_ : Nat} (h : Rdr w g a c zs at_) (hs : zs.length < at_ + 2) :
    Calls Tryd.prog 46 #[.pointer (some ⟨g, 0, none⟩)] w fun x w' => x = .panicked (faultV 20) ∧ Frm [] w w' := by
  have HN := Lib.hid (number_short h 2 (by simpa using hs))
  clear h
  go_enter Tryd.func46, Tryd.ntmps46
  go_wp2_with fail
  refine HN.out.mono ?_
  rintro x w1 ⟨rfl, hF⟩
  exact ⟨rfl, by simp, hF⟩
set_option maxHeartbeats 1000000 in
theorem word_ok {w : World} {g : Nat} {a : Option Addr} {c : Nat} {zs : List Int} {at_ : Nat} (h : Rdr w g a c zs at_) (hs : at_ + 2 ≤ zs.length) :
    Calls Tryd.prog 46 #[.pointer (some ⟨g, 0, none⟩)] w fun x w' => x = .returned (.int .u16 (bigN (cut zs at_ 2))) ∧ Rdr w' g a c zs (at_ + 2) ∧ Frm [g] w w' := by
  have HN := Lib.hid (number_ok h 2 2 rfl (by omega) hs)
  have hb := bigN_lt (h.byt.cut at_ 2)
  rw [cut_len hs] at hb
  obtain ⟨v, hv⟩ : ∃ v, v = bigN (cut zs at_ 2) := ⟨_, rfl⟩
  rw [← hv] at hb HN ⊢
  have e1 : IntKind.u16.wrap v = v := IntWalk.u16_in _ (by simp at hb; omega)
  clear h hv hb
  go_enter Tryd.func46, Tryd.ntmps46
  go_wp2_with fail
  refine HN.out.mono ?_
  rintro x w1 ⟨rfl, hR⟩
  have HR := Lib.hid hR
  clear hR
  go_wp2_with fail
  go_ret
  exact ⟨rfl, HR.out⟩
set_option maxHeartbeats 1000000 in
theorem long_short {w : World} {g : Nat} {a : Option Addr} {c : Nat} {zs : List Int} {at_ : Nat} (h : Rdr w g a c zs at_) (hs : zs.length < at_ + 4) :
    Calls Tryd.prog 70 #[.pointer (some ⟨g, 0, none⟩)] w fun x w' => x = .panicked (faultV 20) ∧ Frm [] w w' := by
  have HN := Lib.hid (number_short h 4 (by simpa using hs))
  clear h
  go_enter Tryd.func70, Tryd.ntmps70
  go_wp2_with fail
  refine HN.out.mono ?_
  rintro x w1 ⟨rfl, hF⟩
  exact ⟨rfl, by simp, hF⟩
set_option maxHeartbeats 1000000 in
theorem long_ok {w : World} {g : Nat} {a : Option Addr} {c : Nat} {zs : List Int} {at_ : Nat} (h : Rdr w g a c zs at_) (hs : at_ + 4 ≤ zs.length) :
    Calls Tryd.prog 70 #[.pointer (some ⟨g, 0, none⟩)] w fun x w' => x = .returned (.int .u32 (bigN (cut zs at_ 4))) ∧ Rdr w' g a c zs (at_ + 4) ∧ Frm [g] w w' := by
  have HN := Lib.hid (number_ok h 4 4 rfl (by omega) hs)
  have hb := bigN_lt (h.byt.cut at_ 4)
  rw [cut_len hs] at hb
  obtain ⟨v, hv⟩ : ∃ v, v = bigN (cut zs at_ 4) := ⟨_, rfl⟩
  rw [← hv] at hb HN ⊢
  have e1 : IntKind.u32.wrap v = v := IntWalk.u32_in _ (by simp at hb; omega)
  clear h hv hb
  go_enter Tryd.func70, Tryd.ntmps70
  go_wp2_with fail
  refine HN.out.mono ?_
  rintro x w1 ⟨rfl, hR⟩
  have HR := Lib.hid hR
  clear hR
  go_wp2_with fail
  go_ret
  exact ⟨rfl, HR.out⟩
set_option maxHeartbeats 1000000 in
theorem take_short {w : World} {g : Nat} {a : Option Addr} {c : Nat} {zs : List Int} {at_ : Nat} (h : Rdr w g a c zs at_) (n : Int) (hs : zs.length < at_ + n.toNat) :
    Calls Tryd.prog 47 #[.pointer (some ⟨g, 0, none⟩), .int .i64 n] w fun x w' => x = .panicked (faultV 20) ∧ Frm [] w w' := by
  have HN := Lib.hid (next_short h n hs)
  clear h
  go_enter Tryd.func47, Tryd.ntmps47
  go_wp2_with fail
  refine HN.out.mono ?_
  rintro x w1 ⟨rfl, m, rfl⟩
  exact ⟨rfl, by simp, (Frm.refl _ _).drewN _⟩
set_option maxHeartbeats 1000000 in
/-- Take: a copy of the bytes, in new memory. -/
theorem take_ok {w : World} {g : Nat} {a : Option Addr} {c : Nat} {zs : List Int} {at_ : Nat} (h : Rdr w g a c zs at_) (n : Int) (m : Nat) (hm : n.toNat = m) (hs : at_ + m ≤ zs.length) :
    Calls Tryd.prog 47 #[.pointer (some ⟨g, 0, none⟩), .int .i64 n] w fun x w' => ∃ v, x = .returned v ∧ Rdr w' g a c zs (at_ + m) ∧ Sep [g] w w' [blkR g 114 #[.slice a zs.length c, .int .i64 ((at_ + m : Nat) : Int)], sumR v (cut zs at_ m)] := by
  have HN := Lib.hid (next_ok h n m hm hs)
  have hcl := cut_len hs
  have hsm := h.sm
  have HC := Lib.hid (fun (a' : Option Addr) (c' : Nat) (w1 : World) (hr : RdI .u8 w1 a' (cut zs at_ m)) (hc : a' = none → c' = 0) => clone_c a' c' (cut zs at_ m) w1 hr hc (by omega))
  rw [hcl] at HC
  have HS := Lib.hid (Sep.enter (r := blkR g 114 #[.slice a zs.length c, .int .i64 (at_ : Int)]) h.blk)
  clear h hcl hsm hm
  go_enter Tryd.func47, Tryd.ntmps47
  go_wp2_with fail
  refine HN.out.mono ?_
  rintro x w1 ⟨a', c', rfl, hr, hc, hR, hF⟩
  have HS1 := Lib.hid (HS.out.call 0 rfl hF hR.blk)
  have HR := Lib.hid hR
  have HC1 := Lib.hid (HC.out a' c' w1 hr hc)
  clear hr hc hR hF HN HS HC
  go_wp2_with fail
  refine HC1.out.mono ?_
  rintro x w2 ⟨v, rfl, hS⟩
  have HS2 := Lib.hid (HS1.out.gains hS).swap2
  have HR2 := Lib.hid (HR.out.frm hS.frm)
  clear hS HS1 HR HC1
  go_wp2_with fail
  go_ret
  exact ⟨v, rfl, HR2.out, HS2.out⟩
end

/- A CALL THAT TURNS ONE THING INTO MANY: what lies apart lies apart still. No program is named here. -/
section
open Go.RowKit

theorem Sep.callMany {S F : List Nat} {w0 w w' : World} {A : Res} {L0 L1 : List Res} (h : Sep S w0 w (A :: L0)) (k : Sep F w w' L1) (hF : ∀ g ∈ F, g ∈ A.bl) : Sep S w0 w' (L1 ++ L0) := by
  have hA : ∀ s ∈ L0, ∀ g ∈ A.bl, g ∉ s.bl := (List.pairwise_cons.1 h.apart).1
  refine ⟨h.frm.after k.frm (fun g hg => h.mine A (by simp) g (hF g hg)), fun r hr => ?_, ?_, fun r hr g hg => ?_⟩
  · rcases List.mem_append.1 hr with hr | hr
    · exact k.holds r hr
    · have hP := h.holds r (by simp [hr])
      exact r.stays w w' (fun g hg => k.frm.block g (r.lies w hP g hg) (fun hgF => hA r hr g (hF g hgF) hg)) hP
  · rw [List.pairwise_append]
    refine ⟨k.apart, (List.pairwise_cons.1 h.apart).2, fun r hr s hs g hg hgs => ?_⟩
    rcases k.mine r hr g hg with h1 | h1
    · exact hA s hs g (hF g h1) hgs
    · have := s.lies w (h.holds s (by simp [hs])) g hgs
      omega
  · rcases List.mem_append.1 hr with hr | hr
    · rcases k.mine r hr g hg with h1 | h1
      · exact h.mine A (by simp) g (hF g h1)
      · exact .inr (Nat.le_trans h.frm.size h1)
    · exact h.mine r (by simp [hr]) g hg
end

/- THINGS THAT LIE APART, IN ANOTHER ORDER; readers of a struct's cells. No program is named here. -/
section
open Go.RowKit

theorem Sep.prm {S : List Nat} {w0 w : World} {L L' : List Res} (h : Sep S w0 w L) (hp : L.Perm L') : Sep S w0 w L' :=
  ⟨h.frm, fun r hr => h.holds r (hp.mem_iff.2 hr), (hp.pairwise_iff (fun {a b} hab k hk hk' => hab k hk' hk)).1 h.apart, fun r hr => h.mine r (hp.mem_iff.2 hr)⟩
/-- The things at these places. -/
theorem Sep.pick {S : List Nat} {w0 w : World} {L : List Res} (h : Sep S w0 w L) {L' L2 : List Res} (hp : L.Perm (L' ++ L2)) : Sep S w0 w L' := (h.prm hp).sub (List.sublist_append_left _ _)
/-- Read, whatever turned that is newer. -/
theorem RdS.low {n : Nat} {w w' : World} {a : Option Addr} {rows : List (List Value)} {S : List Nat} (h : RdS n w a rows) (hf : Frm S w w') (hS : ∀ k ∈ S, w.heap.size ≤ k) : RdS n w' a rows := fun i row hr => by
  obtain ⟨b, off, ha, hl, hc⟩ := h i row hr
  exact ⟨b, off, ha, Nat.lt_of_lt_of_le hl hf.size, fun j v hv => (hf.cell hl (fun hb => by have := hS b hb; omega)).trans (hc j v hv)⟩
theorem RdI.low {k : IntKind} {w w' : World} {a : Option Addr} {zs : List Int} {S : List Nat} (h : RdI k w a zs) (hf : Frm S w w') (hS : ∀ k ∈ S, w.heap.size ≤ k) : RdI k w' a zs := fun i x hx => by
  obtain ⟨b, off, ha, hl, hc⟩ := h i x hx
  exact ⟨b, off, ha, Nat.lt_of_lt_of_le hl hf.size, (hf.cell hl (fun hb => by have := hS b hb; omega)).trans hc⟩
theorem Blk.low {w w' : World} {b : Nat} {t : TypeId} {cs : Array Value} {S : List Nat} (h : Blk w b t cs) (hf : Frm S w w') (hS : ∀ k ∈ S, w.heap.size ≤ k) : Blk w' b t cs :=
  hf.blk h (fun hb => by have := hS b hb; have := h.lt; omega)
/-- A row of the call's own is a slice of that length. -/
theorem own_shape {w : World} {base e size : Nat} {v : Value} {n : Nat} {xs : List Value} (h : w.ownsRow base e size v n xs) : ∃ a c, v = .slice a n c ∧ n ≤ c ∧ (a = none → c = 0) := by
  rcases h.2 with ⟨rfl, h0⟩ | ⟨g, c, cur, rfl, _, _, hc, _⟩
  · exact ⟨none, 0, by rw [h0], by omega, fun _ => rfl⟩
  · exact ⟨_, c, rfl, hc, fun h => by cases h⟩
theorem own_le {w : World} {base e size : Nat} {v : Value} {n : Nat} {xs : List Value} (h : w.ownsRow base e size v n xs) : n ≤ maxLen := by
  rcases h.2 with ⟨_, h0⟩ | ⟨g, c, cur, _, _, _, hc, hm, _⟩
  · rw [h0]; exact Nat.zero_le _
  · exact Nat.le_trans hc hm
/-- An operation under a guard that holds. -/
theorem wpList_wanted {P : Program} {w : World} {ops : Array Oper} {rest : List Oper} {o : Oper} {a : Act} {Q : Exit → Act → World → Prop} (hw : Region.wanted o (yielded ops a.tmps) = true)
    (h : ∀ K : Act → World → Prop, (∀ a w, wpList P ops Q rest a w → K a w) → o.wp P a w K Q) : wpList P ops Q (o :: rest) a w :=
  wpList_step fun K hK => by rw [if_pos hw]; exact h K hK
/-- New things, seen from ahead. -/
theorem sep_rebase {w w1 w2 : World} {L : List Res} (h : Frm [] w w1) (k : Sep [] w1 w2 L) : Sep [] w w2 L :=
  ⟨h.trans k.frm, k.holds, k.apart, fun r hr q hq => by
    rcases k.mine r hr q hq with h1 | h1
    · simp at h1
    · exact .inr (Nat.le_trans h.size h1)⟩
/-- A call that makes new things alone. -/
theorem Sep.more {S : List Nat} {w0 w w' : World} {L0 L1 : List Res} (h : Sep S w0 w L0) (k : Sep [] w w' L1) : Sep S w0 w' (L1 ++ L0) := h.none.callMany k (by simp)
theorem Sep.rest {S : List Nat} {w0 w : World} {r : Res} {L : List Res} (h : Sep S w0 w (r :: L)) : Sep S w0 w L := h.sub (List.sublist_cons_self _ _)
theorem Sep.into1 {S : List Nat} {w0 w : World} {r : Res} {rs : List Res} {L : List Res} (h : Sep S w0 w (r :: manyR rs :: L)) : Sep S w0 w (manyR (rs ++ [r]) :: L) := (h.none.swap2.into).rest
/-- Things go to the many. -/
theorem Sep.gather {S : List Nat} {w0 w : World} : ∀ (L1 : List Res) {rs L : List Res}, Sep S w0 w (L1 ++ (manyR rs :: L)) → Sep S w0 w (manyR (rs ++ L1) :: L)
  | [], rs, L, h => by rw [List.append_nil]; exact h
  | r :: L1, rs, L, h => by
    have h1 : Sep S w0 w (r :: manyR rs :: (L1 ++ L)) := h.prm (List.Perm.cons r List.perm_middle)
    have h2 : Sep S w0 w (L1 ++ (manyR (rs ++ [r]) :: L)) := h1.into1.prm List.perm_middle.symm
    have h3 := Sep.gather L1 h2
    rw [List.append_assoc] at h3
    exact h3
/-- A slice from a place on, as the walk spells its address. -/
theorem RdI.cutOff {k : IntKind} {w : World} {b off c j : Nat} {zs : List Int} (h : RdI k w (some ⟨b, off, none⟩) zs) (hc : zs.length ≤ c) : RdI k w (if c = j then some ⟨b, off, none⟩ else some ⟨b, off + j, none⟩) (zs.drop j) := fun i x hx => by
  rw [List.getElem?_drop] at hx
  have hl := (List.getElem?_eq_some_iff.1 hx).1
  rw [if_neg (by omega)]
  obtain ⟨b', off', ha, hb, hcell⟩ := h (j + i) x hx
  injection ha with ha
  injection ha with h1 h2 h3
  subst h1 h2
  exact ⟨b, off + j, rfl, hb, by rw [Nat.add_assoc]; exact hcell⟩
theorem RdI.offs {k : IntKind} {w : World} {b off : Nat} {zs : List Int} (h : RdI k w (some ⟨b, off, none⟩) zs) (j : Nat) : RdI k w (some ⟨b, off + j, none⟩) (zs.drop j) := fun i x hx => by
  rw [List.getElem?_drop] at hx
  obtain ⟨b', off', ha, hb, hcell⟩ := h (j + i) x hx
  injection ha with ha
  injection ha with h1 h2 h3
  subst h1 h2
  exact ⟨b, off + j, rfl, hb, by rw [Nat.add_assoc]; exact hcell⟩
theorem RdI.firsts {k : IntKind} {w : World} {a : Option Addr} {zs : List Int} (h : RdI k w a zs) (m : Nat) : RdI k w a (zs.take m) := fun i x hx => by
  rw [List.getElem?_take] at hx
  split at hx
  · exact h i x hx
  · cases hx
/-- A block of integers, read whole. -/
theorem RdI.of_blk {k : IntKind} {w : World} {b : Nat} {t : TypeId} {cs : Array Value} (h : Blk w b t cs) {zs : List Int} (hz : cs.toList = zs.map (Value.int k)) : RdI k w (some ⟨b, 0, none⟩) zs := fun i x hx =>
  ⟨b, 0, rfl, h.lt, by rw [Nat.zero_add]; exact h.cell i (by rw [← Array.getElem?_toList, hz, List.getElem?_map, hx]; rfl)⟩
end

/- A WRITER IN MEMORY; wire's Writer: number, Byte, Word, Long, Wide, Put, Len, Done. -/
section
open Go.RowKit

/-- A writer at s. -/
def wtrR (s : Nat) (v : Value) : Res := blkR s 100 #[v]
/-- The j-th byte of a number of k bytes. -/
def dig (n : Int) (k j : Nat) : Int := n / 256 ^ (k - 1 - j) % 256
/-- A number as so many bytes. -/
def bigL (n : Int) (k : Nat) : List Int := (List.range k).map (dig n k)
theorem bigL_len (n : Int) (k : Nat) : (bigL n k).length = k := by simp [bigL]
theorem bigL_take (n : Int) {k j : Nat} (h : j < k) : (bigL n k).take (j + 1) = (bigL n k).take j ++ [dig n k j] := by
  rw [List.take_add_one]
  congr 1
  simp [bigL, h]
theorem dig_byte (n : Int) (k j : Nat) : 0 ≤ dig n k j ∧ dig n k j ≤ 255 := by unfold dig; omega
theorem bigL_byt (n : Int) (k : Nat) : Byt (bigL n k) := fun x hx => by
  obtain ⟨j, _, rfl⟩ := List.mem_map.1 hx
  exact dig_byte n k j

set_option maxRecDepth 100000 in
set_option maxHeartbeats 8000000 in
theorem wnumber_c (s : Nat) (v : Value) (xs : List Int) (w : World) (F : List Nat) (h : Sep F w w [sumR v xs, wtrR s v]) (hx : xs.length ≤ 1000000) (n : Int) (n0 : 0 ≤ n) (n1 : n < 18446744073709551616) (K : Int) (k : Nat) (hK : K = k) (hk : k ≤ 8) :
    Calls Tryd.prog 74 #[.pointer (some ⟨s, 0, none⟩), .int .u64 n, .int .i64 K] w fun e w' => e = .returned (.tuple #[]) ∧ ∃ v', Sep F w w' [sumR v' (xs ++ bigL n k), wtrR s v'] := by
  subst hK
  obtain ⟨i0, hi, hz0, hz1, hz2⟩ := info_parts info_u8
  have HS := Lib.hid h
  clear h
  go_enter Tryd.func74, Tryd.ntmps74
  go_wp2_with fail
  go_loopw [8] (fun i wr => ∃ (j : Nat) (v' : Value), j ≤ k ∧ i = .int .i64 j ∧ Sep F w wr [sumR v' (xs ++ (bigL n k).take j), wtrR s v']) (fun i _ => k - (intOf i).toNat)
  case atStart => exact ⟨0, v, Nat.zero_le _, rfl, by rw [List.take_zero, List.append_nil]; exact HS.out⟩
  case round =>
    obtain ⟨j, v2, hj, rfl, hS⟩ := hrel
    have HS2 := Lib.hid hS
    clear hS
    by_cases hlt : j < k
    · obtain ⟨y, hy, hy2⟩ : ∃ y : Nat, 8 * ((k : Int) - 1 - (j : Int)) = (y : Int) ∧ y = 8 * (k - 1 - j) := ⟨8 * (k - 1 - j), by omega, rfl⟩
      have y1 : y ≤ 56 := by omega
      have HT := Lib.hid (bigL_take n hlt)
      have HD : Hid (IntKind.u8.wrap (n / 2 ^ y) = dig n k j) := Lib.hid (by
        unfold dig
        rw [hy2, Int.pow_mul]
        rw [IntKind.wrap_u8]
        rfl)
      have HB := Lib.hid (dig_byte n k j)
      have q1 : (0 : Int) ≤ (y : Int) := by omega
      have q2 : (y : Int) ≤ 64 := by omega
      have k1 : (j : Int) < (k : Int) := by omega
      have q3 : IntKind.i64.wrap ((k : Int) - 1) = (k : Int) - 1 := IntWalk.i64_in _ (by omega)
      have q4 : IntKind.i64.wrap ((k : Int) - 1 - (j : Int)) = (k : Int) - 1 - (j : Int) := IntWalk.i64_in _ (by omega)
      have q5 : IntKind.i64.wrap (8 * ((k : Int) - 1 - (j : Int))) = (y : Int) := by rw [hy]; exact IntWalk.i64_in _ (by omega)
      clear hy hy2
      obtain ⟨wi, hwi⟩ : ∃ wi, wi = wr := ⟨_, rfl⟩
      rw [← hwi] at HS2 ⊢
      clear hwi
      obtain ⟨d, hd⟩ : ∃ d, d = dig n k j := ⟨_, rfl⟩
      rw [← hd] at HT HD HB
      have hd2 := HD.out
      clear hd
      obtain ⟨m, hm⟩ : ∃ m, m = (xs ++ (bigL n k).take j).length := ⟨_, rfl⟩
      have hm2 : m ≤ 1000008 := by rw [hm, List.length_append, List.length_take]; have := bigL_len n k; omega
      have HM := Lib.hid hm
      clear hm
      go_wp2_with fail
      have hsl : s < wi.heap.size := HS2.out.lt 1 rfl s (by simp [wtrR, blkR])
      have cs : wi.cell? ⟨s, 0, none⟩ = some v2 := (HS2.out.blk 1 rfl).cell 0 rfl
      go_region_law ((rw [if_pos (by rfl)]; refine wp_append_said (.tmp 15) (.tmp 24) 22 rfl 0 5 i0 (.int .u8 0) 1 Tryd.underlying22 hi hz0 hz1 hz2 rfl .u8 v2 m ((xs ++ (bigL n k).take j).map (Value.int .u8)) rfl (HS2.out.drew.skip _) (by rw [HM.out]; rfl) (some ⟨wi.heap.size, 0, none⟩) 1 1 [d] rfl rfl (fun h => by cases h) (RdI.made wi.drew _ _ [d] (by simp)) (m + 1) rfl ((xs ++ (bigL n k).take (j + 1)).map (Value.int .u8)) (by rw [HT.out, ← List.append_assoc, List.map_append]; simp only [List.map_append]) (by unfold maxLen; omega) (by omega) ?_; intro v4 w4 hS4; obtain ⟨g4, p4, rfl⟩ := row_slice (hS4.own 0 rfl) (by omega); have HS4 := Lib.hid hS4; have c4 : w4.cell? ⟨s, 0, none⟩ = some v2 := (HS4.out.blk 1 rfl).cell 0 rfl; have f4 : w4.frozen? ⟨s, 0, none⟩ = false := (HS4.out.blk 1 rfl).free 0; clear hS4))
      all_goals
        go_wp2_with fail
        go_roundw
        case rel =>
          refine ⟨j + 1, .slice (some ⟨g4, 0, none⟩) (m + 1) p4, by omega, by go_num, ?_⟩
          have h := HS4.out.put 1 rfl 0 (.slice (some ⟨g4, 0, none⟩) (m + 1) p4)
          have hM := HM.out
          subst hM
          rw [show (xs ++ (bigL n k).take j).length + 1 = (xs ++ (bigL n k).take (j + 1)).length by rw [HT.out]; simp; omega] at h ⊢
          exact h
        case measure => simp [intOf]; omega
    · obtain rfl : j = k := by omega
      rw [show (bigL n j).take j = bigL n j from List.take_of_length_le (by rw [bigL_len]; omega)] at HS2
      go_wp2_with fail
      go_end0
      exact ⟨rfl, v2, HS2.out⟩

theorem bigL_one (n : Int) : bigL n 1 = [n % 256] := by simp [bigL, dig]
set_option maxHeartbeats 1000000 in
theorem wbyte_c (s : Nat) (v : Value) (xs : List Int) (w : World) (F : List Nat) (h : Sep F w w [sumR v xs, wtrR s v]) (hx : xs.length ≤ 1000000) (n : Int) (n0 : 0 ≤ n) (n1 : n < 9223372036854775808) :
    Calls Tryd.prog 56 #[.pointer (some ⟨s, 0, none⟩), .int .i64 n] w fun e w' => e = .returned (.tuple #[]) ∧ ∃ v', Sep F w w' [sumR v' (xs ++ bigL n 1), wtrR s v'] := by
  have HC := Lib.hid (wnumber_c s v xs w F h hx n n0 (by omega) 1 1 rfl (by omega))
  have e1 : IntKind.u64.wrap n = n := wrapU64 n0 (by omega)
  clear h
  go_enter Tryd.func56, Tryd.ntmps56
  go_wp2_with fail
  refine HC.out.mono ?_
  rintro e w1 ⟨rfl, v1, hS⟩
  have HS := Lib.hid hS
  clear hS HC
  go_wp2_with fail
  go_end0
  exact ⟨rfl, v1, HS.out⟩
set_option maxHeartbeats 1000000 in
theorem wword_c (s : Nat) (v : Value) (xs : List Int) (w : World) (F : List Nat) (h : Sep F w w [sumR v xs, wtrR s v]) (hx : xs.length ≤ 1000000) (n : Int) (n0 : 0 ≤ n) (n1 : n < 65536) :
    Calls Tryd.prog 57 #[.pointer (some ⟨s, 0, none⟩), .int .u16 n] w fun e w' => e = .returned (.tuple #[]) ∧ ∃ v', Sep F w w' [sumR v' (xs ++ bigL n 2), wtrR s v'] := by
  have HC := Lib.hid (wnumber_c s v xs w F h hx n n0 (by omega) 2 2 rfl (by omega))
  have e1 : IntKind.u64.wrap n = n := wrapU64 n0 (by omega)
  clear h
  go_enter Tryd.func57, Tryd.ntmps57
  go_wp2_with fail
  refine HC.out.mono ?_
  rintro e w1 ⟨rfl, v1, hS⟩
  have HS := Lib.hid hS
  clear hS HC
  go_wp2_with fail
  go_end0
  exact ⟨rfl, v1, HS.out⟩
set_option maxHeartbeats 1000000 in
theorem wlong_c (s : Nat) (v : Value) (xs : List Int) (w : World) (F : List Nat) (h : Sep F w w [sumR v xs, wtrR s v]) (hx : xs.length ≤ 1000000) (n : Int) (n0 : 0 ≤ n) (n1 : n < 4294967296) :
    Calls Tryd.prog 60 #[.pointer (some ⟨s, 0, none⟩), .int .u32 n] w fun e w' => e = .returned (.tuple #[]) ∧ ∃ v', Sep F w w' [sumR v' (xs ++ bigL n 4), wtrR s v'] := by
  have HC := Lib.hid (wnumber_c s v xs w F h hx n n0 (by omega) 4 4 rfl (by omega))
  have e1 : IntKind.u64.wrap n = n := wrapU64 n0 (by omega)
  clear h
  go_enter Tryd.func60, Tryd.ntmps60
  go_wp2_with fail
  refine HC.out.mono ?_
  rintro e w1 ⟨rfl, v1, hS⟩
  have HS := Lib.hid hS
  clear hS HC
  go_wp2_with fail
  go_end0
  exact ⟨rfl, v1, HS.out⟩

theorem wtr_shape {S : List Nat} {w0 w : World} {s : Nat} {v : Value} {xs : List Int} {L : List Res} (h : Sep S w0 w (sumR v xs :: wtrR s v :: L)) : ∃ a c, v = .slice a xs.length c ∧ (a = none → c = 0) ∧ RdI .u8 w a xs ∧ w.cell? ⟨s, 0, none⟩ = some v := by
  have ho := h.own 0 rfl
  obtain ⟨a, c, rfl, hc, hr⟩ := RdI.of_own ho
  refine ⟨a, c, rfl, ?_, hr, (h.blk 1 rfl).cell 0 rfl⟩
  rcases ho.2 with ⟨h2, _⟩ | ⟨g, c', cur, e1, _⟩
  · injection h2 with h3 h4 h5
    exact fun _ => h5
  · injection e1 with e1 _ _
    intro h0
    rw [h0] at e1
    cases e1
set_option maxHeartbeats 2000000 in
theorem wput_c (s : Nat) (v : Value) (xs : List Int) (w : World) (F : List Nat) (h : Sep F w w [sumR v xs, wtrR s v]) (hx : xs.length ≤ 1000000) (a : Option Addr) (c : Nat) (zs : List Int) (rd : RdI .u8 w a zs) (hc : a = none → c = 0) (hz : zs.length ≤ 1000000) :
    Calls Tryd.prog 58 #[.pointer (some ⟨s, 0, none⟩), .slice a zs.length c] w fun e w' => e = .returned (.tuple #[]) ∧ ∃ v', Sep F w w' [sumR v' (xs ++ zs), wtrR s v'] := by
  obtain ⟨i0, hi, hz0, hz1, hz2⟩ := info_parts info_u8
  have HS := Lib.hid h
  have HR := Lib.hid rd
  have HC := Lib.hid hc
  obtain ⟨a0, c0, rfl, _, _, cs⟩ := wtr_shape h
  obtain ⟨n, hn⟩ : ∃ n, n = xs.length := ⟨_, rfl⟩
  obtain ⟨m, hm⟩ : ∃ m, m = zs.length := ⟨_, rfl⟩
  have hx2 : n ≤ 1000000 := by omega
  have hz2' : m ≤ 1000000 := by omega
  have HNn := Lib.hid hn
  have HMm := Lib.hid hm
  rw [← hn] at cs HS
  rw [← hm]
  clear h rd hc hn hm hx hz
  go_enter Tryd.func58, Tryd.ntmps58
  go_wp2_with (at_builtin; go_must (refine wpList_append_said rfl _ _ 22 rfl 0 5 i0 (.int .u8 0) 1 Tryd.underlying22 hi hz0 hz1 hz2 rfl .u8 _ xs.length (xs.map (Value.int .u8)) rfl HS.out rfl a c m zs HMm.out.symm rfl HC.out HR.out (n + m) (by rw [HNn.out]) ((xs ++ zs).map (Value.int .u8)) (by rw [List.map_append]) (by unfold maxLen; omega) (by omega) ?_); intro v4 w4 hS4; obtain ⟨a4, p4, rfl, _, _⟩ := own_shape (hS4.own 0 rfl); have HS4 := Lib.hid hS4; have c4 := (hS4.blk 1 rfl).cell 0 rfl; have f4 := (hS4.blk 1 rfl).free 0; clear hS4)
  go_end0
  refine ⟨rfl, .slice a4 (n + m) p4, ?_⟩
  have h := HS4.out.put 1 rfl 0 (.slice a4 (n + m) p4)
  rw [show n + m = (xs ++ zs).length by rw [HNn.out, HMm.out, List.length_append]] at h ⊢
  exact h
set_option maxHeartbeats 1000000 in
theorem wdone_c (s : Nat) (v : Value) (xs : List Int) (w : World) {S : List Nat} {w0 : World} {L : List Res} (h : Sep S w0 w (sumR v xs :: wtrR s v :: L)) (hx : xs.length ≤ 1000000) :
    Calls Tryd.prog 61 #[.pointer (some ⟨s, 0, none⟩)] w fun e w' => ∃ v', e = .returned v' ∧ Sep [] w w' [sumR v' xs] := by
  obtain ⟨a0, c0, rfl, hc, hr, cs⟩ := wtr_shape h
  have HC := Lib.hid (clone_c a0 c0 xs w hr hc hx)
  clear h hr hc
  go_enter Tryd.func61, Tryd.ntmps61
  go_wp2_with fail
  refine HC.out.mono ?_
  rintro e w1 ⟨v1, rfl, hS⟩
  have HS := Lib.hid hS
  clear hS HC
  go_wp2_with fail
  go_ret
  exact ⟨v1, rfl, HS.out⟩

/-- A call that writes, among other things. -/
theorem Sep.wr {P : Program} {f : FuncId} {args : Array Value} {S : List Nat} {w0 w : World} {v : Value} {xs ys : List Int} {s : Nat} {L : List Res} (h : Sep S w0 w (sumR v xs :: wtrR s v :: L))
    (hc : Calls P f args w fun e w' => e = .returned (.tuple #[]) ∧ ∃ v', Sep ((sumR v xs).bl ++ (wtrR s v).bl) w w' [sumR v' ys, wtrR s v']) :
    Calls P f args w fun e w' => e = .returned (.tuple #[]) ∧ ∃ v', Sep S w0 w' (sumR v' ys :: wtrR s v' :: L) :=
  hc.mono fun _ _ ⟨h1, v', h2⟩ => ⟨h1, v', h.call2 h2 (fun g hg => List.mem_append.1 hg)⟩
end

/- ARGUMENTS OPENED: a slice of slices of integers. -/
section
open Go.ChangeShapes Go.WideShapes Go.ChangeAt Go.RowKit Go.Deep

/-- A slice of integers, its address, its capacity, its numbers. -/
structure IRow where
  a : Option Addr
  c : Nat
  zs : List Int
def IRow.val (x : IRow) : Value := .slice x.a x.zs.length x.c
/-- The cells of a slice of slices: the headers alone. -/
def RdV (w : World) (ad : Option Addr) (vs : List Value) : Prop :=
  ∀ i v, vs[i]? = some v → ∃ b off, ad = some ⟨b, off, none⟩ ∧ b < w.heap.size ∧ w.cell? ⟨b, off + i, none⟩ = some v
theorem RdV.nil (w : World) (ad : Option Addr) : RdV w ad [] := fun i x h => by simp at h
theorem RdV.below {w w' : World} {ad : Option Addr} {vs : List Value} (h : RdV w ad vs) (hb : Below w.heap.size w w') : RdV w' ad vs := fun i x hx => by
  obtain ⟨b, off, h1, h2, h3⟩ := h i x hx
  exact ⟨b, off, h1, Nat.lt_of_lt_of_le h2 hb.size, (hb.cell (p := ⟨b, off + i, none⟩) h2).trans h3⟩
theorem RdV.at_ {w : World} {ad : Option Addr} {vs : List Value} (h : RdV w ad vs) (i : Nat) (hi : i < vs.length) : ∃ b off v, vs[i]? = some v ∧ ad = some ⟨b, off, none⟩ ∧ b < w.heap.size ∧ w.cell? ⟨b, off + i, none⟩ = some v := by
  obtain ⟨b, off, ha, hl, hc⟩ := h i vs[i] (List.getElem?_eq_getElem hi)
  exact ⟨b, off, _, List.getElem?_eq_getElem hi, ha, hl, hc⟩

section
variable {H : Type} {enc : TypeId × Value → H} {P : Program} {W : World} {base : Nat}

theorem rows_open {t e q : TypeId} {k : IntKind} {v : Value} {d : DataW H} {p : List MemPlace} (ht : P.underlying t = some (.slice e)) (he : P.underlying e = some (.slice q)) (hq : P.underlying q = some (.int k))
    (ce : P.cellsOf e = 1) (cq : P.cellsOf q = 1) (hv : Value.okWide P W .any base t v) (h : DataW.Trod enc P W 0 (fun _ => true) true t v d p) :
    ∃ (a : Option Addr) (cap : Nat) (rs : List IRow), v = .slice a rs.length cap ∧ rs.length ≤ cap ∧ cap ≤ maxLen ∧ (a = none → cap = 0) ∧ RdV W a (rs.map IRow.val) ∧
      ∀ r ∈ rs, r.zs.length ≤ r.c ∧ r.c ≤ maxLen ∧ (r.a = none → r.c = 0) ∧ RdI k W r.a r.zs ∧ ∀ x ∈ r.zs, (Lit.int k x).wf = true := by
  obtain ⟨a, len, cap, rfl⟩ := okWide_slice ht hv
  obtain ⟨fuel, hf⟩ := h
  rcases open_int_rows ht he hq ce cq hf with ⟨hcs, _⟩ | ⟨x, l, c, A, L, C, Z, hcs, _, hl, hm, _, hcell⟩
  · simp [Value.cells] at hcs
    obtain ⟨rfl, rfl, rfl⟩ := hcs
    exact ⟨none, 0, [], rfl, Nat.le_refl _, Nat.zero_le _, fun _ => rfl, RdV.nil _ _, by simp⟩
  · simp [Value.cells] at hcs
    obtain ⟨rfl, rfl, rfl⟩ := hcs
    have hrl : ((List.range len).map fun r => (⟨A r, C r, (Z r).take (L r)⟩ : IRow)).length = len := by simp
    have hlen : ∀ r, r < cap → ((Z r).take (L r)).length = L r := fun r hr => by
      obtain ⟨_, h1, _, h2, _⟩ := hcell r hr
      rw [List.length_take]
      omega
    refine ⟨some x, cap, (List.range len).map fun r => ⟨A r, C r, (Z r).take (L r)⟩, by rw [hrl], by rw [hrl]; exact hl, hm, (fun h => by cases h), fun i u hu => ?_, fun r hr => ?_⟩
    · have hil : i < len := by
        have := (List.getElem?_eq_some_iff.1 hu).1
        simpa using this
      rw [List.getElem?_map, List.getElem?_map, List.getElem?_range hil] at hu
      simp only [Option.map_some, Option.some.injEq, IRow.val] at hu
      rw [hlen i (by omega)] at hu
      subst hu
      have hcl := (hcell i (by omega)).1
      obtain ⟨b, off, spot⟩ := x
      have hs : spot = none := by simpa [Addr.add] using World.cell?_spot (hcell 0 (by omega)).1
      subst hs
      have hadd : (⟨b, off, none⟩ : Addr).add i = ⟨b, off + i, none⟩ := by unfold Addr.add; split <;> simp_all
      rw [hadd] at hcl
      exact ⟨b, off, rfl, World.block_lt_of_cell? W _ hcl, hcl⟩
    · obtain ⟨i, hir, rfl⟩ := List.mem_map.1 hr
      have hil : i < len := List.mem_range.1 hir
      obtain ⟨_, h1, h2, h3, h4, h5, h6⟩ := hcell i (by omega)
      refine ⟨by rw [hlen i (by omega)]; exact h1, h2, h5, fun j y hy => ?_, fun y hy => h4 y (List.mem_of_mem_take hy)⟩
      have hj : j < L i := by
        have := (List.getElem?_eq_some_iff.1 hy).1
        rw [hlen i (by omega)] at this
        exact this
      rw [List.getElem?_take_of_lt hj] at hy
      cases ha : A i with
      | none => have := h5 ha; omega
      | some a' =>
        have hc := (h6 a' ha).2
        have hcl := hc j (by omega)
        have hyv : (Z i).getD j 0 = y := by rw [List.getD_eq_getElem?_getD, hy]; rfl
        rw [hyv] at hcl
        obtain ⟨b, off, spot⟩ := a'
        have hs : spot = none := by simpa [Addr.add] using World.cell?_spot (hc 0 (by omega))
        subst hs
        have hadd : (⟨b, off, none⟩ : Addr).add j = ⟨b, off + j, none⟩ := by unfold Addr.add; split <;> simp_all
        rw [hadd] at hcl
        exact ⟨b, off, rfl, World.block_lt_of_cell? W _ hcl, hcl⟩
end
end

/- MANY THINGS AS ONE, that lie apart from each other, too. No program is named here. -/
section
open Go.RowKit

def apartR (r s : Res) : Prop := ∀ k : Nat, k ∈ r.bl → k ∉ s.bl
def eachR (rs : List Res) : Res :=
  ⟨rs.flatMap Res.bl, fun w => (∀ r ∈ rs, r.P w) ∧ rs.Pairwise apartR, fun w w' h hp => ⟨fun r hr => r.stays w w' (fun k hk => h k (List.mem_flatMap.2 ⟨r, hr, hk⟩)) (hp.1 r hr), hp.2⟩,
   fun w hp k hk => by
      obtain ⟨r, hr, hk'⟩ := List.mem_flatMap.1 hk
      exact r.lies w (hp.1 r hr) k hk'⟩
/-- The one thing falls apart. -/
theorem Sep.explode {S : List Nat} {w0 w : World} {rs L : List Res} (h : Sep S w0 w (eachR rs :: L)) : Sep S w0 w (rs ++ L) := by
  have hp := List.pairwise_cons.1 h.apart
  have hP : (∀ r ∈ rs, r.P w) ∧ rs.Pairwise apartR := h.holds (eachR rs) (by simp)
  refine ⟨h.frm, fun r hr => ?_, List.pairwise_append.2 ⟨hP.2, hp.2, fun r hr s hs k hk => hp.1 s hs k (List.mem_flatMap.2 ⟨r, hr, hk⟩)⟩, fun r hr k hk => ?_⟩
  · rcases List.mem_append.1 hr with hr | hr
    · exact hP.1 r hr
    · exact h.holds r (by simp [hr])
  · rcases List.mem_append.1 hr with hr | hr
    · exact h.mine (eachR rs) (by simp) k (List.mem_flatMap.2 ⟨r, hr, hk⟩)
    · exact h.mine r (by simp [hr]) k hk
theorem Sep.gather1 {S : List Nat} {w0 w : World} {rs L : List Res} (h : Sep S w0 w (rs ++ L)) : Sep S w0 w (eachR rs :: L) := by
  obtain ⟨h1, h2, h3⟩ := List.pairwise_append.1 h.apart
  refine ⟨h.frm, fun r hr => ?_, List.Pairwise.cons (fun s hs k hk hks => ?_) h2, fun r hr k hk => ?_⟩
  · rcases List.mem_cons.1 hr with rfl | hr
    · exact ⟨fun r hr => h.holds r (by simp [hr]), h1⟩
    · exact h.holds r (by simp [hr])
  · obtain ⟨r, hr, hk'⟩ := List.mem_flatMap.1 hk
    exact h3 r hr s hs k hk' hks
  · rcases List.mem_cons.1 hr with rfl | hr
    · obtain ⟨r, hr, hk'⟩ := List.mem_flatMap.1 hk
      exact h.mine r (by simp [hr]) k hk'
    · exact h.mine r (by simp [hr]) k hk
theorem Sep.shuffle {S : List Nat} {w0 w : World} {L L' : List Res} (h : Sep S w0 w L) (hp : L.Perm L') : Sep S w0 w L' :=
  ⟨h.frm, fun r hr => h.holds r (hp.mem_iff.2 hr), (hp.pairwise_iff (fun {a b} hab => fun k hk hk' => hab k hk' hk)).1 h.apart, fun r hr => h.mine r (hp.mem_iff.2 hr)⟩
theorem Sep.enone {S : List Nat} {w0 w : World} {L : List Res} (h : Sep S w0 w L) : Sep S w0 w (eachR [] :: L) := Sep.gather1 (rs := []) h
/-- A thing goes to the many. -/
theorem Sep.einto {S : List Nat} {w0 w : World} {r o : Res} {rs : List Res} {L : List Res} (h : Sep S w0 w (r :: o :: eachR rs :: L)) : Sep S w0 w (o :: eachR (rs ++ [r]) :: L) := by
  have h1 : Sep S w0 w (eachR rs :: r :: o :: L) := h.shuffle (((List.Perm.swap _ _ _).cons _).trans (List.Perm.swap _ _ _))
  have h2 : Sep S w0 w ((rs ++ [r]) ++ (o :: L)) := by
    have := h1.explode
    rwa [List.append_assoc]
  exact h2.gather1.shuffle (List.Perm.swap _ _ _)
/-- Two many things as one. -/
theorem Sep.ejoin {S : List Nat} {w0 w : World} {r : Res} {rs : List Res} {L : List Res} (h : Sep S w0 w (r :: eachR rs :: L)) : Sep S w0 w (eachR (r :: rs) :: L) := by
  have h1 : Sep S w0 w (eachR rs :: r :: L) := h.shuffle (List.Perm.swap _ _ _)
  have h2 := h1.explode
  exact Sep.gather1 (rs := r :: rs) (h2.shuffle List.perm_middle)
theorem Sep.epart {S : List Nat} {w0 w : World} {r : Res} {rs : List Res} {L : List Res} (h : Sep S w0 w (eachR (r :: rs) :: L)) : Sep S w0 w (r :: eachR rs :: L) := by
  have h2 : Sep S w0 w ((r :: rs) ++ L) := h.explode
  have h3 : Sep S w0 w (rs ++ r :: L) := h2.shuffle List.perm_middle.symm
  exact h3.gather1.shuffle (List.Perm.swap _ _ _)
/-- One of the many, taken out and put back. -/
theorem Sep.eout {S : List Nat} {w0 w : World} {r : Res} {A B : List Res} {L : List Res} (h : Sep S w0 w (eachR (A ++ r :: B) :: L)) : Sep S w0 w (r :: eachR (A ++ B) :: L) := by
  have h2 : Sep S w0 w ((A ++ r :: B) ++ L) := h.explode
  have h3 : Sep S w0 w ((A ++ B) ++ r :: L) := h2.shuffle (by
    have h1 : (A ++ r :: B ++ L).Perm (r :: (A ++ B) ++ L) := (List.perm_middle).append_right L
    exact h1.trans (List.perm_middle).symm)
  exact h3.gather1.shuffle (List.Perm.swap _ _ _)
theorem Sep.eback {S : List Nat} {w0 w : World} {r : Res} {A B : List Res} {L : List Res} (h : Sep S w0 w (r :: eachR (A ++ B) :: L)) : Sep S w0 w (eachR (A ++ r :: B) :: L) := by
  have h1 : Sep S w0 w (eachR (A ++ B) :: r :: L) := h.shuffle (List.Perm.swap _ _ _)
  have h2 : Sep S w0 w ((A ++ B) ++ r :: L) := h1.explode
  exact Sep.gather1 (h2.shuffle (by
    have h1 : (A ++ r :: B ++ L).Perm (r :: (A ++ B) ++ L) := (List.perm_middle).append_right L
    exact (h1.trans (List.perm_middle).symm).symm))
end

/- WHAT ENDS A READING IS CAUGHT: wire's catch, as a deferred call of a frame that panics, and of one that returns. -/
section
open Go.RowKit

theorem catch_idle (p : Addr) (w : World) :
    CallsD Tryd.prog 76 #[.pointer (some p)] .returning w fun e u' w' => e = .returned (.tuple #[]) ∧ u' = .returning ∧ w' = w := by
  refine callsD_of_wpS Tryd.func76 rfl fun c₀ cs hu => ?_
  apply wpS_seq
  apply wpS_region
  simp [wpOpsS, go_sem, recoverD, hu, Tryd.ntmps76, Exit.thenS]
  apply wpS_of_wp
  go_wp2_with fail
  cases c₀
  simp_all [bodyPostS, results, Tryd.results76]
set_option maxRecDepth 100000 in
set_option maxHeartbeats 4000000 in
theorem catch_fault (b : Nat) (e : Int) (x : Int) (w : World) (hb : Blk w b 30 #[.int .i64 x]) :
    CallsD Tryd.prog 76 #[.pointer (some ⟨b, 0, none⟩)] (.panicking (faultV e)) w fun y u' w' => y = .returned (.tuple #[]) ∧ settle u' = .returning ∧ w' = (w.alloc (.cells #[.int .i64 e] 118)).setCell ⟨b, 0, none⟩ (.int .i64 e) := by
  refine callsD_of_wpS Tryd.func76 rfl fun c₀ cs hu => ?_
  have hta : ∀ (v : Value) (W : World), (Instr.typeAssert (.iface 118 v) 20 118 true).run Tryd.prog W = .ok (.tuple #[v, .bool true]) W := fun v W => by
    kernel_rfl
  have hc := (hb.alloc (.cells #[.int .i64 e] 118)).cell 0 rfl
  have hz := (hb.alloc (.cells #[.int .i64 e] 118)).free 0
  unfold faultV at hu
  apply wpS_seq
  apply wpS_region
  simp [wpOpsS, go_sem, recoverD, hu, Tryd.ntmps76, Exit.thenS]
  apply wpS_of_wp
  change Code.wp _ _ _ { tmps := #[.pointer (some ⟨b, 0, none⟩), undef, undef, undef, undef, .iface 118 (.agg #[.int .i64 e]), undef, undef, undef, undef, undef, undef, undef, undef, undef], defers := [] } w
  go_wp2_with fail
  exact ⟨rfl, _, rfl, _, results_none rfl _ _ _, rfl, rfl, rfl⟩

/-- f has a body. -/
def CallsF (f : FuncId) : Prop := ∀ (args : Array Value) (W : World), (callFunc f args).run Tryd.prog W = .ok (.enter f args) W
/-- What a closure reads of the bytes zs: a value, things in memory, the place behind. -/
def Reads (f : FuncId) (caps : Array Value) (w : World) (a : Option Addr) (c : Nat) (zs : List Int) (Ok : Value → List Res → Nat → Prop) : Prop :=
  ∀ W g, Frm [] w W → w.heap.size ≤ g → Rdr W g a c zs 0 → Calls Tryd.prog f (#[.pointer (some ⟨g, 0, none⟩)] ++ caps) W fun x W' => ∃ v L n, x = .returned v ∧ Ok v L n ∧ n ≤ zs.length ∧ Sep [g] W W' (blkR g 114 #[.slice a zs.length c, .int .i64 (n : Int)] :: L)
/-- .. or the error that ends it. -/
def Ends (f : FuncId) (caps : Array Value) (w : World) (a : Option Addr) (c : Nat) (zs : List Int) (e : Int) : Prop :=
  ∀ W g, Frm [] w W → w.heap.size ≤ g → Rdr W g a c zs 0 → Calls Tryd.prog f (#[.pointer (some ⟨g, 0, none⟩)] ++ caps) W fun x W' => x = .panicked (faultV e) ∧ Frm [g] W W'
end

/- THINGS THAT LIE APART, PICKED BY THEIR PLACES. No program is named here. -/
section
open Go.RowKit

theorem filterMap_at {α : Type} (L : List α) : ∀ (is : List Nat) (a : Nat) (x : α), is.Nodup → (is.filterMap fun i => L[i]?)[a]? = some x → ∃ i, i ∈ is ∧ L[i]? = some x := by
  intro is a x _ h
  have := List.mem_of_getElem? h
  rw [List.mem_filterMap] at this
  obtain ⟨i, hi, hx⟩ := this
  exact ⟨i, hi, hx⟩
theorem pairwise_filterMap_at {L : List Res} (hp : L.Pairwise (fun r s => ∀ k ∈ r.bl, k ∉ s.bl)) : ∀ is : List Nat, is.Nodup → (is.filterMap fun i => L[i]?).Pairwise (fun r s => ∀ k ∈ r.bl, k ∉ s.bl)
  | [], _ => by simp
  | i :: is, hd => by
    rw [List.nodup_cons] at hd
    have ih := pairwise_filterMap_at hp is hd.2
    rw [List.filterMap_cons]
    cases hi : L[i]? with
    | none => exact ih
    | some r =>
      refine List.Pairwise.cons (fun s hs k hk hk' => ?_) ih
      rw [List.mem_filterMap] at hs
      obtain ⟨j, hj, hjs⟩ := hs
      have hij : i ≠ j := fun e => hd.1 (e ▸ hj)
      obtain ⟨h1, e1⟩ := List.getElem?_eq_some_iff.1 hi
      obtain ⟨h2, e2⟩ := List.getElem?_eq_some_iff.1 hjs
      rcases Nat.lt_or_ge i j with hlt | hge
      · have := List.pairwise_iff_getElem.1 hp i j h1 h2 hlt
        rw [e1, e2] at this
        exact this k hk hk'
      · have := List.pairwise_iff_getElem.1 hp j i h2 h1 (by omega)
        rw [e1, e2] at this
        exact this k hk' hk
/-- The things at these places. -/
theorem Sep.at_ {S : List Nat} {w0 w : World} {L L' : List Res} (h : Sep S w0 w L) (is : List Nat) (hd : is.Nodup) (hL : (is.filterMap fun i => L[i]?) = L') : Sep S w0 w L' := by
  subst hL
  have hm : ∀ r ∈ is.filterMap (fun i => L[i]?), r ∈ L := fun r hr => by
    rw [List.mem_filterMap] at hr
    obtain ⟨i, _, hi⟩ := hr
    exact List.mem_of_getElem? hi
  exact ⟨h.frm, fun r hr => h.holds r (hm r hr), pairwise_filterMap_at h.apart is hd, fun r hr => h.mine r (hm r hr)⟩
/-- A new block, its number as the walk spells it. -/
theorem blk_made_at {w : World} {g : Nat} {t : TypeId} {cs : Array Value} (hg : g = w.heap.size) : Blk (w.alloc (.cells cs t)) g t cs := by subst hg; exact Blk.made w t cs
end

/- A GREAT REGION THAT DRAWS ITS ORDER, walked once: in an order that the prover names, each operation is either the only one that may come up, or yields one value in every world that meets S and is taken ahead. One check of the whole order, read off lists. No program is named here. -/
section
open Go.RowKit

/-- An operation, its place, and whether it is the only one (true) or one taken ahead (false). -/
abbrev MOp := Oper × Nat × Bool
def mixOf (l : List Oper) (perm : List (Nat × Bool)) : List MOp := perm.filterMap fun p => (l[p.1]?).map fun o => (o, p.1, p.2)
def mixGo (n : Nat) (ops : Array Oper) : List MOp → Bool
  | [] => true
  | (o, i, fl) :: rest =>
    o.after.all (fun e => !Region.binds .any e || (decide (e.on < n) && (e.on != i && rest.all fun r => r.2.1 != e.on))) &&
    rest.all (fun r => r.2.1 != i) &&
    (if fl then rest.all fun r => r.1.after.any fun e => Region.binds .any e && (e.on == i || rest.any fun q => q.2.1 == e.on)
     else rest.all fun r => (r.1.after.any fun e => Region.binds .any e && e.on == i) || o.apart ops r.1) && mixGo n ops rest
def mixAll (n : Nat) (ms : List MOp) : Bool := (List.range n).all fun j => ms.any fun r => r.2.1 == j

section
variable {P : Program} {ops : Array Oper} {Q : Exit → Act → World → Prop} {S : World → Prop}

def wpMix (P : Program) (ops : Array Oper) (Q : Exit → Act → World → Prop) (S : World → Prop) : List MOp → Act → World → Prop
  | [], a, w => Q .normal a w
  | (o, _, true) :: rest, a, w => if Region.wanted o (yielded ops a.tmps) then o.wp P a w (fun a' w' => S w' ∧ wpMix P ops Q S rest a' w') Q else S w ∧ wpMix P ops Q S rest (a.put o.dst undef) w
  | (o, _, false) :: rest, a, w => ∃ v, YieldsIf P ops S o v a ∧ S w ∧ wpMix P ops Q S rest (a.put o.dst v) w

theorem mix_free {o : Oper} {i d : Nat} {rest : List MOp} {a : Act} {w : World} (v : Value) (hd : o.dst = some d) (hy : YieldsIf P ops S o v a) (hS : S w) (h : wpMix P ops Q S rest (a.put (some d) v) w) :
    wpMix P ops Q S ((o, i, false) :: rest) a w := ⟨v, hy, hS, hd ▸ h⟩
theorem mix_only {o : Oper} {i : Nat} {rest : List MOp} {a : Act} {w : World}
    (h : ∀ K' : Act → World → Prop, Shut (∀ a w, S w → (S w → wpMix P ops Q S rest a w) → K' a w) → if Region.wanted o (yielded ops a.tmps) = true then Oper.wp P o a w K' Q else K' (a.put o.dst undef) w) :
    wpMix P ops Q S ((o, i, true) :: rest) a w := h (fun a' w' => S w' ∧ wpMix P ops Q S rest a' w') (fun a w hS hW => ⟨hS, hW hS⟩)

theorem held_of_mix (hm : ∀ c a w d v, Q (.panic c) (Act.put a d v) w → Q (.panic c) a w) (hsel : Region.noSelect ops = true) : ∀ (ms : List MOp) (listed : Array Bool) (a : Act) (w : World),
    (∀ r ∈ ms, ops[r.2.1]? = some r.1) → listed.size = ops.size → (∀ r ∈ ms, listed.getD r.2.1 true = false) → (∀ j, listed.getD j true = false → ∃ r ∈ ms, r.2.1 = j) → mixGo ops.size ops ms = true →
    wpMix P ops Q S ms a w → wpAnyH P .any ops Q S ms.length listed a w
  | [], listed, a, w, _, hz, _, h2, _, h => by
    refine ⟨?_, h⟩
    cases hr : Region.ready .any ops listed with
    | nil => rfl
    | cons x xs =>
      have hx : x ∈ Region.ready .any ops listed := by rw [hr]; simp
      obtain ⟨r, hm, _⟩ := h2 x (mem_ready.1 hx).1
      cases hm
  | (o, i, fl) :: rest, listed, a, w, h0, hz, h1, h2, hB, h => by
    simp only [mixGo, Bool.and_eq_true] at hB
    obtain ⟨⟨⟨hrd, hne⟩, hfl⟩, hB'⟩ := hB
    have ho : ops[i]? = some o := h0 (o, i, fl) (by simp)
    have hiz : i < listed.size := by rw [hz]; exact (Array.getElem?_eq_some_iff.1 ho).1
    have hun : listed.getD i true = false := h1 (o, i, fl) (by simp)
    have hne' : ∀ r ∈ rest, r.2.1 ≠ i := fun r hr => by have := List.all_eq_true.1 hne r hr; simpa using this
    have gets : ∀ j, j < listed.size → (listed.getD j false = true ↔ ¬ listed.getD j true = false) := fun j hj => by simp [hj]
    have hedge : ∀ e ∈ o.after, Region.binds .any e = true → e.on < ops.size ∧ e.on ≠ i ∧ ∀ r ∈ rest, r.2.1 ≠ e.on := fun e he hb => by
      have h3 := Array.all_eq_true_iff_forall_mem.1 hrd e he
      simp only [hb, Bool.not_true, Bool.false_or, Bool.and_eq_true, decide_eq_true_eq, bne_iff_ne, List.all_eq_true] at h3
      exact ⟨h3.1, h3.2.1, fun r hr => h3.2.2 r hr⟩
    have hready : i ∈ Region.ready .any ops listed := mem_ready.2 ⟨hun, o, ho, fun e he hb => by
      obtain ⟨e1, e2, e3⟩ := hedge e he hb
      rw [gets e.on (by rw [hz]; exact e1)]
      intro hf
      obtain ⟨r, hr, hre⟩ := h2 e.on hf
      rcases List.mem_cons.1 hr with rfl | hr
      · exact e2 hre.symm
      · exact e3 r hr hre⟩
    have hset1 : ∀ r ∈ rest, (listed.setIfInBounds i true).getD r.2.1 true = false := fun r hr => by
      have h3 := h1 r (by simp [hr])
      have hri := hne' r hr
      have hrz : r.2.1 < listed.size := by
        rcases Nat.lt_or_ge r.2.1 listed.size with h4 | h4
        · exact h4
        · simp [Array.getElem?_eq_none h4] at h3
      simp [Array.getElem?_setIfInBounds, Ne.symm hri, hrz] at h3 ⊢
      exact h3
    have hset2 : ∀ j, (listed.setIfInBounds i true).getD j true = false → ∃ r ∈ rest, r.2.1 = j := fun j hj => by
      by_cases hji : j = i
      · subst hji; simp [hiz] at hj
      · have h3 : listed.getD j true = false := by
          simp [Array.getElem?_setIfInBounds, Ne.symm hji] at hj ⊢
          exact hj
        obtain ⟨r, hr, hre⟩ := h2 j h3
        rcases List.mem_cons.1 hr with rfl | hr
        · exact absurd hre.symm hji
        · exact ⟨r, hr, hre⟩
    have next : ∀ a' w', wpMix P ops Q S rest a' w' → wpAnyH P .any ops Q S rest.length (listed.setIfInBounds i true) a' w' := fun a' w' h' =>
      held_of_mix hm hsel rest _ a' w' (fun r hr => h0 r (by simp [hr])) (by simpa using hz) hset1 hset2 hB' h'
    rw [List.length_cons]
    cases fl with
    | true =>
      refine ⟨fun h3 => (by rw [h3] at hready; cases hready), fun j hj => ?_⟩
      have hji : j = i := by
        obtain ⟨hjun, oj, hoj, hall⟩ := mem_ready.1 hj
        obtain ⟨r, hr, hre⟩ := h2 j hjun
        rcases List.mem_cons.1 hr with rfl | hr
        · exact hre.symm
        · exfalso
          simp only [if_true] at hfl
          have h3 := List.all_eq_true.1 hfl r hr
          obtain ⟨q, hq, h4⟩ := Array.any_eq_true.1 h3
          simp only [Bool.and_eq_true, Bool.or_eq_true, beq_iff_eq, List.any_eq_true] at h4
          have hro : r.1 = oj := by have := h0 r (by simp [hr]); rw [hre, hoj] at this; exact (Option.some.inj this).symm
          have h5 := hall _ (hro ▸ Array.getElem_mem hq) h4.1
          rcases h4.2 with h6 | ⟨q2, hq2, h6⟩
          · rw [h6, gets i hiz] at h5
            exact h5 hun
          · rw [← h6] at h5
            have h7 := h1 q2 (by simp [hq2])
            have hz2 : q2.2.1 < listed.size := by
              rcases Nat.lt_or_ge q2.2.1 listed.size with h8 | h8
              · exact h8
              · simp [Array.getElem?_eq_none h8] at h7
            rw [gets _ hz2] at h5
            exact h5 h7
      subst hji
      unfold wpOp
      simp only [ho]
      unfold wpMix at h
      split
      · rename_i hw
        rw [if_pos hw] at h
        exact .inl (Oper.wp_mono (fun a' w' h' => ⟨h'.1, next a' w' h'.2⟩) h)
      · rename_i hw
        rw [if_neg hw] at h
        exact ⟨h.1, next _ _ h.2⟩
    | false =>
      obtain ⟨v, hy, hS, h⟩ := h
      refine wpAnyH_first ho (Region.noSelect_spec hsel) (fun c a w => hm c a w _ _) rest.length listed a w (fun j oj hoj hji hjun hnot => ?_) hready hy hS (next _ _ h)
      obtain ⟨r, hr, hre⟩ := h2 j hjun
      rcases List.mem_cons.1 hr with rfl | hr
      · exact absurd hre.symm hji
      · have hfl' : (rest.all fun r => (r.1.after.any fun e => Region.binds .any e && e.on == i) || o.apart ops r.1) = true := hfl
        have h3 := List.all_eq_true.1 hfl' r hr
        have hro : r.1 = oj := by have := h0 r (by simp [hr]); rw [hre, hoj] at this; exact (Option.some.inj this).symm
        rw [Bool.or_eq_true] at h3
        rcases h3 with h3 | h3
        · exfalso
          obtain ⟨q, hq, h4⟩ := Array.any_eq_true.1 h3
          simp only [Bool.and_eq_true, beq_iff_eq] at h4
          exact hnot _ (hro ▸ Array.getElem_mem hq) h4.1 h4.2
        · rw [← hro]; exact h3

/-- A region in the order 'perm'. -/
theorem region_mix {id : Nat} {a : Act} {w : World} {l : List Oper} (perm : List (Nat × Bool)) (S : World → Prop) (hm : P.follows .mixedOrders = true) (hsel : Region.noSelect l.toArray = true)
    (hlen : (mixOf l perm).length = l.length) (hall : mixAll l.length (mixOf l perm) = true) (hB : mixGo l.length l.toArray (mixOf l perm) = true)
    (h : wpMix P l.toArray (NoPanic Q) S (mixOf l perm) a w.drew) : (Code.region id l.toArray true).wp P Q a w := by
  refine wp_region_noPanic (wp_region_any hm ?_)
  have hz : l.toArray.size = l.length := by simp
  have := held_of_mix (P := P) (ops := l.toArray) (Q := NoPanic Q) (S := S) (fun c a w d v h => h.elim) hsel (mixOf l perm) (Array.replicate l.toArray.size false) a w.drew (fun r hr => by
    unfold mixOf at hr
    obtain ⟨p, _, hp⟩ := List.mem_filterMap.1 hr
    obtain ⟨o, ho, rfl⟩ := Option.map_eq_some_iff.1 hp
    simpa using ho) (by simp) (fun r hr => by
    unfold mixOf at hr
    obtain ⟨p, _, hp⟩ := List.mem_filterMap.1 hr
    obtain ⟨o, ho, rfl⟩ := Option.map_eq_some_iff.1 hp
    have : p.1 < l.length := (List.getElem?_eq_some_iff.1 ho).1
    simp [this]) (fun j hj => by
    have hjl : j < l.length := by
      rcases Nat.lt_or_ge j l.length with h3 | h3
      · exact h3
      · have h4 : (Array.replicate l.toArray.size false).getD j true = true := by simp [h3]
        rw [h4] at hj; cases hj
    have h3 := List.all_eq_true.1 hall j (List.mem_range.2 hjl)
    obtain ⟨r, hr, hre⟩ := List.any_eq_true.1 h3
    exact ⟨r, hr, by simpa using hre⟩) (by rw [hz]; exact hB) h
  rw [hlen, ← hz] at this
  exact wpAny_of_held _ _ _ _ this
end
end

/- A GREAT REGION THAT DRAWS ITS ORDER, walked once in its listed order, in stretches: quiet operations (moves, loads, sums: no calls), then one operation that is the only one that may come up (a call, an allocation, an append). Every such operation makes new memory alone, or writes to blocks of G that nothing in the region reads ('Frm G'); so what was loaded ahead is what would be loaded later. No program is named here. -/
section
open Go.RowKit

/-- No operation that may enter a function. -/
def noEnter (o : Oper) : Bool :=
  match o.op with
  | .move _ | .assign _ | .pick _ _ _ | .build _ _ | .load _ _ | .binOp _ _ _ _ _ | .unOp _ _ _ | .convert _ _ _ | .fieldAddr _ _ _ | .field _ _ _ | .indexAddr _ _ _ | .index _ _ _ | .extract _ _ | .slice _ _ _ _ _ | .nilCheck _ => true
  | .call c => match c.callee with
    | .builtin .len | .builtin .cap | .builtin .min | .builtin .max => true
    | _ => false
  | _ => false

theorem run_ret {α : Type} {P : Program} {s : Sem α} {f : α → Value} {w w' : World} {n : Next} (h : (do let x ← s; pure (Next.value (f x)) : Sem Next).run P w = .ok n w') : ∃ v, n = .value v := by
  simp only [Sem.run_bind, Sem.run_pure] at h
  cases hr : s.run P w with
  | ok x w1 => rw [hr] at h; simp only [Result.andThen] at h; injection h with h1 h2; exact ⟨_, h1.symm⟩
  | halt x w1 => rw [hr] at h; simp only [Result.andThen] at h; cases h

theorem andThen_ok {α β : Type} {r : Result α} {f : α → World → Result β} {n : β} {w' : World} (h : r.andThen f = .ok n w') : ∃ a w1, r = .ok a w1 ∧ f a w1 = .ok n w' := by
  cases r with
  | ok a w1 => exact ⟨a, w1, rfl, h⟩
  | halt x w1 => simp only [Result.andThen] at h; cases h
theorem noEnter_value {P : Program} {ρ : Operand → Value} {o : Oper} (hk : noEnter o = true) {w w' : World} {n : Next} (h : (execOp ρ o).run P w = .ok n w') : ∃ v, n = .value v := by
  unfold noEnter at hk
  unfold execOp at h
  split at hk
  all_goals (rename_i ho; simp only [ho] at h)
  case h_1 | h_2 => simp only [Sem.run_pure] at h; injection h with h1 h2; exact ⟨_, h1.symm⟩
  case h_3 => exact run_ret (f := fun b : Bool => if b then _ else _) (by simpa using h)
  case h_15 =>
    split at h
    · change Result.halt _ _ = Result.ok _ _ at h; cases h
    · change Result.halt _ _ = Result.ok _ _ at h; cases h
    · change Result.halt _ _ = Result.ok _ _ at h; cases h
    · split at h
      · change Result.halt _ _ = Result.ok _ _ at h; cases h
      · rw [Sem.run_bind] at h
        obtain ⟨p, w1, _, h⟩ := andThen_ok h
        rw [Sem.run_bind] at h
        obtain ⟨b, w2, _, h⟩ := andThen_ok h
        split at h
        · rw [Sem.run_bind] at h
          obtain ⟨u, w3, _, h⟩ := andThen_ok h
          rw [Sem.run_pure] at h
          injection h with h1 h2
          exact ⟨_, h1.symm⟩
        · rw [Sem.run_pure] at h
          injection h with h1 h2
          exact ⟨_, h1.symm⟩
      · rw [Sem.run_pure] at h
        injection h with h1 h2
        exact ⟨_, h1.symm⟩
    · rw [Sem.run_pure] at h
      injection h with h1 h2
      exact ⟨_, h1.symm⟩
  case h_16 =>
    split at hk
    all_goals (rename_i hc; simp [resolve, hc, invoke, builtin] at h; first | exact run_ret (f := id) (by simpa using h) | cases hk)
  case h_17 => cases hk
  case h_6 =>
    simp only [Sem.run_bind, Sem.run_pure] at h
    cases hr : (eqGuard _ _ _ _ (ρ _) (ρ _)).run P w with
    | ok x w1 => rw [hr] at h; exact run_ret (f := id) (by simpa [Result.andThen] using h)
    | halt x w1 => rw [hr] at h; simp only [Result.andThen] at h; cases h
  all_goals exact run_ret (f := id) (by simpa using h)

/-- Quiet, and no call: one value, in every world of the class. -/
theorem strict_of_quiet {P : Program} {C : World → Prop} {o : Oper} {a : Act} {K : Act → Prop} (hk : noEnter o = true) (w : World) (hw : C w) (h : o.quiet P a C K) : ∃ v, (∀ w, C w → (execOp a.eval o).run P w = .ok (.value v) w) ∧ K (a.put o.dst v) := by
  obtain ⟨v, h1, h2⟩ := h
  refine ⟨v, fun w hw => ?_, h2⟩
  have h3 := h1 w hw
  unfold Oper.quietAt at h3
  generalize hr : (execOp a.eval o).run P w = r at h3 ⊢
  cases r with
  | ok n w' =>
    obtain ⟨u, rfl⟩ := noEnter_value hk hr
    obtain ⟨rfl, rfl⟩ := h3
    rfl
  | halt x w' => exact h3.elim

/-- The worlds that w leads to by new memory alone. -/
def FrC (G : List Nat) (w : World) : World → Prop := fun X => ∃ x : Cls (fun v => Frm G w v), X = x.world
theorem frC_iff {G : List Nat} {w X : World} : FrC G w X ↔ Frm G w X := ⟨fun ⟨x, h⟩ => h ▸ x.ok, fun h => ⟨⟨X, h⟩, rfl⟩⟩

section
variable {G : List Nat} {P : Program} {ops : Array Oper} {Q : Exit → Act → World → Prop}

theorem wpAnyH_mono {md : Region.Mode} {S T : World → Prop} (h : ∀ w, S w → T w) : ∀ (fuel : Nat) (listed : Array Bool) (a : Act) (w : World), wpAnyH P md ops Q S fuel listed a w → wpAnyH P md ops Q T fuel listed a w
  | 0, _, _, _, hh => hh
  | fuel + 1, _, _, _, hh => ⟨hh.1, fun i hi => wpOp_mono (fun a' w' h' => ⟨h _ h'.1, wpAnyH_mono h fuel _ _ _ h'.2⟩) (hh.2 i hi)⟩

def wpMixT (G : List Nat) (P : Program) (ops : Array Oper) (Q : Exit → Act → World → Prop) : List MOp → Act → World → Prop
  | [], a, w => Q .normal a w
  | (o, _, true) :: rest, a, w => if Region.wanted o (yielded ops a.tmps) then o.wp P a w (fun a' w' => Frm G w w' ∧ wpMixT G P ops Q rest a' w') Q ∨ (o.asks P a w ∧ LetsOut Q) else wpMixT G P ops Q rest (a.put o.dst undef) w
  | (o, _, false) :: rest, a, w => ∃ v, YieldsIf P ops (Frm G w) o v a ∧ wpMixT G P ops Q rest (a.put o.dst v) w

/-- S bears new memory. -/
def Bears1 (G : List Nat) (S : World → Prop) : Prop := ∀ X Y, S X → Frm G X Y → S Y

theorem held_of_mixT (hm : ∀ c a w d v, Q (.panic c) (Act.put a d v) w → Q (.panic c) a w) (hsel : Region.noSelect ops = true) : ∀ (ms : List MOp) (listed : Array Bool) (a : Act) (w : World),
    (∀ r ∈ ms, ops[r.2.1]? = some r.1) → listed.size = ops.size → (∀ r ∈ ms, listed.getD r.2.1 true = false) → (∀ j, listed.getD j true = false → ∃ r ∈ ms, r.2.1 = j) → mixGo ops.size ops ms = true →
    wpMixT G P ops Q ms a w → ∀ S : World → Prop, Bears1 G S → S w → wpAnyH P .any ops Q S ms.length listed a w
  | [], listed, a, w, _, hz, _, h2, _, h, S, _, _ => by
    refine ⟨?_, h⟩
    cases hr : Region.ready .any ops listed with
    | nil => rfl
    | cons x xs =>
      have hx : x ∈ Region.ready .any ops listed := by rw [hr]; simp
      obtain ⟨r, hm, _⟩ := h2 x (mem_ready.1 hx).1
      cases hm
  | (o, i, fl) :: rest, listed, a, w, h0, hz, h1, h2, hB, h, S, hSb, hSw => by
    simp only [mixGo, Bool.and_eq_true] at hB
    obtain ⟨⟨⟨hrd, hne⟩, hfl⟩, hB'⟩ := hB
    have ho : ops[i]? = some o := h0 (o, i, fl) (by simp)
    have hiz : i < listed.size := by rw [hz]; exact (Array.getElem?_eq_some_iff.1 ho).1
    have hun : listed.getD i true = false := h1 (o, i, fl) (by simp)
    have hne' : ∀ r ∈ rest, r.2.1 ≠ i := fun r hr => by have := List.all_eq_true.1 hne r hr; simpa using this
    have gets : ∀ j, j < listed.size → (listed.getD j false = true ↔ ¬ listed.getD j true = false) := fun j hj => by simp [hj]
    have hedge : ∀ e ∈ o.after, Region.binds .any e = true → e.on < ops.size ∧ e.on ≠ i ∧ ∀ r ∈ rest, r.2.1 ≠ e.on := fun e he hb => by
      have h3 := Array.all_eq_true_iff_forall_mem.1 hrd e he
      simp only [hb, Bool.not_true, Bool.false_or, Bool.and_eq_true, decide_eq_true_eq, bne_iff_ne, List.all_eq_true] at h3
      exact ⟨h3.1, h3.2.1, fun r hr => h3.2.2 r hr⟩
    have hready : i ∈ Region.ready .any ops listed := mem_ready.2 ⟨hun, o, ho, fun e he hb => by
      obtain ⟨e1, e2, e3⟩ := hedge e he hb
      rw [gets e.on (by rw [hz]; exact e1)]
      intro hf
      obtain ⟨r, hr, hre⟩ := h2 e.on hf
      rcases List.mem_cons.1 hr with rfl | hr
      · exact e2 hre.symm
      · exact e3 r hr hre⟩
    have hset1 : ∀ r ∈ rest, (listed.setIfInBounds i true).getD r.2.1 true = false := fun r hr => by
      have h3 := h1 r (by simp [hr])
      have hri := hne' r hr
      have hrz : r.2.1 < listed.size := by
        rcases Nat.lt_or_ge r.2.1 listed.size with h4 | h4
        · exact h4
        · simp [Array.getElem?_eq_none h4] at h3
      simp [Array.getElem?_setIfInBounds, Ne.symm hri, hrz] at h3 ⊢
      exact h3
    have hset2 : ∀ j, (listed.setIfInBounds i true).getD j true = false → ∃ r ∈ rest, r.2.1 = j := fun j hj => by
      by_cases hji : j = i
      · subst hji; simp [hiz] at hj
      · have h3 : listed.getD j true = false := by
          simp [Array.getElem?_setIfInBounds, Ne.symm hji] at hj ⊢
          exact hj
        obtain ⟨r, hr, hre⟩ := h2 j h3
        rcases List.mem_cons.1 hr with rfl | hr
        · exact absurd hre.symm hji
        · exact ⟨r, hr, hre⟩
    have next : ∀ a' w', wpMixT G P ops Q rest a' w' → ∀ S : World → Prop, Bears1 G S → S w' → wpAnyH P .any ops Q S rest.length (listed.setIfInBounds i true) a' w' := fun a' w' h' =>
      held_of_mixT hm hsel rest _ a' w' (fun r hr => h0 r (by simp [hr])) (by simpa using hz) hset1 hset2 hB' h'
    rw [List.length_cons]
    cases fl with
    | true =>
      refine ⟨fun h3 => (by rw [h3] at hready; cases hready), fun j hj => ?_⟩
      have hji : j = i := by
        obtain ⟨hjun, oj, hoj, hall⟩ := mem_ready.1 hj
        obtain ⟨r, hr, hre⟩ := h2 j hjun
        rcases List.mem_cons.1 hr with rfl | hr
        · exact hre.symm
        · exfalso
          simp only [if_true] at hfl
          have h3 := List.all_eq_true.1 hfl r hr
          obtain ⟨q, hq, h4⟩ := Array.any_eq_true.1 h3
          simp only [Bool.and_eq_true, Bool.or_eq_true, beq_iff_eq, List.any_eq_true] at h4
          have hro : r.1 = oj := by have := h0 r (by simp [hr]); rw [hre, hoj] at this; exact (Option.some.inj this).symm
          have h5 := hall _ (hro ▸ Array.getElem_mem hq) h4.1
          rcases h4.2 with h6 | ⟨q2, hq2, h6⟩
          · rw [h6, gets i hiz] at h5
            exact h5 hun
          · rw [← h6] at h5
            have h7 := h1 q2 (by simp [hq2])
            have hz2 : q2.2.1 < listed.size := by
              rcases Nat.lt_or_ge q2.2.1 listed.size with h8 | h8
              · exact h8
              · simp [Array.getElem?_eq_none h8] at h7
            rw [gets _ hz2] at h5
            exact h5 h7
      subst hji
      unfold wpOp
      simp only [ho]
      unfold wpMixT at h
      split
      · rename_i hw
        rw [if_pos hw] at h
        exact h.imp (Oper.wp_mono (fun a' w' h' => ⟨hSb _ _ hSw h'.1, next a' w' h'.2 S hSb (hSb _ _ hSw h'.1)⟩)) id
      · rename_i hw
        rw [if_neg hw] at h
        exact ⟨hSw, next _ _ h S hSb hSw⟩
    | false =>
      obtain ⟨v, hy, h⟩ := h
      have hSb' : Bears1 G (fun X => S X ∧ Frm G w X) := fun X Y hX hXY => ⟨hSb X Y hX.1 hXY, hX.2.trans hXY⟩
      have hSw' : S w ∧ Frm G w w := ⟨hSw, Frm.refl _ _⟩
      have hy' : YieldsIf P ops (fun X => S X ∧ Frm G w X) o v a := hy.imp (fun ⟨h3, h4⟩ => ⟨h3, fun X hX => h4 X hX.2⟩) id
      refine wpAnyH_mono (S := fun X => S X ∧ Frm G w X) (fun _ h => h.1) _ _ _ _ ?_
      refine wpAnyH_first ho (Region.noSelect_spec hsel) (fun c a w => hm c a w _ _) rest.length listed a w (fun j oj hoj hji hjun hnot => ?_) hready hy' hSw' (next _ _ h _ hSb' hSw')
      obtain ⟨r, hr, hre⟩ := h2 j hjun
      rcases List.mem_cons.1 hr with rfl | hr
      · exact absurd hre.symm hji
      · have hfl' : (rest.all fun r => (r.1.after.any fun e => Region.binds .any e && e.on == i) || o.apart ops r.1) = true := hfl
        have h3 := List.all_eq_true.1 hfl' r hr
        have hro : r.1 = oj := by have := h0 r (by simp [hr]); rw [hre, hoj] at this; exact (Option.some.inj this).symm
        rw [Bool.or_eq_true] at h3
        rcases h3 with h3 | h3
        · exfalso
          obtain ⟨q, hq, h4⟩ := Array.any_eq_true.1 h3
          simp only [Bool.and_eq_true, beq_iff_eq] at h4
          exact hnot _ (hro ▸ Array.getElem_mem hq) h4.1 h4.2
        · rw [← hro]; exact h3

theorem wp_of_then2 {o : Oper} {a : Act} {w : World} {K L : Act → World → Prop} (h : o.wp P a w L (Exit.then K Q)) : o.wp P a w L Q := by
  unfold Oper.wp at *
  generalize (execOp a.eval o).run P w = r at *
  cases r with
  | ok n w' => cases n <;> exact h
  | _ => exact h
/-- The stretches: how many quiet operations lie ahead of each that is the only one. -/
def wpSegs (G : List Nat) (P : Program) (ops : Array Oper) (Q : Exit → Act → World → Prop) : List Nat → List Oper → Act → World → Prop
  | [], rem, a, w => wpQuiet P ops (fun X => ∃ x : Cls (fun v => Frm G w v), X = x.world) (fun a' => Q .normal a' w) rem a
  | n :: ns, rem, a, w => wpQuiet P ops (fun X => ∃ x : Cls (fun v => Frm G w v), X = x.world) (fun a' => wpList P ops (Exit.then (fun a'' w'' => Frm G w w'' ∧ wpSegs G P ops Q ns (rem.drop (n + 1)) a'' w'') Q) ((rem.drop n).take 1) a' w) (rem.take n) a
def segPerm : Nat → List Nat → Nat → List (Nat × Bool)
  | k, [], m => (List.range' k (m - k)).map fun i => (i, false)
  | k, n :: ns, m => (List.range' k n).map (fun i => (i, false)) ++ (k + n, true) :: segPerm (k + n + 1) ns m
def segSmall : Nat → List Nat → Nat → Bool
  | k, [], m => decide (k ≤ m)
  | k, n :: ns, m => decide (k + n < m) && segSmall (k + n + 1) ns m

theorem mix_frees {C : World → Prop} {l : List Oper} {w : World} (hC : ∀ X, C X ↔ Frm G w X) (K : Act → Prop) (ms : List MOp) : ∀ (n k : Nat) (a : Act), k + n ≤ l.length →
    ((mixOf l ((List.range' k n).map fun i => (i, false))).all fun r => noEnter r.1) = true → wpQuiet P ops C K ((l.drop k).take n) a → (∀ a', K a' → wpMixT G P ops Q ms a' w) → wpMixT G P ops Q (mixOf l ((List.range' k n).map fun i => (i, false)) ++ ms) a w
  | 0, k, a, _, _, h, hK => by simpa [mixOf] using hK a (by simpa [wpQuiet] using h)
  | n + 1, k, a, hk, hB, h, hK => by
    obtain ⟨o, ho⟩ : ∃ o, l[k]? = some o := ⟨_, List.getElem?_eq_getElem (by omega)⟩
    have e1 : (l.drop k).take (n + 1) = o :: (l.drop (k + 1)).take n := by
      rw [List.drop_eq_getElem_cons (show k < l.length by omega), List.take_succ_cons]
      congr 1
      have := List.getElem?_eq_getElem (show k < l.length by omega)
      rw [ho] at this
      exact (Option.some.inj this).symm
    have e2 : mixOf l ((List.range' k (n + 1)).map fun i => (i, false)) = (o, k, false) :: mixOf l ((List.range' (k + 1) n).map fun i => (i, false)) := by
      rw [List.range'_succ, List.map_cons]
      unfold mixOf
      rw [List.filterMap_cons]
      simp only [ho, Option.map_some]
    rw [e2] at hB ⊢
    rw [e1] at h
    rw [List.all_cons, Bool.and_eq_true] at hB
    rw [List.cons_append]
    unfold wpQuiet at h
    split at h
    · rename_i hw
      obtain ⟨v, h1, h2⟩ := strict_of_quiet hB.1 w ((hC w).2 (Frm.refl _ _)) h
      exact ⟨v, .inl ⟨hw, fun X hX => h1 X ((hC X).2 hX)⟩, mix_frees hC K ms n (k + 1) _ (by omega) hB.2 h2 hK⟩
    · rename_i hw
      exact ⟨undef, .inr ⟨by simpa using hw, rfl⟩, mix_frees hC K ms n (k + 1) _ (by omega) hB.2 h hK⟩

theorem mix_of_segs {l : List Oper} : ∀ (ns : List Nat) (k : Nat) (a : Act) (w : World), segSmall k ns l.length = true → ((mixOf l (segPerm k ns l.length)).all fun r => r.2.2 || noEnter r.1) = true →
    wpSegs G P ops Q ns (l.drop k) a w → wpMixT G P ops Q (mixOf l (segPerm k ns l.length)) a w
  | [], k, a, w, hs, hB, h => by
    unfold wpSegs at h
    simp only [segSmall, decide_eq_true_eq] at hs
    unfold segPerm at hB ⊢
    have h2 := mix_frees (G := G) (Q := Q) (P := P) (ops := ops) (C := (fun X => ∃ x : Cls (fun v => Frm G w v), X = x.world)) (l := l) (w := w) (fun X => frC_iff) (fun a' => Q .normal a' w) [] (l.length - k) k a (by omega) (by
      refine List.all_eq_true.2 fun r hr => ?_
      have h3 := List.all_eq_true.1 hB r hr
      obtain ⟨p, hp, he⟩ := List.mem_filterMap.1 hr
      obtain ⟨i, _, rfl⟩ := List.mem_map.1 hp
      obtain ⟨o, _, rfl⟩ := Option.map_eq_some_iff.1 he
      simpa using h3) (by rw [List.take_of_length_le (by simp)]; exact h) (fun a' h' => h')
    simpa using h2
  | n :: ns, k, a, w, hs, hB, h => by
    simp only [segSmall, Bool.and_eq_true, decide_eq_true_eq] at hs
    obtain ⟨o, ho⟩ : ∃ o, l[k + n]? = some o := ⟨_, List.getElem?_eq_getElem hs.1⟩
    have e1 : ((l.drop k).drop n).take 1 = [o] := by
      rw [List.drop_drop, List.drop_eq_getElem_cons hs.1, List.take_succ_cons, List.take_zero]
      congr 1
      have := List.getElem?_eq_getElem hs.1
      rw [ho] at this
      exact (Option.some.inj this).symm
    have e2 : mixOf l (segPerm k (n :: ns) l.length) = mixOf l ((List.range' k n).map fun i => (i, false)) ++ (o, k + n, true) :: mixOf l (segPerm (k + n + 1) ns l.length) := by
      rw [show segPerm k (n :: ns) l.length = (List.range' k n).map (fun i => (i, false)) ++ (k + n, true) :: segPerm (k + n + 1) ns l.length from rfl]
      unfold mixOf
      rw [List.filterMap_append, List.filterMap_cons]
      simp only [ho, Option.map_some]
    rw [e2] at hB ⊢
    rw [List.all_append, List.all_cons, Bool.and_eq_true, Bool.and_eq_true] at hB
    unfold wpSegs at h
    refine mix_frees (G := G) (C := (fun X => ∃ x : Cls (fun v => Frm G w v), X = x.world)) (fun X => frC_iff) _ _ n k a (by omega) ?_ h (fun a' h' => ?_)
    · refine List.all_eq_true.2 fun r hr => ?_
      have h3 := List.all_eq_true.1 hB.1 r hr
      obtain ⟨p, hp, he⟩ := List.mem_filterMap.1 hr
      obtain ⟨i, _, rfl⟩ := List.mem_map.1 hp
      obtain ⟨o, _, rfl⟩ := Option.map_eq_some_iff.1 he
      simpa using h3
    · rw [e1, List.drop_drop, show k + (n + 1) = k + n + 1 by omega] at h'
      unfold wpList at h'
      unfold wpMixT
      have nx : ∀ a'' w'', (Frm G w w'' ∧ wpSegs G P ops Q ns (l.drop (k + n + 1)) a'' w'') → Frm G w w'' ∧ wpMixT G P ops Q (mixOf l (segPerm (k + n + 1) ns l.length)) a'' w'' :=
        fun a'' w'' h5 => ⟨h5.1, mix_of_segs ns (k + n + 1) a'' w'' hs.2 hB.2.2 h5.2⟩
      split
      · rename_i hw
        rw [if_pos hw] at h'
        rcases h' with h' | h'
        · exact .inl (Oper.wp_mono (fun a'' w'' h5 => nx a'' w'' h5) (wp_of_then2 h'))
        · exact .inr h'
      · rename_i hw
        rw [if_neg hw] at h'
        exact (nx _ _ h').2

/-- A region that draws, in stretches. -/
theorem region_segs {id : Nat} {a : Act} {w : World} {l : List Oper} (ns : List Nat) (hm : P.follows .mixedOrders = true) (hsel : Region.noSelect l.toArray = true)
    (hs : segSmall 0 ns l.length = true) (hlen : (mixOf l (segPerm 0 ns l.length)).length = l.length) (hall : mixAll l.length (mixOf l (segPerm 0 ns l.length)) = true) (hB : mixGo l.length l.toArray (mixOf l (segPerm 0 ns l.length)) = true)
    (hF : ((mixOf l (segPerm 0 ns l.length)).all fun r => r.2.2 || noEnter r.1) = true)
    (h : wpSegs G P l.toArray (NoPanic Q) ns l a w.drew) : (Code.region id l.toArray true).wp P Q a w := by
  refine wp_region_noPanic (wp_region_any hm ?_)
  have hz : l.toArray.size = l.length := by simp
  have h' := mix_of_segs (G := G) (P := P) (ops := l.toArray) (Q := NoPanic Q) (l := l) ns 0 a w.drew hs hF (by simpa using h)
  have := held_of_mixT (G := G) (P := P) (ops := l.toArray) (Q := NoPanic Q) (fun c a w d v h => h.elim) hsel (mixOf l (segPerm 0 ns l.length)) (Array.replicate l.toArray.size false) a w.drew (fun r hr => by
    unfold mixOf at hr
    obtain ⟨p, _, hp⟩ := List.mem_filterMap.1 hr
    obtain ⟨o, ho, rfl⟩ := Option.map_eq_some_iff.1 hp
    simpa using ho) (by simp) (fun r hr => by
    unfold mixOf at hr
    obtain ⟨p, _, hp⟩ := List.mem_filterMap.1 hr
    obtain ⟨o, ho, rfl⟩ := Option.map_eq_some_iff.1 hp
    have : p.1 < l.length := (List.getElem?_eq_some_iff.1 ho).1
    simp [this]) (fun j hj => by
    have hjl : j < l.length := by
      rcases Nat.lt_or_ge j l.length with h3 | h3
      · exact h3
      · have h4 : (Array.replicate l.toArray.size false).getD j true = true := by simp [h3]
        rw [h4] at hj; cases hj
    have h3 := List.all_eq_true.1 hall j (List.mem_range.2 hjl)
    obtain ⟨r, hr, hre⟩ := List.any_eq_true.1 h3
    exact ⟨r, hr, by simpa using hre⟩) (by rw [hz]; exact hB) h' (fun _ => True) (fun _ _ _ _ => trivial) trivial
  rw [hlen, ← hz] at this
  exact wpAny_of_held _ _ _ _ this

/-- One operation that is the only one, what follows shut away. -/
theorem only_step {o : Oper} {a : Act} {w : World} {K : Act → World → Prop} (h : ∀ K' : Act → World → Prop, Shut (∀ a w, K a w → K' a w) → wpList P ops (Exit.then K' Q) [o] a w) : wpList P ops (Exit.then K Q) [o] a w :=
  h K (fun _ _ h => h)
end

/- A REGION THAT DRAWS, in stretches (XSgs), in an order that the prover names: where a quiet operation is listed behind a call that it does not wait for, it is taken ahead of it. No program is named here. -/
section
open Go.RowKit

def remOf (l : List Oper) (pi : List Nat) : List Oper := pi.filterMap fun i => l[i]?
def permP : List Nat → List Nat → List (Nat × Bool)
  | [], pi => pi.map fun i => (i, false)
  | n :: ns, pi => (pi.take n).map (fun i => (i, false)) ++ (((pi.drop n).take 1).map (fun i => (i, true)) ++ permP ns (pi.drop (n + 1)))

section
variable {G : List Nat} {P : Program} {ops : Array Oper} {Q : Exit → Act → World → Prop}

theorem remOf_take {l : List Oper} : ∀ (pi : List Nat) (n : Nat), (∀ i ∈ pi, i < l.length) → (remOf l pi).take n = remOf l (pi.take n)
  | [], n, _ => by simp [remOf]
  | i :: pi, 0, _ => by simp [remOf]
  | i :: pi, n + 1, h => by
    have hi := List.getElem?_eq_getElem (h i (by simp))
    have ih := remOf_take pi n (fun j hj => h j (by simp [hj]))
    unfold remOf at ih ⊢
    rw [List.take_succ_cons, List.filterMap_cons, List.filterMap_cons]
    simp only [hi, List.take_succ_cons, ih]
theorem remOf_drop {l : List Oper} : ∀ (pi : List Nat) (n : Nat), (∀ i ∈ pi, i < l.length) → (remOf l pi).drop n = remOf l (pi.drop n)
  | [], n, _ => by simp [remOf]
  | i :: pi, 0, _ => by simp [remOf]
  | i :: pi, n + 1, h => by
    have hi := List.getElem?_eq_getElem (h i (by simp))
    have ih := remOf_drop pi n (fun j hj => h j (by simp [hj]))
    unfold remOf at ih ⊢
    rw [List.drop_succ_cons, List.filterMap_cons]
    simp only [hi, List.drop_succ_cons, ih]

theorem mix_freesP {C : World → Prop} {l : List Oper} {w : World} (hC : ∀ X, C X ↔ Frm G w X) (K : Act → Prop) (ms : List MOp) : ∀ (pi : List Nat) (a : Act), (∀ i ∈ pi, i < l.length) →
    ((mixOf l (pi.map fun i => (i, false))).all fun r => noEnter r.1) = true → wpQuiet P ops C K (remOf l pi) a → (∀ a', K a' → wpMixT G P ops Q ms a' w) → wpMixT G P ops Q (mixOf l (pi.map fun i => (i, false)) ++ ms) a w
  | [], a, _, _, h, hK => by simpa [mixOf] using hK a (by simpa [wpQuiet, remOf] using h)
  | i :: pi, a, hk, hB, h, hK => by
    obtain ⟨o, ho⟩ : ∃ o, l[i]? = some o := ⟨_, List.getElem?_eq_getElem (hk i (by simp))⟩
    have e1 : remOf l (i :: pi) = o :: remOf l pi := by
      unfold remOf
      rw [List.filterMap_cons]
      simp only [ho]
    have e2 : mixOf l ((i :: pi).map fun i => (i, false)) = (o, i, false) :: mixOf l (pi.map fun i => (i, false)) := by
      rw [List.map_cons]
      unfold mixOf
      rw [List.filterMap_cons]
      simp only [ho, Option.map_some]
    rw [e2] at hB ⊢
    rw [e1] at h
    rw [List.all_cons, Bool.and_eq_true] at hB
    rw [List.cons_append]
    unfold wpQuiet at h
    split at h
    · rename_i hw
      obtain ⟨v, h1, h2⟩ := strict_of_quiet hB.1 w ((hC w).2 (Frm.refl _ _)) h
      exact ⟨v, .inl ⟨hw, fun X hX => h1 X ((hC X).2 hX)⟩, mix_freesP hC K ms pi _ (fun j hj => hk j (by simp [hj])) hB.2 h2 hK⟩
    · rename_i hw
      exact ⟨undef, .inr ⟨by simpa using hw, rfl⟩, mix_freesP hC K ms pi _ (fun j hj => hk j (by simp [hj])) hB.2 h hK⟩

theorem mix_of_segsP {l : List Oper} : ∀ (ns : List Nat) (pi : List Nat) (a : Act) (w : World), segSmall 0 ns pi.length = true → (∀ i ∈ pi, i < l.length) → ((mixOf l (permP ns pi)).all fun r => r.2.2 || noEnter r.1) = true →
    wpSegs G P ops Q ns (remOf l pi) a w → wpMixT G P ops Q (mixOf l (permP ns pi)) a w
  | [], pi, a, w, hs, hk, hB, h => by
    unfold wpSegs at h
    unfold permP at hB ⊢
    have h2 := mix_freesP (G := G) (Q := Q) (P := P) (ops := ops) (C := (fun X => ∃ x : Cls (fun v => Frm G w v), X = x.world)) (l := l) (w := w) (fun X => frC_iff) (fun a' => Q .normal a' w) [] pi a hk (by
      refine List.all_eq_true.2 fun r hr => ?_
      have h3 := List.all_eq_true.1 hB r hr
      obtain ⟨p, hp, he⟩ := List.mem_filterMap.1 hr
      obtain ⟨i, _, rfl⟩ := List.mem_map.1 hp
      obtain ⟨o, _, rfl⟩ := Option.map_eq_some_iff.1 he
      simpa using h3) h (fun a' h' => h')
    simpa using h2
  | n :: ns, pi, a, w, hs, hk, hB, h => by
    have hn : n < pi.length := by
      simp only [segSmall, Bool.and_eq_true, decide_eq_true_eq] at hs
      omega
    have hs2 : segSmall 0 ns (pi.drop (n + 1)).length = true := by
      have sh : ∀ (ns : List Nat) (k m d : Nat), segSmall (k + d) ns (m + d) = segSmall k ns m := by
        intro ns
        induction ns with
        | nil => intro k m d; simp [segSmall]
        | cons x ns ih => intro k m d; simp only [segSmall]; rw [show k + d + x + 1 = k + x + 1 + d by omega, ih]; congr 1; simp; omega
      simp only [segSmall, Bool.and_eq_true] at hs
      have h2 := hs.2
      have e := sh ns 0 (pi.drop (n + 1)).length (n + 1)
      rw [show 0 + (n + 1) = 0 + n + 1 by omega, show (pi.drop (n + 1)).length + (n + 1) = pi.length by simp; omega, h2] at e
      exact e.symm
    obtain ⟨i, hi⟩ : ∃ i, pi[n]? = some i := ⟨_, List.getElem?_eq_getElem hn⟩
    have him : i ∈ pi := List.mem_of_getElem? hi
    obtain ⟨o, ho⟩ : ∃ o, l[i]? = some o := ⟨_, List.getElem?_eq_getElem (hk i him)⟩
    have e0 : (pi.drop n).take 1 = [i] := by
      rw [List.drop_eq_getElem_cons hn, List.take_succ_cons, List.take_zero]
      congr 1
      have := List.getElem?_eq_getElem hn
      rw [hi] at this
      exact (Option.some.inj this).symm
    have hk1 : ∀ j ∈ pi.take n, j < l.length := fun j hj => hk j (List.mem_of_mem_take hj)
    have hk2 : ∀ j ∈ pi.drop n, j < l.length := fun j hj => hk j (List.mem_of_mem_drop hj)
    have hk3 : ∀ j ∈ pi.drop (n + 1), j < l.length := fun j hj => hk j (List.mem_of_mem_drop hj)
    have e1 : ((remOf l pi).drop n).take 1 = [o] := by
      rw [remOf_drop pi n hk, remOf_take _ 1 hk2, e0]
      unfold remOf
      simp only [List.filterMap_cons, List.filterMap_nil, ho]
    have e2 : mixOf l (permP (n :: ns) pi) = mixOf l ((pi.take n).map fun i => (i, false)) ++ (o, i, true) :: mixOf l (permP ns (pi.drop (n + 1))) := by
      rw [show permP (n :: ns) pi = (pi.take n).map (fun i => (i, false)) ++ (((pi.drop n).take 1).map (fun i => (i, true)) ++ permP ns (pi.drop (n + 1))) from rfl, e0]
      unfold mixOf
      rw [List.filterMap_append, List.filterMap_append]
      simp only [List.map_cons, List.map_nil, List.filterMap_cons, List.filterMap_nil, ho, Option.map_some]
      rfl
    rw [e2] at hB ⊢
    rw [List.all_append, List.all_cons, Bool.and_eq_true, Bool.and_eq_true] at hB
    unfold wpSegs at h
    rw [remOf_take pi n hk] at h
    refine mix_freesP (G := G) (C := (fun X => ∃ x : Cls (fun v => Frm G w v), X = x.world)) (fun X => frC_iff) _ _ (pi.take n) a hk1 ?_ h (fun a' h' => ?_)
    · refine List.all_eq_true.2 fun r hr => ?_
      have h3 := List.all_eq_true.1 hB.1 r hr
      obtain ⟨p, hp, he⟩ := List.mem_filterMap.1 hr
      obtain ⟨i, _, rfl⟩ := List.mem_map.1 hp
      obtain ⟨o, _, rfl⟩ := Option.map_eq_some_iff.1 he
      simpa using h3
    · rw [e1, remOf_drop pi (n + 1) hk] at h'
      unfold wpList at h'
      unfold wpMixT
      have nx : ∀ a'' w'', (Frm G w w'' ∧ wpSegs G P ops Q ns (remOf l (pi.drop (n + 1))) a'' w'') → Frm G w w'' ∧ wpMixT G P ops Q (mixOf l (permP ns (pi.drop (n + 1)))) a'' w'' :=
        fun a'' w'' h5 => ⟨h5.1, mix_of_segsP ns (pi.drop (n + 1)) a'' w'' hs2 hk3 hB.2.2 h5.2⟩
      split
      · rename_i hw
        rw [if_pos hw] at h'
        rcases h' with h' | h'
        · exact .inl (Oper.wp_mono (fun a'' w'' h5 => nx a'' w'' h5) (wp_of_then2 h'))
        · exact .inr h'
      · rename_i hw
        rw [if_neg hw] at h'
        exact (nx _ _ h').2

/-- A region that draws, in stretches, in the order 'pi'. -/
theorem region_segsP {id : Nat} {a : Act} {w : World} {l : List Oper} (pi ns : List Nat) (hm : P.follows .mixedOrders = true) (hsel : Region.noSelect l.toArray = true)
    (hs : segSmall 0 ns pi.length = true) (hk : (pi.all fun i => decide (i < l.length)) = true) (hlen : (mixOf l (permP ns pi)).length = l.length) (hall : mixAll l.length (mixOf l (permP ns pi)) = true) (hB : mixGo l.length l.toArray (mixOf l (permP ns pi)) = true)
    (hF : ((mixOf l (permP ns pi)).all fun r => r.2.2 || noEnter r.1) = true)
    (h : wpSegs G P l.toArray (NoPanic Q) ns (remOf l pi) a w.drew) : (Code.region id l.toArray true).wp P Q a w := by
  refine wp_region_noPanic (wp_region_any hm ?_)
  have hz : l.toArray.size = l.length := by simp
  have h' := mix_of_segsP (G := G) (P := P) (ops := l.toArray) (Q := NoPanic Q) (l := l) ns pi a w.drew hs (fun i hi => of_decide_eq_true (List.all_eq_true.1 hk i hi)) hF h
  have := held_of_mixT (G := G) (P := P) (ops := l.toArray) (Q := NoPanic Q) (fun c a w d v h => h.elim) hsel (mixOf l (permP ns pi)) (Array.replicate l.toArray.size false) a w.drew (fun r hr => by
    unfold mixOf at hr
    obtain ⟨p, _, hp⟩ := List.mem_filterMap.1 hr
    obtain ⟨o, ho, rfl⟩ := Option.map_eq_some_iff.1 hp
    simpa using ho) (by simp) (fun r hr => by
    unfold mixOf at hr
    obtain ⟨p, _, hp⟩ := List.mem_filterMap.1 hr
    obtain ⟨o, ho, rfl⟩ := Option.map_eq_some_iff.1 hp
    have : p.1 < l.length := (List.getElem?_eq_some_iff.1 ho).1
    simp [this]) (fun j hj => by
    have hjl : j < l.length := by
      rcases Nat.lt_or_ge j l.length with h3 | h3
      · exact h3
      · have h4 : (Array.replicate l.toArray.size false).getD j true = true := by simp [h3]
        rw [h4] at hj; cases hj
    have h3 := List.all_eq_true.1 hall j (List.mem_range.2 hjl)
    obtain ⟨r, hr, hre⟩ := List.any_eq_true.1 h3
    exact ⟨r, hr, by simpa using hre⟩) (by rw [hz]; exact hB) h' (fun _ => True) (fun _ _ _ _ => trivial) trivial
  rw [hlen, ← hz] at this
  exact wpAny_of_held _ _ _ _ this
/-- The same where a call may panic: the end must not look at the slots. -/
theorem region_segsQ {id : Nat} {a : Act} {w : World} {l : List Oper} (pi ns : List Nat) (hQ : ∀ c a w d v, Q (.panic c) (Act.put a d v) w → Q (.panic c) a w) (hm : P.follows .mixedOrders = true) (hsel : Region.noSelect l.toArray = true)
    (hs : segSmall 0 ns pi.length = true) (hk : (pi.all fun i => decide (i < l.length)) = true) (hlen : (mixOf l (permP ns pi)).length = l.length) (hall : mixAll l.length (mixOf l (permP ns pi)) = true) (hB : mixGo l.length l.toArray (mixOf l (permP ns pi)) = true)
    (hF : ((mixOf l (permP ns pi)).all fun r => r.2.2 || noEnter r.1) = true)
    (h : wpSegs G P l.toArray Q ns (remOf l pi) a w.drew) : (Code.region id l.toArray true).wp P Q a w := by
  refine wp_region_any hm ?_
  have hz : l.toArray.size = l.length := by simp
  have h' := mix_of_segsP (G := G) (P := P) (ops := l.toArray) (Q := Q) (l := l) ns pi a w.drew hs (fun i hi => of_decide_eq_true (List.all_eq_true.1 hk i hi)) hF h
  have := held_of_mixT (G := G) (P := P) (ops := l.toArray) (Q := Q) hQ hsel (mixOf l (permP ns pi)) (Array.replicate l.toArray.size false) a w.drew (fun r hr => by
    unfold mixOf at hr
    obtain ⟨p, _, hp⟩ := List.mem_filterMap.1 hr
    obtain ⟨o, ho, rfl⟩ := Option.map_eq_some_iff.1 hp
    simpa using ho) (by simp) (fun r hr => by
    unfold mixOf at hr
    obtain ⟨p, _, hp⟩ := List.mem_filterMap.1 hr
    obtain ⟨o, ho, rfl⟩ := Option.map_eq_some_iff.1 hp
    have : p.1 < l.length := (List.getElem?_eq_some_iff.1 ho).1
    simp [this]) (fun j hj => by
    have hjl : j < l.length := by
      rcases Nat.lt_or_ge j l.length with h3 | h3
      · exact h3
      · have h4 : (Array.replicate l.toArray.size false).getD j true = true := by simp [h3]
        rw [h4] at hj; cases hj
    have h3 := List.all_eq_true.1 hall j (List.mem_range.2 hjl)
    obtain ⟨r, hr, hre⟩ := List.any_eq_true.1 h3
    exact ⟨r, hr, by simpa using hre⟩) (by rw [hz]; exact hB) h' (fun _ => True) (fun _ _ _ _ => trivial) trivial
  rw [hlen, ← hz] at this
  exact wpAny_of_held _ _ _ _ this
end
end
end

/- A REGION THAT DRAWS ITS ORDER AND MAKES ONE VARIABLE that waits for nothing ('x := T{a: f(), b: g()}'), whose calls make new memory: one walk, whatever the order. What comes ahead of the variable is walked in stretches (as in XSgs), each call at a letter for the world; then the variable is there, at whatever block; then the rest. No program is named here. -/
section
open Go.RowKit

section
variable {R : World → World → Prop} {P : Program} {ops : Array Oper} {Q : Exit → Act → World → Prop}

def wpMixR (R : World → World → Prop) (P : Program) (ops : Array Oper) (Q : Exit → Act → World → Prop) : List MOp → Act → World → Prop
  | [], a, w => Q .normal a w
  | (o, _, true) :: rest, a, w => if Region.wanted o (yielded ops a.tmps) then o.wp P a w (fun a' w' => R w w' ∧ wpMixR R P ops Q rest a' w') Q ∨ (o.asks P a w ∧ LetsOut Q) else wpMixR R P ops Q rest (a.put o.dst undef) w
  | (o, _, false) :: rest, a, w => ∃ v, YieldsIf P ops (R w) o v a ∧ wpMixR R P ops Q rest (a.put o.dst v) w

/-- S bears new memory. -/
def BearsR (R : World → World → Prop) (S : World → Prop) : Prop := ∀ X Y, S X → R X Y → S Y

theorem held_of_mixR (hrf : ∀ w, R w w) (htr : ∀ a b c, R a b → R b c → R a c) (hm : ∀ c a w d v, Q (.panic c) (Act.put a d v) w → Q (.panic c) a w) (hsel : Region.noSelect ops = true) : ∀ (ms : List MOp) (listed : Array Bool) (a : Act) (w : World),
    (∀ r ∈ ms, ops[r.2.1]? = some r.1) → listed.size = ops.size → (∀ r ∈ ms, listed.getD r.2.1 true = false) → (∀ j, listed.getD j true = false → ∃ r ∈ ms, r.2.1 = j) → mixGo ops.size ops ms = true →
    wpMixR R P ops Q ms a w → ∀ S : World → Prop, BearsR R S → S w → wpAnyH P .any ops Q S ms.length listed a w
  | [], listed, a, w, _, hz, _, h2, _, h, S, _, _ => by
    refine ⟨?_, h⟩
    cases hr : Region.ready .any ops listed with
    | nil => rfl
    | cons x xs =>
      have hx : x ∈ Region.ready .any ops listed := by rw [hr]; simp
      obtain ⟨r, hm, _⟩ := h2 x (mem_ready.1 hx).1
      cases hm
  | (o, i, fl) :: rest, listed, a, w, h0, hz, h1, h2, hB, h, S, hSb, hSw => by
    simp only [mixGo, Bool.and_eq_true] at hB
    obtain ⟨⟨⟨hrd, hne⟩, hfl⟩, hB'⟩ := hB
    have ho : ops[i]? = some o := h0 (o, i, fl) (by simp)
    have hiz : i < listed.size := by rw [hz]; exact (Array.getElem?_eq_some_iff.1 ho).1
    have hun : listed.getD i true = false := h1 (o, i, fl) (by simp)
    have hne' : ∀ r ∈ rest, r.2.1 ≠ i := fun r hr => by have := List.all_eq_true.1 hne r hr; simpa using this
    have gets : ∀ j, j < listed.size → (listed.getD j false = true ↔ ¬ listed.getD j true = false) := fun j hj => by simp [hj]
    have hedge : ∀ e ∈ o.after, Region.binds .any e = true → e.on < ops.size ∧ e.on ≠ i ∧ ∀ r ∈ rest, r.2.1 ≠ e.on := fun e he hb => by
      have h3 := Array.all_eq_true_iff_forall_mem.1 hrd e he
      simp only [hb, Bool.not_true, Bool.false_or, Bool.and_eq_true, decide_eq_true_eq, bne_iff_ne, List.all_eq_true] at h3
      exact ⟨h3.1, h3.2.1, fun r hr => h3.2.2 r hr⟩
    have hready : i ∈ Region.ready .any ops listed := mem_ready.2 ⟨hun, o, ho, fun e he hb => by
      obtain ⟨e1, e2, e3⟩ := hedge e he hb
      rw [gets e.on (by rw [hz]; exact e1)]
      intro hf
      obtain ⟨r, hr, hre⟩ := h2 e.on hf
      rcases List.mem_cons.1 hr with rfl | hr
      · exact e2 hre.symm
      · exact e3 r hr hre⟩
    have hset1 : ∀ r ∈ rest, (listed.setIfInBounds i true).getD r.2.1 true = false := fun r hr => by
      have h3 := h1 r (by simp [hr])
      have hri := hne' r hr
      have hrz : r.2.1 < listed.size := by
        rcases Nat.lt_or_ge r.2.1 listed.size with h4 | h4
        · exact h4
        · simp [Array.getElem?_eq_none h4] at h3
      simp [Array.getElem?_setIfInBounds, Ne.symm hri, hrz] at h3 ⊢
      exact h3
    have hset2 : ∀ j, (listed.setIfInBounds i true).getD j true = false → ∃ r ∈ rest, r.2.1 = j := fun j hj => by
      by_cases hji : j = i
      · subst hji; simp [hiz] at hj
      · have h3 : listed.getD j true = false := by
          simp [Array.getElem?_setIfInBounds, Ne.symm hji] at hj ⊢
          exact hj
        obtain ⟨r, hr, hre⟩ := h2 j h3
        rcases List.mem_cons.1 hr with rfl | hr
        · exact absurd hre.symm hji
        · exact ⟨r, hr, hre⟩
    have next : ∀ a' w', wpMixR R P ops Q rest a' w' → ∀ S : World → Prop, BearsR R S → S w' → wpAnyH P .any ops Q S rest.length (listed.setIfInBounds i true) a' w' := fun a' w' h' =>
      held_of_mixR hrf htr hm hsel rest _ a' w' (fun r hr => h0 r (by simp [hr])) (by simpa using hz) hset1 hset2 hB' h'
    rw [List.length_cons]
    cases fl with
    | true =>
      refine ⟨fun h3 => (by rw [h3] at hready; cases hready), fun j hj => ?_⟩
      have hji : j = i := by
        obtain ⟨hjun, oj, hoj, hall⟩ := mem_ready.1 hj
        obtain ⟨r, hr, hre⟩ := h2 j hjun
        rcases List.mem_cons.1 hr with rfl | hr
        · exact hre.symm
        · exfalso
          simp only [if_true] at hfl
          have h3 := List.all_eq_true.1 hfl r hr
          obtain ⟨q, hq, h4⟩ := Array.any_eq_true.1 h3
          simp only [Bool.and_eq_true, Bool.or_eq_true, beq_iff_eq, List.any_eq_true] at h4
          have hro : r.1 = oj := by have := h0 r (by simp [hr]); rw [hre, hoj] at this; exact (Option.some.inj this).symm
          have h5 := hall _ (hro ▸ Array.getElem_mem hq) h4.1
          rcases h4.2 with h6 | ⟨q2, hq2, h6⟩
          · rw [h6, gets i hiz] at h5
            exact h5 hun
          · rw [← h6] at h5
            have h7 := h1 q2 (by simp [hq2])
            have hz2 : q2.2.1 < listed.size := by
              rcases Nat.lt_or_ge q2.2.1 listed.size with h8 | h8
              · exact h8
              · simp [Array.getElem?_eq_none h8] at h7
            rw [gets _ hz2] at h5
            exact h5 h7
      subst hji
      unfold wpOp
      simp only [ho]
      unfold wpMixR at h
      split
      · rename_i hw
        rw [if_pos hw] at h
        exact h.imp (Oper.wp_mono (fun a' w' h' => ⟨hSb _ _ hSw h'.1, next a' w' h'.2 S hSb (hSb _ _ hSw h'.1)⟩)) id
      · rename_i hw
        rw [if_neg hw] at h
        exact ⟨hSw, next _ _ h S hSb hSw⟩
    | false =>
      obtain ⟨v, hy, h⟩ := h
      have hSb' : BearsR R (fun X => S X ∧ R w X) := fun X Y hX hXY => ⟨hSb X Y hX.1 hXY, htr _ _ _ hX.2 hXY⟩
      have hSw' : S w ∧ R w w := ⟨hSw, hrf _⟩
      have hy' : YieldsIf P ops (fun X => S X ∧ R w X) o v a := hy.imp (fun ⟨h3, h4⟩ => ⟨h3, fun X hX => h4 X hX.2⟩) id
      refine wpAnyH_mono (S := fun X => S X ∧ R w X) (fun _ h => h.1) _ _ _ _ ?_
      refine wpAnyH_first ho (Region.noSelect_spec hsel) (fun c a w => hm c a w _ _) rest.length listed a w (fun j oj hoj hji hjun hnot => ?_) hready hy' hSw' (next _ _ h _ hSb' hSw')
      obtain ⟨r, hr, hre⟩ := h2 j hjun
      rcases List.mem_cons.1 hr with rfl | hr
      · exact absurd hre.symm hji
      · have hfl' : (rest.all fun r => (r.1.after.any fun e => Region.binds .any e && e.on == i) || o.apart ops r.1) = true := hfl
        have h3 := List.all_eq_true.1 hfl' r hr
        have hro : r.1 = oj := by have := h0 r (by simp [hr]); rw [hre, hoj] at this; exact (Option.some.inj this).symm
        rw [Bool.or_eq_true] at h3
        rcases h3 with h3 | h3
        · exfalso
          obtain ⟨q, hq, h4⟩ := Array.any_eq_true.1 h3
          simp only [Bool.and_eq_true, beq_iff_eq] at h4
          exact hnot _ (hro ▸ Array.getElem_mem hq) h4.1 h4.2
        · rw [← hro]; exact h3


/-- Ahead of the variable. -/
def wpMixU (G : List Nat) (R : World → World → Prop) (P : Program) (ops : Array Oper) (Q : Exit → Act → World → Prop) (fin : Act → World → Prop) : List MOp → Act → World → Prop
  | [], a, w => ∀ X, Frm G w X → fin a X
  | (o, _, true) :: rest, a, w => ∀ X, Frm G w X → if Region.wanted o (yielded ops a.tmps) then o.wp P a X (fun a' w' => Frm G X w' ∧ wpMixU G R P ops Q fin rest a' w') Q ∨ (o.asks P a X ∧ LetsOut Q) else wpMixU G R P ops Q fin rest (a.put o.dst undef) X
  | (o, _, false) :: rest, a, w => ∃ v, YieldsIf P ops (R w) o v a ∧ wpMixU G R P ops Q fin rest (a.put o.dst v) w

theorem mixU_mono {G : List Nat} {fin : Act → World → Prop} (htr : ∀ a b c, R a b → R b c → R a c) (hG : ∀ a b, Frm G a b → R a b) : ∀ (ms : List MOp) (a : Act) (w w' : World), Frm G w w' → wpMixU G R P ops Q fin ms a w → wpMixU G R P ops Q fin ms a w'
  | [], a, w, w', hf, h => fun X hX => h X (hf.trans hX)
  | (o, i, true) :: rest, a, w, w', hf, h => fun X hX => h X (hf.trans hX)
  | (o, i, false) :: rest, a, w, w', hf, h => by
    obtain ⟨v, hy, h⟩ := h
    exact ⟨v, hy.imp (fun ⟨h3, h4⟩ => ⟨h3, fun X hX => h4 X (htr _ _ _ (hG _ _ hf) hX)⟩) id, mixU_mono htr hG rest _ w w' hf h⟩

theorem wp_put {o : Oper} {a : Act} {w : World} {K K' : Act → World → Prop} {d : Option Tmp} {u : Value} (hp : ∀ c a w, Q (.panic c) a w → Q (.panic c) (Act.put a d u) w) (hs : ∀ cs b, o.op ≠ .select cs b)
    (h1 : ∀ t, d = some t → t ∉ o.looksAt ops) (h2 : ∀ t, d = some t → o.dst ≠ some t) (hK : ∀ b w', K b w' → K' (b.put d u) w') (h : o.wp P a w K Q) : o.wp P (a.put d u) w K' Q := by
  unfold Oper.wp at h ⊢
  rw [execOp_put (ops := ops) o hs a d u h1]
  generalize (execOp a.eval o).run P w = r at h ⊢
  have hc : ∀ (b : Act) v, (b.put d u).put o.dst v = (b.put o.dst v).put d u := fun b v => Act.put_comm b u v h2
  unfold Oper.upon at h ⊢
  split at h
  · simp only [hc]; exact hK _ _ h
  · simp only [hc]; exact hK _ _ h
  · rename_i dd w'
    have e : ({ (a.put d u) with defers := dd :: (a.put d u).defers } : Act) = ({ a with defers := dd :: a.defers } : Act).put d u := by cases d <;> rfl
    rw [e, hc]
    exact hK _ _ h
  · refine Calls.mono h ?_
    intro e w'' hh
    cases e with
    | returned v => simp only [hc] at hh ⊢; exact hK _ _ hh
    | panicked c => exact hp _ _ _ hh
    | outgrown => exact hh
  · refine Rows.mono h ?_
    intro v w'' hh
    simp only [hc]; exact hK _ _ hh
  · exact hp _ _ _ h
  · exact h.elim

theorem apart_slot {om o : Oper} {d : Nat} (hd : om.dst = some d) (h : om.apart ops o = true) : (∀ t, some d = some t → t ∉ o.looksAt ops) ∧ (∀ t, some d = some t → o.dst ≠ some t) := by
  obtain ⟨h1, h2, _⟩ := Oper.apart_spec h
  rw [← hd]
  exact ⟨h1, h2⟩

/-- The variable is there: its slot is looked at by none of the head. -/
theorem mixR_of_U {G : List Nat} {om : Oper} {d g B0 : Nat} {ty : TypeId} {z : Array Value} {tl : List MOp} (hrf : ∀ w, R w w) (hG : ∀ a b, Frm G a b → R a b) (hGB : ∀ k ∈ G, k < B0) (hp : ∀ c a w d u, Q (.panic c) a w → Q (.panic c) (Act.put a d u) w)
    (hsel : Region.noSelect ops = true) (hd : om.dst = some d) (hB : B0 ≤ g) : ∀ (ms : List MOp) (a : Act) (w : World), (∀ r ∈ ms, ops[r.2.1]? = some r.1) → (∀ r ∈ ms, om.apart ops r.1 = true) → Blk w g ty z →
    wpMixU G R P ops Q (fun a X => ∀ g, Blk X g ty z → B0 ≤ g → wpMixR R P ops Q tl (a.put (some d) (.pointer (some ⟨g, 0, none⟩))) X) ms a w → wpMixR R P ops Q (ms ++ tl) (a.put (some d) (.pointer (some ⟨g, 0, none⟩))) w
  | [], a, w, _, _, hb, h => h w (Frm.refl _ _) g hb hB
  | (o, i, fl) :: rest, a, w, h0, h1, hb, h => by
    obtain ⟨e1, e2⟩ := apart_slot hd (h1 (o, i, fl) (by simp))
    have ho := h0 (o, i, fl) (by simp)
    have hs := Region.noSelect_spec hsel i o
    have hs' : ∀ cs b, o.op ≠ .select cs b := fun cs b => hs cs b ho
    have ih := fun a w => mixR_of_U (om := om) (ty := ty) (z := z) (tl := tl) hrf hG hGB hp hsel hd hB rest a w (fun r hr => h0 r (by simp [hr])) (fun r hr => h1 r (by simp [hr]))
    have hcm : ∀ v, (a.put (some d) (.pointer (some ⟨g, 0, none⟩))).put o.dst v = (a.put o.dst v).put (some d) (.pointer (some ⟨g, 0, none⟩)) := fun v => Act.put_comm a _ v e2
    cases fl with
    | true =>
      have h2 := h w (Frm.refl _ _)
      rw [List.cons_append]
      unfold wpMixR
      rw [wanted_put (ops := ops) o a (some d) _ e1]
      split
      · rename_i hw
        rw [if_pos hw] at h2
        rcases h2 with h2 | ⟨h2, h3⟩
        · exact .inl (wp_put (ops := ops) (fun c a w => hp c a w _ _) hs' e1 e2 (K := fun a' w' => Frm G w w' ∧ wpMixU G R P ops Q _ rest a' w') (fun b w' hk => ⟨hG _ _ hk.1, ih b w' (hk.1.blk hb (fun hm => by have := hGB g hm; omega)) hk.2⟩) h2)
        · refine .inr ⟨?_, h3⟩
          unfold Oper.asks at h2 ⊢
          rw [execOp_put (ops := ops) o hs' a (some d) _ e1]
          exact h2
      · rename_i hw
        rw [if_neg hw] at h2
        rw [hcm]
        exact ih _ _ hb h2
    | false =>
      obtain ⟨v, hy, h2⟩ := h
      rw [List.cons_append]
      refine ⟨v, hy.of_same (execOp_put o hs' a (some d) _ e1) (wanted_put o a (some d) _ e1), ?_⟩
      rw [hcm]
      exact ih _ _ hb h2

/-- The head's order: each is ready in its turn, whether the variable is there or not; only it, and the variable, may come up where it is marked. -/
def goA (n : Nat) (ops : Array Oper) (om : Oper) (m : Nat) (tl : List MOp) : List MOp → Bool
  | [] => true
  | (o, i, fl) :: rest =>
    o.after.all (fun e => !Region.binds .any e || (decide (e.on < n) && (e.on != i && (e.on != m && (rest ++ tl).all fun r => r.2.1 != e.on)))) &&
    (i != m && (rest ++ tl).all (fun r => r.2.1 != i)) && om.apart ops o && o.apart ops om &&
    (if fl then (rest ++ tl).all fun r => r.1.after.any fun e => Region.binds .any e && (e.on == i || (rest ++ tl).any fun q => q.2.1 == e.on)
     else (rest ++ tl).all fun r => (r.1.after.any fun e => Region.binds .any e && e.on == i) || o.apart ops r.1) && goA n ops om m tl rest

theorem held_alloc {G : List Nat} {om : Oper} {m d B0 : Nat} {ty : TypeId} {z : Array Value} {tl : List MOp} (hrf : ∀ w, R w w) (htr : ∀ a b c, R a b → R b c → R a c) (hG : ∀ a b, Frm G a b → R a b) (hGB : ∀ k ∈ G, k < B0) (hp : ∀ c a w, ¬ Q (.panic c) a w)
    (hsel : Region.noSelect ops = true) (hom : ops[m]? = some om) (hgd : om.guard = none) (haf : om.after = #[]) (hd : om.dst = some d)
    (hrun : ∀ (a : Act) w, (execOp a.eval om).run P w = .ok (.value (.pointer (some ⟨w.heap.size, 0, none⟩))) (w.alloc (.cells z ty)))
    (htl : ∀ r ∈ tl, (r.1.after.any fun e => Region.binds .any e && (e.on == m || tl.any fun q => q.2.1 == e.on)) = true) : ∀ (ms : List MOp) (listed : Array Bool) (a : Act) (w : World),
    (∀ r ∈ ms ++ tl, ops[r.2.1]? = some r.1) → listed.size = ops.size → (∀ r ∈ ms ++ tl, listed.getD r.2.1 true = false) → listed.getD m true = false → (∀ r ∈ ms ++ tl, r.2.1 ≠ m) →
    (∀ j, listed.getD j true = false → j = m ∨ ∃ r ∈ ms ++ tl, r.2.1 = j) → goA ops.size ops om m tl ms = true → mixGo ops.size ops (ms ++ tl) = true → B0 ≤ w.heap.size →
    wpMixU G R P ops Q (fun a X => ∀ g, Blk X g ty z → B0 ≤ g → wpMixR R P ops Q tl (a.put (some d) (.pointer (some ⟨g, 0, none⟩))) X) ms a w →
    ∀ S : World → Prop, BearsR R S → S w → wpAnyH P .any ops Q S ((ms ++ tl).length + 1) listed a w := by
  have hp1 : ∀ c a w d u, Q (.panic c) (Act.put a d u) w → Q (.panic c) a w := fun c a w d u h => (hp _ _ _ h).elim
  have hp2 : ∀ c a w d u, Q (.panic c) a w → Q (.panic c) (Act.put a d u) w := fun c a w d u h => (hp _ _ _ h).elim
  -- the variable is made now
  have made : ∀ (ms : List MOp) (listed : Array Bool) (a : Act) (w : World), (∀ r ∈ ms, om.apart ops r.1 = true) →
      (∀ r ∈ ms ++ tl, ops[r.2.1]? = some r.1) → listed.size = ops.size → (∀ r ∈ ms ++ tl, listed.getD r.2.1 true = false) → listed.getD m true = false → (∀ r ∈ ms ++ tl, r.2.1 ≠ m) →
      (∀ j, listed.getD j true = false → j = m ∨ ∃ r ∈ ms ++ tl, r.2.1 = j) → mixGo ops.size ops (ms ++ tl) = true → B0 ≤ w.heap.size →
      wpMixU G R P ops Q (fun a X => ∀ g, Blk X g ty z → B0 ≤ g → wpMixR R P ops Q tl (a.put (some d) (.pointer (some ⟨g, 0, none⟩))) X) ms a w →
      ∀ S : World → Prop, BearsR R S → S w → wpOp P ops Q m (fun a' w' => S w' ∧ wpAnyH P .any ops Q S (ms ++ tl).length (listed.setIfInBounds m true) a' w') a w := by
    intro ms listed a w hap h0 hz h1 hun hne h2 hmg hB h S hSb hSw
    have hmz : m < listed.size := by rw [hz]; exact (Array.getElem?_eq_some_iff.1 hom).1
    unfold wpOp
    simp only [hom]
    rw [if_pos (by unfold Region.wanted; simp [hgd])]
    refine .inl ?_
    unfold Oper.wp
    rw [hrun a w]
    have hf : Frm G w (w.alloc (.cells z ty)) := (Frm.refl _ _).alloc _
    have hS' := hSb _ _ hSw (hG _ _ hf)
    refine ⟨hS', ?_⟩
    rw [hd]
    refine held_of_mixR hrf htr hp1 hsel (ms ++ tl) _ _ _ h0 (by simpa using hz) (fun r hr => ?_) (fun j hj => ?_) hmg (mixR_of_U hrf hG hGB hp2 hsel hd hB ms a _ (fun r hr => h0 r (by simp [hr])) hap (Blk.made w ty z) (mixU_mono htr hG ms a w _ hf h)) S hSb hS'
    · have h3 := h1 r hr
      rw [getD_set_ne true (Ne.symm (hne r hr))]
      exact h3
    · by_cases hjm : j = m
      · subst hjm; simp [hmz] at hj
      · have h3 : listed.getD j true = false := by rw [getD_set_ne true (Ne.symm hjm)] at hj; exact hj
        exact (h2 j h3).resolve_left hjm
  intro ms
  induction ms with
  | nil =>
    intro listed a w h0 hz h1 hun hne h2 hA hmg hB h S hSb hSw
    have hready : m ∈ Region.ready .any ops listed := mem_ready.2 ⟨hun, om, hom, by simp [haf]⟩
    refine ⟨fun h3 => (by rw [h3] at hready; cases hready), fun j hj => ?_⟩
    have hjm : j = m := by
      obtain ⟨hjun, oj, hoj, hall⟩ := mem_ready.1 hj
      rcases h2 j hjun with e | ⟨r, hr, hre⟩
      · exact e
      · exfalso
        have hr' : r ∈ tl := by simpa using hr
        obtain ⟨q, hq, h4⟩ := Array.any_eq_true.1 (htl r hr')
        simp only [Bool.and_eq_true, Bool.or_eq_true, beq_iff_eq, List.any_eq_true] at h4
        have hro : r.1 = oj := by have := h0 r hr; rw [hre, hoj] at this; exact (Option.some.inj this).symm
        have h5 := hall _ (hro ▸ Array.getElem_mem hq) h4.1
        rcases h4.2 with h6 | ⟨q2, hq2, h6⟩
        · rw [h6, getD_both hun] at h5; cases h5
        · rw [← h6, getD_both (h1 q2 (by simpa using hq2))] at h5; cases h5
    subst hjm
    exact made [] listed a w (by simp) h0 hz h1 hun hne h2 hmg hB h S hSb hSw
  | cons r0 rest ih =>
    obtain ⟨o, i, fl⟩ := r0
    intro listed a w h0 hz h1 hun hne h2 hA hmg hB h S hSb hSw
    have hapall : ∀ (l : List MOp), goA ops.size ops om m tl l = true → ∀ r ∈ l, om.apart ops r.1 = true := by
      intro l
      induction l with
      | nil => intro _ r hr; cases hr
      | cons x l ihl =>
        intro hA r hr
        obtain ⟨xo, xi, xf⟩ := x
        simp only [goA, Bool.and_eq_true] at hA
        rcases List.mem_cons.1 hr with rfl | hr
        · exact hA.1.1.1.2
        · exact ihl hA.2 r hr
    have hA0 := hA
    simp only [goA, Bool.and_eq_true] at hA
    obtain ⟨⟨⟨⟨⟨hrd, him, hnei⟩, hap1⟩, hap2⟩, hfl⟩, hA'⟩ := hA
    rw [List.cons_append] at hmg
    simp only [mixGo, Bool.and_eq_true] at hmg
    have him' : i ≠ m := by simpa using him
    have ho : ops[i]? = some o := h0 (o, i, fl) (by simp)
    have hiz : i < listed.size := by rw [hz]; exact (Array.getElem?_eq_some_iff.1 ho).1
    have huni : listed.getD i true = false := h1 (o, i, fl) (by simp)
    have hne' : ∀ r ∈ rest ++ tl, r.2.1 ≠ i := fun r hr => by have := List.all_eq_true.1 hnei r hr; simpa using this
    have hready : i ∈ Region.ready .any ops listed := mem_ready.2 ⟨huni, o, ho, fun e he hb => by
      have h3 := Array.all_eq_true_iff_forall_mem.1 hrd e he
      simp only [hb, Bool.not_true, Bool.false_or, Bool.and_eq_true, decide_eq_true_eq, bne_iff_ne, List.all_eq_true] at h3
      obtain ⟨e1, e2, e3, e4⟩ := h3
      have hez : e.on < listed.size := by rw [hz]; exact e1
      cases hq : listed.getD e.on false with
      | true => rfl
      | false =>
        exfalso
        have hq' : listed.getD e.on true = false := by
          simp [hez] at hq ⊢
          exact hq
        rcases h2 e.on hq' with h5 | ⟨r, hr, hre⟩
        · exact e3 h5
        · rcases List.mem_cons.1 (by simpa using hr : r ∈ (o, i, fl) :: (rest ++ tl)) with rfl | hr
          · exact e2 hre.symm
          · exact e4 r hr hre⟩
    have hset1 : ∀ r ∈ rest ++ tl, (listed.setIfInBounds i true).getD r.2.1 true = false := fun r hr => by
      rw [getD_set_ne true (Ne.symm (hne' r hr))]
      exact h1 r (by simpa using .inr (by simpa using hr))
    have hsetm : (listed.setIfInBounds i true).getD m true = false := by rw [getD_set_ne true him']; exact hun
    have hset2 : ∀ j, (listed.setIfInBounds i true).getD j true = false → j = m ∨ ∃ r ∈ rest ++ tl, r.2.1 = j := fun j hj => by
      by_cases hji : j = i
      · subst hji; simp [hiz] at hj
      · have h3 : listed.getD j true = false := by rw [getD_set_ne true (Ne.symm hji)] at hj; exact hj
        rcases h2 j h3 with e | ⟨r, hr, hre⟩
        · exact .inl e
        · rcases List.mem_cons.1 (by simpa using hr : r ∈ (o, i, fl) :: (rest ++ tl)) with rfl | hr
          · exact absurd hre.symm hji
          · exact .inr ⟨r, hr, hre⟩
    have next := fun a' w' => ih (listed.setIfInBounds i true) a' w' (fun r hr => h0 r (by simpa using .inr (by simpa using hr))) (by simpa using hz) hset1 hsetm (fun r hr => hne r (by simpa using .inr (by simpa using hr))) hset2 hA' hmg.2
    rw [List.cons_append, List.length_cons]
    cases fl with
    | true =>
      refine ⟨fun h3 => (by rw [h3] at hready; cases hready), fun j hj => ?_⟩
      have hji : j = i ∨ j = m := by
        obtain ⟨hjun, oj, hoj, hall⟩ := mem_ready.1 hj
        rcases h2 j hjun with e | ⟨r, hr, hre⟩
        · exact .inr e
        · rcases List.mem_cons.1 (by simpa using hr : r ∈ (o, i, true) :: (rest ++ tl)) with rfl | hr
          · exact .inl hre.symm
          · exfalso
            simp only [if_true] at hfl
            have h3 := List.all_eq_true.1 hfl r hr
            obtain ⟨q, hq, h4⟩ := Array.any_eq_true.1 h3
            simp only [Bool.and_eq_true, Bool.or_eq_true, beq_iff_eq, List.any_eq_true] at h4
            have hro : r.1 = oj := by have := h0 r (by simpa using .inr (by simpa using hr)); rw [hre, hoj] at this; exact (Option.some.inj this).symm
            have h5 := hall _ (hro ▸ Array.getElem_mem hq) h4.1
            rcases h4.2 with h6 | ⟨q2, hq2, h6⟩
            · rw [h6, getD_both huni] at h5; cases h5
            · rw [← h6, getD_both (h1 q2 (by simpa using .inr (by simpa using hq2)))] at h5; cases h5
      rcases hji with rfl | rfl
      · unfold wpOp
        simp only [ho]
        have h3 := h w (Frm.refl _ _)
        split
        · rename_i hw
          rw [if_pos hw] at h3
          refine h3.imp (Oper.wp_mono (fun a' w' h' => ?_)) id
          have hS' := hSb _ _ hSw (hG _ _ h'.1)
          exact ⟨hS', next a' w' (Nat.le_trans hB h'.1.size) h'.2 S hSb hS'⟩
        · rename_i hw
          rw [if_neg hw] at h3
          exact ⟨hSw, next _ _ hB h3 S hSb hSw⟩
      · have := made ((o, i, true) :: rest) listed a w (hapall _ hA0) h0 hz h1 hun hne h2 (by
          rw [List.cons_append]; simp only [mixGo, Bool.and_eq_true]; exact hmg) hB h S hSb hSw
        rw [List.cons_append, List.length_cons] at this
        exact this
    | false =>
      obtain ⟨v, hy, h⟩ := h
      have hSb' : BearsR R (fun X => S X ∧ R w X) := fun X Y hX hXY => ⟨hSb X Y hX.1 hXY, htr _ _ _ hX.2 hXY⟩
      have hSw' : S w ∧ R w w := ⟨hSw, hrf _⟩
      have hy' : YieldsIf P ops (fun X => S X ∧ R w X) o v a := hy.imp (fun ⟨h3, h4⟩ => ⟨h3, fun X hX => h4 X hX.2⟩) id
      refine wpAnyH_mono (S := fun X => S X ∧ R w X) (fun _ h => h.1) _ _ _ _ ?_
      refine wpAnyH_first ho (Region.noSelect_spec hsel) (fun c a w => hp1 c a w _ _) ((rest ++ tl).length + 1) listed a w (fun j oj hoj hji hjun hnot => ?_) hready hy' hSw' (next _ _ hB h _ hSb' hSw')
      rcases h2 j hjun with e | ⟨r, hr, hre⟩
      · subst e
        rw [hom] at hoj
        rw [← Option.some.inj hoj]
        exact hap2
      · rcases List.mem_cons.1 (by simpa using hr : r ∈ (o, i, false) :: (rest ++ tl)) with rfl | hr
        · exact absurd hre.symm hji
        · have hfl' : ((rest ++ tl).all fun r => (r.1.after.any fun e => Region.binds .any e && e.on == i) || o.apart ops r.1) = true := hfl
          have h3 := List.all_eq_true.1 hfl' r hr
          have hro : r.1 = oj := by have := h0 r (by simpa using .inr (by simpa using hr)); rw [hre, hoj] at this; exact (Option.some.inj this).symm
          rw [Bool.or_eq_true] at h3
          rcases h3 with h3 | h3
          · exfalso
            obtain ⟨q, hq, h4⟩ := Array.any_eq_true.1 h3
            simp only [Bool.and_eq_true, beq_iff_eq] at h4
            exact hnot _ (hro ▸ Array.getElem_mem hq) h4.1 h4.2
          · rw [← hro]; exact h3

/-- The stretches ahead of the variable, and behind it. -/
def wpSegsU (G : List Nat) (R : World → World → Prop) (P : Program) (ops : Array Oper) (Q : Exit → Act → World → Prop) (fin : Act → World → Prop) : List Nat → List Oper → Act → World → Prop
  | [], rem, a, w => wpQuiet P ops (fun X => ∃ x : Cls (fun v => R w v), X = x.world) (fun a' => ∀ X, Frm G w X → fin a' X) rem a
  | n :: ns, rem, a, w => wpQuiet P ops (fun X => ∃ x : Cls (fun v => R w v), X = x.world) (fun a' => ∀ X, Frm G w X → wpList P ops (Exit.then (fun a'' w'' => Frm G X w'' ∧ wpSegsU G R P ops Q fin ns (rem.drop (n + 1)) a'' w'') Q) ((rem.drop n).take 1) a' X) (rem.take n) a
def wpSegsR (R : World → World → Prop) (P : Program) (ops : Array Oper) (Q : Exit → Act → World → Prop) : List Nat → List Oper → Act → World → Prop
  | [], rem, a, w => wpQuiet P ops (fun X => ∃ x : Cls (fun v => R w v), X = x.world) (fun a' => Q .normal a' w) rem a
  | n :: ns, rem, a, w => wpQuiet P ops (fun X => ∃ x : Cls (fun v => R w v), X = x.world) (fun a' => wpList P ops (Exit.then (fun a'' w'' => R w w'' ∧ wpSegsR R P ops Q ns (rem.drop (n + 1)) a'' w'') Q) ((rem.drop n).take 1) a' w) (rem.take n) a

theorem cls_iff {w X : World} : (∃ x : Cls (fun v => R w v), X = x.world) ↔ R w X := ⟨fun ⟨x, h⟩ => h ▸ x.ok, fun h => ⟨⟨X, h⟩, rfl⟩⟩

theorem mixU_frees {G : List Nat} {fin : Act → World → Prop} {l : List Oper} {w : World} (hrf : ∀ w, R w w) (K : Act → Prop) (ms : List MOp) : ∀ (pi : List Nat) (a : Act), (∀ i ∈ pi, i < l.length) →
    ((mixOf l (pi.map fun i => (i, false))).all fun r => noEnter r.1) = true → wpQuiet P ops (fun X => ∃ x : Cls (fun v => R w v), X = x.world) K (remOf l pi) a → (∀ a', K a' → wpMixU G R P ops Q fin ms a' w) → wpMixU G R P ops Q fin (mixOf l (pi.map fun i => (i, false)) ++ ms) a w
  | [], a, _, _, h, hK => by simpa [mixOf] using hK a (by simpa [wpQuiet, remOf] using h)
  | i :: pi, a, hk, hB, h, hK => by
    obtain ⟨o, ho⟩ : ∃ o, l[i]? = some o := ⟨_, List.getElem?_eq_getElem (hk i (by simp))⟩
    have e1 : remOf l (i :: pi) = o :: remOf l pi := by
      unfold remOf
      rw [List.filterMap_cons]
      simp only [ho]
    have e2 : mixOf l ((i :: pi).map fun i => (i, false)) = (o, i, false) :: mixOf l (pi.map fun i => (i, false)) := by
      rw [List.map_cons]
      unfold mixOf
      rw [List.filterMap_cons]
      simp only [ho, Option.map_some]
    rw [e2] at hB ⊢
    rw [e1] at h
    rw [List.all_cons, Bool.and_eq_true] at hB
    rw [List.cons_append]
    unfold wpQuiet at h
    split at h
    · rename_i hw
      obtain ⟨v, h1, h2⟩ := strict_of_quiet hB.1 w (cls_iff.2 (hrf w)) h
      exact ⟨v, .inl ⟨hw, fun X hX => h1 X (cls_iff.2 hX)⟩, mixU_frees hrf K ms pi _ (fun j hj => hk j (by simp [hj])) hB.2 h2 hK⟩
    · rename_i hw
      exact ⟨undef, .inr ⟨by simpa using hw, rfl⟩, mixU_frees hrf K ms pi _ (fun j hj => hk j (by simp [hj])) hB.2 h hK⟩
theorem mixR_frees {l : List Oper} {w : World} (hrf : ∀ w, R w w) (K : Act → Prop) (ms : List MOp) : ∀ (pi : List Nat) (a : Act), (∀ i ∈ pi, i < l.length) →
    ((mixOf l (pi.map fun i => (i, false))).all fun r => noEnter r.1) = true → wpQuiet P ops (fun X => ∃ x : Cls (fun v => R w v), X = x.world) K (remOf l pi) a → (∀ a', K a' → wpMixR R P ops Q ms a' w) → wpMixR R P ops Q (mixOf l (pi.map fun i => (i, false)) ++ ms) a w
  | [], a, _, _, h, hK => by simpa [mixOf] using hK a (by simpa [wpQuiet, remOf] using h)
  | i :: pi, a, hk, hB, h, hK => by
    obtain ⟨o, ho⟩ : ∃ o, l[i]? = some o := ⟨_, List.getElem?_eq_getElem (hk i (by simp))⟩
    have e1 : remOf l (i :: pi) = o :: remOf l pi := by
      unfold remOf
      rw [List.filterMap_cons]
      simp only [ho]
    have e2 : mixOf l ((i :: pi).map fun i => (i, false)) = (o, i, false) :: mixOf l (pi.map fun i => (i, false)) := by
      rw [List.map_cons]
      unfold mixOf
      rw [List.filterMap_cons]
      simp only [ho, Option.map_some]
    rw [e2] at hB ⊢
    rw [e1] at h
    rw [List.all_cons, Bool.and_eq_true] at hB
    rw [List.cons_append]
    unfold wpQuiet at h
    split at h
    · rename_i hw
      obtain ⟨v, h1, h2⟩ := strict_of_quiet hB.1 w (cls_iff.2 (hrf w)) h
      exact ⟨v, .inl ⟨hw, fun X hX => h1 X (cls_iff.2 hX)⟩, mixR_frees hrf K ms pi _ (fun j hj => hk j (by simp [hj])) hB.2 h2 hK⟩
    · rename_i hw
      exact ⟨undef, .inr ⟨by simpa using hw, rfl⟩, mixR_frees hrf K ms pi _ (fun j hj => hk j (by simp [hj])) hB.2 h hK⟩

theorem seg_split {l : List Oper} {n : Nat} {ns pi : List Nat} (hs : segSmall 0 (n :: ns) pi.length = true) (hk : ∀ i ∈ pi, i < l.length) :
    ∃ i o, pi[n]? = some i ∧ l[i]? = some o ∧ segSmall 0 ns (pi.drop (n + 1)).length = true ∧ (remOf l pi).take n = remOf l (pi.take n) ∧ ((remOf l pi).drop n).take 1 = [o] ∧ (remOf l pi).drop (n + 1) = remOf l (pi.drop (n + 1)) ∧
      (∀ j ∈ pi.take n, j < l.length) ∧ (∀ j ∈ pi.drop (n + 1), j < l.length) ∧ mixOf l (permP (n :: ns) pi) = mixOf l ((pi.take n).map fun i => (i, false)) ++ (o, i, true) :: mixOf l (permP ns (pi.drop (n + 1))) := by
  have hn : n < pi.length := by
    simp only [segSmall, Bool.and_eq_true, decide_eq_true_eq] at hs
    omega
  have hs2 : segSmall 0 ns (pi.drop (n + 1)).length = true := by
    have sh : ∀ (ns : List Nat) (k m d : Nat), segSmall (k + d) ns (m + d) = segSmall k ns m := by
      intro ns
      induction ns with
      | nil => intro k m d; simp [segSmall]
      | cons x ns ih => intro k m d; simp only [segSmall]; rw [show k + d + x + 1 = k + x + 1 + d by omega, ih]; congr 1; simp; omega
    simp only [segSmall, Bool.and_eq_true] at hs
    have h2 := hs.2
    have e := sh ns 0 (pi.drop (n + 1)).length (n + 1)
    rw [show 0 + (n + 1) = 0 + n + 1 by omega, show (pi.drop (n + 1)).length + (n + 1) = pi.length by simp; omega, h2] at e
    exact e.symm
  obtain ⟨i, hi⟩ : ∃ i, pi[n]? = some i := ⟨_, List.getElem?_eq_getElem hn⟩
  have him : i ∈ pi := List.mem_of_getElem? hi
  obtain ⟨o, ho⟩ : ∃ o, l[i]? = some o := ⟨_, List.getElem?_eq_getElem (hk i him)⟩
  have e0 : (pi.drop n).take 1 = [i] := by
    rw [List.drop_eq_getElem_cons hn, List.take_succ_cons, List.take_zero]
    congr 1
    have := List.getElem?_eq_getElem hn
    rw [hi] at this
    exact (Option.some.inj this).symm
  have hk2 : ∀ j ∈ pi.drop n, j < l.length := fun j hj => hk j (List.mem_of_mem_drop hj)
  refine ⟨i, o, hi, ho, hs2, remOf_take pi n hk, ?_, remOf_drop pi (n + 1) hk, fun j hj => hk j (List.mem_of_mem_take hj), fun j hj => hk j (List.mem_of_mem_drop hj), ?_⟩
  · rw [remOf_drop pi n hk, remOf_take _ 1 hk2, e0]
    unfold remOf
    simp only [List.filterMap_cons, List.filterMap_nil, ho]
  · rw [show permP (n :: ns) pi = (pi.take n).map (fun i => (i, false)) ++ (((pi.drop n).take 1).map (fun i => (i, true)) ++ permP ns (pi.drop (n + 1))) from rfl, e0]
    unfold mixOf
    rw [List.filterMap_append, List.filterMap_append]
    simp only [List.map_cons, List.map_nil, List.filterMap_cons, List.filterMap_nil, ho, Option.map_some]
    rfl

theorem frees_all {l : List Oper} {pi : List Nat} (h : ((mixOf l (pi.map fun i => (i, false))).all fun r => r.2.2 || noEnter r.1) = true) : ((mixOf l (pi.map fun i => (i, false))).all fun r => noEnter r.1) = true := by
  refine List.all_eq_true.2 fun r hr => ?_
  have h3 := List.all_eq_true.1 h r hr
  obtain ⟨p, hp, he⟩ := List.mem_filterMap.1 hr
  obtain ⟨i, _, rfl⟩ := List.mem_map.1 hp
  obtain ⟨o, _, rfl⟩ := Option.map_eq_some_iff.1 he
  simpa using h3

theorem mixU_of_segs {G : List Nat} {fin : Act → World → Prop} {l : List Oper} (hrf : ∀ w, R w w) : ∀ (ns pi : List Nat) (a : Act) (w : World), segSmall 0 ns pi.length = true → (∀ i ∈ pi, i < l.length) → ((mixOf l (permP ns pi)).all fun r => r.2.2 || noEnter r.1) = true →
    wpSegsU G R P ops Q fin ns (remOf l pi) a w → wpMixU G R P ops Q fin (mixOf l (permP ns pi)) a w
  | [], pi, a, w, hs, hk, hB, h => by
    unfold wpSegsU at h
    unfold permP at hB ⊢
    have h2 := mixU_frees (G := G) (Q := Q) (P := P) (ops := ops) (l := l) (w := w) (fin := fin) hrf (fun a' => ∀ X, Frm G w X → fin a' X) [] pi a hk (frees_all hB) h (fun a' h' => h')
    simpa using h2
  | n :: ns, pi, a, w, hs, hk, hB, h => by
    obtain ⟨i, o, hi, ho, hs2, e1, e2, e3, hk1, hk3, e4⟩ := seg_split (l := l) hs hk
    rw [e4] at hB ⊢
    rw [List.all_append, List.all_cons, Bool.and_eq_true, Bool.and_eq_true] at hB
    unfold wpSegsU at h
    rw [e1] at h
    refine mixU_frees (G := G) hrf _ _ (pi.take n) a hk1 (frees_all hB.1) h (fun a' h' => ?_)
    intro X hX
    have h' := h' X hX
    rw [e2, e3] at h'
    unfold wpList at h'
    have nx : ∀ a'' w'', (Frm G X w'' ∧ wpSegsU G R P ops Q fin ns (remOf l (pi.drop (n + 1))) a'' w'') → Frm G X w'' ∧ wpMixU G R P ops Q fin (mixOf l (permP ns (pi.drop (n + 1)))) a'' w'' :=
      fun a'' w'' h5 => ⟨h5.1, mixU_of_segs hrf ns (pi.drop (n + 1)) a'' w'' hs2 hk3 hB.2.2 h5.2⟩
    split
    · rename_i hw
      rw [if_pos hw] at h'
      rcases h' with h' | h'
      · exact .inl (Oper.wp_mono (fun a'' w'' h5 => nx a'' w'' h5) (wp_of_then2 h'))
      · exact .inr h'
    · rename_i hw
      rw [if_neg hw] at h'
      exact (nx _ _ h').2
theorem mixR_of_segs {l : List Oper} (hrf : ∀ w, R w w) : ∀ (ns pi : List Nat) (a : Act) (w : World), segSmall 0 ns pi.length = true → (∀ i ∈ pi, i < l.length) → ((mixOf l (permP ns pi)).all fun r => r.2.2 || noEnter r.1) = true →
    wpSegsR R P ops Q ns (remOf l pi) a w → wpMixR R P ops Q (mixOf l (permP ns pi)) a w
  | [], pi, a, w, hs, hk, hB, h => by
    unfold wpSegsR at h
    unfold permP at hB ⊢
    have h2 := mixR_frees (Q := Q) (P := P) (ops := ops) (l := l) (w := w) hrf (fun a' => Q .normal a' w) [] pi a hk (frees_all hB) h (fun a' h' => h')
    simpa using h2
  | n :: ns, pi, a, w, hs, hk, hB, h => by
    obtain ⟨i, o, hi, ho, hs2, e1, e2, e3, hk1, hk3, e4⟩ := seg_split (l := l) hs hk
    rw [e4] at hB ⊢
    rw [List.all_append, List.all_cons, Bool.and_eq_true, Bool.and_eq_true] at hB
    unfold wpSegsR at h
    rw [e1] at h
    refine mixR_frees hrf _ _ (pi.take n) a hk1 (frees_all hB.1) h (fun a' h' => ?_)
    rw [e2, e3] at h'
    unfold wpList at h'
    unfold wpMixR
    have nx : ∀ a'' w'', (R w w'' ∧ wpSegsR R P ops Q ns (remOf l (pi.drop (n + 1))) a'' w'') → R w w'' ∧ wpMixR R P ops Q (mixOf l (permP ns (pi.drop (n + 1)))) a'' w'' :=
      fun a'' w'' h5 => ⟨h5.1, mixR_of_segs hrf ns (pi.drop (n + 1)) a'' w'' hs2 hk3 hB.2.2 h5.2⟩
    split
    · rename_i hw
      rw [if_pos hw] at h'
      rcases h' with h' | h'
      · exact .inl (Oper.wp_mono (fun a'' w'' h5 => nx a'' w'' h5) (wp_of_then2 h'))
      · exact .inr h'
    · rename_i hw
      rw [if_neg hw] at h'
      exact (nx _ _ h').2
end

/-- Old blocks but those of G are as they were. -/
structure FrB (B : Nat) (G : List Nat) (w w' : World) : Prop where
  os : w'.os = w.os
  tape : w'.tape = w.tape
  output : w'.output = w.output
  size : w.heap.size ≤ w'.heap.size
  block : ∀ k, k < B → k < w.heap.size → k ∉ G → w'.heap[k]? = w.heap[k]?
theorem FrB.refl (B : Nat) (G : List Nat) (w : World) : FrB B G w w := ⟨rfl, rfl, rfl, Nat.le_refl _, fun _ _ _ _ => rfl⟩
theorem FrB.trans {B : Nat} {G : List Nat} {a b c : World} (h : FrB B G a b) (k : FrB B G b c) : FrB B G a c :=
  ⟨k.os.trans h.os, k.tape.trans h.tape, k.output.trans h.output, Nat.le_trans h.size k.size, fun i h1 h2 h3 => (k.block i h1 (Nat.lt_of_lt_of_le h2 h.size) h3).trans (h.block i h1 h2 h3)⟩
theorem FrB.of {B : Nat} {G : List Nat} {a b : World} (h : Frm G a b) : FrB B G a b := ⟨h.os, h.tape, h.output, h.size, fun k _ h2 h3 => h.block k h2 h3⟩
theorem FrB.blk {B : Nat} {G : List Nat} {a b : World} (h : FrB B G a b) {g : Nat} {t : TypeId} {cs : Array Value} (hb : Blk a g t cs) (hB : g < B) (hs : g ∉ G) : Blk b g t cs := (h.block g hB hb.lt hs).trans hb
theorem FrB.cell {B : Nat} {G : List Nat} {a b : World} (h : FrB B G a b) {g i : Nat} (hg : g < a.heap.size) (hB : g < B) (hs : g ∉ G) : b.cell? ⟨g, i, none⟩ = a.cell? ⟨g, i, none⟩ := World.cell?_of_block (w := a) (h.block g hB hg hs)
theorem FrB.put {B : Nat} {G : List Nat} {a b : World} (h : FrB B G a b) {g : Nat} (hg : g ∈ G ∨ B ≤ g) (i : Nat) (u : Value) : FrB B G a (b.setCell ⟨g, i, none⟩ u) :=
  ⟨h.os, h.tape, h.output, by simpa [World.setCell] using h.size, fun k h1 h2 hs => (Below.heap_setCell b _ u k (fun e => by
    have e' : k = g := e
    subst e'
    rcases hg with hg | hg
    · exact hs hg
    · omega)).trans (h.block k h1 h2 hs)⟩

/-- All that is to be checked of the lists. -/
def chkA (l : List Oper) (om : Oper) (m : Nat) (pi ns piT nsT : List Nat) : Bool :=
  segSmall 0 ns pi.length && segSmall 0 nsT piT.length && (pi.all fun i => decide (i < l.length)) && (piT.all fun i => decide (i < l.length)) &&
  ((mixOf l (permP ns pi) ++ mixOf l (permP nsT piT)).length + 1 == l.length) && ((List.range l.length).all fun j => j == m || (mixOf l (permP ns pi) ++ mixOf l (permP nsT piT)).any fun r => r.2.1 == j) &&
  ((mixOf l (permP ns pi) ++ mixOf l (permP nsT piT)).all fun r => r.2.1 != m) && goA l.length l.toArray om m (mixOf l (permP nsT piT)) (mixOf l (permP ns pi)) && mixGo l.length l.toArray (mixOf l (permP ns pi) ++ mixOf l (permP nsT piT)) &&
  ((mixOf l (permP nsT piT)).all fun r => r.1.after.any fun e => Region.binds .any e && (e.on == m || (mixOf l (permP nsT piT)).any fun q => q.2.1 == e.on)) &&
  ((mixOf l (permP ns pi)).all fun r => r.2.2 || noEnter r.1) && ((mixOf l (permP nsT piT)).all fun r => r.2.2 || noEnter r.1)

theorem mix_mem {l : List Oper} {perm : List (Nat × Bool)} {r : MOp} (hr : r ∈ mixOf l perm) : l[r.2.1]? = some r.1 := by
  unfold mixOf at hr
  obtain ⟨p, _, hp⟩ := List.mem_filterMap.1 hr
  obtain ⟨o, ho, rfl⟩ := Option.map_eq_some_iff.1 hp
  simpa using ho

/-- A region that draws and makes one variable, at whatever time: its head in stretches, each call at a letter for the world; then what lies behind the variable. -/
theorem region_segsA {P : Program} {id : Nat} {Q : Exit → Act → World → Prop} {a : Act} {w : World} {l : List Oper} (pi ns : List Nat) (m : Nat) (piT nsT : List Nat) {om : Oper} {d : Nat} {ty : TypeId} {z : Array Value}
    (hm : P.follows .mixedOrders = true) (hsel : Region.noSelect l.toArray = true) (hom : l.toArray[m]? = some om) (hgd : om.guard = none) (haf : om.after = #[]) (hd : om.dst = some d)
    (hrun : ∀ (a : Act) w, (execOp a.eval om).run P w = .ok (.value (.pointer (some ⟨w.heap.size, 0, none⟩))) (w.alloc (.cells z ty)))
    (hc : chkA l om m pi ns piT nsT = true)
    (h : wpSegsU [] (FrB w.heap.size []) P l.toArray (NoPanic Q) (fun a' X => ∀ g, Blk X g ty z → w.heap.size ≤ g → wpSegsR (FrB w.heap.size []) P l.toArray (NoPanic Q) nsT (remOf l piT) (a'.put (some d) (.pointer (some ⟨g, 0, none⟩))) X) ns (remOf l pi) a w.drew) : (Code.region id l.toArray true).wp P Q a w := by
  refine wp_region_noPanic (wp_region_any hm ?_)
  have hz : l.toArray.size = l.length := by simp
  simp only [chkA, Bool.and_eq_true] at hc
  obtain ⟨⟨⟨⟨⟨⟨⟨⟨⟨⟨⟨c1, c2⟩, c3⟩, c4⟩, c5⟩, c6⟩, c7⟩, c8⟩, c9⟩, c10⟩, c11⟩, c12⟩ := hc
  have k3 : ∀ i ∈ pi, i < l.length := fun i hi => of_decide_eq_true (List.all_eq_true.1 c3 i hi)
  have k4 : ∀ i ∈ piT, i < l.length := fun i hi => of_decide_eq_true (List.all_eq_true.1 c4 i hi)
  have hun : ∀ j, j < l.length → (Array.replicate l.toArray.size false).getD j true = false := fun j hj => by simp [hj]
  have h' := mixU_of_segs (G := []) (P := P) (ops := l.toArray) (Q := NoPanic Q) (l := l) (FrB.refl w.heap.size []) ns pi a w.drew c1 k3 c11 h
  have h'' : wpMixU [] (FrB w.heap.size []) P l.toArray (NoPanic Q) (fun a' X => ∀ g, Blk X g ty z → w.heap.size ≤ g → wpMixR (FrB w.heap.size []) P l.toArray (NoPanic Q) (mixOf l (permP nsT piT)) (a'.put (some d) (.pointer (some ⟨g, 0, none⟩))) X) (mixOf l (permP ns pi)) a w.drew := by
    have mono : ∀ (ms : List MOp) (a : Act) (v : World), wpMixU [] (FrB w.heap.size []) P l.toArray (NoPanic Q) (fun a' X => ∀ g, Blk X g ty z → w.heap.size ≤ g → wpSegsR (FrB w.heap.size []) P l.toArray (NoPanic Q) nsT (remOf l piT) (a'.put (some d) (.pointer (some ⟨g, 0, none⟩))) X) ms a v →
        wpMixU [] (FrB w.heap.size []) P l.toArray (NoPanic Q) (fun a' X => ∀ g, Blk X g ty z → w.heap.size ≤ g → wpMixR (FrB w.heap.size []) P l.toArray (NoPanic Q) (mixOf l (permP nsT piT)) (a'.put (some d) (.pointer (some ⟨g, 0, none⟩))) X) ms a v := by
      intro ms
      induction ms with
      | nil => exact fun a v hh X hX g hb hg => mixR_of_segs (FrB.refl _ _) nsT piT _ _ c2 k4 c12 (hh X hX g hb hg)
      | cons x ms ih =>
        obtain ⟨o, i, fl⟩ := x
        intro a v hh
        cases fl with
        | true =>
          intro X hX
          have h2 := hh X hX
          split
          · rename_i hw
            rw [if_pos hw] at h2
            exact h2.imp (Oper.wp_mono fun a' w' h3 => ⟨h3.1, ih _ _ h3.2⟩) (fun h => h)
          · rename_i hw
            rw [if_neg hw] at h2
            exact ih _ _ h2
        | false =>
          obtain ⟨u, hy, h2⟩ := hh
          exact ⟨u, hy, ih _ _ h2⟩
    exact mono _ _ _ h'
  have hml : ∀ r ∈ mixOf l (permP ns pi) ++ mixOf l (permP nsT piT), l[r.2.1]? = some r.1 := fun r hr => (List.mem_append.1 hr).elim mix_mem mix_mem
  have hom' : l[m]? = some om := by simpa using hom
  have := held_alloc (G := []) (R := FrB w.heap.size []) (P := P) (ops := l.toArray) (Q := NoPanic Q) (om := om) (m := m) (d := d) (B0 := w.heap.size) (ty := ty) (z := z) (tl := mixOf l (permP nsT piT)) (FrB.refl _ _) (fun _ _ _ => FrB.trans) (fun _ _ => FrB.of) (by simp) (fun c a w h => h) hsel hom hgd haf hd hrun (fun r hr => List.all_eq_true.1 c10 r hr)
    (mixOf l (permP ns pi)) (Array.replicate l.toArray.size false) a w.drew (fun r hr => by simpa using hml r hr) (by simp) (fun r hr => hun _ (List.getElem?_eq_some_iff.1 (hml r hr)).1) (hun m (List.getElem?_eq_some_iff.1 hom').1) (fun r hr => by have := List.all_eq_true.1 c7 r hr; simpa using this)
    (fun j hj => by
      have hjl : j < l.length := by
        rcases Nat.lt_or_ge j l.length with h3 | h3
        · exact h3
        · have h4 : (Array.replicate l.toArray.size false).getD j true = true := by simp [h3]
          rw [h4] at hj; cases hj
      have h3 := List.all_eq_true.1 c6 j (List.mem_range.2 hjl)
      simp only [Bool.or_eq_true, beq_iff_eq, List.any_eq_true] at h3
      exact h3) (by rw [hz]; exact c8) (by rw [hz]; exact c9) (Nat.le_refl _) h'' (fun _ => True) (fun _ _ _ _ => trivial) trivial
  rw [show (mixOf l (permP ns pi) ++ mixOf l (permP nsT piT)).length + 1 = l.length by simpa using c5, ← hz] at this
  exact wpAny_of_held _ _ _ _ this

/-- A new thing that was made beside the others: its block bears another type. -/
theorem Sep.adopt {S : List Nat} {w0 w : World} {L : List Res} (h : Sep S w0 w L) {g : Nat} {t : TypeId} {cs : Array Value} (hb : Blk w g t cs) (hg : w0.heap.size ≤ g) (hn : ∀ r ∈ L, g ∉ r.bl) : Sep S w0 w (blkR g t cs :: L) :=
  ⟨h.frm, fun r hr => by
    rcases List.mem_cons.1 hr with rfl | hr
    · exact hb
    · exact h.holds r hr, List.Pairwise.cons (fun r hr k hk hk' => by simp [blkR] at hk; subst hk; exact hn r hr hk') h.apart, fun r hr => by
    rcases List.mem_cons.1 hr with rfl | hr
    · intro k hk; simp [blkR] at hk; subst hk; exact .inr hg
    · exact h.mine r hr⟩
theorem far_own {w : World} {g : Nat} {t e : TypeId} {cs : Array Value} {size : Nat} {v : Value} {n : Nat} {xs : List Value} (hb : Blk w g t cs) (ho : w.ownsRow 0 e size v n xs) (hne : e ≠ t) : g ∉ (ownR e size v n xs).bl := by
  intro hm
  rcases ho.2 with ⟨rfl, _⟩ | ⟨g', cap, cur, rfl, _, hh, _⟩
  · simp [ownR, Value.ownBlock] at hm
  · simp [ownR, Value.ownBlock] at hm
    subst hm
    unfold Blk at hb
    rw [hh] at hb
    injection hb with hb
    injection hb with h1 h2
    exact hne h2
end

/- A REGION THAT DRAWS ITS ORDER: its quiet operations first, taken ahead; then operations that make new memory, in whatever order, each shown once at a letter for the world; then a tail in stretches. No program is named here. -/
section
open Go.RowKit

/-- A word on a value that new memory does not turn. -/
structure Pr where
  p : Value → World → Prop
  st : ∀ v X X', Frm [] X X' → p v X → p v X'
/-- The value is known. -/
def Pr.is (u : Value) : Pr := ⟨fun v _ => v = u, fun _ _ _ _ h => h⟩
def AtBlk (t : TypeId) (cs : Array Value) (n : Nat) (B : Nat) (v : Value) (X : World) : Prop := ∃ g, v = .slice (some ⟨g, 0, none⟩) n n ∧ Blk X g t cs ∧ B ≤ g
/-- A slice of n in a new block (from B on). -/
def Pr.blk (t : TypeId) (cs : Array Value) (n B : Nat) : Pr := ⟨AtBlk t cs n B, fun v X X' hf ⟨g, hv, hb, hB⟩ => ⟨g, hv, hf.blk hb (by simp), hB⟩⟩
def AtPtr (t : TypeId) (cs : Array Value) (B : Nat) (v : Value) (X : World) : Prop := ∃ g, v = .pointer (some ⟨g, 0, none⟩) ∧ Blk X g t cs ∧ B ≤ g
/-- A pointer to a new block. -/
def Pr.ptr (t : TypeId) (cs : Array Value) (B : Nat) : Pr := ⟨AtPtr t cs B, fun v X X' hf ⟨g, hv, hb, hB⟩ => ⟨g, hv, hf.blk hb (by simp), hB⟩⟩
def AtSep (w0 : World) (L : Value → List Res) (v : Value) (X : World) : Prop := Sep [] w0 X (L v)
/-- Things made since w0. -/
def Pr.sep (w0 : World) (L : Value → List Res) : Pr := ⟨AtSep w0 L, fun _ _ _ hf h => Sep.keep h hf⟩

/-- o waits for operation i. -/
def isTo (o : Oper) (i : Nat) : Bool := o.after.any fun e => Region.binds .any e && e.on == i
theorem isTo_mem {o : Oper} {i : Nat} : isTo o i = true ↔ ∃ e ∈ o.after, Region.binds .any e = true ∧ e.on = i := by
  unfold isTo
  rw [Array.any_eq_true']
  constructor
  · rintro ⟨e, he, h⟩
    simp only [Bool.and_eq_true, beq_iff_eq] at h
    exact ⟨e, he, h.1, h.2⟩
  · rintro ⟨e, he, h1, h2⟩
    exact ⟨e, he, by simp [h1, h2]⟩
def Facts (o : Oper) (kn : List (Nat × (World → Prop))) (X : World) : Prop := ∀ (j i : Nat) (f : World → Prop), kn[j]? = some (i, f) → isTo o i = true → f X
def AllFacts (kn : List (Nat × (World → Prop))) (X : World) : Prop := ∀ (j i : Nat) (f : World → Prop), kn[j]? = some (i, f) → f X

def wpMk (P : Program) (ops : Array Oper) (Q : Exit → Act → World → Prop) (G : List Nat) (w0 : World) (ns : List Nat) (tl : List Oper) : List (Oper × Nat × Pr) → List (Nat × (World → Prop)) → Act → Prop
  | [], kn, a => ∀ X, Frm [] w0 X → AllFacts kn X → wpSegs G P ops Q ns tl a X
  | (o, i, r) :: ms, kn, a => (∀ X, Frm [] w0 X → Facts o kn X → wpList P ops (Exit.then (fun a' X' => Frm [] X X' ∧ a'.defers = a.defers ∧ r.p (a'.eval (.tmp (o.dst.getD 0))) X') Q) [o] a X) ∧ ∀ v, wpMk P ops Q G w0 ns tl ms ((i, r.p v) :: kn) (a.put o.dst v)

section
variable {P : Program} {ops : Array Oper} {Q : Exit → Act → World → Prop} {G : List Nat} {w0 : World} {ns : List Nat} {tl : List Oper}

theorem mk_step : ∀ (ms : List (Oper × Nat × Pr)) (kn : List (Nat × (World → Prop))) (a : Act), wpMk P ops Q G w0 ns tl ms kn a → ∀ (u : Nat → Value) (k : Nat) (o : Oper) (i : Nat) (r : Pr), ms[k]? = some (o, i, r) → ∀ X, Frm [] w0 X → Facts o kn X →
    (∀ j o' i' r', j < k → ms[j]? = some (o', i', r') → isTo o i' = true → r'.p (u (o'.dst.getD 0)) X) →
    wpList P ops (Exit.then (fun a' X' => Frm [] X X' ∧ a'.defers = (fills u ((ms.take k).map (·.1)) a).defers ∧ r.p (a'.eval (.tmp (o.dst.getD 0))) X') Q) [o] (fills u ((ms.take k).map (·.1)) a) X
  | [], kn, a, _, u, k, o, i, r, hk, X, hX, hf, hu => by simp at hk
  | (o1, i1, r1) :: ms, kn, a, h, u, k, o, i, r, hk, X, hX, hf, hu => by
    cases k with
    | zero =>
      simp at hk
      obtain ⟨rfl, rfl, rfl⟩ := hk
      exact h.1 X hX hf
    | succ k =>
      simp at hk
      have := mk_step ms ((i1, r1.p (u (o1.dst.getD 0))) :: kn) _ (h.2 (u (o1.dst.getD 0))) u k o i r hk X hX (fun j i' f hj hto => by
        cases j with
        | zero =>
          simp at hj
          obtain ⟨rfl, rfl⟩ := hj
          exact hu 0 o1 i1 r1 (by omega) rfl hto
        | succ j => exact hf j i' f (by simpa using hj) hto) (fun j o' i' r' hj hm hto => hu (j + 1) o' i' r' (by omega) (by simpa using hm) hto)
      simpa [fills] using this
theorem mk_end : ∀ (ms : List (Oper × Nat × Pr)) (kn : List (Nat × (World → Prop))) (a : Act), wpMk P ops Q G w0 ns tl ms kn a → ∀ (u : Nat → Value) X, Frm [] w0 X → AllFacts kn X →
    (∀ m ∈ ms, m.2.2.p (u (m.1.dst.getD 0)) X) → wpSegs G P ops Q ns tl (fills u (ms.map (·.1)) a) X
  | [], kn, a, h, u, X, hX, hf, hu => h X hX hf
  | (o1, i1, r1) :: ms, kn, a, h, u, X, hX, hf, hu => by
    have := mk_end ms ((i1, r1.p (u (o1.dst.getD 0))) :: kn) _ (h.2 (u (o1.dst.getD 0))) u X hX (fun j i' f hj => by
      cases j with
      | zero =>
        simp at hj
        obtain ⟨rfl, rfl⟩ := hj
        exact hu _ (List.mem_cons_self ..)
      | succ j => exact hf j i' f (by simpa using hj)) (fun m hm => hu m (List.mem_cons_of_mem _ hm))
    simpa [fills] using this

theorem fills_append (u : Nat → Value) (l1 l2 : List Oper) (a : Act) : fills u (l1 ++ l2) a = fills u l2 (fills u l1 a) := by
  induction l1 generalizing a with
  | nil => rfl
  | cons o l ih => simp only [List.cons_append, fills]; exact ih _
theorem execOp_fills (o : Oper) (hs : ∀ cs b, o.op ≠ .select cs b) (u : Nat → Value) : ∀ (l2 : List Oper) (a : Act), (∀ m ∈ l2, ∀ t, m.dst = some t → t ∉ o.looksAt ops) → execOp (fills u l2 a).eval o = execOp a.eval o
  | [], a, h => rfl
  | m :: l2, a, h => by
    simp only [fills]
    rw [execOp_fills o hs u l2 _ (fun m' hm' => h m' (List.mem_cons_of_mem _ hm')), execOp_put (ops := ops) o hs a m.dst _ (h m (List.mem_cons_self ..))]

/-- One operation at another frame. -/
theorem wp_frames {o : Oper} {a b : Act} {w : World} {K K' : Act → World → Prop} (he : execOp b.eval o = execOp a.eval o) (hp : ∀ c a w b, Q (.panic c) a w → Q (.panic c) b w) 
    (hK : ∀ v w', K (a.put o.dst v) w' → K' (b.put o.dst v) w') (hd : ∀ (d : Deferred) v w', K (({ a with defers := d :: a.defers } : Act).put o.dst v) w' → False) (h : o.wp P a w K Q) : o.wp P b w K' Q := by
  unfold Oper.wp at h ⊢
  rw [he]
  generalize (execOp a.eval o).run P w = r at h ⊢
  unfold Oper.upon at h ⊢
  split at h
  · exact hK _ _ h
  · exact hK _ _ h
  · exact (hd _ _ _ h).elim
  · refine Calls.mono h ?_
    intro e w'' hh
    cases e with
    | returned v => exact hK _ _ hh
    | panicked c => exact hp _ _ _ _ hh
    | outgrown => exact hh
  · refine Rows.mono h ?_
    intro v w'' hh
    exact hK _ _ hh
  · exact hp _ _ _ _ h
  · exact h.elim

/-- The movers, with their words. -/
def mvs (l : List Oper) (mvi : List Nat) (ps : List Pr) : List (Oper × Nat × Pr) := (mvi.zip ps).filterMap fun x => (l[x.1]?).map fun o => (o, x.1, x.2)
theorem mvs_at {l : List Oper} {mvi : List Nat} {ps : List Pr} {m : Oper × Nat × Pr} (h : m ∈ mvs l mvi ps) : l[m.2.1]? = some m.1 ∧ m.2.1 ∈ mvi := by
  obtain ⟨x, hx, he⟩ := List.mem_filterMap.1 h
  obtain ⟨o, ho, rfl⟩ := Option.map_eq_some_iff.1 he
  exact ⟨ho, (List.of_mem_zip hx).1⟩

/-- What is to be checked of the movers: each is unguarded, writes a slot that neither it nor a later one looks at, and waits for none of the later ones nor of the tail; each is waited for by a later one or by the tail's first. -/
def mvOk (n : Nat) (ops : Array Oper) (tl : List MOp) : List (Oper × Nat) → Bool
  | [] => true
  | (o, i) :: ms =>
    o.guard.isNone && (match o.dst with | some d => ((o, i) :: ms).all (fun m => decide (m.1.dst ≠ some d) || m.2 == i) && !((o.looksAt ops).contains d) | none => false) &&
    ms.all (fun m => match m.1.dst with | some t => !((o.looksAt ops).contains t) | none => true) &&
    o.after.all (fun e => !Region.binds .any e || (decide (e.on < n) && (((o, i) :: ms).all (fun m => m.2 != e.on) && tl.all fun r => r.2.1 != e.on))) &&
    ms.all (fun m => m.2 != i) && tl.all (fun r => r.2.1 != i) &&
    (match tl with | [] => true | t :: _ => isTo t.1 i || ms.any fun m => isTo m.1 i) && mvOk n ops tl ms
/-- Each of the tail but the first waits for an earlier one of it. -/
def tlOk : List Nat → List MOp → Bool
  | _, [] => true
  | [], t :: ts => tlOk [t.2.1] ts
  | q :: qs, t :: ts => ((q :: qs).any fun i => isTo t.1 i) && tlOk (t.2.1 :: q :: qs) ts

theorem tail_wait {listed : Array Bool} (hun : ∀ j, j < ops.size → listed.getD j false = true → listed.getD j true = true) : ∀ (ts : List MOp) (qs : List Nat), tlOk qs ts = true → (∀ q ∈ qs, listed.getD q false = false) → (∀ t ∈ ts, listed.getD t.2.1 false = false) →
    (∀ t ∈ ts, ops[t.2.1]? = some t.1) → (qs = [] → ∀ t, ts.head? = some t → t.2.1 ∉ Region.ready .any ops listed) → ∀ t ∈ ts, t.2.1 ∉ Region.ready .any ops listed
  | [], qs, _, _, _, _, _, t, ht => by cases ht
  | t0 :: ts, qs, hok, hq, hts, hat, h0, t, ht => by
    have hnt0 : t0.2.1 ∉ Region.ready .any ops listed := by
      cases qs with
      | nil => exact h0 rfl t0 rfl
      | cons q qs =>
        simp only [tlOk, Bool.and_eq_true] at hok
        intro hr
        obtain ⟨_, o, ho, hall⟩ := mem_ready.1 hr
        have : o = t0.1 := Option.some.inj (ho.symm.trans (hat t0 (List.mem_cons_self ..)))
        subst this
        obtain ⟨i, hi, hto⟩ := List.any_eq_true.1 hok.1
        obtain ⟨e, he, hb, hon⟩ := isTo_mem.1 hto
        have := hall e he hb
        rw [hon, hq i hi] at this
        cases this
    rcases List.mem_cons.1 ht with rfl | ht
    · exact hnt0
    · cases qs with
      | nil =>
        simp only [tlOk] at hok
        exact tail_wait hun ts [t0.2.1] hok (fun q hq' => by simp at hq'; subst hq'; exact hts _ (List.mem_cons_self ..)) (fun t ht => hts t (List.mem_cons_of_mem _ ht)) (fun t ht => hat t (List.mem_cons_of_mem _ ht)) (fun h => by cases h) t ht
      | cons q qs =>
        simp only [tlOk, Bool.and_eq_true] at hok
        exact tail_wait hun ts (t0.2.1 :: q :: qs) hok.2 (fun q' hq' => by
          rcases List.mem_cons.1 hq' with rfl | hq'
          · exact hts _ (List.mem_cons_self ..)
          · exact hq q' hq') (fun t ht => hts t (List.mem_cons_of_mem _ ht)) (fun t ht => hat t (List.mem_cons_of_mem _ ht)) (fun h => by cases h) t ht
/-- The tail's first is not ready while a mover is still to come. -/
theorem first_waits {n : Nat} {listed : Array Bool} {t0 : MOp} {tl : List MOp} (hcl : ∀ j oj, ops[j]? = some oj → listed.getD j false = true → ∀ e ∈ oj.after, Region.binds .any e = true → listed.getD e.on false = true) (hat0 : ops[t0.2.1]? = some t0.1) :
    ∀ (ms : List (Oper × Nat)), mvOk n ops (t0 :: tl) ms = true → (∀ m ∈ ms, ops[m.2]? = some m.1) → (∃ m ∈ ms, listed.getD m.2 false = false) → t0.2.1 ∉ Region.ready .any ops listed
  | [], _, _, h => by obtain ⟨m, hm, _⟩ := h; cases hm
  | (o, i) :: ms, hok, hat, h => by
    simp only [mvOk, Bool.and_eq_true] at hok
    obtain ⟨⟨_, hsk⟩, hok'⟩ := hok
    by_cases hi : listed.getD i false = false
    · rw [Bool.or_eq_true] at hsk
      rcases hsk with hsk | hsk
      · intro hr
        obtain ⟨_, o', ho', hall⟩ := mem_ready.1 hr
        have : o' = t0.1 := Option.some.inj (ho'.symm.trans hat0)
        subst this
        obtain ⟨e, he, hb, hon⟩ := isTo_mem.1 hsk
        have := hall e he hb
        rw [hon, hi] at this
        cases this
      · obtain ⟨m, hm, hto⟩ := List.any_eq_true.1 hsk
        refine first_waits hcl hat0 ms hok' (fun m hm => hat m (List.mem_cons_of_mem _ hm)) ⟨m, hm, ?_⟩
        cases hl : listed.getD m.2 false with
        | false => rfl
        | true =>
          obtain ⟨e, he, hb, hon⟩ := isTo_mem.1 hto
          have := hcl m.2 m.1 (hat m (List.mem_cons_of_mem _ hm)) hl e he hb
          rw [hon, hi] at this
          cases this
    · obtain ⟨m, hm, hf⟩ := h
      rcases List.mem_cons.1 hm with rfl | hm
      · exact absurd hf hi
      · exact first_waits hcl hat0 ms hok' (fun m hm => hat m (List.mem_cons_of_mem _ hm)) ⟨m, hm, hf⟩

/-- How many of them are still to come. -/
def toDo (listed : Array Bool) (ms : List (Oper × Nat × Pr)) : Nat := (ms.filter fun m => !listed.getD m.2.1 true).length
theorem toDo_zero {listed : Array Bool} {ms : List (Oper × Nat × Pr)} (h : toDo listed ms = 0) : ∀ m ∈ ms, listed.getD m.2.1 true = true := by
  intro m hm
  have h2 := (List.filter_eq_nil_iff.1 (List.eq_nil_of_length_eq_zero h)) m hm
  simpa using h2
theorem toDo_pos {listed : Array Bool} {ms : List (Oper × Nat × Pr)} {k : Nat} (h : toDo listed ms = k + 1) : ∃ m ∈ ms, listed.getD m.2.1 true = false := by
  obtain ⟨m, hm⟩ := List.exists_mem_of_length_pos (l := ms.filter fun m => !listed.getD m.2.1 true) (by unfold toDo at h; omega)
  rw [List.mem_filter] at hm
  exact ⟨m, hm.1, by simpa using hm.2⟩
theorem toDo_set {listed : Array Bool} {ms : List (Oper × Nat × Pr)} {m : Oper × Nat × Pr} (hn : (ms.map (·.2.1)).Nodup) (hm : m ∈ ms) (hun : listed.getD m.2.1 true = false) (hil : m.2.1 < listed.size) : toDo (listed.setIfInBounds m.2.1 true) ms + 1 = toDo listed ms := by
  unfold toDo
  induction ms with
  | nil => cases hm
  | cons x ms ih =>
    rw [List.map_cons, List.nodup_cons] at hn
    rcases List.mem_cons.1 hm with rfl | hm
    · have same : ms.filter (fun y => !(listed.setIfInBounds m.2.1 true).getD y.2.1 true) = ms.filter (fun y => !listed.getD y.2.1 true) := by
        apply List.filter_congr
        intro y hy
        have : m.2.1 ≠ y.2.1 := fun e => hn.1 (by rw [e]; exact List.mem_map_of_mem (f := fun x : Oper × Nat × Pr => x.2.1) hy)
        rw [getD_set_ne true this]
      rw [List.filter_cons, List.filter_cons, same]
      simp [hil] at hun ⊢
      simp [hun]
    · have hne : m.2.1 ≠ x.2.1 := fun e => hn.1 (by rw [← e]; exact List.mem_map_of_mem (f := fun x : Oper × Nat × Pr => x.2.1) hm)
      have := ih hn.2 hm
      rw [List.filter_cons, List.filter_cons, getD_set_ne true hne]
      split
      · simp only [List.length_cons]; omega
      · exact this

theorem mvOk_drop {n : Nat} {tl : List MOp} : ∀ (k : Nat) (ms : List (Oper × Nat)), mvOk n ops tl ms = true → mvOk n ops tl (ms.drop k) = true
  | 0, ms, h => h
  | k + 1, [], h => h
  | k + 1, (o, i) :: ms, h => by
    simp only [mvOk, Bool.and_eq_true] at h
    exact mvOk_drop k ms h.2
theorem mvOk_nodup {n : Nat} {tl : List MOp} : ∀ (ms : List (Oper × Nat)), mvOk n ops tl ms = true → (ms.map (·.2)).Nodup
  | [], _ => List.nodup_nil
  | (o, i) :: ms, h => by
    simp only [mvOk, Bool.and_eq_true] at h
    obtain ⟨⟨⟨⟨_, h1⟩, _⟩, _⟩, h2⟩ := h
    rw [List.map_cons, List.nodup_cons]
    refine ⟨fun hm => ?_, mvOk_nodup ms h2⟩
    obtain ⟨m, hm, e⟩ := List.mem_map.1 hm
    have := List.all_eq_true.1 h1 m hm
    simp at this
    exact this e
/-- What is known of one of the movers. -/
theorem mvOk_at {n : Nat} {tl : List MOp} {ms : List (Oper × Nat)} {k : Nat} {o : Oper} {i : Nat} (h : mvOk n ops tl ms = true) (hk : ms[k]? = some (o, i)) :
    o.guard = none ∧ (∃ d, o.dst = some d ∧ d ∉ o.looksAt ops ∧ ∀ j m, ms[j]? = some m → m.1.dst = some d → j ≤ k → j = k ∨ True) ∧ (∀ j m t, k ≤ j → ms[j]? = some m → m.1.dst = some t → t ∉ o.looksAt ops) ∧
    (∀ e ∈ o.after, Region.binds .any e = true → e.on < n ∧ (∀ j m, k ≤ j → ms[j]? = some m → m.2 ≠ e.on) ∧ ∀ r ∈ tl, r.2.1 ≠ e.on) ∧ (∀ r ∈ tl, r.2.1 ≠ i) := by
  have h' := mvOk_drop (ops := ops) k ms h
  have hkl : k < ms.length := (List.getElem?_eq_some_iff.1 hk).1
  have hd : ms.drop k = (o, i) :: ms.drop (k + 1) := by
    rw [List.drop_eq_getElem_cons hkl]
    congr 1
    exact (List.getElem?_eq_some_iff.1 hk).2
  rw [hd] at h'
  simp only [mvOk, Bool.and_eq_true] at h'
  obtain ⟨⟨⟨⟨⟨⟨⟨h1, h2⟩, h3⟩, h4⟩, h5⟩, h6⟩, h7⟩, h8⟩ := h'
  have later : ∀ j m, k < j → ms[j]? = some m → m ∈ ms.drop (k + 1) := fun j m hj hm => List.mem_iff_getElem?.2 ⟨j - (k + 1), by rw [List.getElem?_drop, show k + 1 + (j - (k + 1)) = j by omega]; exact hm⟩
  obtain ⟨d, hod⟩ : ∃ d, o.dst = some d := by
    cases hod : o.dst with
    | none => rw [hod] at h2; cases h2
    | some d => exact ⟨d, rfl⟩
  rw [hod] at h2
  simp only [Bool.and_eq_true, Bool.not_eq_true', List.contains_eq_mem, decide_eq_false_iff_not] at h2
  refine ⟨by simpa using h1, ⟨d, hod, h2.2, fun _ _ _ _ _ => .inr trivial⟩, fun j m t hj hm ht => ?_, fun e he hb => ?_, fun r hr => ?_⟩
  · rcases Nat.eq_or_lt_of_le hj with rfl | hlt
    · rw [hk] at hm
      injection hm with hm
      subst hm
      rw [hod] at ht
      injection ht with ht
      subst ht
      exact h2.2
    · have := List.all_eq_true.1 h3 m (later j m hlt hm)
      rw [ht] at this
      simpa using this
  · have h9 := Array.all_eq_true_iff_forall_mem.1 h4 e he
    simp only [hb, Bool.not_true, Bool.false_or, Bool.and_eq_true, decide_eq_true_eq, List.all_eq_true, bne_iff_ne] at h9
    refine ⟨h9.1, fun j m hj hm => ?_, fun r hr => h9.2.2 r hr⟩
    rcases Nat.eq_or_lt_of_le hj with rfl | hlt
    · rw [hk] at hm
      injection hm with hm
      subst hm
      exact h9.2.1 _ (List.mem_cons_self ..)
    · exact h9.2.1 m (List.mem_cons_of_mem _ (later j m hlt hm))
  · have := List.all_eq_true.1 h6 r hr
    simpa using this

theorem held_mk {l : List Oper} {ms : List (Oper × Nat × Pr)} {piT : List Nat} {a : Act} (hQ : ∀ c a w, ¬ Q (.panic c) a w) (hsel : Region.noSelect l.toArray = true) (hD : slotsB a.tmps.size (ms.map (·.1)) = true)
    (hat : ∀ m ∈ ms, l[m.2.1]? = some m.1) (hok : mvOk l.length l.toArray (mixOf l (permP ns piT)) (ms.map fun m => (m.1, m.2.1)) = true) (htl : tlOk [] (mixOf l (permP ns piT)) = true)
    (hsm : segSmall 0 ns piT.length = true) (hpl : ∀ i ∈ piT, i < l.length) (hmg : mixGo l.length l.toArray (mixOf l (permP ns piT)) = true) (hfl : ((mixOf l (permP ns piT)).all fun r => r.2.2 || noEnter r.1) = true)
    (h : wpMk P l.toArray Q G w0 ns (remOf l piT) ms [] a) : ∀ (f : Nat) (listed : Array Bool) (u : Nat → Value) (w : World), toDo listed ms = f → listed.size = l.length →
      (∀ j oj, l[j]? = some oj → listed.getD j false = true → ∀ e ∈ oj.after, Region.binds .any e = true → listed.getD e.on false = true) →
      (∀ r ∈ mixOf l (permP ns piT), listed.getD r.2.1 true = false) → (∀ j, listed.getD j true = false → (∃ m ∈ ms, m.2.1 = j) ∨ ∃ r ∈ mixOf l (permP ns piT), r.2.1 = j) →
      (∀ m ∈ ms, listed.getD m.2.1 true = true → m.2.2.p (u (m.1.dst.getD 0)) w) → Frm [] w0 w →
      ∀ S : World → Prop, Bears1 G S → S w → wpAnyH P .any l.toArray Q S (f + (mixOf l (permP ns piT)).length) listed (fills u (ms.map (·.1)) a) w := by
  obtain ⟨T, hT⟩ : ∃ T, T = mixOf l (permP ns piT) := ⟨_, rfl⟩
  have hTat : ∀ r ∈ T, l[r.2.1]? = some r.1 := fun r hr => by
    rw [hT] at hr
    unfold mixOf at hr
    obtain ⟨p, _, hp⟩ := List.mem_filterMap.1 hr
    obtain ⟨o, ho, rfl⟩ := Option.map_eq_some_iff.1 hp
    exact ho
  have hseg : ∀ a w, wpSegs G P l.toArray Q ns (remOf l piT) a w → wpMixT G P l.toArray Q T a w := fun a w hh => by rw [hT]; exact mix_of_segsP ns piT a w hsm hpl hfl hh
  rw [← hT] at hok htl hmg ⊢
  have hnd : (ms.map (·.2.1)).Nodup := by
    have := mvOk_nodup (ops := l.toArray) _ hok
    rwa [List.map_map] at this
  have hzz : l.toArray.size = l.length := by simp
  intro f
  induction f with
  | zero =>
    intro listed u w hcnt hz hcl htun hcov hTw hf S hSb hSw
    have hall := toDo_zero hcnt
    have hend := mk_end ms [] a h u w hf (fun j i f hj => by simp at hj) (fun m hm => hTw m hm (hall m hm))
    rw [Nat.zero_add]
    exact held_of_mixT (G := G) (P := P) (ops := l.toArray) (Q := Q) (fun c a w d v h => (hQ _ _ _ h).elim) hsel T listed _ w (fun r hr => by simpa using hTat r hr) (by simpa using hz) htun (fun j hj => by
      rcases hcov j hj with ⟨m, hm, e⟩ | hr
      · have := hall m hm
        rw [e, hj] at this
        cases this
      · exact hr) (by rw [hzz]; exact hmg) (hseg _ _ hend) S hSb hSw
  | succ f ih =>
    intro listed u w hcnt hz hcl htun hcov hTw hf S hSb hSw
    rw [show f + 1 + T.length = (f + T.length) + 1 by omega]
    have gets : ∀ j, j < l.length → (listed.getD j false = listed.getD j true) := fun j hj => by simp [hz, hj]
    have hlt : ∀ (j : Nat) (o : Oper), l[j]? = some o → j < l.length := fun j o h => (List.getElem?_eq_some_iff.1 h).1
    have hmat : ∀ (k : Nat) m, ms[k]? = some m → m ∈ ms := fun k m hk => List.mem_of_getElem? hk
    -- the least one that is still to come is ready
    have hready : ∃ j, j ∈ Region.ready .any l.toArray listed := by
      have least : ∀ (k : Nat) (m : Oper × Nat × Pr), ms[k]? = some m → listed.getD m.2.1 true = false → ∃ j, j ∈ Region.ready .any l.toArray listed := by
        intro k
        induction k using Nat.strongRecOn with
        | _ k ihk =>
          intro m hm hun
          have hm' : (ms.map fun m => (m.1, m.2.1))[k]? = some (m.1, m.2.1) := by rw [List.getElem?_map, hm]; rfl
          obtain ⟨_, _, _, hdep, _⟩ := mvOk_at (ops := l.toArray) hok hm'
          by_cases hex : ∃ e, e ∈ m.1.after ∧ Region.binds .any e = true ∧ listed.getD e.on false = false
          · obtain ⟨e, he, hb, hfalse⟩ := hex
            obtain ⟨e1, e2, e3⟩ := hdep e he hb
            rw [gets _ e1] at hfalse
            rcases hcov e.on hfalse with ⟨m2, hm2, e4⟩ | ⟨r, hr, e4⟩
            · obtain ⟨j, hj⟩ := List.mem_iff_getElem?.1 hm2
              have hjk : j < k := by
                rcases Nat.lt_or_ge j k with h3 | h3
                · exact h3
                · exact absurd e4 (e2 j (m2.1, m2.2.1) h3 (by rw [List.getElem?_map, hj]; rfl))
              exact ihk j hjk m2 hj (by rw [e4]; exact hfalse)
            · exact absurd e4 (e3 r hr)
          · refine ⟨m.2.1, mem_ready.2 ⟨hun, m.1, by simpa using hat m (hmat _ _ hm), fun e he hb => ?_⟩⟩
            cases hl : listed.getD e.on false with
            | true => rfl
            | false => exact absurd ⟨e, he, hb, hl⟩ hex
      obtain ⟨m, hm, hun⟩ := toDo_pos hcnt
      obtain ⟨k, hk⟩ := List.mem_iff_getElem?.1 hm
      exact least k m hk hun
    refine ⟨fun hr => (by obtain ⟨j, hj⟩ := hready; rw [hr] at hj; cases hj), fun i hi => ?_⟩
    -- it is a mover
    obtain ⟨hiun, oi, hoi, hideps⟩ := mem_ready.1 hi
    have hcl' : ∀ j oj, l.toArray[j]? = some oj → listed.getD j false = true → ∀ e ∈ oj.after, Region.binds .any e = true → listed.getD e.on false = true := fun j oj hj => hcl j oj (by simpa using hj)
    have hmv : ∃ m ∈ ms, m.2.1 = i := by
      rcases hcov i hiun with hm | ⟨r, hr, e⟩
      · exact hm
      · exfalso
        refine tail_wait (ops := l.toArray) (listed := listed) (fun j hj h3 => by rw [← gets j (by simpa using hj)]; exact h3) T [] htl (fun q hq => by cases hq) (fun t ht => by rw [gets _ (hlt _ _ (hTat t ht))]; exact htun t ht) (fun t ht => by simpa using hTat t ht) (fun _ t0 ht0 => ?_) r hr (e ▸ hi)
        cases hTc : T with
        | nil => rw [hTc] at ht0; cases ht0
        | cons t1 ts =>
          rw [hTc] at ht0
          obtain rfl : t1 = t0 := by simpa using ht0
          rw [hTc] at hok
          refine first_waits (ops := l.toArray) hcl' (by simpa using hTat t1 (by rw [hTc]; exact List.mem_cons_self ..)) (ms.map fun m => (m.1, m.2.1)) hok (fun m hm => ?_) ?_
          · obtain ⟨m', hm', rfl⟩ := List.mem_map.1 hm
            simpa using hat m' hm'
          · obtain ⟨m, hm, hun⟩ := toDo_pos hcnt
            exact ⟨(m.1, m.2.1), List.mem_map.2 ⟨m, hm, rfl⟩, by rw [gets _ (hlt _ _ (hat m hm))]; exact hun⟩
    obtain ⟨m, hm, rfl⟩ := hmv
    obtain ⟨o, i, r⟩ := m
    have hol : l[i]? = some o := hat _ hm
    have hoa : l.toArray[i]? = some o := by simpa using hol
    have : oi = o := Option.some.inj (hoi.symm.trans hoa)
    subst this
    obtain ⟨k, hk⟩ := List.mem_iff_getElem?.1 hm
    have hk' : (ms.map fun m => (m.1, m.2.1))[k]? = some (oi, i) := by rw [List.getElem?_map, hk]; rfl
    obtain ⟨hgd, ⟨d, hd, hdl, _⟩, hlook, hdep, hit⟩ := mvOk_at (ops := l.toArray) hok hk'
    have hil : i < l.length := hlt _ _ hol
    have hst := mk_step ms [] a h u k oi i r hk w hf (fun j i f hj => by simp at hj) (fun j o' i' r' hj hm' hto => by
      obtain ⟨e, he, hb, hon⟩ := isTo_mem.1 hto
      have h3 := hideps e he hb
      rw [hon, gets i' (hlt _ _ (hat _ (hmat _ _ hm')))] at h3
      exact hTw _ (hmat _ _ hm') h3)
    have hw : Region.wanted oi (yielded l.toArray (fills u ((ms.take k).map (·.1)) a).tmps) = true := by unfold Region.wanted; simp [hgd]
    have hw2 : Region.wanted oi (yielded l.toArray (fills u (ms.map (·.1)) a).tmps) = true := by unfold Region.wanted; simp [hgd]
    have hsplit : ms.map (·.1) = (ms.take k).map (·.1) ++ (ms.drop k).map (·.1) := by rw [← List.map_append, List.take_append_drop]
    have hselo : ∀ cs b, oi.op ≠ .select cs b := fun cs b => Region.noSelect_spec hsel i oi cs b hoa
    have hexec : execOp (fills u (ms.map (·.1)) a).eval oi = execOp (fills u ((ms.take k).map (·.1)) a).eval oi := by
      rw [hsplit, fills_append]
      refine execOp_fills (ops := l.toArray) oi hselo u _ _ fun m hm t ht => ?_
      obtain ⟨m', hm', rfl⟩ := List.mem_map.1 hm
      obtain ⟨j, hj⟩ := List.mem_iff_getElem?.1 hm'
      rw [List.getElem?_drop] at hj
      exact hlook (k + j) (m'.1, m'.2.1) t (by omega) (by rw [List.getElem?_map, hj]; rfl) ht
    unfold wpOp
    simp only [hoa]
    rw [if_pos hw2]
    unfold wpList at hst
    rw [if_pos hw] at hst
    have hasks : oi.asks P (fills u (ms.map (·.1)) a) w = oi.asks P (fills u ((ms.take k).map (·.1)) a) w := by unfold Oper.asks; rw [hexec]
    rw [hasks]
    refine hst.imp (fun hst => ?_) (fun hst => ?_)
    · refine wp_frames hexec (fun c a w b h3 => (hQ _ _ _ h3).elim) (fun v w' h3 => ?_) (fun dd v w' h3 => ?_) (wp_of_then2 hst)
      · unfold wpList at h3
        obtain ⟨h4, h5, h6⟩ := h3
        have hin : d < a.tmps.size ∧ inDsts (ms.map (·.1)) d = true := by
          have hid : inDsts (ms.map (·.1)) d = true := by
            simp only [inDsts, List.any_eq_true, beq_iff_eq]
            exact ⟨oi, List.mem_map.2 ⟨_, hm, rfl⟩, hd⟩
          exact ⟨inDsts_lt hD hid, hid⟩
        have hfs : ∀ (l : List Oper) (a : Act), (fills u l a).tmps.size = a.tmps.size := by
          intro l
          induction l with
          | nil => intro a; rfl
          | cons o l ih => intro a; simp only [fills]; rw [ih, put_size]
        have hv : r.p v w' := by
          rw [hd] at h6
          have e : ((fills u ((ms.take k).map (·.1)) a).put (some d) v).eval (.tmp ((some d).getD 0)) = v := by
            rw [eval_tmp, put_tmps, if_pos ⟨rfl, by rw [hfs]; exact hin.1⟩]
            rfl
          rw [e] at h6
          exact h6
        have hSw' : S w' := hSb _ _ hSw h4.more
        refine ⟨hSw', ?_⟩
        rw [hd, fills_put u (ms.map (·.1)) a hD d v hin.2]
        have hset : ∀ j, (listed.setIfInBounds i true).getD j true = false → j ≠ i ∧ listed.getD j true = false := fun j hj => by
          by_cases hji : j = i
          · subst hji; simp [hz, hil] at hj
          · rw [getD_set_ne true (fun e => hji e.symm)] at hj; exact ⟨hji, hj⟩
        refine ih _ _ _ ?_ (by simpa using hz) (fun j oj hj hl e he hb => ?_) (fun t ht => ?_) (fun j hj => hcov j (hset j hj).2) (fun m hm' hl => ?_) (hf.trans h4) S hSb hSw'
        · have := toDo_set (listed := listed) hnd hm hiun (by rw [hz]; exact hil)
          simp only at this
          omega
        · by_cases hij : i = j
          · subst hij
            have : oj = oi := Option.some.inj (hj.symm.trans hol)
            subst this
            exact getD_set_true (hideps e he hb)
          · rw [getD_set_ne false hij] at hl
            exact getD_set_true (hcl j oj hj hl e he hb)
        · rw [getD_set_ne true (Ne.symm (hit t ht))]
          exact htun t ht
        · by_cases hmi : m.2.1 = i
          · have hmm : m = (oi, i, r) := by
              obtain ⟨j, hj⟩ := List.mem_iff_getElem?.1 hm'
              have h7 : (ms.map (·.2.1))[j]? = some i := by rw [List.getElem?_map, hj, ← hmi]; rfl
              have h8 : (ms.map (·.2.1))[k]? = some i := by rw [List.getElem?_map, hk]; rfl
              have hjl : j < (ms.map (·.2.1)).length := (List.getElem?_eq_some_iff.1 h7).1
              have hkl : k < (ms.map (·.2.1)).length := (List.getElem?_eq_some_iff.1 h8).1
              have : j = k := (List.getElem?_inj hjl hnd).1 (h7.trans h8.symm)
              subst this
              exact Option.some.inj (hj.symm.trans hk)
            subst hmm
            simp only [hd, Option.getD_some, if_pos]
            exact hv
          · rw [getD_set_ne true (Ne.symm hmi)] at hl
            have h7 := hTw m hm' hl
            have hne : m.1.dst.getD 0 ≠ d := by
              intro e
              obtain ⟨j, hj⟩ := List.mem_iff_getElem?.1 hm'
              have uniq : ∀ (l : List Oper) (n : Nat), slotsB n l = true → ∀ (i j : Nat) (oi oj : Oper), l[i]? = some oi → l[j]? = some oj → oi.dst.getD 0 = d → oj.dst = some d → i = j := by
                intro l
                induction l with
                | nil => intro n _ i j oi oj h; simp at h
                | cons o l ihl =>
                  intro n hl i j oi oj hi hj hdi hdj
                  have hs : ∀ (n : Nat) (l : List Oper), slotsB n l = true → ∀ o ∈ l, ∃ d, o.dst = some d := by
                    intro n l
                    induction l with
                    | nil => intro _ o ho; cases ho
                    | cons p l ihl =>
                      intro hl o ho
                      simp only [slotsB, Bool.and_eq_true] at hl
                      rcases List.mem_cons.1 ho with rfl | ho
                      · cases hod : o.dst with
                        | none => rw [hod] at hl; simp at hl
                        | some d => exact ⟨d, rfl⟩
                      · exact ihl hl.2 o ho
                  obtain ⟨d', hd'⟩ := hs n _ hl oi (List.mem_of_getElem? hi)
                  rw [hd'] at hdi
                  simp only [Option.getD_some] at hdi
                  subst hdi
                  simp only [slotsB, Bool.and_eq_true] at hl
                  obtain ⟨h1, h2⟩ := hl
                  cases i with
                  | zero =>
                    cases j with
                    | zero => rfl
                    | succ j =>
                      simp at hi hj
                      subst hi
                      rw [hd'] at h1
                      simp only [Bool.and_eq_true, decide_eq_true_eq, List.all_eq_true, bne_iff_ne] at h1
                      exact absurd hdj (h1.2 oj (List.mem_of_getElem? hj))
                  | succ i =>
                    cases j with
                    | zero =>
                      simp at hi hj
                      subst hj
                      rw [hdj] at h1
                      simp only [Bool.and_eq_true, decide_eq_true_eq, List.all_eq_true, bne_iff_ne] at h1
                      exact absurd hd' (h1.2 oi (List.mem_of_getElem? hi))
                    | succ j =>
                      simp at hi hj
                      rw [ihl n h2 i j oi oj hi hj (by rw [hd']; rfl) hdj]
              have : j = k := uniq (ms.map (·.1)) _ hD j k m.1 oi (by rw [List.getElem?_map, hj]; rfl) (by rw [List.getElem?_map, hk]; rfl) e hd
              subst this
              rw [hk] at hj
              injection hj with hj
              subst hj
              exact hmi rfl
            rw [if_neg hne]
            exact m.2.2.st _ _ _ h4 h7
      · unfold wpList at h3
        obtain ⟨h4, h5, h6⟩ := h3
        rw [put_defers] at h5
        have := congrArg List.length h5
        simp at this
    · refine ⟨hst.1, ?_⟩
      exact hst.2

/-- What is to be checked of those that are taken ahead. -/
def preB (l : List Oper) (R : List Nat) : List Nat → Bool
  | [] => true
  | i :: pi => (match l[i]? with
    | none => false
    | some o => noEnter o && (pi ++ R).all (fun j => j != i) && o.after.all (fun e => !Region.binds .any e || (decide (e.on < l.length) && (e.on != i && (pi ++ R).all fun j => j != e.on))) &&
      (pi ++ R).all fun j => match l[j]? with | none => false | some r => isTo r i || o.apart l.toArray r) && preB l R pi

theorem held_frees {l : List Oper} {w : World} {K : Act → Prop} {R : List Nat} (hQ : ∀ c a w, ¬ Q (.panic c) a w) (hsel : Region.noSelect l.toArray = true) (fuel : Nat) : ∀ (pi : List Nat) (listed : Array Bool) (a : Act), preB l R pi = true → listed.size = l.length →
    (∀ i ∈ pi ++ R, listed.getD i true = false) → (∀ j, listed.getD j true = false → j ∈ pi ++ R) → wpQuiet P l.toArray (fun X => ∃ x : Cls (fun v => Frm G w v), X = x.world) K (remOf l pi) a →
    (∀ a' listed', K a' → listed'.size = l.length → (∀ i ∈ R, listed'.getD i true = false) → (∀ j, listed'.getD j true = false → j ∈ R) → ∀ S : World → Prop, Bears1 G S → S w → wpAnyH P .any l.toArray Q S fuel listed' a' w) →
    ∀ S : World → Prop, Bears1 G S → S w → wpAnyH P .any l.toArray Q S (pi.length + fuel) listed a w
  | [], listed, a, hB, hz, h1, h2, h, hK, S, hSb, hSw => by
    simpa using hK a listed (by simpa [remOf, wpQuiet] using h) hz (by simpa using h1) (by simpa using h2) S hSb hSw
  | i :: pi, listed, a, hB, hz, h1, h2, h, hK, S, hSb, hSw => by
    simp only [preB, Bool.and_eq_true] at hB
    obtain ⟨hB1, hB2⟩ := hB
    cases hoi : l[i]? with
    | none => rw [hoi] at hB1; cases hB1
    | some o =>
      rw [hoi] at hB1
      simp only [Bool.and_eq_true] at hB1
      obtain ⟨⟨⟨b1, b2⟩, b3⟩, b4⟩ := hB1
      have hoa : l.toArray[i]? = some o := by simpa using hoi
      have hil : i < l.length := (List.getElem?_eq_some_iff.1 hoi).1
      have hun : listed.getD i true = false := h1 i (by simp)
      have hne : ∀ j ∈ pi ++ R, j ≠ i := fun j hj => by have := List.all_eq_true.1 b2 j hj; simpa using this
      have hready : i ∈ Region.ready .any l.toArray listed := mem_ready.2 ⟨hun, o, hoa, fun e he hb => by
        have h3 := Array.all_eq_true_iff_forall_mem.1 b3 e he
        simp only [hb, Bool.not_true, Bool.false_or, Bool.and_eq_true, decide_eq_true_eq, List.all_eq_true, bne_iff_ne] at h3
        obtain ⟨e1, e2, e3⟩ := h3
        cases hq : listed.getD e.on false with
        | true => rfl
        | false =>
          exfalso
          have hq' : listed.getD e.on true = false := getD_in (by rw [hz]; exact e1) hq
          have := h2 e.on hq'
          rw [List.cons_append, List.mem_cons] at this
          rcases this with h4 | h4
          · exact e2 h4
          · exact e3 _ h4 rfl⟩
      have e1 : remOf l (i :: pi) = o :: remOf l pi := by
        unfold remOf
        rw [List.filterMap_cons]
        simp only [hoi]
      rw [e1] at h
      rw [List.length_cons, show pi.length + 1 + fuel = (pi.length + fuel) + 1 by omega]
      have fin : ∀ v, YieldsIf P l.toArray (Frm G w) o v a → wpQuiet P l.toArray (fun X => ∃ x : Cls (fun v => Frm G w v), X = x.world) K (remOf l pi) (a.put o.dst v) → wpAnyH P .any l.toArray Q S (pi.length + fuel + 1) listed a w := by
        intro v hy hq
        have hSb' : Bears1 G (fun X => S X ∧ Frm G w X) := fun X Y hX hXY => ⟨hSb X Y hX.1 hXY, hX.2.trans hXY⟩
        have hSw' : S w ∧ Frm G w w := ⟨hSw, Frm.refl _ _⟩
        have hy' : YieldsIf P l.toArray (fun X => S X ∧ Frm G w X) o v a := hy.imp (fun ⟨h3, h4⟩ => ⟨h3, fun X hX => h4 X hX.2⟩) id
        refine wpAnyH_mono (S := fun X => S X ∧ Frm G w X) (fun _ h => h.1) _ _ _ _ ?_
        refine wpAnyH_first hoa (Region.noSelect_spec hsel) (fun c a w h => (hQ _ _ _ h).elim) (pi.length + fuel) listed a w (fun j oj hoj hji hjun hnot => ?_) hready hy' hSw' ?_
        · have hj : j ∈ pi ++ R := by
            have := h2 j hjun
            rw [List.cons_append, List.mem_cons] at this
            exact this.resolve_left hji
          have h3 := List.all_eq_true.1 b4 j hj
          have hoj' : l[j]? = some oj := by simpa using hoj
          rw [hoj'] at h3
          simp only [Bool.or_eq_true] at h3
          rcases h3 with h3 | h3
          · exfalso
            obtain ⟨e, he, hb, hon⟩ := isTo_mem.1 h3
            exact hnot e he hb hon
          · exact h3
        · refine held_frees hQ hsel fuel pi (listed.setIfInBounds i true) (a.put o.dst v) hB2 (by simpa using hz) (fun j hj => ?_) (fun j hj => ?_) hq hK _ hSb' hSw'
          · rw [getD_set_ne true (Ne.symm (hne j hj))]
            exact h1 j (by simp only [List.cons_append, List.mem_cons]; exact .inr hj)
          · by_cases hji : j = i
            · subst hji; simp [hz, hil] at hj
            · rw [getD_set_ne true (fun e => hji e.symm)] at hj
              have := h2 j hj
              rw [List.cons_append, List.mem_cons] at this
              exact this.resolve_left hji
      unfold wpQuiet at h
      split at h
      · rename_i hw
        obtain ⟨v, h3, h4⟩ := strict_of_quiet b1 w (frC_iff.2 (Frm.refl _ _)) h
        exact fin v (.inl ⟨hw, fun X hX => h3 X (frC_iff.2 hX)⟩) h4
      · rename_i hw
        exact fin undef (.inr ⟨by simpa using hw, rfl⟩) h

def mvo (l : List Oper) (mvi : List Nat) : List (Oper × Nat) := mvi.filterMap fun i => (l[i]?).map fun o => (o, i)
theorem mvs_mvo (l : List Oper) : ∀ (mvi : List Nat) (ps : List Pr), ps.length = mvi.length → (mvs l mvi ps).map (fun m => (m.1, m.2.1)) = mvo l mvi
  | [], _, _ => by simp [mvs, mvo]
  | i :: mvi, [], h => by simp at h
  | i :: mvi, p :: ps, h => by
    have ih := mvs_mvo l mvi ps (by simpa using h)
    unfold mvs mvo at ih ⊢
    rw [List.zip_cons_cons, List.filterMap_cons, List.filterMap_cons]
    cases hi : l[i]? with
    | none => simpa using ih
    | some o => simpa using ih
/-- All that is to be checked of the lists. -/
def chkPm (l : List Oper) (pi mvi ns piT : List Nat) : Bool :=
  segSmall 0 ns piT.length && (piT.all fun i => decide (i < l.length)) && preB l ((mvo l mvi).map (·.2) ++ (mixOf l (permP ns piT)).map (·.2.1)) pi &&
  mvOk l.length l.toArray (mixOf l (permP ns piT)) (mvo l mvi) && tlOk [] (mixOf l (permP ns piT)) && mixGo l.length l.toArray (mixOf l (permP ns piT)) && ((mixOf l (permP ns piT)).all fun r => r.2.2 || noEnter r.1) &&
  (pi.length + ((mvo l mvi).length + (mixOf l (permP ns piT)).length) == l.length) && ((List.range l.length).all fun j => (pi ++ ((mvo l mvi).map (·.2) ++ (mixOf l (permP ns piT)).map (·.2.1))).any fun i => i == j) &&
  (pi.all fun i => match l[i]? with | none => false | some o => o.after.all fun e => !Region.binds .any e || (decide (e.on < l.length) && ((mvo l mvi).map (·.2) ++ (mixOf l (permP ns piT)).map (·.2.1)).all fun j => j != e.on))

/-- A region that draws: quiet operations taken ahead, then movers in whatever order, then a tail in stretches. -/
theorem region_pm {id : Nat} {a : Act} {w : World} {l : List Oper} (G pi mvi : List Nat) (ps : List Pr) (ns piT : List Nat) (hm : P.follows .mixedOrders = true) (hsel : Region.noSelect l.toArray = true) (hc : chkPm l pi mvi ns piT = true) (hps : ps.length = mvi.length)
    (h : wpQuiet P l.toArray (fun X => ∃ x : Cls (fun v => Frm G w.drew v), X = x.world) (fun a' => slotsB a'.tmps.size ((mvo l mvi).map (·.1)) = true ∧ wpMk P l.toArray (NoPanic Q) G w.drew ns (remOf l piT) (mvs l mvi ps) [] a') (remOf l pi) a) : (Code.region id l.toArray true).wp P Q a w := by
  refine wp_region_noPanic (wp_region_any hm ?_)
  have hz : l.toArray.size = l.length := by simp
  simp only [chkPm, Bool.and_eq_true] at hc
  obtain ⟨⟨⟨⟨⟨⟨⟨⟨⟨c1, c2⟩, c3⟩, c4⟩, c5⟩, c6⟩, c7⟩, c8⟩, c9⟩, c10⟩ := hc
  obtain ⟨T, hT⟩ : ∃ T, T = mixOf l (permP ns piT) := ⟨_, rfl⟩
  obtain ⟨R, hR⟩ : ∃ R, R = (mvo l mvi).map (·.2) ++ (mixOf l (permP ns piT)).map (·.2.1) := ⟨_, rfl⟩
  rw [← hR] at c3 c9 c10
  have hmo := mvs_mvo l mvi ps hps
  have hmo1 : (mvo l mvi).map (·.1) = (mvs l mvi ps).map (·.1) := by rw [← hmo, List.map_map]; rfl
  have hmo2 : (mvo l mvi).map (·.2) = (mvs l mvi ps).map (·.2.1) := by rw [← hmo, List.map_map]; rfl
  have hml : (mvo l mvi).length = (mvs l mvi ps).length := by rw [← hmo, List.length_map]
  have hmemR : ∀ j, j ∈ R ↔ (∃ m ∈ mvs l mvi ps, m.2.1 = j) ∨ ∃ r ∈ mixOf l (permP ns piT), r.2.1 = j := fun j => by
    rw [hR, List.mem_append, hmo2, List.mem_map, List.mem_map]
  have hlistR : ∀ (listed : Array Bool), listed.size = l.length → (∀ j, listed.getD j true = false → j ∈ R) → ∀ j, j < l.length → j ∉ R → listed.getD j false = true := fun listed hs h j hj hn => by
    cases hq : listed.getD j false with
    | true => rfl
    | false => exact absurd (h j (getD_in (by rw [hs]; exact hj) hq)) hn
  have := held_frees (P := P) (G := G) (Q := NoPanic Q) (R := R) (l := l) (w := w.drew) (fun c a w h => h) hsel ((mvs l mvi ps).length + (mixOf l (permP ns piT)).length) pi (Array.replicate l.toArray.size false) a c3 (by simp) (fun i hi => by
    have hil : i < l.length := by
      have hmv : ∀ m ∈ mvs l mvi ps, m.2.1 < l.length := fun m hm => (List.getElem?_eq_some_iff.1 (mvs_at hm).1).1
      rcases List.mem_append.1 hi with h3 | h3
      · have := List.all_eq_true.1 c10 i h3
        rcases Nat.lt_or_ge i l.length with h4 | h4
        · exact h4
        · rw [List.getElem?_eq_none h4] at this; cases this
      · rcases (hmemR i).1 h3 with ⟨m, hm, rfl⟩ | ⟨r, hr, rfl⟩
        · exact hmv m hm
        · unfold mixOf at hr
          obtain ⟨p, _, hp⟩ := List.mem_filterMap.1 hr
          obtain ⟨o, ho, rfl⟩ := Option.map_eq_some_iff.1 hp
          exact (List.getElem?_eq_some_iff.1 ho).1
    simp [hil]) (fun j hj => by
      have hjl : j < l.length := by
        rcases Nat.lt_or_ge j l.length with h3 | h3
        · exact h3
        · have h4 : (Array.replicate l.toArray.size false).getD j true = true := by simp [h3]
          rw [h4] at hj; cases hj
      have h3 := List.all_eq_true.1 c9 j (List.mem_range.2 hjl)
      obtain ⟨i, hi, e⟩ := List.any_eq_true.1 h3
      have : i = j := by simpa using e
      exact this ▸ hi) h (fun a' listed' hK hz' hr1 hr2 S hSb hSw => by
    obtain ⟨hD, hmk⟩ := hK
    rw [hmo1] at hD
    have hcnt : toDo listed' (mvs l mvi ps) = (mvs l mvi ps).length := by
      unfold toDo
      rw [List.filter_eq_self.2]
      intro m hm
      have := hr1 m.2.1 ((hmemR _).2 (.inl ⟨m, hm, rfl⟩))
      simp [this]
    have hh := held_mk (P := P) (G := G) (Q := NoPanic Q) (w0 := w.drew) (ns := ns) (l := l) (ms := mvs l mvi ps) (piT := piT) (a := a') (fun c a w h => h) hsel hD (fun m hm => (mvs_at hm).1) (by rw [hmo]; exact c4) c5 c1 (fun i hi => of_decide_eq_true (List.all_eq_true.1 c2 i hi)) c6 c7 hmk
      (mvs l mvi ps).length listed' (fun j => (a'.tmps[j]?).getD undef) w.drew hcnt hz' (fun j oj hj hl e he hb => by
        have hjl : j < l.length := (List.getElem?_eq_some_iff.1 hj).1
        have hjpi : j ∈ pi := by
          have h3 := List.all_eq_true.1 c9 j (List.mem_range.2 hjl)
          obtain ⟨i, hi, e⟩ := List.any_eq_true.1 h3
          have hij : i = j := by simpa using e
          subst hij
          rcases List.mem_append.1 hi with h4 | h4
          · exact h4
          · have := hr1 i h4
            have e3 : listed'.getD i false = listed'.getD i true := by simp [hz', hjl]
            rw [e3, this] at hl
            cases hl
        have h3 := List.all_eq_true.1 c10 j hjpi
        rw [hj] at h3
        have h4 := Array.all_eq_true_iff_forall_mem.1 h3 e he
        simp only [hb, Bool.not_true, Bool.false_or, Bool.and_eq_true, decide_eq_true_eq, List.all_eq_true, bne_iff_ne] at h4
        exact hlistR listed' hz' hr2 e.on h4.1 (fun hm => h4.2 _ hm rfl)) (fun r hr => hr1 _ ((hmemR _).2 (.inr ⟨r, hr, rfl⟩))) (fun j hj => (hmemR j).1 (hr2 j hj)) (fun m hm hl => by
          rw [hr1 m.2.1 ((hmemR _).2 (.inl ⟨m, hm, rfl⟩))] at hl
          cases hl) (Frm.refl _ _) S hSb hSw
    rw [fills_self _ _ hD] at hh
    exact hh) (fun _ => True) (fun _ _ _ _ => trivial) trivial
  rw [show pi.length + ((mvs l mvi ps).length + (mixOf l (permP ns piT)).length) = l.length by rw [← hml]; simpa using c8, ← hz] at this
  exact wpAny_of_held _ _ _ _ this

/-- A mover that is run in one step. -/
theorem mk_run {o : Oper} {a : Act} {w : World} {p : Value → World → Prop} {d : Nat} (hg : o.guard = none) (hd : o.dst = some d) (hs : decide (d < a.tmps.size) = true) (v : Value) (w' : World) (h : (execOp a.eval o).run P w = .ok (.value v) w') (hf : Frm [] w w') (hp : p v w') :
    wpList P ops (Exit.then (fun a' X' => Frm [] w X' ∧ a'.defers = a.defers ∧ p (a'.eval (.tmp (o.dst.getD 0))) X') Q) [o] a w := by
  unfold wpList
  rw [if_pos (by unfold Region.wanted; simp [hg])]
  refine .inl ?_
  unfold Oper.wp
  rw [h]
  simp only [Oper.upon, wpList, Exit.then]
  refine ⟨hf, ?_, ?_⟩
  · rw [hd, put_defers]
  · rw [hd]
    have e : (a.put (some d) v).eval (.tmp ((some d).getD 0)) = v := by
      rw [eval_tmp, put_tmps, if_pos ⟨rfl, of_decide_eq_true hs⟩]
      rfl
    rw [e]
    exact hp
end
end

end Go.Proofs.YtjflcijiaennkaaDoor
