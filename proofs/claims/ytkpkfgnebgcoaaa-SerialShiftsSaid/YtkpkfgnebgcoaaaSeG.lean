/-
  THE WALKS of serial: sorting, whole; the reference's Sorted.
-/
import Derived.Test.YtkpkfgnebgcoaaaSrtS
import Derived.Test.YtkpkfgnebgcoaaaSeB
import Derived.Test.YtkpkfgnebgcoaaaApp
set_option linter.unusedVariables false
set_option linter.unusedSimpArgs false
namespace Go.Proofs.Ytkpkfgnebgcoaaa
open Go.RowKit

/-- One number put in at p. -/
def insAt (P : List Int) (p : Nat) (x : Int) : List Int := P.take p ++ [x] ++ P.drop p
theorem insAt_get (P : List Int) (p : Nat) (x : Int) (hp : p ≤ P.length) (q : Nat) : (insAt P p x).getD q 0 = if q < p then P.getD q 0 else if q = p then x else P.getD (q - 1) 0 := by
  unfold insAt
  simp only [List.getD_eq_getElem?_getD]
  by_cases h1 : q < p
  · rw [if_pos h1, List.getElem?_append_left (by simp; omega), List.getElem?_append_left (by simp; omega), List.getElem?_take_of_lt h1]
  · rw [if_neg h1]
    by_cases h2 : q = p
    · rw [if_pos h2, List.getElem?_append_left (by simp; omega), List.getElem?_append_right (by simp; omega)]
      simp [h2, Nat.min_eq_left hp]
    · rw [if_neg h2, List.getElem?_append_right (by simp; omega), List.getElem?_drop]
      congr 2
      simp
      omega
theorem insAt_perm (P : List Int) (p : Nat) (x : Int) : (insAt P p x).Perm (x :: P) := by
  unfold insAt
  have h := @List.perm_middle _ x (P.take p) (P.drop p)
  rw [List.append_assoc, List.singleton_append]
  rw [List.take_append_drop] at h
  exact h
theorem insAt_sorted {key : Int → Int} {P : List Int} {p k : Nat} {x : Int} (h : SoOn key P 0 k) (hk : P.length = k) (hp : p ≤ k) (hi : ∀ q, p ≤ q → q < k → key x < key (P.getD q 0)) (lo : p = 0 ∨ key (P.getD (p - 1) 0) ≤ key x) : SoOn key (insAt P p x) 0 (k + 1) := fun i j _ h1 h2 => by
  rw [insAt_get P p x (by omega) i, insAt_get P p x (by omega) j]
  by_cases hj : j < p
  · rw [if_pos (by omega), if_pos hj]; exact h i j (Nat.zero_le _) h1 (by omega)
  · rw [if_neg hj]
    by_cases hj2 : j = p
    · rw [if_pos hj2, if_pos (by omega)]
      rcases lo with lo | lo
      · omega
      · exact Int.le_trans (h.le (Nat.zero_le _) (show i ≤ p - 1 by omega) (by omega)) lo
    · rw [if_neg hj2]
      by_cases hi1 : i < p
      · rw [if_pos hi1]; exact h i (j - 1) (Nat.zero_le _) (by omega) (by omega)
      · rw [if_neg hi1]
        by_cases hi2 : i = p
        · rw [if_pos hi2]; exact Int.le_of_lt (hi (j - 1) (by omega) (by omega))
        · rw [if_neg hi2]; exact h (i - 1) (j - 1) (Nat.zero_le _) (by omega) (by omega)

theorem info_u16 : (Try.prog.info? 22).map (fun i => (i.zero, i.size, i.bytes)) = some (some (.int .u16 0), 1, 2) := by kernel_rfl
/-- What is owned, read from a place on. -/
theorem own_from {w : World} {e : TypeId} {g n c : Nat} {k : IntKind} {zs : List Int} (h : w.ownsRow 0 e 1 (.slice (some ⟨g, 0, none⟩) n c) n (zs.map (Value.int k))) (p : Nat) : RdI k w (some ⟨g, p, none⟩) (zs.drop p) := fun i x hx => by
  rw [List.getElem?_drop] at hx
  have hlt := (h.lt g rfl).2
  have := h.cells (g := g) rfl (p + i) (.int k x) (by rw [List.getElem?_map, hx]; rfl)
  rw [add_addr, Nat.zero_add] at this
  exact ⟨g, p, rfl, hlt, this⟩
theorem own_to {w : World} {e : TypeId} {g n c : Nat} {k : IntKind} {zs : List Int} (h : w.ownsRow 0 e 1 (.slice (some ⟨g, 0, none⟩) n c) n (zs.map (Value.int k))) (p : Nat) : RdI k w (some ⟨g, 0, none⟩) (zs.take p) := fun i x hx => by
  have hi : i < p := by
    have := (List.getElem?_eq_some_iff.1 hx).1
    simp at this; omega
  rw [List.getElem?_take_of_lt hi] at hx
  exact own_from h 0 i x (by simpa using hx)

theorem take_snoc {α : Type} (l : List α) (k : Nat) (x : α) (hx : l[k]? = some x) : l.take (k + 1) = l.take k ++ [x] := by
  rw [List.take_add_one, hx]; rfl
theorem rdi_cell {k : IntKind} {w : World} {b off : Nat} {zs : List Int} {i : Nat} {x : Int} (h : RdI k w (some ⟨b, off, none⟩) zs) (hx : zs[i]? = some x) : w.cell? ⟨b, off + i, none⟩ = some (.int k x) := by
  obtain ⟨b', o', e, _, hc⟩ := h i x hx
  injection e with e
  injection e with e1 e2
  subst e1 e2
  exact hc
/-- 'append(s, xs...)' of integers, the lengths and the row as the prover spells them. -/
theorem wpList_append_said {P : Program} {S : List Nat} {w0 w : World} {L : List Res} {ops : Array Oper} {rest : List Oper} {o : Oper} {a : Act} {Q : Exit → Act → World → Prop} (hgd : o.guard = none) (s x : Operand) (t : TypeId)
    (ho : o.op = .call { callee := .builtin .append, args := #[s, x], argTypes := #[t, t] }) (i : Nat)
    (e : TypeId) (inf : TypeInfo) (z : Value) (bytes : Nat) (ht : P.underlying t = some (.slice e)) (hi : P.info? e = some inf) (hz : inf.zero = some z)
    (hsize : inf.size = 1) (hby : inf.bytes = bytes) (hzs : z.cells.size = 1) (k : IntKind)
    (v : Value) (n : Nat) (xs : List Value) (hs : a.eval s = v) (hS : Sep S w0 w L) (hL : L[i]? = some (ownR e 1 v n xs))
    (ad : Option Addr) (c m : Nat) (zs : List Int) (hm : zs.length = m) (hx : a.eval x = .slice ad m c) (hc : ad = none → c = 0) (hrd : RdI k w ad zs)
    (N : Nat) (hN : n + m = N) (ys : List Value) (hy : xs ++ zs.map (Value.int k) = ys)
    (h63 : N ≤ maxLen) (hbytes : N * bytes ≤ 140737488355328)
    (h : ∀ v' w', Sep S w0 w' (L.set i (ownR e 1 v' N ys)) → wpList P ops Q rest (a.put o.dst v') w') : wpList P ops Q (o :: rest) a w := by
  subst hm hN hy
  exact wpList_append_ints hgd s x t ho i e inf z bytes ht hi hz hsize hby hzs k v n xs hs hS hL ad c zs hx hc hrd h63 hbytes h
theorem own_slice {w : World} {e : TypeId} {v : Value} {n : Nat} {xs : List Value} (h : w.ownsRow 0 e 1 v n xs) (hn : 0 < n) : ∃ g c, v = .slice (some ⟨g, 0, none⟩) n c := by
  rcases h.2 with ⟨_, h2⟩ | ⟨g, c, _, h2, _⟩
  · have := h.1; subst h2; simp at this; omega
  · exact ⟨g, c, h2⟩

set_option maxRecDepth 100000 in
set_option maxHeartbeats 16000000 in
theorem rsorted_c (a : Option Addr) (cap : Nat) (ns : List Int) (w : World) (rd : RdI .u16 w a ns) (hl : ns.length ≤ 1000) (hn : ∀ n ∈ ns, 0 ≤ n ∧ n ≤ 65535) :
    Calls Try.prog 29 #[.slice a ns.length cap] w fun e w' => ∃ g c R, e = .returned (.slice (some ⟨g, 0, none⟩) ns.length c) ∧ R.Perm ns ∧ SoOn (fun x => ah16 x (ns.getD 0 0)) R 0 ns.length ∧ Sep [] w w' [ownR 22 1 (.slice (some ⟨g, 0, none⟩) ns.length c) ns.length (R.map (Value.int .u16))] := by
  obtain ⟨i0, hi, hz0, hz1, hz2⟩ := info_parts info_u16
  have HR := Lib.hid rd
  have HN := Lib.hid hn
  clear rd hn
  obtain ⟨f, hf⟩ : ∃ f, f = ns.getD 0 0 := ⟨_, rfl⟩
  rw [← hf]
  have HFe := Lib.hid hf
  clear hf
  go_enter Try.func29, Try.ntmps29
  go_wp2_with fail
  go_loopw [3, 4] (fun v i wr => ∃ (k g c : Nat) (P : List Int), k ≤ ns.length ∧ i = .int .i64 k ∧ v = .slice (some ⟨g, 0, none⟩) k c ∧ P.length = k ∧ P.Perm (ns.take k) ∧ SoOn (fun x => ah16 x f) P 0 k ∧ Sep [] w wr [ownR 22 1 (.slice (some ⟨g, 0, none⟩) k c) k (P.map (Value.int .u16))]) (fun _ i _ => ns.length - (intOf i).toNat)
  case atStart => exact ⟨0, _, 0, [], Nat.zero_le _, rfl, rfl, rfl, List.Perm.refl _, SoOn.short (by omega), (Sep.init w).made 22 1 0 #[] (by unfold maxLen; omega) rfl⟩
  case round =>
    obtain ⟨k, g, c, P, hk, rfl, rfl, hpl, hpp, hso, hS⟩ := hrel
    have HS := Lib.hid hS
    have HPp := Lib.hid hpp
    have HSo := Lib.hid hso
    have hkc : k ≤ c := by
      rcases (hS.own 0 rfl).2 with ⟨e, _⟩ | ⟨g', c', cur, e, _, _, h1, _⟩
      · cases e
      · injection e with _ _ e; omega
    clear hS hpp hso
    by_cases hlt : k < ns.length
    · obtain ⟨b, off, x, hx, rfl, hb, cx⟩ := (HR.out.below HS.out.frm.below).at_ k hlt
      obtain ⟨b', off', f', hf', hab, hb', cf⟩ := (HR.out.below HS.out.frm.below).at_ 0 (by omega)
      simp at hab
      obtain ⟨rfl, rfl⟩ := hab
      have hff : f' = f := by rw [HFe.out, List.getD_eq_getElem?_getD, hf']; rfl
      subst hff
      obtain ⟨x0, x1⟩ := HN.out x (List.mem_of_getElem? hx)
      obtain ⟨f0, f1⟩ := HN.out f' (List.mem_of_getElem? hf')
      have hrng : ∀ q, q < k → 0 ≤ P.getD q 0 ∧ P.getD q 0 ≤ 65535 := fun q hq => HN.out _ (List.mem_of_mem_take (HPp.out.mem_iff.1 (by rw [List.getD_eq_getElem?_getD, List.getElem?_eq_getElem (by omega : q < P.length)]; exact List.getElem_mem _)))
      have HRng := Lib.hid hrng
      have HXx := Lib.hid hx
      have HPl := Lib.hid hpl
      clear hx hb hf' hb' hrng hpl
      have cf0 : wr.cell? ⟨b, off, none⟩ = some (.int .u16 f') := cf
      clear cf
      obtain ⟨wo, rfl⟩ : ∃ wo : World, wo = wr := ⟨_, rfl⟩
      go_wp2_with fail
      go_loopw [5] (fun t wr => ∃ (p n : Nat), p ≤ k ∧ t = .int .i64 p ∧ (∀ q, p ≤ q → q < k → ah16 x f' < ah16 (P.getD q 0) f') ∧ wr = wo.drewN n) (fun t _ => (intOf t).toNat)
      case atStart => exact ⟨k, 0, Nat.le_refl _, rfl, (fun q h1 h2 => by omega), rfl⟩
      case round =>
        obtain ⟨p, n, hp, rfl, hhi, hwi⟩ := hrel
        have HHi := Lib.hid hhi
        have cx1 : wr.cell? ⟨b, off + k, none⟩ = some (.int .u16 x) := by rw [hwi]; exact cx
        have cf1 : wr.cell? ⟨b, off, none⟩ = some (.int .u16 f') := by rw [hwi]; exact cf0
        have HWi := Lib.hid hwi
        obtain ⟨wi, rfl⟩ : ∃ wi : World, wi = wr := ⟨_, rfl⟩
        clear hhi hwi
        obtain ⟨T, hT⟩ : ∃ T : Bool, T = decide (0 < p ∧ ah16 x f' < ah16 (P.getD (p - 1) 0) f') := ⟨_, rfl⟩
        go_upto_region 6 with fail
        go_cut [37] (fun c wx => c = .bool T ∧ ∃ n', wx = wo.drewN n')
        case first =>
          by_cases hp0 : 0 < p
          · obtain ⟨y, hy⟩ : ∃ y, y = P.getD (p - 1) 0 := ⟨_, rfl⟩
            have hyr := HRng.out (p - 1) (by omega)
            rw [← hy] at hyr hT
            obtain ⟨y0, y1⟩ := hyr
            have cy : wi.cell? ⟨g, p - 1, none⟩ = some (.int .u16 y) := by
              rw [HWi.out, World.cell?_drewN]
              obtain ⟨b2, o2, e2, _, hc2⟩ := own_from (HS.out.own 0 rfl) 0 (p - 1) y (by rw [hy, List.drop_zero, List.getD_eq_getElem?_getD, List.getElem?_eq_getElem (by rw [HPl.out]; omega)]; rfl)
              injection e2 with e2
              injection e2 with e3 e4
              subst e3
              rw [← e4, Nat.zero_add] at hc2
              exact hc2
            obtain ⟨A, hA⟩ : ∃ A, A = ah16 x f' := ⟨_, rfl⟩
            obtain ⟨B, hB⟩ : ∃ B, B = ah16 y f' := ⟨_, rfl⟩
            rw [← hA, ← hB] at hT
            have HCx : Hid (∀ W, Calls Try.prog 10 #[.int .u16 x, .int .u16 f'] W fun e w' => e = .returned (.int .i64 A) ∧ w' = W) := Lib.hid fun W => by rw [hA]; exact same_of (rahead_c x f' W x0 x1 f0 f1)
            have HCy : Hid (∀ W, Calls Try.prog 10 #[.int .u16 y, .int .u16 f'] W fun e w' => e = .returned (.int .i64 B) ∧ w' = W) := Lib.hid fun W => by rw [hB]; exact same_of (rahead_c y f' W y0 y1 f0 f1)
            have i0 : (0 : Int) < (p : Int) := by omega
            have i1 : decide ((0 : Int) < (p : Int)) = true := by rw [decide_eq_true_eq]; omega
            have i1' : decide (0 < p) = true := by rw [decide_eq_true_eq]; omega
            have i2 : IntKind.i64.wrap ((p : Int) - 1) = ((p - 1 : Nat) : Int) := by rw [show ((p - 1 : Nat) : Int) = (p : Int) - 1 from by omega]; exact IntWalk.i64_in _ (by omega)
            have i3 : (0 : Int) ≤ ((p - 1 : Nat) : Int) := by omega
            have i4 : ((p - 1 : Nat) : Int) < (k : Int) := by omega
            have i5 : (0 : Int) ≤ (k : Int) := by omega
            have i6 : (k : Int) < (ns.length : Int) := by omega
            have i7 : (0 : Int) < (ns.length : Int) := by omega
            have i8 : 0 < ns.length := by omega
            have hT3 : decide (A < B) = T := by rw [hT]; by_cases h : A < B <;> simp [h, hp0]
            clear hA hB hy hT
            go_quiet ((go_at_call 10; first | with_reducible exact Calls.quiet_of_same (HCy.out _) | with_reducible exact Calls.quiet_of_same (HCx.out _)))
            go_wp2_with fail
            go_meet
            exact ⟨by first | rfl | exact congrArg Value.bool hT3, by have h := HWi.out; exact ⟨n + nq, by rw [h]; simp⟩⟩
          · have i1 : decide ((0 : Int) < (p : Int)) = false := by rw [decide_eq_false_iff_not]; omega
            have i1' : decide (0 < p) = false := by rw [decide_eq_false_iff_not]; omega
            have hT3 : T = false := by rw [hT, decide_eq_false_iff_not]; exact fun h => hp0 h.1
            subst hT3
            clear hT
            go_quiet (fail)
            go_wp2_with fail
            go_meet
            exact ⟨rfl, by have h := HWi.out; exact ⟨n + nq, by rw [h]; simp⟩⟩
        case rest =>
          obtain ⟨rfl, n', hwx⟩ := hcut
          have HT := Lib.hid hT
          have HWx := Lib.hid hwx
          clear hT hwx
          cases T
          · have hno := of_decide_eq_false HT.out.symm
            have HNo := Lib.hid hno
            clear hno
            have hS1 : Sep [] w wc [ownR 22 1 (.slice (some ⟨g, 0, none⟩) k c) k (P.map (Value.int .u16))] := by
              rw [HWx.out]; exact HS.out.drewN _
            obtain ⟨w2, hw2⟩ : ∃ w2 : World, w2 = wc := ⟨_, rfl⟩
            rw [← hw2] at hS1 ⊢
            have cx2 : w2.cell? ⟨b, off + k, none⟩ = some (.int .u16 x) := by rw [hw2, HWx.out]; exact cx
            have HS1 := Lib.hid hS1
            clear hS1 hw2
            have a1 : (0 : Int) ≤ (p : Int) := by omega
            have a2 : (p : Int) ≤ (c : Int) := by omega
            have hpl2 : (P.take p).length = p := by rw [List.length_take, HPl.out]; omega
            have hdl2 : (P.drop p).length = k - p := by rw [List.length_drop, HPl.out]
            have HLt := Lib.hid hpl2
            have HLd := Lib.hid hdl2
            have hSa := HS1.out.made 22 1 0 #[] (by unfold maxLen; omega) rfl
            have HSa := Lib.hid hSa
            have b1 : (0 : Int) ≤ (k : Int) := by omega
            have b2 : (k : Int) < (ns.length : Int) := by omega
            have b3 : (p : Int) ≤ (k : Int) := by omega
            clear hSa hpl2 hdl2
            go_wp2_with (at_builtin; first
              | (refine wpList_append_said rfl _ _ 32 rfl 0 22 i0 (.int .u16 0) 2 Try.underlying32 hi hz0 hz1 hz2 rfl .u16 _ _ _ rfl HSa.out rfl (some ⟨g, 0, none⟩) c p (P.take p) HLt.out rfl (fun h => by cases h) (own_to (HSa.out.own 1 rfl) p) p (Nat.zero_add _) ((P.take p).map (Value.int .u16)) rfl (by unfold maxLen; omega) (by omega) ?_; intro v3 w3 hS3; have cx3 := rdi_cell (HR.out.below hS3.frm.below) HXx.out; have HS3 := Lib.hid hS3; clear hS3)
              | (refine wpList_append_sep rfl _ _ 32 rfl 0 22 i0 (.int .u16 0) 2 Try.underlying32 hi hz0 hz1 hz2 rfl _ _ _ rfl (HS3.out.skip _) rfl w3.heap.size 1 (.int .u16 x) rfl (World.cell?_alloc_at _ _ _ _ rfl) rfl (by unfold maxLen; omega) (by omega) ?_; intro g4 c4 w4 hS4; have HS4 := Lib.hid hS4; clear hS4)
              | go_must (refine wpList_append_said rfl _ _ 32 rfl 0 22 i0 (.int .u16 0) 2 Try.underlying32 hi hz0 hz1 hz2 rfl .u16 _ _ _ rfl HS4.out rfl _ _ (k - p) (P.drop p) HLd.out rfl (fun h => by first | cases h | (split at h <;> cases h)) (by split <;> first | exact own_from (HS4.out.own 1 rfl) p | (rw [List.drop_eq_nil_of_le (by rw [HPl.out]; omega)]; exact fun i x h => by simp at h)) (k + 1) (by omega) ((insAt P p x).map (Value.int .u16)) (by simp [insAt]) (by unfold maxLen; omega) (by omega) ?_; intro v5 w5 hS5; obtain ⟨g5, c5, rfl⟩ := own_slice (hS5.own 0 rfl) (by omega); have HS5 := Lib.hid hS5; clear hS5))
            all_goals (
              go_roundw
              case rel => exact ⟨k + 1, g5, c5, insAt P p x, by omega, by go_num, rfl, by simp [insAt, HPl.out]; omega, by rw [take_snoc _ _ _ HXx.out]; exact (insAt_perm P p x).trans ((HPp.out.cons x).trans (List.perm_append_singleton _ _).symm), insAt_sorted HSo.out HPl.out hp HHi.out (by have h := HNo.out; by_cases h0 : p = 0; exact .inl h0; exact .inr (by by_cases h2 : ah16 x f' < ah16 (P.getD (p - 1) 0) f'; exact absurd ⟨by omega, h2⟩ h; omega)), HS5.out.only 0 rfl⟩
              case measure => simp [intOf]; omega)
          · obtain ⟨hp0, hgt⟩ := of_decide_eq_true HT.out.symm
            have HGt := Lib.hid hgt
            clear hgt
            have i2 : IntKind.i64.wrap ((p : Int) - 1) = ((p - 1 : Nat) : Int) := by rw [show ((p - 1 : Nat) : Int) = (p : Int) - 1 from by omega]; exact IntWalk.i64_in _ (by omega)
            go_wp2_with fail
            go_roundw
            case rel => exact ⟨p - 1, n', by omega, rfl, (fun q h1 h2 => by
              by_cases hq : q = p - 1
              · rw [hq]; exact HGt.out
              · exact HHi.out q (by omega) h2), HWx.out⟩
            case measure => simp [intOf]; omega
    · obtain rfl : k = ns.length := by omega
      rw [List.take_length] at HPp
      go_wp2_with fail
      go_ret
      exact ⟨g, c, P, rfl, HPp.out, HSo.out, HS.out⟩

end Go.Proofs.Ytkpkfgnebgcoaaa
