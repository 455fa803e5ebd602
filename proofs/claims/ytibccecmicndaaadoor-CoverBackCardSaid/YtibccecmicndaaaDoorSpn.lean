/-
  THE WALKS of serial.Span; the reference's Add, Sorted, Span, SameSeqs.
-/
import Derived.Test.YtibccecmicndaaaDoorCoD
import Derived.Test.YtibccecmicndaaaDoorSer
import Derived.Test.YtibccecmicndaaaDoorSrtQ
import Derived.Test.YtibccecmicndaaaDoorApp
set_option linter.unusedVariables false
set_option linter.unusedSimpArgs false
namespace Go.Proofs.YtibccecmicndaaaDoor
open Go.RowKit

theorem ret_tup2 {a a' b b' : Value} (h : a = a') (k : b = b') : Ending.returned (.tuple #[a, b]) = .returned (.tuple #[a', b']) := by rw [h, k]

set_option maxHeartbeats 400000 in
theorem radd_c (a n : Int) (w : World) (a0 : 0 ≤ a) (a1 : a ≤ 65535) :
    Calls Tryd.prog 36 #[.int .u16 a, .int .i64 n] w fun e w' => e = .returned (.int .u16 (add16 a n)) ∧ w = w' := by
  obtain ⟨d, hd⟩ : ∃ d, n.tmod 65536 = d := ⟨_, rfl⟩
  have d1 : -65535 ≤ d ∧ d ≤ 65535 ∧ (0 ≤ n → d = n % 65536) ∧ (n < 0 → d = -((-n) % 65536)) := by
    rw [← hd]
    by_cases hn : 0 ≤ n
    · rw [Int.tmod_eq_emod_of_nonneg hn]; omega
    · have h1 := Int.neg_tmod (-n) 65536
      have h2 := Int.tmod_eq_emod_of_nonneg (a := -n) (b := 65536) (by omega)
      rw [Int.neg_neg, h2] at h1
      omega
  obtain ⟨d1, d2, d3, d4⟩ := d1
  have e1 : IntKind.i64.wrap d = d := IntWalk.i64_in _ (by omega)
  by_cases hn : d < 0
  · go_enter Tryd.func36, Tryd.ntmps36
    have HD3 := Lib.hid d3
    have HD4 := Lib.hid d4
    clear d3 d4
    go_wp2_with fail
    all_goals (go_ret; exact ⟨ret_int (by have := HD3.out; have := HD4.out; unfold add16; omega), rfl⟩)
  · go_enter Tryd.func36, Tryd.ntmps36
    have HD3 := Lib.hid d3
    have HD4 := Lib.hid d4
    clear d3 d4
    go_wp2_with fail
    all_goals (go_ret; exact ⟨ret_int (by have := HD3.out; have := HD4.out; unfold add16; omega), rfl⟩)

/-- The least and the greatest of how far numbers are ahead of f. -/
def spLow (f : Int) : List Int → Int
  | [] => 0
  | n :: l => min (spLow f l) (ah16 n f)
def spHigh (f : Int) : List Int → Int
  | [] => 0
  | n :: l => max (spHigh f l) (ah16 n f)
def lowR (ns : List Int) (k : Nat) : Int := spLow (ns.getD 0 0) (ns.take k).reverse
def highR (ns : List Int) (k : Nat) : Int := spHigh (ns.getD 0 0) (ns.take k).reverse
theorem spLow_in (f : Int) (l : List Int) : -32768 ≤ spLow f l ∧ spLow f l ≤ 0 := by
  induction l with
  | nil => simp [spLow, spHigh]
  | cons n l ih => have := ah16_in n f; simp only [spLow]; omega
theorem spHigh_in (f : Int) (l : List Int) : 0 ≤ spHigh f l ∧ spHigh f l ≤ 32767 := by
  induction l with
  | nil => simp [spLow, spHigh]
  | cons n l ih => have := ah16_in n f; simp only [spHigh]; omega
theorem take_snoc' {α : Type} (l : List α) (k : Nat) (x : α) (hx : l[k]? = some x) : (l.take (k + 1)).reverse = x :: (l.take k).reverse := by
  rw [List.take_add_one, hx]; simp
theorem lowR_step (ns : List Int) (k : Nat) (x : Int) (hx : ns[k]? = some x) : lowR ns (k + 1) = min (lowR ns k) (ah16 x (ns.getD 0 0)) := by unfold lowR; rw [take_snoc' ns k x hx]; rfl
theorem highR_step (ns : List Int) (k : Nat) (x : Int) (hx : ns[k]? = some x) : highR ns (k + 1) = max (highR ns k) (ah16 x (ns.getD 0 0)) := by unfold highR; rw [take_snoc' ns k x hx]; rfl
/-- The span: the least number, and how far the greatest one is ahead of it. -/
def spanL (ns : List Int) : Int := if ns.length = 0 then 0 else add16 (ns.getD 0 0) (lowR ns ns.length)
def spanN (ns : List Int) : Int := if ns.length = 0 then 0 else highR ns ns.length - lowR ns ns.length

set_option maxHeartbeats 2000000 in
theorem span_c (a : Option Addr) (cap : Nat) (ns : List Int) (w : World) (rd : RdI .u16 w a ns) (hl : ns.length ≤ 100000) (hn : ∀ n ∈ ns, 0 ≤ n ∧ n ≤ 65535) :
    Calls Tryd.prog 37 #[.slice a ns.length cap] w fun e w' => e = .returned (.tuple #[.int .u16 (spanL ns), .int .i64 (spanN ns)]) ∧ w = w' := by
  have HR := Lib.hid rd
  have HN := Lib.hid hn
  clear rd hn
  by_cases hz : ns.length = 0
  · have hzb : ((ns.length : Int) == 0) = true := beq_iff_eq.2 (by omega)
    have e1 : spanL ns = 0 := by unfold spanL; rw [if_pos hz]
    have e2 : spanN ns = 0 := by unfold spanN; rw [if_pos hz]
    rw [e1, e2]
    clear e1 e2 hz
    go_enter Tryd.func37, Tryd.ntmps37
    go_wp2_with fail
    go_ret2
    exact ⟨rfl, rfl⟩
  · have hzb : ((ns.length : Int) == 0) = false := beq_eq_false_iff_ne.2 (by omega)
    have e1 : spanL ns = add16 (ns.getD 0 0) (lowR ns ns.length) := by unfold spanL; rw [if_neg hz]
    have e2 : spanN ns = highR ns ns.length - lowR ns ns.length := by unfold spanN; rw [if_neg hz]
    rw [e1, e2]
    have h0 : 0 < ns.length := by omega
    clear e1 e2 hz
    obtain ⟨b, off, f, hf, rfl, hb, cf⟩ := HR.out.at_ 0 h0
    have hf0 : ns.getD 0 0 = f := by rw [List.getD_eq_getElem?_getD, hf]; rfl
    obtain ⟨f0, f1⟩ := HN.out f (List.mem_of_getElem? hf)
    have HF0 := Lib.hid hf0
    have cf0 : w.cell? ⟨b, off, none⟩ = some (.int .u16 f) := cf
    clear hf hf0 hb cf
    go_enter Tryd.func37, Tryd.ntmps37
    go_wp2_with fail
    go_loop [4, 5, 14] (fun lo hi i => ∃ k : Nat, k ≤ ns.length ∧ i = .int .i64 k ∧ lo = .int .i64 (lowR ns k) ∧ hi = .int .i64 (highR ns k)) (fun _ _ i => ns.length - (intOf i).toNat)
    case atStart => exact ⟨0, Nat.zero_le _, rfl, rfl, rfl⟩
    case round =>
      obtain ⟨k, hk, rfl, rfl, rfl⟩ := hrel
      have hlo := spLow_in (ns.getD 0 0) (ns.take k).reverse
      have hhi := spHigh_in (ns.getD 0 0) (ns.take k).reverse
      by_cases hlt : k < ns.length
      · obtain ⟨b', off', x, hx, hab, hb, cx⟩ := HR.out.at_ k hlt
        simp at hab
        obtain ⟨rfl, rfl⟩ := hab
        obtain ⟨x0, x1⟩ := HN.out x (List.mem_of_getElem? hx)
        have hls := lowR_step ns k x hx
        have hhs := highR_step ns k x hx
        obtain ⟨q, hq⟩ : ∃ q, q = ah16 x f := ⟨_, rfl⟩
        rw [HF0.out, ← hq] at hls hhs
        have hqi := ah16_in x f
        rw [← hq] at hqi
        obtain ⟨q0, q1⟩ := hqi
        have HCq : Hid (∀ W, Calls Tryd.prog 39 #[.int .u16 x, .int .u16 f] W fun e w' => e = .returned (.int .i64 q) ∧ W = w') := Lib.hid fun W => by rw [hq]; exact ahead_c x f W x0 x1 f0 f1
        obtain ⟨Lo, hLo⟩ : ∃ Lo, Lo = lowR ns k := ⟨_, rfl⟩
        obtain ⟨Hi, hHi⟩ : ∃ Hi, Hi = highR ns k := ⟨_, rfl⟩
        rw [← hLo] at hls ⊢
        rw [← hHi] at hhs ⊢
        have hlo' : -32768 ≤ Lo ∧ Lo ≤ 0 := by rw [hLo]; exact hlo
        have hhi' : 0 ≤ Hi ∧ Hi ≤ 32767 := by rw [hHi]; exact hhi
        obtain ⟨l0, l1⟩ := hlo'
        obtain ⟨g0, g1⟩ := hhi'
        have HLS := Lib.hid hls
        have HHS := Lib.hid hhs
        clear hx hb hls hhs hq hLo hHi hlo hhi
        go_wp2_with fail
        refine (HCq.out _).mono ?_
        rintro e w' ⟨rfl, rfl⟩
        go_wp2_with fail
        all_goals
          go_round
          case rel => exact ⟨k + 1, by omega, by go_num, by rw [HLS.out] <;> exact congrArg (Value.int .i64) (by omega), by rw [HHS.out] <;> exact congrArg (Value.int .i64) (by omega)⟩
          case measure => simp [intOf]; omega
      · obtain rfl : k = ns.length := by omega
        obtain ⟨Lo, hLo⟩ : ∃ Lo, Lo = lowR ns ns.length := ⟨_, rfl⟩
        obtain ⟨Hi, hHi⟩ : ∃ Hi, Hi = highR ns ns.length := ⟨_, rfl⟩
        have hlo' : -32768 ≤ Lo ∧ Lo ≤ 0 := by rw [hLo]; exact spLow_in _ _
        have hhi' : 0 ≤ Hi ∧ Hi ≤ 32767 := by rw [hHi]; exact spHigh_in _ _
        obtain ⟨l0, l1⟩ := hlo'
        obtain ⟨g0, g1⟩ := hhi'
        rw [← hLo, ← hHi]
        have HL := Lib.hid hLo
        have HH := Lib.hid hHi
        clear hLo hHi hlo hhi
        go_wp2_with fail
        refine (add_c f Lo _ f0 f1).mono ?_
        rintro e w' ⟨rfl, rfl⟩
        go_wp2_with fail
        go_ret2
        refine ⟨?_, rfl⟩
        rw [HF0.out, ← HL.out, ← HH.out]
        rfl

/-- One number put in at p. -/
def insAt (P : List Int) (p : Nat) (x : Int) : List Int := P.take p ++ [x] ++ P.drop p
theorem insAt_get (P : List Int) (p : Nat) (x : Int) (hp : p ≤ P.length) (q : Nat) : (insAt P p x).getD q 0 = if q < p then P.getD q 0 else if q = p then x else P.getD (q - 1) 0 := by
  unfold insAt
  simp only [List.getD_eq_getElem?_getD]
  by_cases h1 : q < p
  · rw [if_pos h1, List.getElem?_append_left (by simp; omega), List.getElem?_append_left (by simp; omega), List.getElem?_take_of_lt h1]
  · rw [if_neg h1]
    by_cases h2 : q = p
    · rw [if_pos h2, List.getElem?_append_left (by simp; omega), List.getElem?_append_right (by simp; omega)]
      simp [h2, Nat.min_eq_left hp]
    · rw [if_neg h2, List.getElem?_append_right (by simp; omega), List.getElem?_drop]
      congr 2
      simp
      omega
theorem insAt_perm (P : List Int) (p : Nat) (x : Int) : (insAt P p x).Perm (x :: P) := by
  unfold insAt
  have h := @List.perm_middle _ x (P.take p) (P.drop p)
  rw [List.append_assoc, List.singleton_append]
  rw [List.take_append_drop] at h
  exact h
theorem insAt_sorted {key : Int → Int} {P : List Int} {p k : Nat} {x : Int} (h : SoOn key P 0 k) (hk : P.length = k) (hp : p ≤ k) (hi : ∀ q, p ≤ q → q < k → key x < key (P.getD q 0)) (lo : p = 0 ∨ key (P.getD (p - 1) 0) ≤ key x) : SoOn key (insAt P p x) 0 (k + 1) := fun i j _ h1 h2 => by
  rw [insAt_get P p x (by omega) i, insAt_get P p x (by omega) j]
  by_cases hj : j < p
  · rw [if_pos (by omega), if_pos hj]; exact h i j (Nat.zero_le _) h1 (by omega)
  · rw [if_neg hj]
    by_cases hj2 : j = p
    · rw [if_pos hj2, if_pos (by omega)]
      rcases lo with lo | lo
      · omega
      · exact Int.le_trans (h.le (Nat.zero_le _) (show i ≤ p - 1 by omega) (by omega)) lo
    · rw [if_neg hj2]
      by_cases hi1 : i < p
      · rw [if_pos hi1]; exact h i (j - 1) (Nat.zero_le _) (by omega) (by omega)
      · rw [if_neg hi1]
        by_cases hi2 : i = p
        · rw [if_pos hi2]; exact Int.le_of_lt (hi (j - 1) (by omega) (by omega))
        · rw [if_neg hi2]; exact h (i - 1) (j - 1) (Nat.zero_le _) (by omega) (by omega)

/-- What is owned, read from a place on. -/
theorem own_from {w : World} {e : TypeId} {g n c : Nat} {k : IntKind} {zs : List Int} (h : w.ownsRow 0 e 1 (.slice (some ⟨g, 0, none⟩) n c) n (zs.map (Value.int k))) (p : Nat) : RdI k w (some ⟨g, p, none⟩) (zs.drop p) := fun i x hx => by
  rw [List.getElem?_drop] at hx
  have hlt := (h.lt g rfl).2
  have := h.cells (g := g) rfl (p + i) (.int k x) (by rw [List.getElem?_map, hx]; rfl)
  rw [add_addr, Nat.zero_add] at this
  exact ⟨g, p, rfl, hlt, this⟩
theorem own_to {w : World} {e : TypeId} {g n c : Nat} {k : IntKind} {zs : List Int} (h : w.ownsRow 0 e 1 (.slice (some ⟨g, 0, none⟩) n c) n (zs.map (Value.int k))) (p : Nat) : RdI k w (some ⟨g, 0, none⟩) (zs.take p) := fun i x hx => by
  have hi : i < p := by
    have := (List.getElem?_eq_some_iff.1 hx).1
    simp at this; omega
  rw [List.getElem?_take_of_lt hi] at hx
  exact own_from h 0 i x (by simpa using hx)

theorem take_snoc {α : Type} (l : List α) (k : Nat) (x : α) (hx : l[k]? = some x) : l.take (k + 1) = l.take k ++ [x] := by
  rw [List.take_add_one, hx]; rfl
theorem rdi_cell {k : IntKind} {w : World} {b off : Nat} {zs : List Int} {i : Nat} {x : Int} (h : RdI k w (some ⟨b, off, none⟩) zs) (hx : zs[i]? = some x) : w.cell? ⟨b, off + i, none⟩ = some (.int k x) := by
  obtain ⟨b', o', e, _, hc⟩ := h i x hx
  injection e with e
  injection e with e1 e2
  subst e1 e2
  exact hc
/-- 'append(s, xs...)' of integers, the lengths and the row as the prover spells them. -/
theorem wpList_append_said {P : Program} {S : List Nat} {w0 w : World} {L : List Res} {ops : Array Oper} {rest : List Oper} {o : Oper} {a : Act} {Q : Exit → Act → World → Prop} (hgd : o.guard = none) (s x : Operand) (t : TypeId)
    (ho : o.op = .call { callee := .builtin .append, args := #[s, x], argTypes := #[t, t] }) (i : Nat)
    (e : TypeId) (inf : TypeInfo) (z : Value) (bytes : Nat) (ht : P.underlying t = some (.slice e)) (hi : P.info? e = some inf) (hz : inf.zero = some z)
    (hsize : inf.size = 1) (hby : inf.bytes = bytes) (hzs : z.cells.size = 1) (k : IntKind)
    (v : Value) (n : Nat) (xs : List Value) (hs : a.eval s = v) (hS : Sep S w0 w L) (hL : L[i]? = some (ownR e 1 v n xs))
    (ad : Option Addr) (c m : Nat) (zs : List Int) (hm : zs.length = m) (hx : a.eval x = .slice ad m c) (hc : ad = none → c = 0) (hrd : RdI k w ad zs)
    (N : Nat) (hN : n + m = N) (ys : List Value) (hy : xs ++ zs.map (Value.int k) = ys)
    (h63 : N ≤ maxLen) (hbytes : N * bytes ≤ 140737488355328)
    (h : ∀ v' w', Sep S w0 w' (L.set i (ownR e 1 v' N ys)) → wpList P ops Q rest (a.put o.dst v') w') : wpList P ops Q (o :: rest) a w := by
  subst hm hN hy
  exact wpList_append_ints hgd s x t ho i e inf z bytes ht hi hz hsize hby hzs k v n xs hs hS hL ad c zs hx hc hrd h63 hbytes h
theorem own_slice {w : World} {e : TypeId} {v : Value} {n : Nat} {xs : List Value} (h : w.ownsRow 0 e 1 v n xs) (hn : 0 < n) : ∃ g c, v = .slice (some ⟨g, 0, none⟩) n c := by
  rcases h.2 with ⟨_, h2⟩ | ⟨g, c, _, h2, _⟩
  · have := h.1; subst h2; simp at this; omega
  · exact ⟨g, c, h2⟩

set_option maxRecDepth 100000 in
set_option maxHeartbeats 16000000 in
theorem rsorted_c (a : Option Addr) (cap : Nat) (ns : List Int) (w : World) (rd : RdI .u16 w a ns) (hl : ns.length ≤ 1000) (hn : ∀ n ∈ ns, 0 ≤ n ∧ n ≤ 65535) :
    Calls Tryd.prog 52 #[.slice a ns.length cap] w fun e w' => ∃ g c R, e = .returned (.slice (some ⟨g, 0, none⟩) ns.length c) ∧ R.Perm ns ∧ SoOn (fun x => ah16 x (ns.getD 0 0)) R 0 ns.length ∧ Sep [] w w' [ownR 22 1 (.slice (some ⟨g, 0, none⟩) ns.length c) ns.length (R.map (Value.int .u16))] := by
  obtain ⟨i0, hi, hz0, hz1, hz2⟩ := info_parts info_u16
  have HR := Lib.hid rd
  have HN := Lib.hid hn
  clear rd hn
  obtain ⟨f, hf⟩ : ∃ f, f = ns.getD 0 0 := ⟨_, rfl⟩
  rw [← hf]
  have HFe := Lib.hid hf
  clear hf
  go_enter Tryd.func52, Tryd.ntmps52
  go_wp2_with fail
  go_loopw [3, 4] (fun v i wr => ∃ (k g c : Nat) (P : List Int), k ≤ ns.length ∧ i = .int .i64 k ∧ v = .slice (some ⟨g, 0, none⟩) k c ∧ P.length = k ∧ P.Perm (ns.take k) ∧ SoOn (fun x => ah16 x f) P 0 k ∧ Sep [] w wr [ownR 22 1 (.slice (some ⟨g, 0, none⟩) k c) k (P.map (Value.int .u16))]) (fun _ i _ => ns.length - (intOf i).toNat)
  case atStart => exact ⟨0, _, 0, [], Nat.zero_le _, rfl, rfl, rfl, List.Perm.refl _, SoOn.short (by omega), (Sep.init w).made 22 1 0 #[] (by unfold maxLen; omega) rfl⟩
  case round =>
    obtain ⟨k, g, c, P, hk, rfl, rfl, hpl, hpp, hso, hS⟩ := hrel
    have HS := Lib.hid hS
    have HPp := Lib.hid hpp
    have HSo := Lib.hid hso
    have hkc : k ≤ c := by
      rcases (hS.own 0 rfl).2 with ⟨e, _⟩ | ⟨g', c', cur, e, _, _, h1, _⟩
      · cases e
      · injection e with _ _ e; omega
    clear hS hpp hso
    by_cases hlt : k < ns.length
    · obtain ⟨b, off, x, hx, rfl, hb, cx⟩ := (HR.out.below HS.out.frm.below).at_ k hlt
      obtain ⟨b', off', f', hf', hab, hb', cf⟩ := (HR.out.below HS.out.frm.below).at_ 0 (by omega)
      simp at hab
      obtain ⟨rfl, rfl⟩ := hab
      have hff : f' = f := by rw [HFe.out, List.getD_eq_getElem?_getD, hf']; rfl
      subst hff
      obtain ⟨x0, x1⟩ := HN.out x (List.mem_of_getElem? hx)
      obtain ⟨f0, f1⟩ := HN.out f' (List.mem_of_getElem? hf')
      have hrng : ∀ q, q < k → 0 ≤ P.getD q 0 ∧ P.getD q 0 ≤ 65535 := fun q hq => HN.out _ (List.mem_of_mem_take (HPp.out.mem_iff.1 (by rw [List.getD_eq_getElem?_getD, List.getElem?_eq_getElem (by omega : q < P.length)]; exact List.getElem_mem _)))
      have HRng := Lib.hid hrng
      have HXx := Lib.hid hx
      have HPl := Lib.hid hpl
      clear hx hb hf' hb' hrng hpl
      have cf0 : wr.cell? ⟨b, off, none⟩ = some (.int .u16 f') := cf
      clear cf
      obtain ⟨wo, rfl⟩ : ∃ wo : World, wo = wr := ⟨_, rfl⟩
      go_wp2_with fail
      go_loopw [5] (fun t wr => ∃ (p n : Nat), p ≤ k ∧ t = .int .i64 p ∧ (∀ q, p ≤ q → q < k → ah16 x f' < ah16 (P.getD q 0) f') ∧ wr = wo.drewN n) (fun t _ => (intOf t).toNat)
      case atStart => exact ⟨k, 0, Nat.le_refl _, rfl, (fun q h1 h2 => by omega), rfl⟩
      case round =>
        obtain ⟨p, n, hp, rfl, hhi, hwi⟩ := hrel
        have HHi := Lib.hid hhi
        have cx1 : wr.cell? ⟨b, off + k, none⟩ = some (.int .u16 x) := by rw [hwi]; exact cx
        have cf1 : wr.cell? ⟨b, off, none⟩ = some (.int .u16 f') := by rw [hwi]; exact cf0
        have HWi := Lib.hid hwi
        obtain ⟨wi, rfl⟩ : ∃ wi : World, wi = wr := ⟨_, rfl⟩
        clear hhi hwi
        obtain ⟨T, hT⟩ : ∃ T : Bool, T = decide (0 < p ∧ ah16 x f' < ah16 (P.getD (p - 1) 0) f') := ⟨_, rfl⟩
        go_upto_region 6 with fail
        go_cut [37] (fun c wx => c = .bool T ∧ ∃ n', wx = wo.drewN n')
        case first =>
          by_cases hp0 : 0 < p
          · obtain ⟨y, hy⟩ : ∃ y, y = P.getD (p - 1) 0 := ⟨_, rfl⟩
            have hyr := HRng.out (p - 1) (by omega)
            rw [← hy] at hyr hT
            obtain ⟨y0, y1⟩ := hyr
            have cy : wi.cell? ⟨g, p - 1, none⟩ = some (.int .u16 y) := by
              rw [HWi.out, World.cell?_drewN]
              obtain ⟨b2, o2, e2, _, hc2⟩ := own_from (HS.out.own 0 rfl) 0 (p - 1) y (by rw [hy, List.drop_zero, List.getD_eq_getElem?_getD, List.getElem?_eq_getElem (by rw [HPl.out]; omega)]; rfl)
              injection e2 with e2
              injection e2 with e3 e4
              subst e3
              rw [← e4, Nat.zero_add] at hc2
              exact hc2
            obtain ⟨A, hA⟩ : ∃ A, A = ah16 x f' := ⟨_, rfl⟩
            obtain ⟨B, hB⟩ : ∃ B, B = ah16 y f' := ⟨_, rfl⟩
            rw [← hA, ← hB] at hT
            have HCx : Hid (∀ W, Calls Tryd.prog 30 #[.int .u16 x, .int .u16 f'] W fun e w' => e = .returned (.int .i64 A) ∧ w' = W) := Lib.hid fun W => by rw [hA]; exact same_of (rahead_c x f' W x0 x1 f0 f1)
            have HCy : Hid (∀ W, Calls Tryd.prog 30 #[.int .u16 y, .int .u16 f'] W fun e w' => e = .returned (.int .i64 B) ∧ w' = W) := Lib.hid fun W => by rw [hB]; exact same_of (rahead_c y f' W y0 y1 f0 f1)
            have i0 : (0 : Int) < (p : Int) := by omega
            have i1 : decide ((0 : Int) < (p : Int)) = true := by rw [decide_eq_true_eq]; omega
            have i1' : decide (0 < p) = true := by rw [decide_eq_true_eq]; omega
            have i2 : IntKind.i64.wrap ((p : Int) - 1) = ((p - 1 : Nat) : Int) := by rw [show ((p - 1 : Nat) : Int) = (p : Int) - 1 from by omega]; exact IntWalk.i64_in _ (by omega)
            have i3 : (0 : Int) ≤ ((p - 1 : Nat) : Int) := by omega
            have i4 : ((p - 1 : Nat) : Int) < (k : Int) := by omega
            have i5 : (0 : Int) ≤ (k : Int) := by omega
            have i6 : (k : Int) < (ns.length : Int) := by omega
            have i7 : (0 : Int) < (ns.length : Int) := by omega
            have i8 : 0 < ns.length := by omega
            have hT3 : decide (A < B) = T := by rw [hT]; by_cases h : A < B <;> simp [h, hp0]
            clear hA hB hy hT
            go_quiet ((go_at_call 30; first | with_reducible exact Calls.quiet_of_same (HCy.out _) | with_reducible exact Calls.quiet_of_same (HCx.out _)))
            go_wp2_with fail
            go_meet
            exact ⟨by first | rfl | exact congrArg Value.bool hT3, by have h := HWi.out; exact ⟨n + nq, by rw [h]; simp⟩⟩
          · have i1 : decide ((0 : Int) < (p : Int)) = false := by rw [decide_eq_false_iff_not]; omega
            have i1' : decide (0 < p) = false := by rw [decide_eq_false_iff_not]; omega
            have hT3 : T = false := by rw [hT, decide_eq_false_iff_not]; exact fun h => hp0 h.1
            subst hT3
            clear hT
            go_quiet (fail)
            go_wp2_with fail
            go_meet
            exact ⟨rfl, by have h := HWi.out; exact ⟨n + nq, by rw [h]; simp⟩⟩
        case rest =>
          obtain ⟨rfl, n', hwx⟩ := hcut
          have HT := Lib.hid hT
          have HWx := Lib.hid hwx
          clear hT hwx
          cases T
          · have hno := of_decide_eq_false HT.out.symm
            have HNo := Lib.hid hno
            clear hno
            have hS1 : Sep [] w wc [ownR 22 1 (.slice (some ⟨g, 0, none⟩) k c) k (P.map (Value.int .u16))] := by
              rw [HWx.out]; exact HS.out.drewN _
            obtain ⟨w2, hw2⟩ : ∃ w2 : World, w2 = wc := ⟨_, rfl⟩
            rw [← hw2] at hS1 ⊢
            have cx2 : w2.cell? ⟨b, off + k, none⟩ = some (.int .u16 x) := by rw [hw2, HWx.out]; exact cx
            have HS1 := Lib.hid hS1
            clear hS1 hw2
            have a1 : (0 : Int) ≤ (p : Int) := by omega
            have a2 : (p : Int) ≤ (c : Int) := by omega
            have hpl2 : (P.take p).length = p := by rw [List.length_take, HPl.out]; omega
            have hdl2 : (P.drop p).length = k - p := by rw [List.length_drop, HPl.out]
            have HLt := Lib.hid hpl2
            have HLd := Lib.hid hdl2
            have hSa := HS1.out.made 22 1 0 #[] (by unfold maxLen; omega) rfl
            have HSa := Lib.hid hSa
            have b1 : (0 : Int) ≤ (k : Int) := by omega
            have b2 : (k : Int) < (ns.length : Int) := by omega
            have b3 : (p : Int) ≤ (k : Int) := by omega
            clear hSa hpl2 hdl2
            go_wp2_with (at_builtin; first
              | (refine wpList_append_said rfl _ _ 24 rfl 0 22 i0 (.int .u16 0) 2 Tryd.underlying24 hi hz0 hz1 hz2 rfl .u16 _ _ _ rfl HSa.out rfl (some ⟨g, 0, none⟩) c p (P.take p) HLt.out rfl (fun h => by cases h) (own_to (HSa.out.own 1 rfl) p) p (Nat.zero_add _) ((P.take p).map (Value.int .u16)) rfl (by unfold maxLen; omega) (by omega) ?_; intro v3 w3 hS3; have cx3 := rdi_cell (HR.out.below hS3.frm.below) HXx.out; have HS3 := Lib.hid hS3; clear hS3)
              | (refine wpList_append_sep rfl _ _ 24 rfl 0 22 i0 (.int .u16 0) 2 Tryd.underlying24 hi hz0 hz1 hz2 rfl _ _ _ rfl (HS3.out.skip _) rfl w3.heap.size 1 (.int .u16 x) rfl (World.cell?_alloc_at _ _ _ _ rfl) rfl (by unfold maxLen; omega) (by omega) ?_; intro g4 c4 w4 hS4; have HS4 := Lib.hid hS4; clear hS4)
              | go_must (refine wpList_append_said rfl _ _ 24 rfl 0 22 i0 (.int .u16 0) 2 Tryd.underlying24 hi hz0 hz1 hz2 rfl .u16 _ _ _ rfl HS4.out rfl _ _ (k - p) (P.drop p) HLd.out rfl (fun h => by first | cases h | (split at h <;> cases h)) (by split <;> first | exact own_from (HS4.out.own 1 rfl) p | (rw [List.drop_eq_nil_of_le (by rw [HPl.out]; omega)]; exact fun i x h => by simp at h)) (k + 1) (by omega) ((insAt P p x).map (Value.int .u16)) (by simp [insAt]) (by unfold maxLen; omega) (by omega) ?_; intro v5 w5 hS5; obtain ⟨g5, c5, rfl⟩ := own_slice (hS5.own 0 rfl) (by omega); have HS5 := Lib.hid hS5; clear hS5))
            all_goals (
              go_roundw
              case rel => exact ⟨k + 1, g5, c5, insAt P p x, by omega, by go_num, rfl, by simp [insAt, HPl.out]; omega, by rw [take_snoc _ _ _ HXx.out]; exact (insAt_perm P p x).trans ((HPp.out.cons x).trans (List.perm_append_singleton _ _).symm), insAt_sorted HSo.out HPl.out hp HHi.out (by have h := HNo.out; by_cases h0 : p = 0; exact .inl h0; exact .inr (by by_cases h2 : ah16 x f' < ah16 (P.getD (p - 1) 0) f'; exact absurd ⟨by omega, h2⟩ h; omega)), HS5.out.only 0 rfl⟩
              case measure => simp [intOf]; omega)
          · obtain ⟨hp0, hgt⟩ := of_decide_eq_true HT.out.symm
            have HGt := Lib.hid hgt
            clear hgt
            have i2 : IntKind.i64.wrap ((p : Int) - 1) = ((p - 1 : Nat) : Int) := by rw [show ((p - 1 : Nat) : Int) = (p : Int) - 1 from by omega]; exact IntWalk.i64_in _ (by omega)
            go_wp2_with fail
            go_roundw
            case rel => exact ⟨p - 1, n', by omega, rfl, (fun q h1 h2 => by
              by_cases hq : q = p - 1
              · rw [hq]; exact HGt.out
              · exact HHi.out q (by omega) h2), HWx.out⟩
            case measure => simp [intOf]; omega
    · obtain rfl : k = ns.length := by omega
      rw [List.take_length] at HPp
      go_wp2_with fail
      go_ret
      exact ⟨g, c, P, rfl, HPp.out, HSo.out, HS.out⟩

theorem ah16_inj {x y f : Int} (x0 : 0 ≤ x) (x1 : x ≤ 65535) (y0 : 0 ≤ y) (y1 : y ≤ 65535) (f0 : 0 ≤ f) (f1 : f ≤ 65535) (h : ah16 x f = ah16 y f) : x = y := by
  unfold ah16 at h
  omega

theorem spLow_le (f : Int) : ∀ (l : List Int) (x : Int), x ∈ l → spLow f l ≤ ah16 x f
  | y :: l, x, h => by
    rcases List.mem_cons.1 h with rfl | h
    · simp only [spLow]; omega
    · have := spLow_le f l x h; simp only [spLow]; omega
theorem spLow_mem (f : Int) : ∀ (l : List Int), spLow f l = 0 ∨ ∃ x ∈ l, spLow f l = ah16 x f
  | [] => .inl rfl
  | y :: l => by
    have h := spLow_mem f l
    by_cases hc : spLow f l ≤ ah16 y f
    · have e : spLow f (y :: l) = spLow f l := by simp only [spLow]; omega
      rw [e]
      rcases h with h | ⟨x, hx, h⟩
      · exact .inl h
      · exact .inr ⟨x, List.mem_cons_of_mem _ hx, h⟩
    · exact .inr ⟨y, List.mem_cons_self .., by simp only [spLow]; omega⟩
theorem spHigh_le (f : Int) : ∀ (l : List Int) (x : Int), x ∈ l → ah16 x f ≤ spHigh f l
  | y :: l, x, h => by
    rcases List.mem_cons.1 h with rfl | h
    · simp only [spHigh]; omega
    · have := spHigh_le f l x h; simp only [spHigh]; omega
theorem spHigh_mem (f : Int) : ∀ (l : List Int), spHigh f l = 0 ∨ ∃ x ∈ l, spHigh f l = ah16 x f
  | [] => .inl rfl
  | y :: l => by
    have h := spHigh_mem f l
    by_cases hc : ah16 y f ≤ spHigh f l
    · have e : spHigh f (y :: l) = spHigh f l := by simp only [spHigh]; omega
      rw [e]
      rcases h with h | ⟨x, hx, h⟩
      · exact .inl h
      · exact .inr ⟨x, List.mem_cons_of_mem _ hx, h⟩
    · exact .inr ⟨y, List.mem_cons_self .., by simp only [spHigh]; omega⟩
theorem getD_of_mem {l : List Int} {x : Int} (h : x ∈ l) : ∃ i, i < l.length ∧ l.getD i 0 = x := by
  obtain ⟨i, hi, e⟩ := List.mem_iff_getElem.1 h
  exact ⟨i, hi, by rw [List.getD_eq_getElem?_getD, List.getElem?_eq_getElem hi]; exact e⟩
theorem mem_of_getD {l : List Int} {i : Nat} (h : i < l.length) : l.getD i 0 ∈ l := by
  rw [List.getD_eq_getElem?_getD, List.getElem?_eq_getElem h]
  exact List.getElem_mem h
theorem ah16_self (f : Int) : ah16 f f = 0 := by unfold ah16; omega
theorem low_is {ns R : List Int} (hp : R.Perm ns) (h0 : 0 < ns.length) (hs : SoOn (fun x => ah16 x (ns.getD 0 0)) R 0 ns.length) : lowR ns ns.length = ah16 (R.getD 0 0) (ns.getD 0 0) := by
  have hl := hp.length_eq
  have hm : R.getD 0 0 ∈ ns := hp.mem_iff.1 (mem_of_getD (by omega))
  have least : ∀ x ∈ ns, ah16 (R.getD 0 0) (ns.getD 0 0) ≤ ah16 x (ns.getD 0 0) := fun x hx => by
    obtain ⟨i, hi, rfl⟩ := getD_of_mem (hp.mem_iff.2 hx)
    exact hs.le (Nat.le_refl _) (Nat.zero_le _) (by omega)
  unfold lowR
  rw [List.take_length]
  have h1 := spLow_le (ns.getD 0 0) ns.reverse _ (List.mem_reverse.2 hm)
  rcases spLow_mem (ns.getD 0 0) ns.reverse with h | ⟨x, hx, h⟩
  · have h2 := least _ (mem_of_getD h0)
    rw [ah16_self] at h2
    omega
  · have h2 := least x (List.mem_reverse.1 hx)
    omega
theorem high_is {ns R : List Int} (hp : R.Perm ns) (h0 : 0 < ns.length) (hs : SoOn (fun x => ah16 x (ns.getD 0 0)) R 0 ns.length) : highR ns ns.length = ah16 (R.getD (ns.length - 1) 0) (ns.getD 0 0) := by
  have hl := hp.length_eq
  have hm : R.getD (ns.length - 1) 0 ∈ ns := hp.mem_iff.1 (mem_of_getD (by omega))
  have most : ∀ x ∈ ns, ah16 x (ns.getD 0 0) ≤ ah16 (R.getD (ns.length - 1) 0) (ns.getD 0 0) := fun x hx => by
    obtain ⟨i, hi, rfl⟩ := getD_of_mem (hp.mem_iff.2 hx)
    exact hs.le (Nat.zero_le _) (by omega) (by omega)
  unfold highR
  rw [List.take_length]
  have h1 := spHigh_le (ns.getD 0 0) ns.reverse _ (List.mem_reverse.2 hm)
  rcases spHigh_mem (ns.getD 0 0) ns.reverse with h | ⟨x, hx, h⟩
  · have h2 := most _ (mem_of_getD h0)
    rw [ah16_self] at h2
    omega
  · have h2 := most x (List.mem_reverse.1 hx)
    omega
theorem own_cell {w : World} {e : TypeId} {g n c : Nat} {k : IntKind} {zs : List Int} (h : w.ownsRow 0 e 1 (.slice (some ⟨g, 0, none⟩) n c) n (zs.map (Value.int k))) (i : Nat) (hi : i < zs.length) : w.cell? ⟨g, i, none⟩ = some (.int k (zs.getD i 0)) := by
  have h2 := rdi_cell (own_from h 0) (i := i) (x := zs.getD i 0) (by rw [List.drop_zero, List.getD_eq_getElem?_getD, List.getElem?_eq_getElem hi]; rfl)
  rw [Nat.zero_add] at h2
  exact h2

set_option maxHeartbeats 4000000 in
theorem rspan_c (a : Option Addr) (cap : Nat) (ns : List Int) (w : World) (rd : RdI .u16 w a ns) (hl : ns.length ≤ 1000) (hn : ∀ n ∈ ns, 0 ≤ n ∧ n ≤ 65535) :
    Calls Tryd.prog 38 #[.slice a ns.length cap] w fun e w' => e = .returned (.tuple #[.int .u16 (spanL ns), .int .i64 (spanN ns)]) ∧ Frm [] w w' := by
  have HR := Lib.hid rd
  have HN := Lib.hid hn
  have HSo := Lib.hid (rsorted_c a cap ns w rd hl hn)
  clear rd hn
  by_cases hz : ns.length = 0
  · have hzb : ((ns.length : Int) == 0) = true := beq_iff_eq.2 (by omega)
    have e1 : spanL ns = 0 := by unfold spanL; rw [if_pos hz]
    have e2 : spanN ns = 0 := by unfold spanN; rw [if_pos hz]
    rw [e1, e2]
    clear e1 e2 hz
    go_enter Tryd.func38, Tryd.ntmps38
    go_wp2_with fail
    go_ret2
    exact ⟨rfl, Frm.refl _ _⟩
  · have hzb : ((ns.length : Int) == 0) = false := beq_eq_false_iff_ne.2 (by omega)
    have e1 : spanL ns = add16 (ns.getD 0 0) (lowR ns ns.length) := by unfold spanL; rw [if_neg hz]
    have e2 : spanN ns = highR ns ns.length - lowR ns ns.length := by unfold spanN; rw [if_neg hz]
    rw [e1, e2]
    have h0 : 0 < ns.length := by omega
    clear e1 e2 hz
    obtain ⟨b, off, f, hf, rfl, hb, cf⟩ := HR.out.at_ 0 h0
    have hf0 : ns.getD 0 0 = f := by rw [List.getD_eq_getElem?_getD, hf]; rfl
    obtain ⟨f0, f1⟩ := HN.out f (List.mem_of_getElem? hf)
    have HF := Lib.hid hf
    have HF0 := Lib.hid hf0
    clear hf hf0 hb cf
    go_enter Tryd.func38, Tryd.ntmps38
    go_wp2_with fail
    refine HSo.out.mono ?_
    rintro e w1 ⟨g, c, R, rfl, hp, hso, hS⟩
    have hlow := low_is hp h0 hso
    have hhigh := high_is hp h0 hso
    have hrl : R.length = ns.length := hp.length_eq
    have cf1 := rdi_cell (HR.out.below hS.frm.below) HF.out
    rw [Nat.add_zero] at cf1
    have cr := own_cell (hS.own 0 rfl) 0 (by omega)
    have cl := own_cell (hS.own 0 rfl) (ns.length - 1) (by omega)
    have hr := HN.out _ (hp.mem_iff.1 (mem_of_getD (l := R) (i := 0) (by omega)))
    have hl2 := HN.out _ (hp.mem_iff.1 (mem_of_getD (l := R) (i := ns.length - 1) (by omega)))
    rw [HF0.out] at hlow hhigh
    obtain ⟨r, hr0⟩ : ∃ r, r = R.getD 0 0 := ⟨_, rfl⟩
    obtain ⟨l, hl0⟩ : ∃ l, l = R.getD (ns.length - 1) 0 := ⟨_, rfl⟩
    rw [← hr0] at cr hr hlow
    rw [← hl0] at cl hl2 hhigh
    obtain ⟨r0, r1⟩ := hr
    obtain ⟨l0, l1⟩ := hl2
    have hA := ah16_in r f
    have hB := ah16_in l f
    have hadd : add16 f (ah16 r f) = r := by unfold add16 ah16; omega
    obtain ⟨A, hAe⟩ : ∃ A, A = ah16 r f := ⟨_, rfl⟩
    obtain ⟨B, hBe⟩ : ∃ B, B = ah16 l f := ⟨_, rfl⟩
    have HCr : Hid (∀ W, Calls Tryd.prog 30 #[.int .u16 r, .int .u16 f] W fun e w' => e = .returned (.int .i64 A) ∧ w' = W) := Lib.hid fun W => by rw [hAe]; exact same_of (rahead_c r f W r0 r1 f0 f1)
    have HCl : Hid (∀ W, Calls Tryd.prog 30 #[.int .u16 l, .int .u16 f] W fun e w' => e = .returned (.int .i64 B) ∧ w' = W) := Lib.hid fun W => by rw [hBe]; exact same_of (rahead_c l f W l0 l1 f0 f1)
    rw [← hAe] at hA hlow hadd
    rw [← hBe] at hB hhigh
    have HLo := Lib.hid hlow
    have HHi := Lib.hid hhigh
    have HAd := Lib.hid hadd
    have HFr := Lib.hid hS.frm
    have w1e : IntKind.i64.wrap ((ns.length : Int) - 1) = ((ns.length - 1 : Nat) : Int) := by rw [show ((ns.length - 1 : Nat) : Int) = (ns.length : Int) - 1 from by omega]; exact IntWalk.i64_in _ (by omega)
    have w2e : IntKind.i64.wrap (B - A) = B - A := IntWalk.i64_in _ (by omega)
    have i3 : (0 : Int) ≤ ((ns.length - 1 : Nat) : Int) := by omega
    have i4 : ((ns.length - 1 : Nat) : Int) < (ns.length : Int) := by omega
    clear hp hso hS hlow hhigh hrl hr0 hl0 hadd hAe hBe hA hB HSo
    go_wp2_with fail
    go_quiet ((go_at_call 30; first | with_reducible exact Calls.quiet_of_same (HCl.out _) | with_reducible exact Calls.quiet_of_same (HCr.out _)))
    go_wp2_with fail
    go_ret2
    refine ⟨?_, HFr.out.drewN _⟩
    rw [HF0.out, HLo.out, HHi.out, HAd.out]
    rfl

set_option maxHeartbeats 4000000 in
/-- Two rows of one length: the same? -/
theorem same_c (a b : Option Addr) (ca cb : Nat) (L R : List Int) (n : Nat) (w : World) (ra : RdI .u16 w a L) (rb : RdI .u16 w b R) (hL : L.length = n) (hR : R.length = n) (hn : n ≤ 1000) (he : L = R) :
    Calls Tryd.prog 12 #[.slice a n ca, .slice b n cb] w fun e w' => e = .returned (.bool true) ∧ ∃ m, w' = w.drewN m := by
  subst he
  have HA := Lib.hid ra
  have HB := Lib.hid rb
  have HL := Lib.hid hL
  clear ra rb hL hR
  have hnn : ((n : Int) != (n : Int)) = false := by simp
  go_enter Tryd.func12, Tryd.ntmps12
  go_wp2_with fail
  go_loopw [5] (fun i wr => ∃ (k m : Nat), k ≤ n ∧ i = .int .i64 k ∧ wr = w.drewN m) (fun i _ => n - (intOf i).toNat)
  case atStart => exact ⟨0, 0, Nat.zero_le _, rfl, rfl⟩
  case round =>
    obtain ⟨k, m, hk, rfl, rfl⟩ := hrel
    by_cases hlt : k < n
    · obtain ⟨b1, o1, x, hx, rfl, _, cx⟩ := HA.out.at_ k (by rw [HL.out]; exact hlt)
      obtain ⟨b2, o2, y, hy, rfl, _, cy⟩ := HB.out.at_ k (by rw [HL.out]; exact hlt)
      rw [hx] at hy
      obtain rfl : x = y := by injection hy
      have hxx : (x != x) = false := by simp
      have i1 : (0 : Int) ≤ (k : Int) := by omega
      have i2 : (k : Int) < (n : Int) := by omega
      clear hx hy
      go_wp2_with fail
      go_quiet (fail)
      go_wp2_with fail
      go_roundw
      case rel => exact ⟨k + 1, _, by omega, by go_num, rfl⟩
      case measure => simp [intOf]; omega
    · obtain rfl : k = n := by omega
      go_wp2_with fail
      go_ret
      exact ⟨rfl, m, rfl⟩

end Go.Proofs.YtibccecmicndaaaDoor
