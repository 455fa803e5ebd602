/-
  WHAT THE CHAIN's CALLS GIVE: Closure, Stuck, Peelable of a chain, in the words of EquateChains' walk.
-/
import Derived.Test.YtdcpimnjdggabaaErI
import Derived.Test.YtdcpimnjdggabaaErL
set_option linter.unusedVariables false
set_option linter.unusedSimpArgs false
namespace Go.Proofs.Ytdcpimnjdggabaa
open Go.RowKit Go.Maps

def upN (n : Nat) : List Int := (List.range n).map fun k : Nat => (k : Int)
theorem upN_succ (n : Nat) : upN (n + 1) = upN n ++ [(n : Int)] := by simp [upN, List.range_succ]
theorem upN_len (n : Nat) : (upN n).length = n := by simp [upN]
theorem upN_mem {n : Nat} {x : Int} : x ∈ upN n ↔ ∃ k : Nat, k < n ∧ x = (k : Int) := by
  unfold upN
  rw [List.mem_map]
  exact ⟨fun ⟨k, a, b⟩ => ⟨k, by simpa using a, b.symm⟩, fun ⟨k, a, b⟩ => ⟨k, by simpa using a, b.symm⟩⟩
def upT (m : Nat) : List Int := (List.range m).map fun k : Nat => ((k + 1 : Nat) : Int)
theorem upN_cons (m : Nat) : upN (m + 1) = 0 :: upT m := by
  unfold upN upT
  rw [List.range_succ_eq_map, List.map_cons, List.map_map]
  rfl
theorem upT_mem {m : Nat} {x : Int} : x ∈ upT m ↔ ∃ k : Nat, 1 ≤ k ∧ k < m + 1 ∧ x = (k : Int) := by
  unfold upT
  rw [List.mem_map]
  exact ⟨fun ⟨k, a, b⟩ => ⟨k + 1, by omega, by simpa using a, b.symm⟩, fun ⟨k, a, b, c⟩ => ⟨k - 1, by simp; omega, by rw [c]; omega⟩⟩
theorem upT_len (m : Nat) : (upT m).length = m := by simp [upT]
theorem rest_all (l : List Int) : restL l l = [] := by
  unfold restL
  rw [List.filter_eq_nil_iff]
  intro x hx
  simp [isIn_yes.2 hx]
theorem rest_tail (m : Nat) : restL (upT m) (upN (m + 1)) = [0] := by
  rw [upN_cons]
  have h0 : isIn (upT m) (0 : Int) = false := isIn_no.2 (fun h => by obtain ⟨k, h1, _, h2⟩ := upT_mem.1 h; omega)
  have h := rest_all (upT m)
  unfold restL at h ⊢
  rw [List.filter_cons, h, if_pos (by simp [h0])]
theorem plb_all {M : Nat} {E : List (List Int)} (h : Chn (M + 1) (fun _ => True) E) : plb (upN (M + 1)) (upN (M + 1)) E = false :=
  plb_no 0 (upN_mem.2 ⟨0, by omega, rfl⟩) (isIn_no.2 (by rw [rest_all, h.noth]; simp))
theorem plb_but {M : Nat} {E : List (List Int)} (h : Chn (M + 1) (fun _ => True) E) : plb (upT M) (upN (M + 1)) E = true :=
  plb_yes fun x hx => isIn_yes.2 (by
    rw [rest_tail]
    obtain ⟨k, _, hk, rfl⟩ := upT_mem.1 hx
    exact (h.all (f := 0) (by omega) _).2 ⟨k, hk, rfl⟩)
theorem stk_none {M f : Nat} {E : List (List Int)} (h : Chn (M + 1) (fun _ => True) E) (hf : f < M + 1) : stk (clo [(f : Int)] E) E = [] := by
  unfold stk
  rw [List.filter_eq_nil_iff]
  intro l hl
  obtain ⟨e, he, rfl⟩ := List.mem_map.1 hl
  obtain ⟨i, hi, _, rfl⟩ := (h e).1 he
  have hn : opn (clo [(f : Int)] E) [(i : Int), (i : Int) + 1] = [] := by
    cases ho : opn (clo [(f : Int)] E) [(i : Int), (i : Int) + 1] with
    | nil => rfl
    | cons y t =>
      exfalso
      obtain ⟨h1, h2⟩ := opn_mem.1 (show y ∈ opn (clo [(f : Int)] E) [(i : Int), (i : Int) + 1] by rw [ho]; simp)
      refine h2 ((h.all hf y).2 ?_)
      simp at h1
      rcases h1 with rfl | rfl
      · exact ⟨i, by omega, rfl⟩
      · exact ⟨i + 1, hi, by omega⟩
  simp [hn]

/-- The equations but for one. -/
def lft (g : Nat) (rs : List (Row Int)) : List (Row Int) := rs.filter fun r => !(r.xs.headD 0 == (g : Int))
theorem lft_len (g : Nat) (rs : List (Row Int)) (k : Nat) : (lft g (rs.take k)).length ≤ rs.length := by
  unfold lft
  refine Nat.le_trans (List.length_filter_le _ _) ?_
  rw [List.length_take]
  omega
theorem lft_snoc (g : Nat) {rs : List (Row Int)} {k : Nat} {r : Row Int} (h : rs.take (k + 1) = rs.take k ++ [r]) (x : Int) {h0 : 0 < r.xs.length} (hx : x = r.xs[0]) : lft g (rs.take (k + 1)) = if x = (g : Int) then lft g (rs.take k) else lft g (rs.take k) ++ [r] := by
  rw [h]
  unfold lft
  rw [List.filter_append]
  have e : (!(r.xs.headD 0 == (g : Int))) = !(x == (g : Int)) := by
    rw [hx, List.headD_eq_head?_getD, List.head?_eq_getElem?, List.getElem?_eq_getElem h0]; rfl
  rw [List.filter_cons, List.filter_nil, e]
  by_cases hxg : x = (g : Int)
  · rw [if_pos hxg, if_neg (by simp [hxg]), List.append_nil]
  · rw [if_neg hxg, if_pos (by simp [hxg])]
theorem lft_chn {M g : Nat} {rs : List (Row Int)} (h : Chn (M + 1) (fun _ => True) (rs.map (·.xs))) : Chn (M + 1) (· ≠ g) ((lft g rs).map (·.xs)) := fun e => by
  constructor
  · intro he
    obtain ⟨r, hr, rfl⟩ := List.mem_map.1 he
    unfold lft at hr
    obtain ⟨h1, h2⟩ := List.mem_filter.1 hr
    obtain ⟨i, hi, _, hx⟩ := (h _).1 (List.mem_map_of_mem h1)
    refine ⟨i, hi, fun e => ?_, hx⟩
    rw [hx] at h2
    simp [e] at h2
  · rintro ⟨i, hi, hg, rfl⟩
    obtain ⟨r, hr, hx⟩ := List.mem_map.1 ((h [(i : Int), (i : Int) + 1]).2 ⟨i, hi, trivial, rfl⟩)
    refine List.mem_map.2 ⟨r, List.mem_filter.2 ⟨hr, ?_⟩, hx⟩
    rw [hx]
    simp
    omega

/-- A chain in memory. -/
structure ChR (w : World) (a : Option Addr) (M : Nat) (rs : List (Row Int)) : Prop where
  rd : RdRows (Value.int .i64) w a rs
  len : rs.length = M
  m39 : M ≤ 39
  two : ∀ q ∈ rs, q.xs.length = 2
  ok : ∀ q ∈ rs, q.xs.length ≤ 1000 ∧ ∀ x ∈ q.xs, okI x
theorem ChR.frm {w w' : World} {a : Option Addr} {M : Nat} {rs : List (Row Int)} (h : ChR w a M rs) (hf : Frm [] w w') : ChR w' a M rs := ⟨h.rd.below hf.below, h.len, h.m39, h.two, h.ok⟩
theorem ChR.sum {w : World} {a : Option Addr} {M : Nat} {rs : List (Row Int)} (h : ChR w a M rs) : (rs.map (·.xs)).flatten.length ≤ 100 := by
  rw [two_sum (fun e he => by obtain ⟨q, hq, rfl⟩ := List.mem_map.1 he; exact h.two q hq), List.length_map, h.len]
  have := h.m39
  omega
theorem chn_ok {N : Nat} {p : Nat → Prop} {E : List (List Int)} (h : Chn N p E) (hN : N ≤ 40) : ∀ e ∈ E, e.length = 2 ∧ ∀ x ∈ e, okI x := fun e he => by
  obtain ⟨i, hi, _, rfl⟩ := (h e).1 he
  refine ⟨rfl, fun x hx => ?_⟩
  simp at hx
  rcases hx with rfl | rfl
  · exact exOk _ (by omega)
  · exact exOk _ (by omega)
theorem ChR.of {w : World} {a : Option Addr} {M N : Nat} {p : Nat → Prop} {rs : List (Row Int)} (hr : RdRows (Value.int .i64) w a rs) (hl : rs.length = M) (hM : M ≤ 39) (h : Chn N p (rs.map (·.xs))) (hN : N ≤ 40) : ChR w a M rs :=
  ⟨hr, hl, hM, fun q hq => (chn_ok h hN _ (List.mem_map_of_mem hq)).1, fun q hq => ⟨by have := (chn_ok h hN _ (List.mem_map_of_mem hq)).1; omega, (chn_ok h hN _ (List.mem_map_of_mem hq)).2⟩⟩

/-- Closure of one that is known. -/
theorem clo1_c {f : Nat} (hf : f ≤ 100) (a : Option Addr) (c M : Nat) (rs : List (Row Int)) (w : World) (h : ChR w a M rs) :
    Calls Try.prog 12 #[.slice (some ⟨w.heap.size, 0, none⟩) 1 1, .slice a M c] (w.alloc (.cells #[.int .i64 (f : Int)] 3)) fun e w' => ∃ m, e = .returned (.map (some m)) ∧ MapAt Try.prog 3 w' m (setKv (Value.int .i64) (keysI [(f : Int)] (peel [(f : Int)] (rs.map (·.xs))))) ∧ Frm [] w w' := by
  have hf1 : Frm [] w (w.alloc (.cells #[.int .i64 (f : Int)] 3)) := (Frm.refl _ _).alloc _
  have hc := closureI_c (some ⟨w.heap.size, 0, none⟩) 1 [(f : Int)] a c rs (w.alloc (.cells #[.int .i64 (f : Int)] 3)) (RdV.of_blk (Blk.made w _ _)) (h.frm hf1).rd (by have := h.len; have := h.m39; omega) h.ok (by simp) (fun x hx => by simp at hx; subst hx; exact exOk _ (by omega)) (by have := h.sum; omega)
  rw [h.len] at hc
  refine hc.mono ?_
  rintro e w' ⟨m, rfl, hS⟩
  exact ⟨m, rfl, hS.get 0 rfl, hf1.trans hS.frm⟩
theorem clo0_c (a : Option Addr) (c M : Nat) (rs : List (Row Int)) (w : World) (h : ChR w a M rs) :
    Calls Try.prog 12 #[.slice none 0 0, .slice a M c] w fun e w' => ∃ m, e = .returned (.map (some m)) ∧ MapAt Try.prog 3 w' m (setKv (Value.int .i64) (keysI [] (peel [] (rs.map (·.xs))))) ∧ Frm [] w w' := by
  have hc := closureI_c none 0 [] a c rs w (fun i v hv => by simp at hv) h.rd (by have := h.len; have := h.m39; omega) h.ok (by simp) (fun x hx => by simp at hx) (by have := h.sum; omega)
  rw [h.len] at hc
  refine hc.mono ?_
  rintro e w' ⟨m, rfl, hS⟩
  exact ⟨m, rfl, hS.get 0 rfl, hS.frm⟩
theorem stuck1_c {f M : Nat} (hf : f < M + 1) (hf2 : f ≤ 100) (a : Option Addr) (c : Nat) (rs : List (Row Int)) (w : World) (h : ChR w a M rs) (hC : Chn (M + 1) (fun _ => True) (rs.map (·.xs))) :
    Calls Try.prog 14 #[.slice (some ⟨w.heap.size, 0, none⟩) 1 1, .slice a M c] (w.alloc (.cells #[.int .i64 (f : Int)] 3)) fun e w' => (∃ a' c', e = .returned (.slice a' 0 c')) ∧ Frm [] w w' := by
  have hf1 : Frm [] w (w.alloc (.cells #[.int .i64 (f : Int)] 3)) := (Frm.refl _ _).alloc _
  have hc := stuck_c (some ⟨w.heap.size, 0, none⟩) 1 [(f : Int)] a c rs (w.alloc (.cells #[.int .i64 (f : Int)] 3)) (RdV.of_blk (Blk.made w _ _)) (h.frm hf1).rd (by simp) (by have := h.len; have := h.m39; omega) h.ok (fun x hx => by simp at hx; subst hx; exact exOk _ (by omega)) (by have := h.sum; omega)
  rw [h.len, stk_none hC hf] at hc
  refine hc.mono ?_
  rintro e w' ⟨a', c', rows, rfl, hr, _, hfr⟩
  have h0 : rows = [] := List.map_eq_nil_iff.1 hr
  subst h0
  exact ⟨⟨a', c', rfl⟩, hf1.trans hfr⟩
theorem pl_c (al : Option Addr) (cl nl : Nat) (ls : List Int) (ak : Option Addr) (ck nk : Nat) (ks : List Int) (a : Option Addr) (c M : Nat) (rs : List (Row Int)) (w : World) (h : ChR w a M rs)
    (hl : RdZ w al ls) (hk : RdZ w ak ks) (hnl : ls.length = nl) (hnk : ks.length = nk) (l1 : nl ≤ 1000) (k1 : nk ≤ 1000) (hlo : ∀ x ∈ ls, okI x) (hko : ∀ x ∈ ks, okI x) (T : Bool) (hT : plb ls ks (rs.map (·.xs)) = T) :
    Calls Try.prog 17 #[.slice al nl cl, .slice ak nk ck, .slice a M c] w fun e w' => e = .returned (.bool T) ∧ Frm [] w w' := by
  have hp := peelable_c al cl ls ak ck ks a c rs w hl hk h.rd (by omega) (by omega) (by have := h.len; have := h.m39; omega) h.ok hlo hko (by have := h.sum; omega)
  rw [h.len, hnl, hnk, hT] at hp
  exact hp

theorem RdZ.tail {w : World} {g o : Nat} {x : Int} {zs : List Int} (h : RdZ w (some ⟨g, o, none⟩) (x :: zs)) : RdZ w (some ⟨g, o + 1, none⟩) zs := fun i v hv => by
  obtain ⟨b, off, ha, hb, hc⟩ := h (i + 1) v (by simpa using hv)
  injection ha with ha
  injection ha with h1 h2 h3
  subst h1 h2
  exact ⟨g, o + 1, rfl, hb, by rw [show o + 1 + i = o + (i + 1) from by omega]; exact hc⟩
theorem side_is {M g f : Nat} {E : List (List Int)} (h : Chn (M + 1) (· ≠ g) E) (hf : f < M + 1) {k : Nat} (hk : k < M + 1) : isIn (keysI [(f : Int)] (peel [(f : Int)] E)) (k : Int) = (decide (k ≤ g) == decide (f ≤ g)) := by
  have h1 := h.told hf (k : Int)
  rw [isIn_keys]
  have h2 : (k : Int) ∈ clo [(f : Int)] E ↔ (k ≤ g ↔ f ≤ g) := h1.trans ⟨fun ⟨j, _, hj, hs⟩ => by rw [show k = j from by omega]; exact hs, fun hs => ⟨k, hk, rfl, hs⟩⟩
  by_cases a : k ≤ g <;> by_cases b : f ≤ g
  · rw [isIn_yes.2 (h2.2 (by simp [a, b])), decide_eq_true (by omega), decide_eq_true (by omega)]; rfl
  · rw [isIn_no.2 (fun hm => by have := h2.1 hm; omega), decide_eq_true (by omega), decide_eq_false (by omega)]; rfl
  · rw [isIn_no.2 (fun hm => by have := h2.1 hm; omega), decide_eq_false (by omega), decide_eq_true (by omega)]; rfl
  · rw [isIn_yes.2 (h2.2 (by omega)), decide_eq_false (by omega), decide_eq_false (by omega)]; rfl
theorem chain_rd {w2 w4 wx : World} {gh M ch : Nat} {rs rows : List (Row Int)} (hS : Sep [] w2 w4 [ownR 22 1 (.slice (some ⟨gh, 0, none⟩) M ch) M (rs.map Row.val), manyR (rows.map rowO)]) (hm : ∀ q, q ∈ rs → q ∈ rows) (hf : Frm [] w4 wx) : RdRows (Value.int .i64) wx (some ⟨gh, 0, none⟩) rs := by
  have h := hS.keep hf
  obtain ⟨a, c, hv, _, _, _, hr⟩ := RdV.of_own (h.own 0 rfl)
  injection hv with h1 _ _
  rw [← h1] at hr
  exact ⟨hr, fun r hr' => rowO_rd ((h.get 1 rfl) _ (List.mem_map_of_mem (hm r hr')))⟩
theorem keys_len1 {M f : Nat} {E : List (List Int)} (hC : Chn (M + 1) (fun _ => True) E) (hf : f < M + 1) {w : World} {m : Nat} (hm : MapAt Try.prog 3 w m (setKv (Value.int .i64) (keysI [(f : Int)] (peel [(f : Int)] E)))) :
    (Builtin.len_ #[34] 3 #[.map (some m)]).run Try.prog w = .ok (.int .i64 ((M + 1 : Nat) : Int)) w := by
  have h := set_len hm Try.underlying34 3
  rw [many_below (set_nodup hm) (fun x => (keys_clo _ _ x).trans (hC.all hf x))] at h
  exact h
theorem keys_len0 {N : Nat} {p : Nat → Prop} {E : List (List Int)} (hC : Chn N p E) {w : World} {m : Nat} (hm : MapAt Try.prog 3 w m (setKv (Value.int .i64) (keysI [] (peel [] E)))) :
    (Builtin.len_ #[34] 3 #[.map (some m)]).run Try.prog w = .ok (.int .i64 0) w := by
  have h := set_len hm Try.underlying34 3
  have h0 : keysI [] (peel [] E) = [] := by
    cases hk : keysI [] (peel [] E) with
    | nil => rfl
    | cons y t =>
      exfalso
      have := (keys_clo [] E y).1 (by rw [hk]; simp)
      rw [hC.noth] at this
      simp at this
  rw [h0] at h
  exact h

end Go.Proofs.Ytdcpimnjdggabaa
