/-
  THE WALKS of stripe: Fold, over whatever hands on rows; slices.Values; All; Xor.
-/
import Derived.Test.YtmdjdhbnigppcaaStB
import Derived.Test.YtmdjdhbnigppcaaRng
set_option linter.unusedVariables false
set_option linter.unusedSimpArgs false
namespace Go.Proofs.Ytmdjdhbnigppcaa
open Go.RowKit Go.Shelf
attribute [local go_sem] Oper.semAt_some

/-- A slice of bytes as it is handed on. -/
structure Bs where
  a : Option Addr
  c : Nat
  zs : List Int
def Bs.val (x : Bs) : Value := .slice x.a x.zs.length x.c
def Bs.fit (x : Bs) : Prop := Byt x.zs ∧ x.zs.length ≤ 1000000
def Bs.ok (w : World) (x : Bs) : Prop := RdI .u8 w x.a x.zs ∧ x.fit
def RdB (n0 B : Nat) (x : Bs) (W : World) : Prop := x.ok W ∧ (0 < x.zs.length → ∀ p, x.a = some p → p.block < n0 ∨ B ≤ p.block)

theorem xoAll_le {rows : List (List Int)} {n : Nat} (h : ∀ r ∈ rows, r.length ≤ n) : (xoAll rows).length ≤ n := by
  unfold xoAll
  suffices ∀ (a : List Int), a.length ≤ n → (rows.foldl xo a).length ≤ n from this [] (Nat.zero_le _)
  induction rows with
  | nil => intro a ha; exact ha
  | cons r rows ih =>
    intro a ha
    have := h r (List.mem_cons_self ..)
    exact ih (fun s hs => h s (List.mem_cons_of_mem _ hs)) _ (by rw [xo_length]; omega)
theorem fit_all {xs : List Bs} (h : ∀ x ∈ xs, x.fit) : Byt (xoAll (xs.map Bs.zs)) ∧ (xoAll (xs.map Bs.zs)).length ≤ 1000000 :=
  ⟨xoAll_byt (fun r hr => by obtain ⟨x, hx, rfl⟩ := List.mem_map.1 hr; exact (h x hx).1), xoAll_le (fun r hr => by obtain ⟨x, hx, rfl⟩ := List.mem_map.1 hr; exact (h x hx).2)⟩

theorem RdI.putObj {k : IntKind} {w : World} {a : Option Addr} {zs : List Int} (h : RdI k w a zs) {l : Nat} {o : Obj} (o' : Obj) (hl : w.heap[l]? = some o) (ho : o.isCells = false) : RdI k (w.putObj l o') a zs := fun i x hx => by
  obtain ⟨b, off, ha, hb, hc⟩ := h i x hx
  exact ⟨b, off, ha, by rw [World.putObj_size]; exact hb, cell_kept hc (grownBy_putObj' w l o') (fun r e => by cases e; exact ⟨o, hl, ho⟩)⟩
theorem Sep.abide {S : List Nat} {w0 w w' : World} {L : List Res} {row : Option Nat} (h : Sep S w0 w L) (hg : w.grownBy w' row) (hr : ∀ r, row = some r → w0.heap.size ≤ r ∧ ∃ o : Obj, w.heap[r]? = some o ∧ o.isCells = false)
    (hc : ∀ r ∈ L, ∀ k ∈ r.bl, ∃ o : Obj, w.heap[k]? = some o ∧ o.isCells = true) : Sep S w0 w' L := by
  have hf := Frm.of_grown_opt hg
  refine ⟨h.frm.after hf (fun g hg' => .inr (hr g (by simpa using hg')).1), fun r hrL => r.stays w w' (fun k hk => hf.block k (r.lies w (h.holds r hrL) k hk) (fun hk' => ?_)) (h.holds r hrL), h.apart, h.mine⟩
  obtain ⟨_, o, ho, hn⟩ := hr k (by simpa using hk')
  obtain ⟨o2, ho2, hy⟩ := hc r hrL k hk
  rw [ho] at ho2
  injection ho2 with e
  subst e
  rw [hn] at hy
  cases hy
theorem own_cells {w : World} {e size : Nat} {v : Value} {n : Nat} {xs : List Value} (h : w.ownsRow 0 e size v n xs) : ∀ k ∈ v.ownBlock.toList, ∃ o : Obj, w.heap[k]? = some o ∧ o.isCells = true := fun k hk => by
  rcases h.2 with ⟨rfl, _⟩ | ⟨g, c, cur, rfl, _, hh, _⟩
  · simp [Value.ownBlock] at hk
  · simp [Value.ownBlock] at hk
    subst hk
    exact ⟨_, hh, rfl⟩
theorem Sep.sum_cells {S : List Nat} {w0 w : World} {v : Value} {xs : List Int} {s : Nat} {n : Int} (h : Sep S w0 w [sumR v xs, sumB s v n]) : ∀ r ∈ [sumR v xs, sumB s v n], ∀ k ∈ r.bl, ∃ o : Obj, w.heap[k]? = some o ∧ o.isCells = true := fun r hr k hk => by
  rcases List.mem_cons.1 hr with rfl | hr
  · exact own_cells (h.own 0 rfl) k hk
  · rcases List.mem_cons.1 hr with rfl | hr
    · simp [sumB, blkR] at hk
      subst hk
      exact ⟨_, h.blk 1 rfl, rfl⟩
    · cases hr

/-- Between two rounds of Fold. -/
def FoldI (w : World) (pre : List Bs) (B : Nat) (W : World) : Prop :=
  ∃ v, Sep [] w W [sumR v (xoAll (pre.map Bs.zs)), sumB w.heap.size v pre.length] ∧ (∀ k ∈ v.ownBlock.toList ++ [w.heap.size], k < B) ∧ (∀ x ∈ pre, x.fit) ∧ pre.length ≤ 1000

set_option maxRecDepth 100000 in
set_option maxHeartbeats 4000000 in
theorem fold_c (g : Nat) (lb : Array Value) (S : List Bs → Prop) (N : Nat) (hN : N ≤ 1000) (w : World) (hseq : SeqRd 4 Try.prog g lb (fun x : Bs => #[x.val]) (Below w.heap.size) (RdB w.heap.size) S N w)
    (eg : ∀ args w, (callFunc g args).run Try.prog w = .ok (.enter g args) w) :
    Calls Try.prog 26 #[.func (.func g) #[] lb] w fun e w' => ∃ v xs, e = .returned v ∧ S xs ∧ Sep [] w w' [sumR v (xoAll (xs.map Bs.zs))] := by
  refine (callsIn_wide (n := 5)).1 ?_
  refine callsIn_of_wp_marks Try.func26 rfl trivial ?_ rfl
  simp only [Try.ntmps26, List.size_toArray, List.length_cons, List.length_nil, Nat.reduceAdd, Nat.reduceSub, Array.replicate_succ, Array.replicate_zero, List.push_toArray, List.append_toArray, List.nil_append, List.cons_append]
  gi_wp2
  have hS0 := Lib.hid (((Sep.init w).alloc #[.slice none 0 0, .int .i64 0] 28).nil 5 1)
  have hb0 : Below w.heap.size w (w.alloc (.cells #[.slice none 0 0, .int .i64 0] 28)) := (Below.refl _ w).alloc (Nat.le_refl _) _
  refine range_rd (n := 5) (by omega) (gf := g) (lb := lb) rfl eg hseq belowK_t (belowK_b (by simp)) hb0 (fun _ => rfl) ?hRd (FoldI w) ?hI ?h0
    (fun x => { tmps := #[.func (.func g) #[] lb, undef, .slice none 0 0, .pointer (some ⟨w.heap.size, 0, none⟩), x.val, .func (.func g) #[] lb, x.val, undef, undef, undef], defers := [] }) ?assign ?body ?done
  case hRd =>
    rintro B x W l o o' hl ho hc ⟨⟨h1, h2⟩, h3⟩
    exact ⟨⟨h1.putObj o' ho hc, h2⟩, h3⟩
  case hI =>
    rintro pre B X Y row ⟨v, hS, hB, hf⟩ hg hr
    exact ⟨v, hS.abide hg (fun r e => ⟨by have := (hr r e).1; simp at this; omega, (hr r e).2⟩) hS.sum_cells, hB, hf⟩
  case h0 =>
    exact ⟨.slice none 0 0, hS0.out, by simp [Value.ownBlock], by simp, by simp⟩
  case assign =>
    intro l x W K hK
    gi_wp2
    exact hK
  case body =>
    rintro l pre B x W ⟨v, hS, hB, hf, hl⟩ ⟨⟨hrd, hfit⟩, hap⟩ hlt
    have hfa := fit_all hf
    have HA := Lib.hid (sadd_c w.heap.size v (xoAll (pre.map Bs.zs)) pre.length x.a x.c x.zs W (v.ownBlock.toList ++ [w.heap.size]) hS.part2 hrd
      (fun hne p hp hm => by
        have h1 := hB _ hm
        have h2 := hS.mine
        rcases hap hne p hp with h3 | h3
        · rcases List.mem_append.1 hm with h4 | h4
          · rcases hS.mine _ (by simp) p.block (show p.block ∈ (sumR v (xoAll (pre.map Bs.zs))).bl from h4) with h5 | h5
            · simp at h5
            · omega
          · simp at h4; omega
        · omega) (fun _ h => h) hfa.1 hfit.1 hfa.2 hfit.2 (by omega) (by omega))
    have HS := Lib.hid hS
    have HB := Lib.hid hB
    have HF := Lib.hid hf
    clear hrd hS hB hf hap hfa hS0 hb0
    unfold Bs.val
    gi_wp2_with fail
    refine ⟨trivial, (CallsIn.inRound l (callsIn_wide.2 HA.out)).mono ?_⟩
    rintro e W' ⟨rfl, v', hS'⟩
    have hfull := HS.out.call2 hS' (fun g hg => List.mem_append.1 hg)
    have hcl := HS.out.sum_cells
    have hW : w.heap.size < W.heap.size := (HS.out.blk 1 rfl).lt
    have HS' := Lib.hid hS'
    have HFu := Lib.hid hfull
    have HCl := Lib.hid hcl
    clear hS' hfull hcl HA
    gi_wp2
    refine ⟨⟨HS'.out.frm.size, fun k o hk ho hn => ?_⟩, ⟨HS'.out.frm.os, HS'.out.frm.tape, HS'.out.frm.output, HS'.out.frm.size, fun k hk => HS'.out.frm.block k (by omega) (fun hm => ?_)⟩, v', ?_, fun k hk => ?_, ?_, ?_⟩
    · refine (HS'.out.frm.block k (Array.getElem?_eq_some_iff.1 ho).1 (fun hm => ?_)).trans ho
      have hc : ∃ o : Obj, W.heap[k]? = some o ∧ o.isCells = true := by
        rcases List.mem_append.1 hm with h | h
        · exact HCl.out _ (List.mem_cons_self ..) k h
        · exact HCl.out _ (List.mem_cons_of_mem _ (List.mem_cons_self ..)) k h
      obtain ⟨o2, h2, h3⟩ := hc
      rw [ho] at h2
      injection h2 with e
      subst e
      rw [hn] at h3
      cases h3
    · rcases List.mem_append.1 hm with h | h
      · rcases HS.out.mine _ (List.mem_cons_self ..) k h with h5 | h5
        · simp at h5
        · omega
      · simp at h; omega
    · rw [List.map_append, List.map_cons, List.map_nil, xoAll_snoc, List.length_append]
      exact HFu.out
    · rcases List.mem_append.1 hk with h | h
      · exact HFu.out.blocks_lt _ (List.mem_cons_self ..) k h
      · exact HFu.out.blocks_lt _ (List.mem_cons_of_mem _ (List.mem_cons_self ..)) k h
    · intro y hy
      rcases List.mem_append.1 hy with h | h
      · exact HF.out y h
      · simp at h; subst h; exact hfit
    · rw [List.length_append, List.length_singleton]; omega
  case done =>
    rintro D xs B W hD hxs ⟨v, hS, hB, hf, hl⟩ hK
    have hfa := fit_all hf
    have HC := Lib.hid (bytes_c w.heap.size v (xoAll (xs.map Bs.zs)) xs.length W (hS.blk 1 rfl) (hS.get 0 rfl) hfa.2)
    have HS := Lib.hid hS
    have HK := Lib.hid hK
    clear hS hB hf hfa hS0 hb0 hK
    gi_wp2_with fail
    refine ⟨trivial, (callsIn_wide.2 HC.out).mono ?_⟩
    rintro e W' ⟨v', rfl, hS'⟩
    have HS' := Lib.hid hS'
    clear hS' HC
    gi_wp2
    have hsz : w.heap.size < W.heap.size := (HS.out.blk 1 rfl).lt
    have hK' : W'.heap[D]? = some (.deferred (some [])) := (HS'.out.frm.block D (Array.getElem?_eq_some_iff.1 HK.out).1 (by simp)).trans HK.out
    refine ⟨by simp, .inl ⟨_, _, rfl, run_takeDeferred hK', ?_⟩⟩
    refine ⟨_, results_tmp rfl _ _ _, v', xs, rfl, hxs, ?_⟩
    have hfin : Sep [] w W' [sumR v' (xoAll (xs.map Bs.zs))] := (HS.out.gains HS'.out).only 0 rfl
    refine hfin.abide (grownBy_putObj' W' D (.deferred none)) (fun r e => ?_) (fun r hr k hk => ?_)
    · cases e
      exact ⟨by simp at hD; omega, _, hK', rfl⟩
    · simp at hr
      subst hr
      exact own_cells (hfin.own 0 rfl) k hk

end Go.Proofs.Ytmdjdhbnigppcaa
