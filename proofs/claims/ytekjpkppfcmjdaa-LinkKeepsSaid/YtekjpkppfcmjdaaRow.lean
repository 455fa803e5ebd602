/-
  ROWS OF THE CALL'S OWN: zeros appended ('append(s, make([]T, k)...)'), one element stored; a call that turns two things; a slice read across writes that lie apart. No program is named here.
-/
import Derived.Test.YtekjpkppfcmjdaaSep
import Derived.Test.YtekjpkppfcmjdaaOs
import Derived.Lib.AppendZerosOnto
import Derived.Laws.AppendOwn
import Derived.Laws.CopyOwn
import Derived.OwnWalk
set_option linter.unusedVariables false
set_option linter.unusedSimpArgs false
namespace Go.Proofs.Ytekjpkppfcmjdaa
open Go.RowKit

theorem RdI.frm {k : IntKind} {w w' : World} {a : Option Addr} {zs : List Int} {S : List Nat} (h : RdI k w a zs) (hf : Frm S w w') (hS : ∀ p, a = some p → p.block ∉ S) : RdI k w' a zs := fun i x hx => by
  obtain ⟨b, off, ha, hl, hc⟩ := h i x hx
  exact ⟨b, off, ha, Nat.lt_of_lt_of_le hl hf.size, (hf.cell hl (hS _ ha)).trans hc⟩

theorem zeroCells_one (z : Value) (n : Nat) : Builtin.zeroCells #[z] n = (List.replicate n z).toArray := by
  apply Array.ext
  · simp [Builtin.zeroCells]
  · intro i h1 h2
    simp [Builtin.zeroCells, Nat.mod_one]

section
variable {P : Program} (w : World)
/-- 'append(s, make([]T, k)...)', s the call's own, elements of one cell. -/
theorem run_append_own_zeros (t tn ty e : TypeId) (i : TypeInfo) (z : Value) (bytes : Nat) (kq kn : IntKind) (ht : P.underlying t = some (.slice e)) (htn : P.underlying tn = some (.int kn)) (hi : P.info? e = some i) (hz : i.zero = some z)
    (hsize : i.size = 1) (hby : i.bytes = bytes) (hzs : z.cells = #[z]) (h1 : z.oneCell' = true)
    (v : Value) (n : Nat) (xs : List Value) (hown : w.ownsRow 0 e 1 v n xs) (k : Nat) (h0 : 0 < k)
    (h63 : n + k ≤ maxLen) (hbytes : (n + k) * bytes ≤ 140737488355328) :
    ∃ v' w', (Builtin.append_ #[t, tn] ty #[v, .int kq k]).run P w = .ok v' w' ∧ w'.ownsRow 0 e 1 v' (n + k) (xs ++ List.replicate k z) ∧ w.grownBy w' v.ownBlock ∧ (v'.ownBlock = v.ownBlock ∨ v'.ownBlock = some w.heap.size) := by
  subst hby
  have hsmall : n + k ≤ 9223372036854775807 := by simp only [maxLen] at h63; omega
  have hlen : (xs ++ List.replicate k z).length = (n + k) * 1 := by rw [List.length_append, hown.1, List.length_replicate]; omega
  have grown : ∀ (old : Nat), old < n + k → ∀ (row : Option Nat),
      (w.drew.alloc (.cells (xs.toArray ++ Builtin.zeroCells z.cells k ++ Builtin.zeroCells z.cells (grownCap w (n + k) old e - (n + k))) e)).ownsRow 0 e 1
        (.slice (some ⟨w.heap.size, 0, none⟩) (n + k) (grownCap w (n + k) old e)) (n + k) (xs ++ List.replicate k z) ∧
      w.grownBy (w.drew.alloc (.cells (xs.toArray ++ Builtin.zeroCells z.cells k ++ Builtin.zeroCells z.cells (grownCap w (n + k) old e - (n + k))) e)) row := by
    intro old ho row
    have hge := grownCap_ge w (n + k) old e
    have hcm : grownCap w (n + k) old e ≤ maxLen := grownCap_le_maxLen w (n + k) old e h63
    refine ⟨⟨hlen, .inr ⟨w.heap.size, _, _, rfl, Nat.zero_le _, heap_alloc_new w.drew _, hge, hcm, ?_, ?_⟩⟩, ⟨rfl, rfl, rfl, by simp, fun j hj _ => heap_alloc_old w.drew _ hj⟩⟩
    · rw [hzs, zeroCells_one, zeroCells_one]
      simp only [Array.size_append, List.size_toArray, List.length_replicate, hown.1]
      omega
    · rw [hzs, zeroCells_one, zeroCells_one]
      simp only [Array.toList_append]
      rw [← hlen]
      exact List.take_left
  have h48 : k * i.bytes ≤ 281474976710656 := by
    have : k * i.bytes ≤ (n + k) * i.bytes := Nat.mul_le_mul_right _ (by omega)
    omega
  rcases hown.2 with ⟨rfl, rfl⟩ | ⟨g, cap, cur, rfl, hbg, hg, hnc, hcm, hcs, htake⟩
  · have hx : xs = [] := List.eq_nil_of_length_eq_zero (by simpa using hown.1)
    subst hx
    have hr := Lib.run_append_nil_zeros (P := P) w t tn ty e i z kq kn ht htn hi hz k h0 (by omega) (by omega) h48
    have hgr := grown 0 (by omega) (Value.ownBlock (.slice none 0 0))
    simp only [Nat.zero_add, List.nil_append, Array.empty_append] at hgr ⊢
    exact ⟨_, _, hr, hgr.1, hgr.2, .inr rfl⟩
  · by_cases hroom : n + k ≤ cap
    · have hn1 : n * 1 + k ≤ cur.size := by rw [hcs]; omega
      have hst := run_storeCells_at P g n e (List.replicate k z) 0 cur w hg (by simp; omega) (fun u hu => by rw [(List.mem_replicate.1 hu).2]; exact h1)
      simp only [Nat.add_zero] at hst
      have hw : IntKind.i64.wrap (k : Int) = k := by rw [IntKind.wrap_i64]; omega
      have hneg : ¬ ((k : Int) < 0) := by omega
      have h48i : ¬ (281474976710656 < (k : Int) * (i.bytes : Int)) := by rw [← Int.natCast_mul]; omega
      have hk : ¬ (k = 0) := by omega
      have hr : (Builtin.append_ #[t, tn] ty #[.slice (some ⟨g, 0, none⟩) n cap, .int kq k]).run P w = .ok (.slice (some ⟨g, 0, none⟩) (n + k) cap) (w.setRow g (cur.toList.take n ++ List.replicate k z ++ cur.toList.drop (n + (List.replicate k z).length)).toArray) := by
        simp [Builtin.append_, run_underlying ht, run_underlying htn, sizeOf, typeInfo, zeroValue, hi, hz, asInt, asIntOf, hw, hneg, h48i, hsize, hk, hroom, Addr.add_lit, hzs, zeroCells_one]
        have hst2 : Sem.run P (storeCells { block := g, off := n } (List.replicate k z)) w = Result.ok () (w.setRow g (List.take n cur.toList ++ (List.replicate k z ++ List.drop (n + k) cur.toList)).toArray) := by simpa using hst
        rw [hst2]
        rfl
      refine ⟨_, _, hr, ⟨hlen, .inr ⟨g, cap, _, rfl, hbg, setRow_heap w g cur _ e _ hg, hroom, hcm, ?_, ?_⟩⟩, ⟨rfl, rfl, rfl, by simp, fun j _ hj => setRow_other w g j _ (fun e => hj (by simp [Value.ownBlock, e]))⟩, .inl rfl⟩
      · simp only [List.size_toArray, List.length_append, List.length_take, List.length_drop, Array.length_toList, List.length_replicate]
        omega
      · rw [Nat.mul_one] at htake
        rw [htake, ← hlen]
        exact List.take_left
    · have holds : ∀ j u, xs[j]? = some u → w.cell? ((⟨g, 0, none⟩ : Addr).add j) = some u := hown.cells (g := g) rfl
      have hold := run_firstCells_some (P := P) w.drew i.size n ⟨g, 0, none⟩ n cap xs (by rw [hown.1, hsize]) (by simpa using holds)
      have hr := Lib.run_append_grow_zeros (P := P) w t tn ty e i z kq kn ht htn hi hz (some ⟨g, 0, none⟩) n cap xs hold k h0 (by omega) (by omega) (by omega) h48 (growslice_fits (by omega) hbytes)
      have hgr := grown cap (by omega) (Value.ownBlock (.slice (some ⟨g, 0, none⟩) n cap))
      exact ⟨_, _, hr, hgr.1, hgr.2, .inr rfl⟩
end
/-- .. as the walk takes it. -/
theorem wpList_append_zeros {P : Program} {S : List Nat} {w0 w : World} {L : List Res} {ops : Array Oper} {rest : List Oper} {o : Oper} {a : Act} {Q : Exit → Act → World → Prop} (hgd : o.guard = none) (s x : Operand) (t tn : TypeId)
    (ho : o.op = .call { callee := .builtin .append, args := #[s, x], argTypes := #[t, tn] }) (j : Nat)
    (e : TypeId) (i : TypeInfo) (z : Value) (bytes : Nat) (kq kn : IntKind) (ht : P.underlying t = some (.slice e)) (htn : P.underlying tn = some (.int kn)) (hi : P.info? e = some i) (hz : i.zero = some z)
    (hsize : i.size = 1) (hby : i.bytes = bytes) (hzs : z.cells = #[z]) (h1 : z.oneCell' = true)
    (v : Value) (n : Nat) (xs : List Value) (hs : a.eval s = v) (hS : Sep S w0 w L) (hL : L[j]? = some (ownR e 1 v n xs)) (k : Nat) (q : Int) (hx : a.eval x = .int kq q) (hq : q = k) (h0 : 0 < k)
    (h63 : n + k ≤ maxLen) (hbytes : (n + k) * bytes ≤ 140737488355328) (N : Nat) (hN : n + k = N)
    (h : ∀ v' w', Sep S w0 w' (L.set j (ownR e 1 v' N (xs ++ List.replicate k z))) → wpList P ops Q rest (a.put o.dst v') w') : wpList P ops Q (o :: rest) a w := by
  subst hq hN
  obtain ⟨v', w', hr, h2, h3, h4⟩ := run_append_own_zeros (P := P) w t tn o.type e i z bytes kq kn ht htn hi hz hsize hby hzs h1 v n xs (hS.own j hL) k h0 h63 hbytes
  exact Lib.wpList_append_run w hgd s x t tn ho v (.int kq k) hs hx v' w' hr (h v' w' (hS.grow j hL h3 h2 h4))

/-- One element stored. -/
theorem own_put {w : World} {e : TypeId} {g n c : Nat} {k : IntKind} {zs : List Int} (h : w.ownsRow 0 e 1 (.slice (some ⟨g, 0, none⟩) n c) n (zs.map (Value.int k))) (i : Nat) (u : Int) :
    (w.setCell ⟨g, i, none⟩ (.int k u)).ownsRow 0 e 1 (.slice (some ⟨g, 0, none⟩) n c) n ((zs.set i u).map (Value.int k)) := by
  refine ⟨by have := h.1; simpa using this, ?_⟩
  rcases h.2 with ⟨h2, _⟩ | ⟨g', c', cur, e1, e2, e3, e4, e5, e6, e7⟩
  · cases h2
  · injection e1 with e1 e8 e9
    injection e1 with e1
    injection e1 with e1
    subst e1 e9
    have hb : Blk w g e cur := e3
    refine .inr ⟨g, c, _, rfl, e2, hb.put i (.int k u), e4, e5, by rw [Array.size_setIfInBounds]; exact e6, ?_⟩
    rw [Array.toList_setIfInBounds, List.take_set, e7, List.map_set]
theorem Sep.putRow {S : List Nat} {w0 w : World} {L : List Res} (h : Sep S w0 w L) (j : Nat) {e : TypeId} {g n c : Nat} {k : IntKind} {zs : List Int} (hj : L[j]? = some (ownR e 1 (.slice (some ⟨g, 0, none⟩) n c) n (zs.map (Value.int k)))) (i : Nat) (u : Int) :
    Sep S w0 (w.setCell ⟨g, i, none⟩ (.int k u)) (L.set j (ownR e 1 (.slice (some ⟨g, 0, none⟩) n c) n ((zs.set i u).map (Value.int k)))) :=
  h.write j hj (F := [g]) ((Frm.refl [g] w).put (.inl (by simp)) i none (.int k u)) (fun q hq => by simp at hq; subst hq; simp [ownR, Value.ownBlock]) (own_put (h.own j hj) i u) (fun q hq => .inl hq)

/-- One element read; it may be written. -/
theorem row_cell {w : World} {e : TypeId} {g n c : Nat} {k : IntKind} {zs : List Int} (h : w.ownsRow 0 e 1 (.slice (some ⟨g, 0, none⟩) n c) n (zs.map (Value.int k))) (i : Nat) (hi : i < zs.length) : w.cell? ⟨g, i, none⟩ = some (.int k (zs.getD i 0)) := by
  have := h.cells (g := g) rfl i (.int k (zs.getD i 0)) (by rw [List.getElem?_map, List.getD_eq_getElem?_getD, List.getElem?_eq_getElem hi]; rfl)
  have hadd : (⟨g, 0, none⟩ : Addr).add i = ⟨g, i, none⟩ := by unfold Addr.add; split <;> simp_all
  rwa [hadd] at this
theorem row_free {w : World} {e : TypeId} {g n c : Nat} {xs : List Value} (h : w.ownsRow 0 e 1 (.slice (some ⟨g, 0, none⟩) n c) n xs) (i : Nat) : w.frozen? ⟨g, i, none⟩ = false := by
  rcases h.2 with ⟨h2, _⟩ | ⟨g', c', cur, e1, _, e3, _⟩
  · cases h2
  · injection e1 with e1
    injection e1 with e1
    injection e1 with e1
    subst e1
    have hb : Blk w g e cur := e3
    exact hb.free i
theorem row_form {w : World} {e : TypeId} {v : Value} {n : Nat} {xs : List Value} (h : w.ownsRow 0 e 1 v n xs) : (v = .slice none 0 0 ∧ n = 0) ∨ ∃ g c, v = .slice (some ⟨g, 0, none⟩) n c := by
  rcases h.2 with ⟨h1, h2⟩ | ⟨g, c, _, h2, _⟩
  · exact .inl ⟨h1, h2⟩
  · exact .inr ⟨g, c, h2⟩
theorem row_slice {w : World} {e : TypeId} {v : Value} {n : Nat} {xs : List Value} (h : w.ownsRow 0 e 1 v n xs) (hn : 0 < n) : ∃ g c, v = .slice (some ⟨g, 0, none⟩) n c := by
  rcases row_form h with ⟨_, h⟩ | h
  · omega
  · exact h
theorem grown_setRow (w : World) (g : Nat) (cs : Array Value) : w.grownBy (w.setRow g cs) (some g) :=
  ⟨rfl, rfl, rfl, by simp [World.setRow], fun k _ hk => setRow_other w g k cs (fun e => hk (by rw [e]))⟩
/-- 'copy(d, s)' of integers, d the call's own. -/
theorem wpList_copy_sep {P : Program} {S : List Nat} {w0 w : World} {L : List Res} {ops : Array Oper} {rest : List Oper} {o : Oper} {a : Act} {Q : Exit → Act → World → Prop} (hgd : o.guard = none) (d s : Operand) (dT sT : TypeId)
    (ho : o.op = .call { callee := .builtin .copy, args := #[d, s], argTypes := #[dT, sT] }) (elem : TypeId) (hu : P.underlying dT = some (.slice elem)) (hsz : (P.info? elem).map (·.size) = some 1) (k : IntKind)
    (g n c : Nat) (ds : List Int) (j : Nat) (hS : Sep S w0 w L) (hL : L[j]? = some (ownR elem 1 (.slice (some ⟨g, 0, none⟩) n c) n (ds.map (Value.int k)))) (ad : Option Addr) (sLen sCap : Nat) (zs : List Int) (hz : zs.length = sLen)
    (hd : a.eval d = .slice (some ⟨g, 0, none⟩) n c) (hs : a.eval s = .slice ad sLen sCap) (rd : RdI k w ad zs)
    (h : ∀ w', Sep S w0 w' (L.set j (ownR elem 1 (.slice (some ⟨g, 0, none⟩) n c) n ((zs.take (min sLen n) ++ ds.drop (min sLen n)).map (Value.int k)))) → wpList P ops Q rest (a.put o.dst (goInt (min sLen n : Nat))) w') : wpList P ops Q (o :: rest) a w := by
  subst hz
  have hown := hS.own j hL
  have hdl : ds.length = n := by have := hown.1; simpa using this
  by_cases hm : min zs.length n = 0
  · refine wpList_copy_nothing hgd d s dT sT ho elem hu hsz (some ⟨g, 0, none⟩) ad n c zs.length sCap hd hs hm ?_
    have := h w (by
      rw [hm, List.take_zero, List.drop_zero, List.nil_append]
      have e : L.set j (ownR elem 1 (.slice (some ⟨g, 0, none⟩) n c) n (ds.map (Value.int k))) = L := by
        obtain ⟨hj, he⟩ := List.getElem?_eq_some_iff.1 hL
        rw [← he]
        exact List.set_getElem_self hj
      rw [e]
      exact hS)
    rw [hm] at this
    exact this
  · cases ad with
    | none =>
      obtain ⟨b, off, h1, _⟩ := rd 0 zs[0] (List.getElem?_eq_getElem (by omega))
      cases h1
    | some p =>
      obtain ⟨pb, po, ps⟩ := p
      rcases hown.2 with ⟨h2, _⟩ | ⟨g', c', cur, e1, e2, e3, e4, e5, e6, e7⟩
      · cases h2
      · injection e1 with e1 _ e9
        injection e1 with e1
        injection e1 with e1
        subst e1 e9
        rw [Nat.mul_one] at e6 e7
        have hsl : ((zs.take (min zs.length n)).map (Value.int k)).length = Nat.min zs.length n := by
          rw [List.length_map, List.length_take]
          show min (min zs.length n) zs.length = min zs.length n
          omega
        refine wpList_copy_own hgd d s dT sT ho elem hu hsz g 0 n c ⟨pb, po, ps⟩ zs.length sCap hd hs cur elem e3 ((zs.take (min zs.length n)).map (Value.int k)) hsl (fun i v hi => ?_) (by rw [hsl]; show 0 + min zs.length n ≤ _; omega) (fun v hv => by obtain ⟨z, _, rfl⟩ := List.mem_map.1 hv; rfl) ?_
        · rw [List.getElem?_map] at hi
          cases hq : (zs.take (min zs.length n))[i]? with
          | none => rw [hq] at hi; simp at hi
          | some x =>
            rw [hq] at hi
            simp at hi
            subst hi
            have hx : zs[i]? = some x := by
              rw [List.getElem?_take] at hq
              split at hq
              · exact hq
              · cases hq
            obtain ⟨b, off, ha, _, hc⟩ := rd i x hx
            injection ha with ha
            injection ha with h1 h2 h3
            subst h1 h2 h3
            have hadd : (⟨pb, po, none⟩ : Addr).add i = ⟨pb, po + i, none⟩ := by unfold Addr.add; split <;> simp_all
            rw [hadd]
            exact hc
        · have hgi : goInt (((zs.take (min zs.length n)).map (Value.int k)).length) = goInt (min zs.length n : Nat) := by rw [hsl]
          rw [hgi]
          refine h _ (hS.grow j hL (grown_setRow w g _) ⟨?_, .inr ⟨g, c, _, rfl, Nat.zero_le _, setRow_heap w g cur _ elem _ e3, e4, e5, ?_, ?_⟩⟩ (.inl rfl))
          · simp [hdl]; omega
          · simp only [List.size_toArray, List.length_append, List.length_take, List.length_drop, Array.length_toList, List.length_map]
            omega
          · rw [Nat.mul_one, Nat.zero_add, hsl, List.take_zero, List.nil_append]
            show List.take n ((zs.take (min zs.length n)).map (Value.int k) ++ cur.toList.drop (min zs.length n)) = _
            rw [List.take_append, hsl, List.take_of_length_le (by rw [hsl]; show min zs.length n ≤ n; omega), List.map_append, List.map_drop, ← e7, List.drop_take]
theorem madeCells_one (z : Value) (n : Nat) : (madeCells #[z] (n * 1)).toList = List.replicate n z := by
  rw [Nat.mul_one, toList_madeCells_one]
/-- A call that turns the first two things. -/
theorem Sep.call2 {S F : List Nat} {w0 w w' : World} {L : List Res} {A B A' B' : Res} (h : Sep S w0 w (A :: B :: L)) (k : Sep F w w' [A', B']) (hF : ∀ g ∈ F, g ∈ A.bl ∨ g ∈ B.bl) : Sep S w0 w' (A' :: B' :: L) := by
  have hA : ∀ s ∈ L, ∀ g ∈ A.bl, g ∉ s.bl := fun s hs => (List.pairwise_cons.1 h.apart).1 s (by simp [hs])
  have hB : ∀ s ∈ L, ∀ g ∈ B.bl, g ∉ s.bl := fun s hs => (List.pairwise_cons.1 (List.pairwise_cons.1 h.apart).2).1 s hs
  have hFm : ∀ g ∈ F, g ∈ S ∨ w0.heap.size ≤ g := fun g hg => by
    rcases hF g hg with h1 | h1
    · exact h.mine A (by simp) g h1
    · exact h.mine B (by simp) g h1
  have hlt : ∀ s ∈ L, ∀ g ∈ s.bl, g < w.heap.size := fun s hs => s.lies w (h.holds s (by simp [hs]))
  have far : ∀ r ∈ [A', B'], ∀ s ∈ L, ∀ g ∈ r.bl, g ∉ s.bl := fun r hr s hs g hg hgs => by
    rcases k.mine r hr g hg with h1 | h1
    · rcases hF g h1 with h2 | h2
      · exact hA s hs g h2 hgs
      · exact hB s hs g h2 hgs
    · have := hlt s hs g hgs; omega
  refine ⟨h.frm.after k.frm hFm, fun r hr => ?_, ?_, fun r hr g hg => ?_⟩
  · rcases List.mem_cons.1 hr with rfl | hr
    · exact k.holds _ (by simp)
    rcases List.mem_cons.1 hr with rfl | hr
    · exact k.holds _ (by simp)
    · exact r.stays w w' (fun g hg => k.frm.block g (hlt r hr g hg) (fun hgF => by
        rcases hF g hgF with h2 | h2
        · exact hA r hr g h2 hg
        · exact hB r hr g h2 hg)) (h.holds r (by simp [hr]))
  · refine List.Pairwise.cons (fun s hs => ?_) (List.Pairwise.cons (fun s hs => far _ (by simp) s hs) (List.pairwise_cons.1 (List.pairwise_cons.1 h.apart).2).2)
    rcases List.mem_cons.1 hs with rfl | hs
    · exact (List.pairwise_cons.1 k.apart).1 _ (by simp)
    · exact far _ (by simp) s hs
  · have own : ∀ r ∈ [A', B'], ∀ g ∈ r.bl, g ∈ S ∨ w0.heap.size ≤ g := fun r hr g hg => by
      rcases k.mine r hr g hg with h1 | h1
      · exact hFm g h1
      · exact .inr (Nat.le_trans h.frm.size h1)
    rcases List.mem_cons.1 hr with rfl | hr
    · exact own _ (by simp) g hg
    rcases List.mem_cons.1 hr with rfl | hr
    · exact own _ (by simp) g hg
    · exact h.mine r (by simp [hr]) g hg
theorem Sep.part2 {S : List Nat} {w0 w : World} {L : List Res} {A B : Res} (h : Sep S w0 w (A :: B :: L)) : Sep (A.bl ++ B.bl) w w [A, B] :=
  ⟨Frm.refl _ _, fun r hr => h.holds r (by simp at hr; rcases hr with rfl | rfl <;> simp), List.Pairwise.cons (fun s hs => by simp at hs; subst hs; exact (List.pairwise_cons.1 h.apart).1 _ (by simp)) (List.Pairwise.cons (by simp) List.Pairwise.nil),
   fun r hr g hg => .inl (by simp at hr; rcases hr with rfl | rfl <;> simp [hg])⟩
/-- A call that turns the first thing alone. -/
theorem Sep.call1 {S F : List Nat} {w0 w w' : World} {L : List Res} {A A' : Res} (h : Sep S w0 w (A :: L)) (k : Sep F w w' [A']) (hF : ∀ g ∈ F, g ∈ A.bl) : Sep S w0 w' (A' :: L) :=
  h.write 0 rfl k.frm hF (k.holds _ (by simp)) (fun g hg => by
    rcases k.mine _ (by simp) g hg with h1 | h1
    · exact .inl (hF g h1)
    · exact .inr h1)
/-- A call that makes new things alone. -/
theorem Sep.gains {S : List Nat} {w0 w w' : World} {L : List Res} {A : Res} (h : Sep S w0 w L) (k : Sep [] w w' [A]) : Sep S w0 w' (A :: L) :=
  h.add k.frm (k.holds _ (by simp)) (fun g hg => by
    rcases k.mine _ (by simp) g hg with h1 | h1
    · simp at h1
    · exact h1)

end Go.Proofs.Ytekjpkppfcmjdaa
