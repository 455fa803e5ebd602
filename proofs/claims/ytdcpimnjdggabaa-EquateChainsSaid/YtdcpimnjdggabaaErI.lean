/-
  THE WALK of the law EquateStuck.
-/
import Derived.Test.YtdcpimnjdggabaaErH
set_option linter.unusedVariables false
set_option linter.unusedSimpArgs false
namespace Go.Proofs.Ytdcpimnjdggabaa
open Go.RowKit Go.Maps

def toRow (r : IRow) : Row Int := ⟨r.a, r.c, r.zs⟩
theorem toRow_val (rs : List IRow) : (rs.map toRow).map Row.val = rs.map IRow.val := by rw [List.map_map]; rfl
/-- What an argument of slices of ints reads as. -/
theorem rows_arg {w : World} {a : Option Addr} {rs : List IRow} (h : RdV w a (rs.map IRow.val)) (hr : ∀ r ∈ rs, r.zs.length ≤ r.c ∧ r.c ≤ maxLen ∧ (r.a = none → r.c = 0) ∧ RdI .i64 w r.a r.zs ∧ ∀ x ∈ r.zs, (Lit.int .i64 x).wf = true) :
    RdRows (Value.int .i64) w a (rs.map toRow) ∧ (∀ r ∈ rs.map toRow, r.xs.length ≤ maxLen) ∧ ∀ r ∈ rs.map toRow, ∀ x ∈ r.xs, okI x := by
  refine ⟨⟨by rw [toRow_val]; exact h, fun r hm => ?_⟩, fun r hm => ?_, fun r hm => ?_⟩
  all_goals
    obtain ⟨q, hq, rfl⟩ := List.mem_map.1 hm
    obtain ⟨h1, h2, h3, h4, h5⟩ := hr q hq
  · exact RdV.of_ints h4
  · exact Nat.le_trans h1 h2
  · exact h5
theorem few_len {xs : List Int} {rs : List (Row Int)} (h : FewP xs (rs.map (·.xs))) : xs.length ≤ 60 ∧ rs.length ≤ 30 ∧ (∀ r ∈ rs, r.xs.length ≤ 60) ∧ (rs.map (·.xs)).flatten.length ≤ 300 :=
  ⟨h.xs, by simpa using h.eqs, fun r hr => h.row _ (List.mem_map.2 ⟨r, hr, rfl⟩), h.sum⟩
theorem stk_pre (K : List Int) (E : List (List Int)) (n : Nat) : stk K (E.take n) <+: stk K E := by
  unfold stk
  rw [List.map_take]
  exact (List.take_prefix n (E.map (opn K))).filter _

set_option maxRecDepth 100000 in
set_option maxHeartbeats 8000000 in
theorem equateStuck_w (w : World) (ak : Option Addr) (ck : Nat) (ks : List Int) (lk : ks.length ≤ ck) (mk : ck ≤ maxLen) (nk : ak = none → ck = 0) (rk : RdI .i64 w ak ks) (wk : ∀ x ∈ ks, (Lit.int .i64 x).wf = true)
    (al : Option Addr) (cl : Nat) (ls : List Int) (ll : ls.length ≤ cl) (ml : cl ≤ maxLen) (nl : al = none → cl = 0) (rl : RdI .i64 w al ls) (wl : ∀ x ∈ ls, (Lit.int .i64 x).wf = true)
    (a : Option Addr) (c : Nat) (qs : List IRow) (lc : qs.length ≤ c) (mc : c ≤ maxLen) (nc : a = none → c = 0) (rd : RdV w a (qs.map IRow.val)) (wf : ∀ r ∈ qs, r.zs.length ≤ r.c ∧ r.c ≤ maxLen ∧ (r.a = none → r.c = 0) ∧ RdI .i64 w r.a r.zs ∧ ∀ x ∈ r.zs, (Lit.int .i64 x).wf = true) :
    Calls Try.prog 4 #[.slice ak ks.length ck, .slice al ls.length cl, .slice a qs.length c] w fun e w' => e = .returned (.bool true) ∧ Below w.heap.size w w' := by
  have hnot : ∀ (x : Bool) (w : World), (Op.unary .not (.bool x)).run Try.prog w = .ok (.bool (!x)) w := fun _ _ => rfl
  obtain ⟨hr, hrl, hro⟩ := rows_arg rd wf
  have hql : qs.length = (qs.map toRow).length := by simp
  rw [hql] at lc ⊢
  obtain ⟨rs, hrs⟩ : ∃ rs, rs = qs.map toRow := ⟨_, rfl⟩
  rw [← hrs] at hr hrl hro lc ⊢
  have HK := Lib.hid (show RdZ w ak ks from RdV.of_ints rk)
  have HL := Lib.hid (show RdZ w al ls from RdV.of_ints rl)
  have HR := Lib.hid hr
  have HKo := Lib.hid (show ∀ x ∈ ks, okI x from wk)
  have HLo := Lib.hid (show ∀ x ∈ ls, okI x from wl)
  have HRo := Lib.hid hro
  have HRl := Lib.hid hrl
  have HNk := Lib.hid nk
  have lk2 : ks.length ≤ maxLen := Nat.le_trans lk mk
  have ll2 : ls.length ≤ maxLen := Nat.le_trans ll ml
  have lc2 : rs.length ≤ maxLen := Nat.le_trans lc mc
  have HFw := fun w1 (h : Frm [] w w1) => few_c ak ck ks a c rs w1 (hr.below h.below) lk2 lc2 hrl
  have HFew := Lib.hid HFw
  unfold maxLen at ll2
  clear hr hrl hro hrs rk rl wk wl rd wf nk nl nc lk mk ll ml lc mc hql HFw lk2 lc2
  go_enter Try.func4, Try.ntmps4
  go_wp2_with fail
  refine (alive_c _).mono ?_
  rintro e w1 ⟨rfl, hf⟩
  have HF1 := Lib.hid hf
  clear hf
  go_wp2_with fail
  refine (HFew.out w1 HF1.out).mono ?_
  rintro e w' ⟨b, rfl, hb, rfl⟩
  cases b with
  | false =>
    clear hb
    go_wp2_with fail
    go_ret
    exact ⟨rfl, HF1.out.below⟩
  | true =>
    obtain ⟨f1, f2, f3, f4⟩ := few_len (hb rfl)
    have HF3 := Lib.hid f3
    have HF4 := Lib.hid f4
    clear hb f3 f4
    by_cases hbig : 60 < ls.length
    · have b1 : decide ((60 : Int) < (ls.length : Int)) = true := by simp; omega
      go_wp2_with fail
      go_ret
      exact ⟨rfl, HF1.out.below⟩
    · have b1 : decide ((60 : Int) < (ls.length : Int)) = false := by simp; omega
      have hll : ls.length ≤ 60 := by omega
      clear hbig
      have hst := fun w2 (h : Frm [] w w2) => stuck_c ak ck ks a c rs w2 (HK.out.below h.below) (HR.out.below h.below) (by omega) (by omega) (fun r hr => ⟨by have := HF3.out r hr; omega, HRo.out r hr⟩) HKo.out (by have := HF4.out; omega)
      have hcl := fun w2 (h : Frm [] w w2) => rclosure_c ak ck ks a c rs w2 HNk.out (HK.out.below h.below) (HR.out.below h.below) (by omega) (by omega) (fun r hr => by have := HF3.out r hr; omega) (by have := HF4.out; omega)
      have hp1 := fun w2 (h : Frm [] w w2) => peelable_c al cl ls ak ck ks a c rs w2 (HL.out.below h.below) (HK.out.below h.below) (HR.out.below h.below) (by omega) (by omega) (by omega) (fun r hr => ⟨by have := HF3.out r hr; omega, HRo.out r hr⟩) HLo.out HKo.out (by have := HF4.out; omega)
      have hp2 := fun w2 (h : Frm [] w w2) => rpeelable_c al cl ls ak ck ks a c rs w2 (HL.out.below h.below) (HK.out.below h.below) (HR.out.below h.below) (by omega) (by omega) (by omega) (fun r hr => by have := HF3.out r hr; omega) (by have := HF4.out; omega)
      obtain ⟨E, hE⟩ : ∃ E, E = rs.map (·.xs) := ⟨_, rfl⟩
      rw [← hE] at hst hcl hp1 hp2
      have hcll : (clo ks E).length ≤ 1000 := by
        have h1 := peel_len (base := ks) (eqs := E)
        have h2 := HF4.out
        rw [← hE] at h2
        unfold clo
        simp only [List.length_append, List.length_map]
        omega
      obtain ⟨C, hC⟩ : ∃ C, C = clo ks E := ⟨_, rfl⟩
      rw [← hC] at hst hcl hcll
      obtain ⟨PB, hPB⟩ : ∃ PB, PB = plb ls ks E := ⟨_, rfl⟩
      rw [← hPB] at hp1 hp2
      have hstl := stk_len C E
      obtain ⟨L, hL⟩ : ∃ L, L = stk C E := ⟨_, rfl⟩
      rw [← hL] at hst hstl
      have HSt := Lib.hid hst
      have HCl := Lib.hid hcl
      have HP1 := Lib.hid hp1
      have HP2 := Lib.hid hp2
      have HE := Lib.hid hE
      have HLL := Lib.hid hL
      have hel : E.length = rs.length := by rw [hE, List.length_map]
      have hLl : L.length ≤ 30 := by omega
      clear hst hcl hp1 hp2 hE hC hPB hL hel hstl HFew HNk
      go_wp2_with fail
      refine (HSt.out w1 HF1.out).mono ?_
      rintro e w2 ⟨ag, cg, rows, rfl, hrw, hrr, hf⟩
      have HF2 := Lib.hid (HF1.out.trans hf)
      have HRr := Lib.hid hrr
      have HRw := Lib.hid hrw
      have hrwl : rows.length = L.length := by rw [← hrw, List.length_map]
      have hrl2 : rows.length ≤ 30 := by omega
      have HRwl := Lib.hid hrwl
      clear hrw hrr hf hrwl
      go_wp2_with fail
      refine (HCl.out w2 HF2.out).mono ?_
      rintro e w3 ⟨v3, rfl, hS3⟩
      obtain ⟨ac, cc, rfl, c1, c2, c3, hrc⟩ := own_Z (hS3.own 0 rfl)
      have HF3' := Lib.hid (HF2.out.trans hS3.frm)
      have HFr := Lib.hid hS3.frm
      have HRc := Lib.hid hrc
      clear hS3 hrc c1 c2 c3
      go_wp2_with fail
      go_loopw [32, 9] (fun j i wr => ∃ (n k : Nat), n ≤ rs.length ∧ j = .int .i64 n ∧ i = .int .i64 k ∧ k = (stk C (E.take n)).length ∧ Frm [] w3 wr) (fun j _ _ => rs.length - (intOf j).toNat)
      case atStart => exact ⟨0, 0, Nat.zero_le _, rfl, rfl, rfl, Frm.refl _ _⟩
      case round =>
        obtain ⟨n, k, hn, rfl, rfl, hk, hf⟩ := hrel
        have hfw := HF3'.out.trans hf
        have hkL : k ≤ L.length := by
          have := (stk_pre C E n).length_le
          rw [← HLL.out] at this
          omega
        by_cases hlt : n < rs.length
        · obtain ⟨b, off, r, hre, hrm, hts, rfl, hb, hc, hrd⟩ := rows_at (HR.out.below hfw.below) hlt
          have hrx := HF3.out r hrm
          have hopn := ropen_c ac cc C r.a r.c r.xs wr (HRc.out.below hf.below) hrd (by omega) (by omega)
          have hol := opn_len C r.xs
          have hEt : E.take (n + 1) = E.take n ++ [r.xs] := by rw [HE.out, ← List.map_take, hts, List.map_append, ← List.map_take]; rfl
          have hsn := stk_snoc C (E.take n) r.xs
          rw [← hEt] at hsn
          have hpre := stk_pre C E (n + 1)
          rw [← HLL.out] at hpre
          obtain ⟨op, hop⟩ : ∃ op, op = opn C r.xs := ⟨_, rfl⟩
          rw [← hop] at hopn hol hsn
          have HOp := Lib.hid hopn
          have HSn := Lib.hid hsn
          have HPre := Lib.hid hpre
          have HKk := Lib.hid hk
          have HFw := Lib.hid hfw
          have HFq := Lib.hid hf
          have ij : (n : Int) < (rs.length : Int) := by omega
          clear hopn hsn hpre hk hfw hf hre hrm hts hb hrd hEt hop
          by_cases hpos : 0 < op.length
          · have b2 : ((op.length : Int) == 0) = false := by rw [beq_eq_false_iff_ne]; omega
            have hS2 := HSn.out
            rw [if_pos hpos] at hS2
            have hpre := HPre.out
            rw [hS2] at hpre
            have hkl : k < rows.length := by
              have := hpre.length_le
              have h2 := HKk.out
              have h3 := HRwl.out
              simp only [List.length_append, List.length_cons, List.length_nil] at this
              omega
            have hLk : L[k]? = some op := by
              obtain ⟨t, ht⟩ := hpre
              rw [← ht, HKk.out, List.append_assoc]
              simp
            have hxk : ∃ q, rows[k]? = some q ∧ q ∈ rows ∧ q.xs = op := by
              refine ⟨rows[k], List.getElem?_eq_getElem hkl, List.getElem_mem hkl, ?_⟩
              have h1 : (rows.map (·.xs))[k]? = some (rows[k]).xs := by rw [List.getElem?_map, List.getElem?_eq_getElem hkl]; rfl
              rw [HRw.out, hLk] at h1
              injection h1 with h1
              exact h1.symm
            obtain ⟨q, hq1, hq2, hq3⟩ := hxk
            obtain ⟨gb, go, hga, hgl, hgc⟩ := HRr.out.1 k q.val (by rw [List.getElem?_map, hq1]; rfl)
            have hgz : RdZ w2 q.a q.xs := HRr.out.2 q hq2
            have hgq := hq3
            obtain ⟨qa, qc, qxs⟩ := q
            dsimp only at hgz hq3
            subst hq3
            have hgc2 := ((HFr.out.trans HFq.out).cell (i := go + k) hgl (by simp)).trans hgc
            have HGz := Lib.hid (hgz.below (HFr.out.trans HFq.out).below)
            have HS2 := Lib.hid hS2
            have b3 : decide (rows.length ≤ k) = false := by rw [decide_eq_false_iff_not]; omega
            have k0 : (0 : Int) ≤ (k : Int) := by omega
            have k1 : (k : Int) < (rows.length : Int) := by omega
            subst hga
            dsimp only [Row.val] at hgc2
            clear hS2 hpre hLk hq1 hq2 hgl hgc hgz hgq
            go_wp2_with fail
            refine HOp.out.mono ?_
            rintro e w5 ⟨v5, rfl, hS5⟩
            obtain ⟨a5, c5, rfl, d1, d2, d3, hr5⟩ := own_Z (hS5.own 0 rfl)
            have hgc3 := (hS5.frm.cell (i := go + k) (Array.getElem?_eq_some_iff.1 (by exact (World.block_lt_of_cell? wr _ hgc2 |> fun h => Array.getElem?_eq_getElem h))).1 (by simp)).trans hgc2
            have hsame := sameInts_c qa qc qxs a5 c5 qxs w5 (HGz.out.below hS5.frm.below) hr5 (by omega)
            rw [show sameZ qxs qxs = true from by unfold sameZ; simp] at hsame
            have HSame := Lib.hid hsame
            have HF5 := Lib.hid (HFq.out.trans hS5.frm)
            clear hS5 d1 d2 d3 hr5 hsame hgc2 hc
            go_wp2_with fail
            refine HSame.out.mono ?_
            rintro e w6 ⟨rfl, hf6⟩
            have HF6 := Lib.hid (HF5.out.trans hf6)
            clear hf6 hgc3
            go_wp2_with fail
            go_roundw
            case rel =>
              refine ⟨n + 1, k + 1, by omega, by go_num, by go_num, ?_, HF6.out⟩
              rw [HS2.out, List.length_append, ← HKk.out]
              rfl
            case measure => simp [intOf]; omega
          · have hz : op.length = 0 := by omega
            have b2 : ((op.length : Int) == 0) = true := by rw [beq_iff_eq]; omega
            have HPos := Lib.hid hpos
            clear hpos hz
            go_wp2_with fail
            refine HOp.out.mono ?_
            rintro e w5 ⟨v5, rfl, hS5⟩
            obtain ⟨a5, c5, rfl⟩ := own_form (hS5.own 0 rfl)
            have HF5 := Lib.hid (HFq.out.trans hS5.frm)
            clear hS5 hc
            go_wp2_with fail
            go_roundw
            case rel => exact ⟨n + 1, k, by omega, by go_num, rfl, by rw [HSn.out, if_neg HPos.out]; exact HKk.out, HF5.out⟩
            case measure => simp [intOf]; omega
        · obtain rfl : n = rs.length := by omega
          have hkk : k = rows.length := by
            rw [hk, HRwl.out, HLL.out]
            have : rs.length = E.length := by rw [HE.out, List.length_map]
            rw [this, List.take_length]
          subst hkk
          have HFw := Lib.hid hfw
          have hP1 := Lib.hid (HP1.out wr hfw)
          clear hk hfw hf hkL
          go_wp2_with fail
          refine hP1.out.mono ?_
          rintro e w7 ⟨rfl, hf7⟩
          have HF7 := Lib.hid (HFw.out.trans hf7)
          clear hf7
          go_wp2_with fail
          refine (HP2.out w7 HF7.out).mono ?_
          rintro e w8 ⟨rfl, hf8⟩
          have HF8 := Lib.hid (HF7.out.trans hf8)
          have hpe : (PB == PB) = true := by simp
          clear hf8
          go_wp2_with fail
          go_ret
          exact ⟨by first | rfl | simp, HF8.out.below⟩

end Go.Proofs.Ytdcpimnjdggabaa
