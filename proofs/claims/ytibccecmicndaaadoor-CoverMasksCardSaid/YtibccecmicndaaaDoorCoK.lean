/-
  THE WALK of CoverMasks.
-/
import Derived.Test.YtibccecmicndaaaDoorLaD
set_option linter.unusedVariables false
set_option linter.unusedSimpArgs false
namespace Go.Proofs.YtibccecmicndaaaDoor
open Go.RowKit

/-- The numbers of a base and the bits R. -/
def sqL (b : Nat) (R : List Nat) : List Int := R.map fun x => ((adN b x : Nat) : Int)
theorem sq_enc (b : Nat) (R : List Nat) : R.map (encU b) = (sqL b R).map (Value.int .u16) := by unfold sqL encU; rw [List.map_map]; rfl
theorem sq_len (b : Nat) (R : List Nat) : (sqL b R).length = R.length := by simp [sqL]
theorem sq_in {b : Nat} {R : List Nat} {n : Int} (h : n ∈ sqL b R) : 0 ≤ n ∧ n ≤ 65535 := by
  obtain ⟨x, _, rfl⟩ := List.mem_map.1 h
  have := adN_lt b x
  omega
theorem sq_fi (b : Nat) (known : List Int) (R : List Nat) : sqL b (fiL (fun x => decide (((adN b x : Nat) : Int) ∈ known)) R) = miL known (sqL b R) := by
  unfold sqL fiL miL
  rw [List.filter_map]
  rfl
theorem sq_mem {b k : Nat} (hb : b < 65536) (hk : k < 65536) (h l : Nat) : decide ((k : Int) ∈ sqL b (bitsOf h l)) = (decide (ahN b k < 128) && bt h l (ahN b k)) := by
  rw [Bool.eq_iff_iff, decide_eq_true_eq, Bool.and_eq_true, decide_eq_true_eq]
  unfold sqL
  rw [List.mem_map]
  constructor
  · rintro ⟨x, hx, e⟩
    obtain ⟨h1, h2⟩ := bitsOf_mem.1 hx
    have e2 : ahN b k = x := by unfold ahN; unfold adN at e; omega
    rw [e2]
    exact ⟨h1, h2⟩
  · rintro ⟨h1, h2⟩
    exact ⟨ahN b k, bitsOf_mem.2 ⟨h1, h2⟩, by unfold ahN adN; unfold ahN at h1; omega⟩
theorem own_sq {w : World} {v : Value} {n b : Nat} {R : List Nat} (h : w.ownsRow 0 22 1 v n (R.map (encU b))) : ∃ a c, v = .slice a R.length c ∧ n = R.length ∧ (a = none → c = 0) ∧ RdI .u16 w a (sqL b R) := by
  rw [sq_enc] at h
  have hn : n = R.length := by have h1 := h.1; rw [List.length_map, sq_len] at h1; omega
  obtain ⟨a, c, rfl, hc⟩ := own_cases h
  refine ⟨a, c, by rw [hn], hn, hc, ?_⟩
  exact fun i x hx => rdv_own h i (.int .u16 x) (by rw [List.getElem?_map, hx]; rfl)

set_option maxRecDepth 100000 in
set_option maxHeartbeats 16000000 in
theorem coverMasks_f (w : World) (hT : Tabs w) (b0 : Int) (wb : (Lit.int .u16 b0).wf = true) (h0 : Int) (wh : (Lit.int .u64 h0).wf = true) (l0 : Int) (wl : (Lit.int .u64 l0).wf = true) (ka : Option Addr) (kc : Nat) (known : List Int) (lc : known.length ≤ kc) (mc : kc ≤ maxLen) (rd : RdI .u16 w ka known) (wf : ∀ x ∈ known, (Lit.int .u16 x).wf = true) (k0 : Int) (wk : (Lit.int .u16 k0).wf = true) :
    Calls Tryd.prog 3 #[.int .u16 b0, .int .u64 h0, .int .u64 l0, .slice ka known.length kc, .int .u16 k0] w fun e w' => e = .returned (.bool true) ∧ Below w.heap.size w w' := by
  obtain ⟨b, rfl, hb⟩ := u16_nat wb
  obtain ⟨k, rfl, hk⟩ := u16_nat wk
  obtain ⟨h, rfl, hh⟩ := u64_nat wh
  obtain ⟨l, rfl, hl⟩ := u64_nat wl
  clear wb wk wh wl lc wf
  have HS0 := Lib.hid ((Sep.init w).alloc #[.slice ka known.length kc] 24)
  have HT := Lib.hid (fun X (hf : Frm [] w X) => alive_c X (hT.frm hf))
  have HTb := Lib.hid (fun X (hf : Frm [] w X) => hT.frm hf)
  have HR := Lib.hid rd
  clear hT rd
  go_enter Tryd.func3, Tryd.ntmps3
  go_upto_region 1 with fail
  obtain ⟨p, hp⟩ : ∃ p, p = w.heap.size := ⟨_, rfl⟩
  obtain ⟨w1, hw1⟩ : ∃ w1, w1 = w.alloc (.cells #[.slice ka known.length kc] 24) := ⟨_, rfl⟩
  rw [← hw1, ← hp] at HS0
  rw [← hw1, ← hp]
  clear hw1 hp
  go_wp2_with fail
  refine (HT.out _ HS0.out.frm).mono ?_
  rintro e w2 ⟨rfl, hf⟩
  have HS2 := Lib.hid (HS0.out.keep hf)
  clear hf HT HS0
  have c0 := (HS2.out.blk 0 rfl).cell 0 rfl
  by_cases hz : 100 < known.length
  · have t1 : decide ((100 : Int) < (known.length : Int)) = true := decide_eq_true (by omega)
    clear hz
    go_wp2_with fail
    go_ret
    exact ⟨rfl, HS2.out.frm.below⟩
  have t1 : decide ((100 : Int) < (known.length : Int)) = false := decide_eq_false (by omega)
  have HS3 := Lib.hid (HS2.out.alloc #[.int .u64 (h : Int), .int .u64 (l : Int)] 27)
  go_upto_region 6 with fail
  obtain ⟨q, hq⟩ : ∃ q, q = w2.heap.size := ⟨_, rfl⟩
  obtain ⟨w3, hw3⟩ : ∃ w3, w3 = w2.alloc (.cells #[.int .u64 (h : Int), .int .u64 (l : Int)] 27) := ⟨_, rfl⟩
  rw [← hw3, ← hq] at HS3
  rw [← hw3, ← hq]
  have hplt : p < w3.heap.size := HS3.out.lt 1 rfl p (by simp [blkR])
  clear hw3 hq c0 t1 HS2
  have hle := (show (bitsOf h l).length ≤ 128 from by unfold bitsOf; exact Nat.le_trans (List.length_filter_le _ _) (by simp))
  have HRs := Lib.hid (fun X => rseqs_c b h l X hb hh hl)
  have HSq := Lib.hid (fun X => seqs_c b h l X hb hh hl)
  have HRp := Lib.hid (fun X => repair_c b h l X hb hh hl)
  have HMs := Lib.hid (fun X h1 h2 h3 h4 => missM_c b h l p ka kc known X h1 h2 h3 h4 hb hh hl)
  have HHa := Lib.hid (fun X => chas_c b h l k X hb hk hh hl)
  rw [← sq_mem hb hk] at HHa
  have HNe := Lib.hid (fun X h1 h2 => needs_c h l X hh hl h1 h2)
  rw [laN_eq hh hl] at HNe
  have HRn := Lib.hid (fun X => rneeds_c h l X hh hl)
  obtain ⟨E, hE⟩ : ∃ E, E = ndN (lastOf (bitsOf h l)) := ⟨_, rfl⟩
  rw [← hE] at HNe HRn
  obtain ⟨R, hR⟩ : ∃ R, R = bitsOf h l := ⟨_, rfl⟩
  rw [← hR] at HRs HSq HRp HMs HHa hle
  have hke : known.length ≤ 100 := by omega
  clear hE hR hb hk hh hl hz
  unfold mV rpV at *
  go_wp2_with fail
  refine (HRs.out w3).mono ?_
  rintro e w4 ⟨v, rfl, hS⟩
  have HS4 := Lib.hid (HS3.out.more hS)
  obtain ⟨wa, wc, rfl, hn, hc, hrd⟩ := own_sq (hS.own 0 rfl)
  clear hn hc hrd hS HRs
  have c0 := (HS4.out.blk 1 rfl).cell 0 rfl
  have c1 := (HS4.out.blk 1 rfl).cell 1 rfl
  have hms := HMs.out w4 (HS4.out.lt 2 rfl p (by simp [blkR])) ((HS4.out.blk 2 rfl).cell 0 rfl) (HR.out.below HS4.out.frm.below) (by omega)
  have hfi := sq_fi b known R
  have hfl := fiL_len (fun x => decide (((adN b x : Nat) : Int) ∈ known)) R
  obtain ⟨M, hM⟩ : ∃ M, M = fiL (fun x => decide (((adN b x : Nat) : Int) ∈ known)) R := ⟨_, rfl⟩
  rw [← hM] at hms hfi hfl
  have HMi := Lib.hid hms
  have HFi := Lib.hid hfi
  clear hms HMs hplt hM hfi
  go_wp2_with fail
  refine HMi.out.mono ?_
  rintro e w5 ⟨v, rfl, hS⟩
  have HS5 := Lib.hid (HS4.out.more hS)
  obtain ⟨ma, mcp, rfl, hn, hc, hrd⟩ := own_sq (hS.own 0 rfl)
  clear hn hc hrd hS HMi c0 c1 HS4 HS3
  have c0 := (HS5.out.blk 2 rfl).cell 0 rfl
  have c1 := (HS5.out.blk 2 rfl).cell 1 rfl
  go_wp2_with fail
  refine (HSq.out w5).mono ?_
  rintro e w6 ⟨v, rfl, hS⟩
  have HS6 := Lib.hid (HS5.out.keep hS.frm)
  obtain ⟨sa, sc, rfl, hn, hc, hrd⟩ := own_sq (hS.own 0 rfl)
  obtain ⟨wa', wc', e9, hn9, hc9, hrw⟩ := own_sq (HS6.out.own 1 rfl)
  injection e9 with e9 e10 e11
  subst e9
  have HSm := Lib.hid (same_c sa wa sc wc (sqL b R) (sqL b R) R.length w6 hrd hrw (sq_len b R) (sq_len b R) (by omega) rfl)
  clear hn hc hrd hS HSq c0 c1 hn9 hc9 hrw e10 e11
  go_wp2_with fail
  refine HSm.out.mono ?_
  rintro e w7 ⟨rfl, m7, hm7⟩
  have HS7 := Lib.hid (show Sep [] w w7 _ from hm7 ▸ HS6.out.drewN m7)
  clear hm7 HSm HS6 HS5
  go_wp2_with fail
  refine (HRp.out w7).mono ?_
  rintro e w8 ⟨v, rfl, hS⟩
  have HS8 := Lib.hid (HS7.out.keep hS.frm)
  obtain ⟨ra, rc, rfl, hn, hc, hrd⟩ := own_sq (hS.own 0 rfl)
  obtain ⟨wa', wc', e9, hn9, hc9, hrw⟩ := own_sq (HS8.out.own 1 rfl)
  injection e9 with e9 e10 e11
  subst e9
  have HSm := Lib.hid (same_c ra wa rc wc (sqL b R) (sqL b R) R.length w8 hrd hrw (sq_len b R) (sq_len b R) (by omega) rfl)
  clear hn hc hrd hS HRp hn9 hc9 hrw e10 e11
  go_wp2_with fail
  refine HSm.out.mono ?_
  rintro e w9 ⟨rfl, m9, hm9⟩
  have HS9 := Lib.hid (show Sep [] w w9 _ from hm9 ▸ HS8.out.drewN m9)
  clear hm9 HSm HS8 HS7
  obtain ⟨wa', wc', e9, hn9, hc9, hrw⟩ := own_sq (HS9.out.own 1 rfl)
  injection e9 with e9 e10 e11
  subst e9
  have hmi := rmissing_c wa wc (sqL b R) ka kc known w9 hrw (HR.out.below HS9.out.frm.below) (by rw [sq_len]; omega) (by omega)
  rw [sq_len, ← HFi.out] at hmi
  have HMi := Lib.hid hmi
  have c0 := (HS9.out.blk 3 rfl).cell 0 rfl
  clear hn9 hc9 hrw e10 e11 hmi
  go_wp2_with fail
  refine HMi.out.mono ?_
  rintro e wa1 ⟨v, rfl, hS⟩
  have HSa := Lib.hid (HS9.out.keep hS.frm)
  rw [← sq_enc, sq_len] at hS
  obtain ⟨xa, xc, rfl, hn, hc, hrd⟩ := own_sq (hS.own 0 rfl)
  obtain ⟨ma', mc', e9, hn9, hc9, hrw⟩ := own_sq (HSa.out.own 0 rfl)
  injection e9 with e9 e10 e11
  subst e9
  have HSm := Lib.hid (same_c ma xa mcp xc (sqL b M) (sqL b M) M.length wa1 hrw hrd (sq_len b M) (sq_len b M) (by omega) rfl)
  clear hn hc hrd hS HMi hn9 hc9 hrw e10 e11 c0
  go_wp2_with fail
  refine HSm.out.mono ?_
  rintro e wb1 ⟨rfl, mb, hmb⟩
  have HSb := Lib.hid (show Sep [] w wb1 _ from hmb ▸ HSa.out.drewN mb)
  clear hmb HSm HSa HS9
  have c0 := (HSb.out.blk 2 rfl).cell 0 rfl
  have c1 := (HSb.out.blk 2 rfl).cell 1 rfl
  go_wp2_with fail
  refine (HHa.out wb1).mono ?_
  rintro e wc1 ⟨rfl, hf⟩
  have HSc := Lib.hid (HSb.out.keep hf)
  obtain ⟨wa', wc', e9, hn9, hc9, hrw⟩ := own_sq (HSc.out.own 1 rfl)
  injection e9 with e9 e10 e11
  subst e9
  have hin := rin_c wa wc (sqL b R) (k : Int) wc1 hrw (by rw [sq_len]; omega)
  rw [sq_len] at hin
  obtain ⟨y, hy⟩ : ∃ y, y = decide ((k : Int) ∈ sqL b R) := ⟨_, rfl⟩
  rw [← hy] at hin ⊢
  have HIn := Lib.hid hin
  clear hin hf HHa hn9 hc9 hrw e10 e11 c0 c1 HSb hy
  go_wp2_with fail
  refine HIn.out.mono ?_
  rintro e wd1 ⟨rfl, rfl⟩
  have c0 := (HSc.out.blk 2 rfl).cell 0 rfl
  have c1 := (HSc.out.blk 2 rfl).cell 1 rfl
  clear HIn
  go_wp2_with fail
  refine (HNe.out wc1 (HTb.out _ HSc.out.frm).1 (HTb.out _ HSc.out.frm).2).mono ?_
  rintro e we1 ⟨rfl, hf⟩
  have HSe := Lib.hid (HSc.out.keep hf)
  clear hf c0 c1 HNe HSc
  go_wp2_with fail
  refine (HRn.out we1).mono ?_
  rintro e wf1 ⟨rfl, hf⟩
  have HSf := Lib.hid (HSe.out.keep hf)
  clear hf HRn HSe
  go_wp2_with fail
  go_ret
  exact ⟨ret_bool (by simp), HSf.out.frm.below⟩

end Go.Proofs.YtibccecmicndaaaDoor
