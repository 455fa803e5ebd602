/-
  THE WALKS of equate's round and of the iterator of Peel (keys [string]).
-/
import Derived.Test.YtdcpimnjdggabaaEqSB
import Derived.Test.YtdcpimnjdggabaaRnf
import Derived.Sort.CutIn
set_option linter.unusedVariables false
set_option linter.unusedSimpArgs false
namespace Go.Proofs.Ytdcpimnjdggabaa
open Go.RowKit Go.Maps Go.Shelf
attribute [local go_sem] Oper.semAt_some

/-- What the known ones and those that were told are as keys. -/
def keysS (base : List ByteArray) (out : List (ByteArray × Nat)) : List ByteArray := addAll [] base ++ out.map (·.1)
theorem opn_keysS (base : List ByteArray) (out : List (ByteArray × Nat)) (eq : List ByteArray) : opn (keysS base out) eq = opn (base ++ out.map (·.1)) eq :=
  opn_congr (fun x => by unfold keysS; rw [List.mem_append, List.mem_append, addAll_mem]; simp) eq
def grwS (base : List ByteArray) (E : List (List ByteArray)) (j : Nat) (out : List (ByteArray × Nat)) : Bool := decide ((rnd base E j out).length ≠ out.length)
/-- What the yields of Peel promise. -/
def YldS (n l : Nat) (J Jx : List (ByteArray × Nat) → List Nat → World → Prop) (F0 : List Nat) (R : List (ByteArray × Nat)) : Prop :=
  ∀ pre F x W1, J pre F W1 → (∀ m ∈ F0, m ∈ F) → (pre ++ [x]) <+: R → YieldAt Fence.wide (n - 1) Try.prog l #[(.string x.1), .int .i64 x.2] W1 fun e W' => KpF F0 F W1 W' ∧ ((e = .returned (.bool true) ∧ J (pre ++ [x]) F W') ∨ (e = .returned (.bool false) ∧ Jx (pre ++ [x]) F W'))

set_option maxRecDepth 100000 in
set_option maxHeartbeats 8000000 in
theorem roundS_c (n l : Nat) (hn : 3 ≤ n) (J Jx : List (ByteArray × Nat) → List Nat → World → Prop) (F0 F : List Nat) (m : Nat) (base : List ByteArray) (a : Option Addr) (c : Nat) (rs : List (Row ByteArray)) (out : List (ByteArray × Nat)) (W : World)
    (bJ : Bears F0 J) (hQ : ∀ pre F W1, J pre F W1 → RdRows Value.string W1 a rs) (hF : ∀ x ∈ F0, x ∈ F) (hm : m ∈ F) (hm0 : m ∉ F0)
    (R : List (ByteArray × Nat)) (hR : ∀ j, j ≤ rs.length → rnd base (rs.map (·.xs)) j out <+: R) (hRl : R.length ≤ 100000) (hY : YldS n l J Jx F0 R)
    (hl : rs.length ≤ 1000) (hok : ∀ r ∈ rs, r.xs.length ≤ 1000 ∧ ∀ x ∈ r.xs, okS x) (hbl : base.length ≤ 1000)
    (hMap : MapAt Try.prog 9 W m (setKv Value.string (keysS base out))) (h0 : J out F W) :
    CallsIn Fence.wide n Try.prog 28 #[.map (some m), .slice a rs.length c, .func (.yield l) #[] #[]] W fun e W' =>
      (e = .returned (.tuple #[.bool (grwS base (rs.map (·.xs)) rs.length out), .bool true]) ∧ MapAt Try.prog 9 W' m (setKv Value.string (keysS base (rnd base (rs.map (·.xs)) rs.length out))) ∧ J (rnd base (rs.map (·.xs)) rs.length out) F W') ∨
      ∃ b pre, e = .returned (.tuple #[.bool b, .bool false]) ∧ pre <+: R ∧ Jx pre F W' := by
  have hn1 : 1 ≤ n := by omega
  obtain ⟨E, hE⟩ : ∃ E, E = rs.map (·.xs) := ⟨_, rfl⟩
  rw [← hE] at hR ⊢
  have HE := Lib.hid hE
  have HQ := Lib.hid hQ
  have HF := Lib.hid hF
  have HBJ := Lib.hid bJ
  have HR := Lib.hid hR
  have HY := Lib.hid hY
  have HOk := Lib.hid hok
  have HMp := Lib.hid hMap
  have H0 := Lib.hid h0
  have HM := Lib.hid (And.intro hm hm0)
  clear hE hQ hF bJ hR hY hok hMap h0 hm hm0
  refine callsIn_of_wp Try.func28 rfl trivial ?_ rfl
  simp only [Try.ntmps28, List.size_toArray, List.length_cons, List.length_nil, Nat.reduceAdd, Nat.reduceSub, Array.replicate_succ, Array.replicate_zero, List.push_toArray, List.append_toArray, List.nil_append, List.cons_append]
  gi_wp2_with fail
  gi_loopw [13, 6] (fun i t wr => ∃ j : Nat, j ≤ rs.length ∧ i = .int .i64 j ∧ t = .bool (grwS base E j out) ∧ MapAt Try.prog 9 wr m (setKv Value.string (keysS base (rnd base E j out))) ∧ J (rnd base E j out) F wr) (fun i _ _ => rs.length - (intOf i).toNat)
  case atStart => exact ⟨0, Nat.zero_le _, rfl, by unfold grwS; simp [rnd], HMp.out, H0.out⟩
  case round =>
    obtain ⟨j, hj, rfl, rfl, hMr, hJr⟩ := hrel
    have HMr := Lib.hid hMr
    have HJr := Lib.hid hJr
    clear hMr hJr
    by_cases hlt : j < rs.length
    · have hrows := HQ.out _ _ _ HJr.out
      obtain ⟨r, hre⟩ : ∃ r, r = rs[j] := ⟨_, rfl⟩
      have hrm : r ∈ rs := hre ▸ List.getElem_mem hlt
      obtain ⟨b, off, ha, hb, hcell⟩ := hrows.1 j (.slice r.a r.xs.length r.c) (by rw [List.getElem?_map, List.getElem?_eq_getElem hlt, ← hre]; rfl)
      have hrd := hrows.2 r hrm
      obtain ⟨hxl, hxo⟩ := HOk.out r hrm
      have hEj : E.getD j [] = r.xs := by rw [HE.out, List.getD_eq_getElem?_getD, List.getElem?_map, List.getElem?_eq_getElem hlt, ← hre]; rfl
      obtain ⟨ra, rc, xs⟩ := r
      dsimp only at hcell hrd hxl hxo hEj
      obtain ⟨o, ho⟩ : ∃ o, o = rnd base E j out := ⟨_, rfl⟩
      rw [← ho] at HMr HJr
      have hstep : rnd base E (j + 1) out = rstep base j xs o := by rw [← hEj, ho]; rfl
      have hcs := rstep_cases base j xs o
      rw [← opn_keysS] at hcs
      have hopen := openS_c m (keysS base o) ra rc xs wr HMr.out hrd (by omega) hxo
      have hopl := opn_len (keysS base o) xs
      obtain ⟨op, hop⟩ : ∃ op, op = opn (keysS base o) xs := ⟨_, rfl⟩
      rw [← hop] at hcs hopen hopl
      have hopm : ∀ x ∈ op, x ∈ xs ∧ x ∉ keysS base o := fun x hx => opn_mem.1 (hop ▸ hx)
      have hgl : (rnd base E j out).length ≤ 100000 := by have := (HR.out j hj).length_le; omega
      have HOpen := Lib.hid hopen
      have HSt := Lib.hid hstep
      have HO := Lib.hid ho
      have HOm := Lib.hid hopm
      have HXo := Lib.hid hxo
      subst ha
      clear hrows hre hrm hb hrd hxo hEj hstep hopen hop hopm ho
      rcases hcs with ⟨hne, hrs⟩ | ⟨x, hone, hrs⟩
      · obtain ⟨N, hN⟩ : ∃ N, N = op.length := ⟨_, rfl⟩
        rw [← hN] at HOpen hne hopl
        have b1 : ((N : Int) != 1) = true := by rw [bne_iff_ne]; omega
        have HRs := Lib.hid hrs
        clear hN hrs hne
        gi_wp2_with fail
        refine ⟨trivial, (callsIn_wide.2 HOpen.out).mono ?_⟩
        rintro e w1 ⟨v, rfl, hS⟩
        obtain ⟨av, cv, rfl, _, hnl, _, _⟩ := RdV.of_own (hS.own 0 rfl)
        rw [← hnl]
        have HJ1 := Lib.hid (HBJ.out.grow _ _ _ _ HJr.out (grown_of_below hS.frm.below none))
        have HM1 := Lib.hid (HMr.out.frm hS.frm (by simp))
        clear hnl hS
        gi_wp2_with fail
        go_roundw
        case rel =>
          refine ⟨j + 1, by omega, by go_num, ?_, ?_, ?_⟩
          · unfold grwS; rw [HSt.out, HRs.out, HO.out]
          · rw [HSt.out, HRs.out]; exact HM1.out
          · rw [HSt.out, HRs.out]; exact HJ1.out
        case measure => simp [intOf]; omega
      · have hnew : rnd base E (j + 1) out = o ++ [(x, j)] := HSt.out.trans hrs
        have hgr : grwS base E (j + 1) out = true := by
          unfold grwS
          rw [hnew]
          have := (rnd_pre (base := base) (eqs := E) (m := 0) (n := j) (Nat.zero_le _) out).length_le
          rw [← HO.out] at this
          rw [decide_eq_true_iff]
          simp [rnd] at this ⊢
          omega
        obtain ⟨hxx, hxk⟩ := HOm.out x (by rw [hone]; simp)
        have hok := HXo.out x hxx
        obtain ⟨kl, hkl⟩ := keyS hok
        have hkeys : keysS base (o ++ [(x, j)]) = keysS base o ++ [x] := by unfold keysS; rw [List.map_append, List.append_assoc]; rfl
        have hkl2 : (keysS base o).length < maxLen := by
          unfold keysS maxLen
          have := addAll_len ([] : List ByteArray) base
          have h2 := HO.out ▸ hgl
          simp at this ⊢
          omega
        have hpre : (o ++ [(x, j)]) <+: R := hnew ▸ HR.out (j + 1) (by omega)
        have HNew := Lib.hid hnew
        have HGr := Lib.hid hgr
        have HKe := Lib.hid hkeys
        have HPre := Lib.hid hpre
        have HK := Lib.hid (And.intro hkl (And.intro hkl2 hxk))
        rw [hone] at HOpen
        clear hrs hone hnew hgr hxx hxk hok hkl hkeys hkl2 hpre
        gi_wp2_with fail
        refine ⟨trivial, (callsIn_wide.2 HOpen.out).mono ?_⟩
        rintro e w1 ⟨v, rfl, hS⟩
        have hvn := fun k (hk : v.ownBlock = some k) => hS.mine _ (List.mem_singleton.2 rfl) k (by simp [ownR, hk])
        obtain ⟨av, cv, rfl, hcv, hnl, _, hrv⟩ := RdV.of_own (hS.own 0 rfl)
        obtain ⟨g, o2, rfl, hg, hc1⟩ := hrv 0 (.string x) rfl
        have hml := HMr.out.lt
        have hgm : g ≠ m := fun e => by
          have := hvn g rfl
          simp at this
          omega
        have hj1 := HBJ.out.grow _ _ _ _ HJr.out (grown_of_below hS.frm.below none)
        have HM1 := Lib.hid (HMr.out.frm hS.frm (by simp))
        obtain ⟨hkl, hkl2, hxk⟩ := HK.out
        obtain ⟨c2, w2, w3, hent, hsto, hm3, hg3⟩ := set_entry HM1.out injS keyedS Try.underlying44 (zeroBS _) x hxk hkl hkl2
        have hc2 := ((Frm.of_grown hg3).cell (i := o2 + 0) hg (by simpa using hgm)).trans hc1
        have HJ3 := Lib.hid (HBJ.out.put _ _ _ _ _ hj1 HM.out.1 HM.out.2 hg3)
        obtain ⟨fn, tmps, assign, body, hy, hRd⟩ := HY.out o F (x, j) w3 HJ3.out HF.out HPre.out
        have HRd := Lib.hid hRd
        have HM3 := Lib.hid hm3
        rw [Nat.add_zero] at hc1 hc2
        dsimp only at hy
        clear hvn hnl hrv hml hj1 hkl hkl2 hxk hm3 hg3 hRd hS HMr HJr HM1
        gi_wp2
        refine HRd.out.mono ?_
        rintro e W4 ⟨hk, (⟨rfl, hJ4⟩ | ⟨rfl, hJx⟩)⟩
        · have HJ4 := Lib.hid hJ4
          have HM4 := Lib.hid (mapAt_same HM3.out (hk.2 m HM.out.1 HM.out.2))
          clear hk hJ4 hy HRd hc1 hc2 hent hsto
          gi_wp2
          go_roundw
          case rel =>
            refine ⟨j + 1, by omega, by go_num, by rw [HGr.out], ?_, ?_⟩
            · rw [HNew.out, HKe.out]; exact HM4.out
            · rw [HNew.out]; exact HJ4.out
          case measure => simp [intOf]; omega
        · have HJx := Lib.hid hJx
          clear hk hJx hy HRd hc1 hc2 hent hsto
          gi_wp2
          go_ret2
          exact .inr ⟨true, _, rfl, HPre.out, HJx.out⟩
    · obtain rfl : j = rs.length := by omega
      gi_wp2_with fail
      go_ret2
      exact .inl ⟨rfl, HMr.out, HJr.out⟩


set_option maxRecDepth 100000 in
set_option maxHeartbeats 4000000 in
theorem peelS_seq (n : Nat) (hn : 4 ≤ n) (p q : Nat) (ab : Option Addr) (cb : Nat) (base : List ByteArray) (a : Option Addr) (c : Nat) (rs : List (Row ByteArray)) (w : World)
    (hl : rs.length ≤ 1000) (hok : ∀ r ∈ rs, r.xs.length ≤ 1000 ∧ ∀ x ∈ r.xs, okS x) (hbl : base.length ≤ 1000) (hbo : ∀ x ∈ base, okS x) (hsum : (rs.map (·.xs)).flatten.length ≤ 100000) :
    SeqF n Try.prog 27 #[.pointer (some ⟨p, 0, none⟩), .pointer (some ⟨q, 0, none⟩)] (fun x : ByteArray × Nat => #[(.string x.1), .int .i64 x.2])
      (fun W => W.cell? ⟨p, 0, none⟩ = some (.slice ab base.length cb) ∧ W.cell? ⟨q, 0, none⟩ = some (.slice a rs.length c) ∧ RdV W ab (base.map Value.string) ∧ RdRows Value.string W a rs)
      (fun pre x _ => (pre ++ [x]) <+: peel base (rs.map (·.xs))) (fun ys => ys = peel base (rs.map (·.xs))) (fun pre => pre <+: peel base (rs.map (·.xs))) w := by
  intro l J Jx F0 W hW bJ bJx hQ hF0 hY h0
  obtain ⟨hcp, hcq, hrb, hrr⟩ := hQ _ _ _ h0
  have hset := setS_c ab cb base W hrb (by omega) hbo
  obtain ⟨E, hE⟩ : ∃ E, E = rs.map (·.xs) := ⟨_, rfl⟩
  rw [← hE] at hY hsum ⊢
  have HE := Lib.hid hE
  obtain ⟨NN, hNN⟩ : ∃ NN, NN = E.flatten.length := ⟨_, rfl⟩
  rw [← hNN] at hsum
  have HNN := Lib.hid hNN
  clear hNN
  have HQ := Lib.hid hQ
  have HBJ := Lib.hid bJ
  have HOk := Lib.hid hok
  have HY := Lib.hid hY
  have HF0 := Lib.hid hF0
  have H0 := Lib.hid h0
  have HSet := Lib.hid hset
  have hn1 : 1 ≤ n := by omega
  clear hE hQ bJ bJx hok hY hF0 h0 hset hrb hrr hW hbo hcq
  refine callsIn_of_wp Try.func27 rfl trivial ?_ rfl
  simp only [Try.ntmps27, List.size_toArray, List.length_cons, List.length_nil, Nat.reduceAdd, Nat.reduceSub, Array.replicate_succ, Array.replicate_zero, List.push_toArray, List.append_toArray, List.nil_append, List.cons_append]
  gi_wp2_with fail
  refine ⟨trivial, (callsIn_wide.2 HSet.out).mono ?_⟩
  rintro e w1 ⟨rfl, hS⟩
  have hm1 := hS.get 0 rfl
  have hj1 := HBJ.out.more _ _ _ _ W.heap.size H0.out (grown_of_below hS.frm.below none) (Nat.le_refl _) (hS.lt 0 rfl _ (by simp [mapR]))
  obtain ⟨m, hm⟩ : ∃ m, m = W.heap.size := ⟨_, rfl⟩
  have hmF : m ∉ F0 := fun h => by have := HF0.out m h; omega
  rw [← hm] at hm1 hj1 ⊢
  have HM1 := Lib.hid hm1
  have HJ1 := Lib.hid hj1
  have HMF := Lib.hid hmF
  clear hm hm1 hj1 hS hmF hcp H0 HSet HF0
  gi_wp2
  gi_loopg [5, 6] (2 * NN + 1) (fun gk t mr wr => (∃ (k : Nat) (b : Bool), t = .bool b ∧ mr = .bool true ∧ gk = 2 * (NN - (its base E k).length) + (if b then 1 else 0) ∧ (b = false → its base E k = peel base E) ∧ MapAt Try.prog 9 wr m (setKv Value.string (keysS base (its base E k))) ∧ J (its base E k) (m :: F0) wr) ∨
      (∃ (b : Bool) (pre : List (ByteArray × Nat)), t = .bool b ∧ mr = .bool false ∧ pre <+: peel base E ∧ Jx pre (m :: F0) wr))
  case atStart => exact .inl ⟨0, true, rfl, rfl, by simp [its], (fun h => by cases h), by unfold keysS; rw [show its base E 0 = [] from rfl, List.map_nil, List.append_nil]; exact HM1.out, HJ1.out⟩
  case round =>
    rcases hrel with ⟨k, b, rfl, rfl, hgk, hfx, hMr, hJr⟩ | ⟨b, pre, rfl, rfl, hpre, hJx⟩
    · have HMr := Lib.hid hMr
      have HJr := Lib.hid hJr
      have HFx := Lib.hid hfx
      have HGk := Lib.hid hgk
      obtain ⟨_, hcq, _, hrr⟩ := HQ.out _ _ _ hJr
      clear hMr hJr hfx hgk
      cases b with
      | false =>
        clear hcq hrr
        gi_wp2
        go_end0
        exact ⟨⟨_, rfl⟩, .inl ⟨m :: F0, (fun x hx => by simp [hx]), by rw [← HFx.out (by first | rfl | trivial)]; exact HJr.out⟩⟩
      | true =>
        have hround := roundS_c (n - 1) l (by omega) J Jx F0 (m :: F0) m base a c rs (its base E k) wr HBJ.out (fun pre F W1 h => (HQ.out pre F W1 h).2.2.2) (fun x hx => by simp [hx]) (by simp) HMF.out
          (peel base E) (fun j hj => by rw [← HE.out]; exact rnd_peel k (by rw [HE.out, List.length_map]; exact hj)) (by have := peel_len (base := base) (eqs := E); rw [← HNN.out] at this; omega) (fun pre F x W1 h1 h2 h3 => yieldAt_wide (HY.out pre F x W1 h1 h2 h3)) hl HOk.out hbl HMr.out HJr.out
        rw [← HE.out] at hround
        have hEl : rs.length = E.length := by rw [HE.out, List.length_map]
        have hits : rnd base E rs.length (its base E k) = its base E (k + 1) := by rw [hEl]; rfl
        rw [hits] at hround
        have HRound := Lib.hid hround
        have HIts := Lib.hid hits
        clear hround hits hEl hrr
        gi_wp2_with fail
        refine ⟨trivial, HRound.out.mono ?_⟩
        rintro e W2 (⟨rfl, hM2, hJ2⟩ | ⟨b2, pre, rfl, hpre, hJx⟩)
        · have HM2 := Lib.hid hM2
          have HJ2 := Lib.hid hJ2
          have hg : grwS base E rs.length (its base E k) = decide ((its base E (k + 1)).length ≠ (its base E k).length) := by unfold grwS; rw [HIts.out]
          obtain ⟨b2, hb2⟩ : ∃ b2, b2 = grwS base E rs.length (its base E k) := ⟨_, rfl⟩
          rw [← hb2]
          have HB2 := Lib.hid (hb2.trans hg)
          clear hM2 hJ2 hg hb2 hcq HRound
          gi_wp2
          gi_roundg (2 * (NN - (its base E (k + 1)).length) + (if b2 then 1 else 0))
          case rel =>
            refine .inl ⟨k + 1, b2, rfl, rfl, rfl, fun h => ?_, HM2.out, HJ2.out⟩
            have h2 : ¬ (its base E (k + 1)).length ≠ (its base E k).length := by
              have := HB2.out
              rw [h] at this
              exact of_decide_eq_false this.symm
            have h3 : its base E (k + 1) = its base E k := (pre_eq (its_step k) (by omega)).symm
            rw [h3]
            exact peel_of_fix h3
          case measure =>
            have h1 := (its_step (base := base) (eqs := E) k).length_le
            have h2 := told_len (told_its (base := base) (eqs := E) (k + 1))
            rw [← HNN.out] at h2
            have h3 := HB2.out
            have h4 := HGk.out
            simp only [if_true] at h4
            cases b2 with
            | false => simp; omega
            | true =>
              have h5 : (its base E (k + 1)).length ≠ (its base E k).length := of_decide_eq_true h3.symm
              simp
              omega
        · have HPre := Lib.hid hpre
          have HJx := Lib.hid hJx
          clear hpre hJx hcq HRound
          gi_wp2
          gi_roundg 0
          case rel => exact .inr ⟨b2, pre, rfl, rfl, HPre.out, HJx.out⟩
          case measure =>
            have h4 := HGk.out
            simp only [if_true] at h4
            omega
    · have HPre := Lib.hid hpre
      have HJx := Lib.hid hJx
      clear hpre hJx
      cases b
      all_goals
        gi_wp2
        go_end0
        exact ⟨⟨_, rfl⟩, .inr ⟨pre, m :: F0, HPre.out, fun x hx => by simp [hx], HJx.out⟩⟩

set_option maxHeartbeats 1000000 in
theorem peelS_c (ab : Option Addr) (nb cb : Nat) (a : Option Addr) (nr c : Nat) (w : World) :
    Calls Try.prog 26 #[.slice ab nb cb, .slice a nr c] w fun e w' => e = .returned (.func (.func 27) #[] #[.pointer (some ⟨w.heap.size, 0, none⟩), .pointer (some ⟨w.heap.size + 1, 0, none⟩)]) ∧
      w' = (w.alloc (.cells #[.slice ab nb cb] 46)).alloc (.cells #[.slice a nr c] 47) := by
  go_enter Try.func26, Try.ntmps26
  go_wp2_with fail
  go_ret
  exact ⟨rfl, rfl⟩

end Go.Proofs.Ytdcpimnjdggabaa
