/-
  THE WALK of wire.Each[T], whatever the closure reads: T = []conflux/confluxref03.Got.
-/
import Derived.Test.YtdkbibfgebfeaaaGuG
import Derived.Test.YtdkbibfgebfeaaaWiQ
import Derived.Test.YtdkbibfgebfeaaaMany
import Derived.Test.YtdkbibfgebfeaaaPrm
import Derived.Deep.DeepCutAuto
import Derived.Deep.DeepMust
set_option linter.unusedVariables false
set_option linter.unusedSimpArgs false
namespace Go.Proofs.Ytdkbibfgebfeaaa
open Go.RowKit

theorem info_eachG : (Try.prog.info? 23).map (fun i => (i.zero, i.size, i.bytes)) = some (some (.slice none 0 0), 1, 24) := by kernel_rfl

/-- A round's head. -/
structure EachIG (w wr : World) {M β : Type} (pl : M → β) (val : M → Value) (thg : M → List Res) (rd : List Int → Except Int (β × Nat)) (n : Nat) (most : Int) (E : Except Int (List β)) (a : Option Addr) (m c : Nat) (zs : List Int) (o : Value) (ms : List M) (fu : Nat) : Prop where
  len : zs.length = m
  rdi : RdI .u8 w a zs
  byt : Byt zs
  cap : m ≤ c
  big : c ≤ 9223372036854775807
  nil : a = none → c = 0
  le : ms.length + m ≤ n
  fuel : m ≤ fu
  eq : E = eachF rd most fu zs (ms.map pl)
  sep : Sep [] w wr [manyR (ms.flatMap thg), ownR 23 1 o ms.length (ms.map val)]
def lenG (v : Value) : Nat := match v with | .slice _ n _ => n | _ => 0
/-- What comes of it. -/
def EachOkG (w : World) {M β : Type} (pl : M → β) (val : M → Value) (thg : M → List Res) (E : Except Int (List β)) (x : Ending) (W' : World) : Prop :=
  (∃ e, E = .error e ∧ e ≠ 0 ∧ x = .returned (.tuple #[.slice none 0 0, .int .i64 e]) ∧ Frm [] w W') ∨
  (∃ (v : Value) (ms : List M), E = .ok (ms.map pl) ∧ x = .returned (.tuple #[v, .int .i64 0]) ∧ Sep [] w W' [ownR 23 1 v ms.length (ms.map val), manyR (ms.flatMap thg)])

set_option maxRecDepth 100000 in
set_option maxHeartbeats 8000000 in
theorem eachG_c {f : FuncId} {caps : Array Value} (w : World) {M β : Type} (pl : M → β) (va : M → Option Addr) (vn vc : M → Nat) (thg : M → List Res) (rd : List Int → Except Int (β × Nat))
    (a : Option Addr) (c : Nat) (zs : List Int) (most : Int)
    (h1 : ∀ W, Frm [] w W → ∀ a' c' zs' x n, zs'.length ≤ zs.length → rd zs' = .ok (x, n) → Reads f caps W a' c' zs' (fun v L n' => n' = n ∧ ∃ m, pl m = x ∧ v = .slice (va m) (vn m) (vc m) ∧ L = thg m))
    (h2 : ∀ W, Frm [] w W → ∀ a' c' zs' e, zs'.length ≤ zs.length → rd zs' = .error e → e ≠ 0 ∧ Ends f caps W a' c' zs' e)
    (hcf : CallsF f) (hr : RdI .u8 w a zs) (hb : Byt zs) (hc : zs.length ≤ c) (hcm : c ≤ 9223372036854775807) (hn : a = none → c = 0) (hs : zs.length ≤ 1000000) :
    Calls Try.prog 21 #[.slice a zs.length c, .int .i64 most, .func (.func f) #[] caps] w (EachOkG w pl (fun m => .slice (va m) (vn m) (vc m)) thg (eachL rd most zs)) := by
  obtain ⟨i0, hi, hz0, hz1, hz2⟩ := info_parts info_eachG
  have HP1 := Lib.hid h1
  have HP2 := Lib.hid h2
  have HCf := Lib.hid hcf
  obtain ⟨E, hE⟩ : ∃ E, E = eachL rd most zs := ⟨_, rfl⟩
  rw [← hE]
  have HE := Lib.hid hE
  have HS := Lib.hid (((Sep.init w).nil 23 1).none)
  have HR := Lib.hid hr
  have HBy := Lib.hid hb
  have HN := Lib.hid hn
  obtain ⟨n, hnl⟩ : ∃ n, n = zs.length := ⟨_, rfl⟩
  rw [← hnl] at hc hs ⊢
  have HNl := Lib.hid hnl
  clear h1 h2 hE hr hb hn hcf hnl
  go_enter Try.func21, Try.ntmps21
  go_wp2_with fail
  go_loopw [0, 8] (fun b out wr => ∃ (a' : Option Addr) (m c' : Nat) (zs' : List Int) (o : Value) (ms : List M) (fu : Nat), b = .slice a' m c' ∧ o = out ∧ EachIG w wr pl (fun m => .slice (va m) (vn m) (vc m)) thg rd n most E a' m c' zs' o ms fu) (fun b _ _ => lenG b)
  case atStart => exact ⟨a, n, c, zs, _, [], n, rfl, rfl, HNl.out.symm, HR.out, HBy.out, hc, hcm, HN.out, by simp, Nat.le_refl _, by rw [HE.out, HNl.out]; rfl, HS.out⟩
  case round =>
    obtain ⟨a', m, c', zs', o, ms, fu, rfl, rfl, hI⟩ := hrel
    have HI := Lib.hid hI
    have hle := hI.le
    have hca := hI.cap
    have hbg := hI.big
    obtain ⟨ao, po, rfl, _, _⟩ := own_shape (hI.sep.own 1 rfl)
    clear hI
    by_cases h0 : m = 0
    · subst h0
      go_wp2_with fail
      refine bodyPost_ret (v := .tuple #[.slice ao ms.length po, .int .i64 0]) ?_ rfl (.inr ⟨_, ms, ?_, rfl, HI.out.sep.swap2⟩)
      · simp [results, Try.results21]
      · rw [HI.out.eq]; exact eachF_end fu HI.out.len
    · have hpos : 0 < m := by omega
      have t1 : (0 : Int) < (m : Int) := by omega
      clear h0
      cases hrd : rd zs' with
      | error e =>
        obtain ⟨he, hEn⟩ := HP2.out wr HI.out.sep.frm a' c' zs' e (by rw [HI.out.len, ← HNl.out]; omega) hrd
        have HC := Lib.hid (partG_err he hEn HCf.out (HI.out.rdi.below HI.out.sep.frm.below) HI.out.byt (by rw [HI.out.len]; exact HI.out.cap) HI.out.big HI.out.nil (by rw [HI.out.len]; omega))
        rw [HI.out.len] at HC
        have e1 : (e != 0) = true := by simpa using he
        have HF := Lib.hid (show E = .error e by rw [HI.out.eq]; exact eachF_error (by rw [HI.out.len]; exact HI.out.fuel) (by rw [HI.out.len]; exact hpos) hrd)
        have HEz := Lib.hid he
        clear hEn hrd he
        go_wp2_with fail
        refine HC.out.mono ?_
        rintro x w1 ⟨rfl, hF⟩
        have HFr := Lib.hid (HI.out.sep.frm.trans hF)
        clear hF HC
        go_wp2_with fail
        refine bodyPost_ret (v := .tuple #[.slice none 0 0, .int .i64 e]) ?_ rfl (.inl ⟨e, HF.out, HEz.out, rfl, HFr.out⟩)
        simp [results, Try.results21]
      | ok r =>
        obtain ⟨x, k⟩ := r
        have HC := Lib.hid (partG_ok (HP1.out wr HI.out.sep.frm a' c' zs' x k (by rw [HI.out.len, ← HNl.out]; omega) hrd) HCf.out (HI.out.rdi.below HI.out.sep.frm.below) HI.out.byt (by rw [HI.out.len]; exact HI.out.cap) HI.out.big HI.out.nil (by rw [HI.out.len]; omega))
        rw [HI.out.len] at HC
        have HRd := Lib.hid hrd
        clear hrd
        go_wp2_with fail
        refine HC.out.mono ?_
        rintro x w1 ⟨v, L, k', rfl, ⟨rfl, y, rfl, rfl, rfl⟩, hkm, hS⟩
        have HS1 := Lib.hid hS
        clear HC hS
        by_cases hk0 : k' = 0
        · subst hk0
          have HF := Lib.hid (show E = .error 21 by rw [HI.out.eq]; exact eachF_form (by rw [HI.out.len]; exact HI.out.fuel) (by rw [HI.out.len]; exact hpos) HRd.out)
          go_wp2_with fail
          refine bodyPost_ret (v := .tuple #[.slice none 0 0, .int .i64 21]) ?_ rfl (.inl ⟨21, HF.out, by decide, rfl, HI.out.sep.frm.trans HS1.out.frm⟩)
          simp [results, Try.results21]
        · have e2 : ((k' : Int) == 0) = false := by rw [beq_eq_false_iff_ne]; omega
          have hkp : 0 < k' := by omega
          clear hk0
          obtain ⟨q, hq⟩ : ∃ q : Int, q = if most < 0 then 0 else most := ⟨_, rfl⟩
          have q1 : (if most < 0 then 0 else most) = q := hq.symm
          have q2 : (if (0 : Int) > most then 0 else most) = q := by rw [hq]
          have hq0 : q ≤ (ms.length : Int) ↔ most ≤ (ms.length : Int) := by rw [hq]; split <;> omega
          by_cases hmo : q ≤ (ms.length : Int)
          · have e3 : decide (q ≤ (ms.length : Int)) = true := decide_eq_true hmo
            have HF := Lib.hid (show E = .error 3 by rw [HI.out.eq]; exact eachF_many (by rw [HI.out.len]; exact HI.out.fuel) (by rw [HI.out.len]; exact hpos) HRd.out hkp (by rw [List.length_map]; exact hq0.1 hmo))
            clear hq hq0 hmo
            go_wp2_with fail
            refine bodyPost_ret (v := .tuple #[.slice none 0 0, .int .i64 3]) ?_ rfl (.inl ⟨3, HF.out, by decide, rfl, HI.out.sep.frm.trans HS1.out.frm⟩)
            simp [results, Try.results21]
          · have e3 : decide (q ≤ (ms.length : Int)) = false := decide_eq_false hmo
            obtain ⟨fu', hfu, hEq⟩ := eachF_step (most := most) (out := ms.map pl) (by rw [HI.out.len]; exact HI.out.fuel) (by rw [HI.out.len]; exact hpos) HRd.out hkp (by rw [List.length_map]; exact fun h => hmo (hq0.2 h))
            have HF := Lib.hid (And.intro hfu (HI.out.eq.trans hEq))
            clear hq hq0 hmo hfu hEq
            have HS2 := Lib.hid ((HI.out.sep.more HS1.out).gather)
            have hml : ms.length ≤ 1000000 := by omega
            have s0 : (0 : Int) ≤ (k' : Int) := by omega
            have s1 : (k' : Int) ≤ (m : Int) := by omega
            have s2 : (m : Int) ≤ (c' : Int) := by omega
            obtain ⟨b', off', x0, _, rfl, _, _⟩ := HI.out.rdi.at_ 0 (by rw [HI.out.len]; exact hpos)
            clear HS1
            go_wp2_with (at_builtin; go_must (refine wpList_append_sep rfl _ _ 50 rfl 1 23 i0 (.slice none 0 0) 24 Try.underlying50 hi hz0 hz1 hz2 rfl _ _ _ rfl (HS2.out.skip _) rfl w1.heap.size 1 (.slice (va y) (vn y) (vc y)) rfl (World.cell?_alloc_at _ _ _ _ rfl) rfl (by unfold maxLen; omega) (by omega) ?_); intro g4 c4 w4 hS4; have HS4 := Lib.hid hS4; clear hS4)
            go_roundw
            case rel =>
              refine ⟨_, m - k', c' - k', zs'.drop k', _, ms ++ [y], fu', rfl, rfl, ?_⟩
              have hlen : (zs'.drop k').length = m - k' := by rw [List.length_drop, HI.out.len]
              refine ⟨hlen, HI.out.rdi.cutOff (by rw [HI.out.len]; exact hca), HI.out.byt.drop k', by omega, by omega, fun h => ?_, ?_, by rw [← hlen]; exact HF.out.1, ?_, ?_⟩
              · split at h <;> cases h
              · rw [List.length_append, List.length_singleton]; omega
              · rw [List.map_append]; exact HF.out.2
              · rw [List.flatMap_append, List.flatMap_singleton, List.length_append, List.length_singleton, List.map_append]; exact HS4.out
            case measure => simp [lenG]; omega

end Go.Proofs.Ytdkbibfgebfeaaa
