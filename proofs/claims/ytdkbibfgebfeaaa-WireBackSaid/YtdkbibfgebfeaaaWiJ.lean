/-
  THE WALKS: parse under Each; confluxref03.Each.
-/
import Derived.Test.YtdkbibfgebfeaaaWiH
import Derived.Test.YtdkbibfgebfeaaaEaG
set_option linter.unusedVariables false
set_option linter.unusedSimpArgs false
namespace Go.Proofs.Ytdkbibfgebfeaaa
open Go.RowKit

/-- What one reading gave: its slice, its things. -/
structure EV where
  a : Option Addr
  n : Nat
  c : Nat
  gs : List GtV
def EV.val (m : EV) : Value := .slice m.a m.n m.c
def EV.pl (m : EV) : List Gt := m.gs.map GtV.gt
def EV.thg (m : EV) : List Res := [gotsR (.slice m.a m.n m.c) m.gs, bodR m.gs]
theorem parse_okE {w : World} {sb : Nat} {ad : Option Addr} {cs : Nat} {ss : List Stp} (hk : Blk w sb 22 #[.slice ad ss.length cs]) (hs : Steps w ad ss)
    (a : Option Addr) (c : Nat) (zs : List Int) (out : List Gt) (n : Nat) (ho : runL zs ss = .ok (out, n)) :
    Reads 43 #[.pointer (some ⟨sb, 0, none⟩)] w a c zs (fun v L n' => n' = n ∧ ∃ m : EV, m.pl = out ∧ v = .slice m.a m.n m.c ∧ L = m.thg) := by
  intro W g hf hg hR
  refine (parse_ok hk hs.rd hs.le a c zs out n ho W g hf hg hR).mono ?_
  rintro x W' ⟨v, L, n', rfl, ⟨rfl, gs, hgs, rfl⟩, hn, hS⟩
  obtain ⟨a', c', rfl, _, _⟩ := own_shape (hS.get 1 rfl)
  exact ⟨_, _, n', rfl, ⟨rfl, ⟨a', gs.length, c', gs⟩, hgs, rfl, rfl⟩, hn, hS⟩
theorem eachF_mem {β : Type} {rd : List Int → Except Int (β × Nat)} {most : Int} (N : Nat) : ∀ (f : Nat) (zs : List Int) (out outs : List β), zs.length ≤ N → eachF rd most f zs out = .ok outs → (∀ x ∈ out, ∃ zs' n, zs'.length ≤ N ∧ rd zs' = .ok (x, n)) → ∀ x ∈ outs, ∃ zs' n, zs'.length ≤ N ∧ rd zs' = .ok (x, n) := by
  intro f
  induction f with
  | zero => intro zs out outs _ h hx; injection h with h; subst h; exact hx
  | succ f ih =>
    intro zs out outs hl h hx
    unfold eachF at h
    split at h
    · injection h with h; subst h; exact hx
    · split at h
      · cases h
      · rename_i x n hr
        split at h
        · cases h
        · split at h
          · cases h
          · refine ih (zs.drop n) (out ++ [x]) outs (by rw [List.length_drop]; omega) h (fun y hy => ?_)
            rcases List.mem_append.1 hy with hy | hy
            · exact hx y hy
            · simp at hy; subst hy; exact ⟨zs, n, hl, hr⟩

/-- What Each gives. -/
def EachP (w : World) (outs : List (List Gt)) (e : Int) (x : Ending) (W' : World) : Prop :=
  ∃ (v : Value) (ms : List EV), ms.map EV.pl = outs ∧ x = .returned (.tuple #[v, .int .i64 e]) ∧ Sep [] w W' [ownR 23 1 v ms.length (ms.map EV.val), manyR (ms.flatMap EV.thg)]
def eachO (zs : List Int) (ss : List Stp) (most : Int) : List (List Gt) := match eachL (fun z => runL z ss) most zs with | .error _ => [] | .ok o => o
def eachE (zs : List Int) (ss : List Stp) (most : Int) : Int := match eachL (fun z => runL z ss) most zs with | .error e => e | .ok _ => 0
theorem eachO_small {zs : List Int} {ss : List Stp} {most : Int} : ∀ o ∈ eachO zs ss most, o.length = ss.length ∧ ∀ g ∈ o, g.B.length ≤ zs.length := by
  intro o ho
  unfold eachO at ho
  split at ho
  · cases ho
  · rename_i outs he
    obtain ⟨zs', n, hl, hr⟩ := eachF_mem zs.length zs.length zs [] outs (Nat.le_refl _) he (by simp) o ho
    exact ⟨(runL_le ss hr).2, fun g hg => Nat.le_trans (runL_small ss hr g hg) hl⟩
theorem noeach {w W' : World} (h : Frm [] w W') : Sep [] w W' [ownR 23 1 (.slice none 0 0) 0 [], manyR []] := (((Sep.init w).keep h).none).nil _ 1

theorem each_v {w : World} {a : Option Addr} {c : Nat} {zs : List Int} (hb : Bytes w a c zs) {sb : Nat} {ad : Option Addr} {cs : Nat} {ss : List Stp} (hs : Steps w ad ss) (hk : Blk w sb 22 #[.slice ad ss.length cs]) (most : Int) :
    Calls Try.prog 21 #[.slice a zs.length c, .int .i64 most, .func (.func 43) #[] #[.pointer (some ⟨sb, 0, none⟩)]] w (EachP w (eachO zs ss most) (eachE zs ss most)) := by
  refine (eachG_c w EV.pl EV.a EV.n EV.c EV.thg (fun z => runL z ss) a c zs most (fun W hW a' c' zs' x n _ h => parse_okE (hW.blk hk (by simp)) (hs.frm hW) a' c' zs' x n h) (fun W hW a' c' zs' e _ h => ⟨runL_ne ss h, parse_err (hW.blk hk (by simp)) (hs.frm hW).rd hs.le a' c' zs' e h⟩) callsF_parse hb.rd hb.byt hb.cap hb.big hb.nil hb.sm).mono ?_
  rintro x W' (⟨e, he, _, rfl, hF⟩ | ⟨v, ms, he, rfl, hS⟩)
  · exact ⟨_, [], by unfold eachO; rw [he]; rfl, by unfold eachE; rw [he], noeach hF⟩
  · exact ⟨v, ms, by unfold eachO; rw [he], by unfold eachE; rw [he], hS⟩

end Go.Proofs.Ytdkbibfgebfeaaa
