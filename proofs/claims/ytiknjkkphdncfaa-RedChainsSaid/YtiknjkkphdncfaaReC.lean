/-
  red.Parse: what it gives.
-/
import Derived.Test.YtiknjkkphdncfaaReB
import Derived.Test.YtiknjkkphdncfaaGuB
set_option linter.unusedVariables false
set_option linter.unusedSimpArgs false
namespace Go.Proofs.Ytiknjkkphdncfaa
open Go.RowKit

theorem bksL_snoc (zs : List Int) (at_ : Nat) (l : List Hd) (h : Hd) : bksL zs at_ (l ++ [h]) = bkStep zs (bksL zs at_ l) h := by simp [bksL]
theorem bksL_le {zs : List Int} {at_ : Nat} (hs : List Hd) : ∀ {out : List Bk} {n : Nat}, bksL zs at_ hs = .ok (out, n) → out.length = hs.length ∧ (∀ b ∈ out, b.B.length ≤ zs.length) := by
  refine wsnoc_ind (p := fun hs => ∀ {out : List Bk} {n : Nat}, bksL zs at_ hs = .ok (out, n) → out.length = hs.length ∧ (∀ b ∈ out, b.B.length ≤ zs.length)) ?_ ?_ hs
  · intro out n h
    unfold bksL at h
    injection h with h; injection h with h1 h2
    subst h1
    simp
  · intro l s ih out n h
    rw [bksL_snoc] at h
    unfold bkStep at h
    split at h
    · cases h
    · rename_i o a hr
      obtain ⟨h1, h2⟩ := ih hr
      split at h
      · cases h
      · rename_i b m hb
        injection h with h; injection h with h3 h4
        subst h3
        refine ⟨by simp [h1], fun x hx => ?_⟩
        rcases List.mem_append.1 hx with hx | hx
        · exact h2 x hx
        · simp at hx
          subst hx
          unfold bkOne at hb
          split at hb
          · cases hb
          · injection hb with hb; injection hb with h5 h6
            subst h5
            simp only
            unfold cut
            rw [List.length_take, List.length_drop]
            omega
theorem bks_last {zs : List Int} {at_ : Nat} {l : List Hd} {h : Hd} (hl : h.last = true) {out : List Bk} {n : Nat} (he : bksL zs at_ (l ++ [h]) = .ok (out, n)) : n = zs.length := by
  rw [bksL_snoc] at he
  unfold bkStep at he
  split at he
  · cases he
  · rename_i o a hr
    split at he
    · cases he
    · rename_i b m hb
      injection he with he; injection he with h3 h4
      subst h4
      unfold bkOne hdLen at hb
      rw [if_pos hl] at hb
      split at hb
      · cases hb
      · injection hb with hb; injection hb with h5 h6
        omega
theorem hdsF_last : ∀ (f : Nat) (zs : List Int) (at_ : Nat) (hs : List Hd) {hs' : List Hd} {n : Nat}, hdsF f zs at_ hs = .ok (hs', n) → ∃ l h, hs' = l ++ [h] ∧ h.last = true
  | 0, zs, at_, hs, hs', n, h => by cases h
  | f + 1, zs, at_, hs, hs', n, h => by
    unfold hdsF at h
    split at h
    · cases h
    · rename_i x m hx
      split at h
      · cases h
      · split at h
        · rename_i hl
          injection h with h; injection h with h1 h2
          exact ⟨hs, x, h1.symm, hl⟩
        · exact hdsF_last f zs m (hs ++ [x]) h
theorem hdsF_len : ∀ (f : Nat) (zs : List Int) (at_ : Nat) (hs : List Hd) {hs' : List Hd} {n : Nat}, hdsF f zs at_ hs = .ok (hs', n) → hs'.length ≤ hs.length + f
  | 0, zs, at_, hs, hs', n, h => by cases h
  | f + 1, zs, at_, hs, hs', n, h => by
    unfold hdsF at h
    split at h
    · cases h
    · rename_i x m hx
      split at h
      · cases h
      · split at h
        · injection h with h; injection h with h1 h2
          subst h1
          simp
        · have := hdsF_len f zs m (hs ++ [x]) h
          simp at this
          omega
theorem hdOne_ne {zs : List Int} {at_ : Nat} {e : Int} (h : hdOne zs at_ = .error e) : e ≠ 0 := by
  unfold hdOne at h
  split at h
  · injection h with h; omega
  · split at h
    · cases h
    · split at h
      · injection h with h; omega
      · cases h
theorem hdsF_ne : ∀ (f : Nat) (zs : List Int) (at_ : Nat) (hs : List Hd) {e : Int}, hdsF f zs at_ hs = .error e → e ≠ 0
  | 0, zs, at_, hs, e, h => by injection h with h; omega
  | f + 1, zs, at_, hs, e, h => by
    unfold hdsF at h
    split at h
    · rename_i e' he
      injection h with h
      subst h
      exact hdOne_ne he
    · split at h
      · injection h with h; omega
      · split at h
        · cases h
        · exact hdsF_ne f _ _ _ h
theorem bksL_ne {zs : List Int} {at_ : Nat} (hs : List Hd) : ∀ {e : Int}, bksL zs at_ hs = .error e → e ≠ 0 := by
  refine wsnoc_ind (p := fun hs => ∀ {e : Int}, bksL zs at_ hs = .error e → e ≠ 0) (fun h => by cases h) ?_ hs
  intro l s ih e h
  rw [bksL_snoc] at h
  unfold bkStep at h
  split at h
  · rename_i e' hr
    injection h with h
    subst h
    exact ih hr
  · split at h
    · rename_i e' hr
      injection h with h
      subst h
      unfold bkOne at hr
      split at hr
      · injection hr with hr; omega
      · cases hr
    · cases h
theorem chainL_ne {zs : List Int} {e : Int} (h : chainL zs = .error e) : e ≠ 0 := by
  unfold chainL at h
  split at h
  · rename_i e' he
    injection h with h
    subst h
    exact hdsF_ne _ _ _ _ he
  · exact bksL_ne _ h
theorem chainL_ok {zs : List Int} {out : List Bk} {n : Nat} (h : chainL zs = .ok (out, n)) : n = zs.length ∧ 0 < out.length ∧ out.length ≤ 9 ∧ ∀ b ∈ out, b.B.length ≤ zs.length := by
  unfold chainL at h
  split at h
  · cases h
  · rename_i hs at_ he
    obtain ⟨l, x, rfl, hl⟩ := hdsF_last _ _ _ _ he
    have h1 := bksL_le _ h
    have h2 := hdsF_len _ _ _ _ he
    refine ⟨bks_last hl h, ?_, ?_, h1.2⟩
    · rw [h1.1]; simp
    · rw [h1.1]; simpa using h2

def chO (zs : List Int) : List Bk := match chainL zs with | .error _ => [] | .ok (o, _) => o
def chE (zs : List Int) : Int := match chainL zs with | .error e => e | .ok _ => 0
/-- What Parse gives. -/
def ParseP (w : World) (o : List Bk) (e : Int) (N : Nat) (x : Ending) (W' : World) : Prop :=
  ∃ (v : Value) (bs : List BkV), bs.map BkV.bk = o ∧ x = .returned (.tuple #[v, .int .i64 e]) ∧ (∀ b ∈ bs, b.B.length ≤ N) ∧ Sep [] w W' [blksR v bs, dataR bs]
theorem noblks {w W' : World} (h : Frm [] w W') : Sep [] w W' [blksR (.slice none 0 0) [], dataR []] := (((Sep.init w).keep h).none).nil 50 3
theorem callsF_parse : CallsF 27 := fun _ _ => rfl
structure Bytes (w : World) (a : Option Addr) (c : Nat) (zs : List Int) : Prop where
  rd : RdI .u8 w a zs
  byt : Byt zs
  cap : zs.length ≤ c
  big : c ≤ 9223372036854775807
  nil : a = none → c = 0
  sm : zs.length ≤ 1000000
theorem Bytes.frm {w w' : World} {a : Option Addr} {c : Nat} {zs : List Int} (h : Bytes w a c zs) (hf : Frm [] w w') : Bytes w' a c zs := ⟨h.rd.below hf.below, h.byt, h.cap, h.big, h.nil, h.sm⟩

theorem read_v {w : World} {a : Option Addr} {c : Nat} {zs : List Int} (hb : Bytes w a c zs) :
    Calls Try.prog 26 #[.slice a zs.length c, .func (.func 27) #[] #[]] w (ParseP w (chO zs) (chE zs) zs.length) := by
  cases hr : chainL zs with
  | error e =>
    refine (readB_err (chainL_ne hr) (fun W g hf hg hR => ?_) callsF_parse hb.rd hb.byt hb.cap hb.big hb.nil hb.sm).mono ?_
    · refine (parse_p (w := w) hR).mono ?_
      rw [hr]
      exact fun x W' h => h
    · rintro x W' ⟨rfl, hF⟩
      exact ⟨_, [], by unfold chO; rw [hr]; rfl, by unfold chE; rw [hr], by simp, noblks hF⟩
  | ok r =>
    obtain ⟨o, n⟩ := r
    obtain ⟨rfl, _, _, hsm⟩ := chainL_ok hr
    refine (readB_ok (Ok := fun v L n' => n' = zs.length ∧ ∃ bs : List BkV, bs.map BkV.bk = o ∧ L = [blksR v bs, dataR bs]) (fun W g hf hg hR => ?_) callsF_parse hb.rd hb.byt hb.cap hb.big hb.nil hb.sm).mono ?_
    · refine (parse_p (w := w) hR).mono ?_
      rw [hr]
      rintro x W' ⟨hn, v, bs, hbs, rfl, hS⟩
      exact ⟨v, _, _, rfl, ⟨rfl, bs, hbs, rfl⟩, hn, hS⟩
    · rintro x W' ⟨v, L, n', ⟨rfl, bs, hbs, rfl⟩, _, hS, ⟨_, rfl⟩ | ⟨hl, _⟩⟩
      · exact ⟨v, bs, by unfold chO; rw [hr]; exact hbs, by unfold chE; rw [hr], (fun b hb => by have := hsm b.bk (by rw [← hbs]; exact List.mem_map.2 ⟨b, hb, rfl⟩); exact this), hS⟩
      · omega

set_option maxHeartbeats 1000000 in
theorem Parse_c {w : World} {a : Option Addr} {c : Nat} {zs : List Int} (hb : Bytes w a c zs) :
    Calls Try.prog 12 #[.slice a zs.length c] w (ParseP w (chO zs) (chE zs) zs.length) := by
  have HC := Lib.hid (read_v hb)
  clear hb
  go_enter Try.func12, Try.ntmps12
  go_wp2_with fail
  refine HC.out.mono ?_
  rintro x w1 ⟨v, bs, hbs, rfl, hsm, hS⟩
  have HS := Lib.hid (And.intro hbs (And.intro hsm hS))
  clear hbs hsm hS HC
  go_wp2_with fail
  refine bodyPost_ret (v := .tuple #[v, .int .i64 (chE zs)]) ?_ rfl ⟨v, bs, HS.out.1, rfl, HS.out.2.1, HS.out.2.2⟩
  simp [results, Try.results12]

end Go.Proofs.Ytiknjkkphdncfaa
