/-
  READING BY STEPS, program and reference under one word; bytes that may be written.
-/
import Derived.Test.YtdkbibfgebfeaaaWiG
import Derived.Test.YtdkbibfgebfeaaaWiC
import Derived.Test.YtdkbibfgebfeaaaGuG
set_option linter.unusedVariables false
set_option linter.unusedSimpArgs false
namespace Go.Proofs.Ytdkbibfgebfeaaa
open Go.RowKit

def runO (zs : List Int) (ss : List Stp) : List Gt := match runL zs ss with | .error _ => [] | .ok (o, _) => o
def runN (zs : List Int) (ss : List Stp) : Nat := match runL zs ss with | .error _ => 0 | .ok (_, n) => n
def runE (zs : List Int) (ss : List Stp) : Int := match runL zs ss with | .error e => e | .ok _ => 0
def whoO (zs : List Int) (ss : List Stp) : List Gt := match wholeL zs ss with | .error _ => [] | .ok o => o
def whoE (zs : List Int) (ss : List Stp) : Int := match wholeL zs ss with | .error e => e | .ok _ => 0
theorem runO_len (zs : List Int) (ss : List Stp) : (runO zs ss).length ≤ ss.length := by
  unfold runO
  split
  · simp
  · rename_i o n hr
    rw [(runL_le ss hr).2]
    exact Nat.le_refl _
theorem whoO_len (zs : List Int) (ss : List Stp) : (whoO zs ss).length ≤ ss.length := by
  unfold whoO wholeL
  cases hr : runL zs ss with
  | error e => simp
  | ok r =>
    obtain ⟨o, n⟩ := r
    have := (runL_le ss hr).2
    by_cases h : n < zs.length
    · simp [h]
    · simp [h]; omega
/-- What is read, and how far. -/
def PartP (w : World) (o : List Gt) (n : Nat) (e : Int) (N : Nat) (x : Ending) (W' : World) : Prop :=
  ∃ (v : Value) (gs : List GtV), gs.map GtV.gt = o ∧ x = .returned (.tuple #[v, .int .i64 (n : Int), .int .i64 e]) ∧ (∀ g ∈ gs, g.B.length ≤ N) ∧ Sep [] w W' [bodR gs, gotsR v gs]
/-- What is read of all. -/
def ReadP (w : World) (o : List Gt) (e : Int) (N : Nat) (x : Ending) (W' : World) : Prop :=
  ∃ (v : Value) (gs : List GtV), gs.map GtV.gt = o ∧ x = .returned (.tuple #[v, .int .i64 e]) ∧ (∀ g ∈ gs, g.B.length ≤ N) ∧ Sep [] w W' [bodR gs, gotsR v gs]
theorem nogots {w W' : World} (h : Frm [] w W') : Sep [] w W' [bodR [], gotsR (.slice none 0 0) []] := (((Sep.init w).keep h).nil 28 2).none
theorem small_of {zs : List Int} {ss : List Stp} {gs : List GtV} {n : Nat} (h : runL zs ss = .ok (gs.map GtV.gt, n)) : ∀ g ∈ gs, g.B.length ≤ zs.length := fun g hg => runL_small ss h g.gt (List.mem_map.2 ⟨g, hg, rfl⟩)

structure Bytes (w : World) (a : Option Addr) (c : Nat) (zs : List Int) : Prop where
  rd : RdI .u8 w a zs
  byt : Byt zs
  cap : zs.length ≤ c
  big : c ≤ 9223372036854775807
  nil : a = none → c = 0
  sm : zs.length ≤ 1000000
theorem Bytes.frm {w w' : World} {a : Option Addr} {c : Nat} {zs : List Int} (h : Bytes w a c zs) (hf : Frm [] w w') : Bytes w' a c zs := ⟨h.rd.below hf.below, h.byt, h.cap, h.big, h.nil, h.sm⟩
structure Steps (w : World) (a : Option Addr) (ss : List Stp) : Prop where
  rd : RdS 2 w a (ss.map Stp.row)
  le : ss.length ≤ 100
  n : ∀ s ∈ ss, -9223372036854775808 ≤ s.n ∧ s.n ≤ 9223372036854775807
theorem Steps.frm {w w' : World} {a : Option Addr} {ss : List Stp} (h : Steps w a ss) (hf : Frm [] w w') : Steps w' a ss := ⟨h.rd.low hf (by simp), h.le, h.n⟩

theorem part_v {w : World} {a : Option Addr} {c : Nat} {zs : List Int} (hb : Bytes w a c zs) {sb : Nat} {ad : Option Addr} {cs : Nat} {ss : List Stp} (hs : Steps w ad ss) (hk : Blk w sb 22 #[.slice ad ss.length cs]) :
    Calls Try.prog 19 #[.slice a zs.length c, .func (.func 43) #[] #[.pointer (some ⟨sb, 0, none⟩)]] w (PartP w (runO zs ss) (runN zs ss) (runE zs ss) zs.length) := by
  cases hr : runL zs ss with
  | error e =>
    refine (partG_err (runL_ne ss hr) (parse_err hk hs.rd hs.le a c zs e hr) callsF_parse hb.rd hb.byt hb.cap hb.big hb.nil hb.sm).mono ?_
    rintro x W' ⟨rfl, hF⟩
    exact ⟨_, [], by unfold runO; rw [hr]; rfl, by unfold runN runE; rw [hr]; rfl, by simp, nogots hF⟩
  | ok r =>
    obtain ⟨o, n⟩ := r
    refine (partG_ok (parse_ok hk hs.rd hs.le a c zs o n hr) callsF_parse hb.rd hb.byt hb.cap hb.big hb.nil hb.sm).mono ?_
    rintro x W' ⟨v, L, n', rfl, ⟨rfl, gs, hg, rfl⟩, _, hS⟩
    exact ⟨v, gs, by unfold runO; rw [hr]; exact hg, by unfold runN runE; rw [hr], small_of (by rw [hg]; exact hr), hS.swap2⟩
theorem rrun_v {w : World} {a : Option Addr} {c : Nat} {zs : List Int} (hb : Bytes w a c zs) {ad : Option Addr} {cs : Nat} {ss : List Stp} (hs : Steps w ad ss) :
    Calls Try.prog 20 #[.slice a zs.length c, .slice ad ss.length cs] w (PartP w (runO zs ss) (runN zs ss) (runE zs ss) zs.length) := by
  refine (rrun_c w a c zs hb.rd hb.byt hb.cap hb.big hb.nil hb.sm ad cs ss hs.rd hs.le hs.n).mono ?_
  rintro x W' (⟨e, hr, rfl, hF⟩ | ⟨v, gs, n, hr, _, rfl, hS⟩)
  · exact ⟨_, [], by unfold runO; rw [hr]; rfl, by unfold runN runE; rw [hr]; rfl, by simp, nogots hF⟩
  · exact ⟨v, gs, by unfold runO; rw [hr], by unfold runN runE; rw [hr], small_of hr, hS⟩
theorem read_v {w : World} {a : Option Addr} {c : Nat} {zs : List Int} (hb : Bytes w a c zs) {sb : Nat} {ad : Option Addr} {cs : Nat} {ss : List Stp} (hs : Steps w ad ss) (hk : Blk w sb 22 #[.slice ad ss.length cs]) :
    Calls Try.prog 15 #[.slice a zs.length c, .func (.func 43) #[] #[.pointer (some ⟨sb, 0, none⟩)]] w (ReadP w (whoO zs ss) (whoE zs ss) zs.length) := by
  cases hr : runL zs ss with
  | error e =>
    refine (readG_err (runL_ne ss hr) (parse_err hk hs.rd hs.le a c zs e hr) callsF_parse hb.rd hb.byt hb.cap hb.big hb.nil hb.sm).mono ?_
    rintro x W' ⟨rfl, hF⟩
    have hw : wholeL zs ss = .error e := by unfold wholeL; rw [hr]
    exact ⟨_, [], by unfold whoO; rw [hw]; rfl, by unfold whoE; rw [hw], by simp, nogots hF⟩
  | ok r =>
    obtain ⟨o, n⟩ := r
    refine (readG_ok (parse_ok hk hs.rd hs.le a c zs o n hr) callsF_parse hb.rd hb.byt hb.cap hb.big hb.nil hb.sm).mono ?_
    rintro x W' ⟨v, L, n', ⟨rfl, gs, hg, rfl⟩, _, hS, ⟨hl, rfl⟩ | ⟨hl, rfl⟩⟩
    · have hw : wholeL zs ss = .ok o := by unfold wholeL; rw [hr]; simp only; rw [if_neg (by omega)]
      exact ⟨v, gs, by unfold whoO; rw [hw]; exact hg, by unfold whoE; rw [hw], small_of (by rw [hg]; exact hr), hS.swap2⟩
    · have hw : wholeL zs ss = .error 22 := by unfold wholeL; rw [hr]; simp only; rw [if_pos hl]
      exact ⟨_, [], by unfold whoO; rw [hw]; rfl, by unfold whoE; rw [hw], by simp, nogots hS.frm⟩
theorem rwhole_v {w : World} {a : Option Addr} {c : Nat} {zs : List Int} (hb : Bytes w a c zs) {ad : Option Addr} {cs : Nat} {ss : List Stp} (hs : Steps w ad ss) :
    Calls Try.prog 17 #[.slice a zs.length c, .slice ad ss.length cs] w (ReadP w (whoO zs ss) (whoE zs ss) zs.length) := by
  refine (rwhole_c w a c zs hb.rd hb.byt hb.cap hb.big hb.nil hb.sm ad cs ss hs.rd hs.le hs.n).mono ?_
  rintro x W' (⟨e, hr, rfl, hF⟩ | ⟨v, gs, hr, hsm, rfl, hS⟩)
  · exact ⟨_, [], by unfold whoO; rw [hr]; rfl, by unfold whoE; rw [hr], by simp, nogots hF⟩
  · exact ⟨v, gs, by unfold whoO; rw [hr], by unfold whoE; rw [hr], hsm, hS⟩

/-- Bytes of the call's own, whatever they are. -/
def looR (vs : List (Value × Nat)) : Res :=
  ⟨vs.flatMap fun p => p.1.ownBlock.toList, fun w => ∀ p ∈ vs, ∃ xs, xs.length = p.2 ∧ (sumR p.1 xs).P w,
   fun w w' h hp p hm => by
     obtain ⟨xs, hl, hx⟩ := hp p hm
     exact ⟨xs, hl, (sumR p.1 xs).stays w w' (fun k hk => h k (List.mem_flatMap.2 ⟨p, hm, hk⟩)) hx⟩,
   fun w hp k hk => by
     obtain ⟨p, hm, hk'⟩ := List.mem_flatMap.1 hk
     obtain ⟨xs, _, hx⟩ := hp p hm
     exact (sumR p.1 xs).lies w hx k hk'⟩
def shpG (gs : List GtV) : List (Value × Nat) := gs.map fun g => (g.bv, g.B.length)
theorem Sep.loose {S : List Nat} {w0 w : World} {gs : List GtV} {L : List Res} (h : Sep S w0 w (bodR gs :: L)) : Sep S w0 w (looR (shpG gs) :: L) := by
  have hb : ∀ k, k ∈ (looR (shpG gs)).bl ↔ k ∈ (bodR gs).bl := fun k => by
    constructor
    · intro hk
      obtain ⟨p, hm, hk'⟩ := List.mem_flatMap.1 hk
      obtain ⟨g, hg, rfl⟩ := List.mem_map.1 hm
      exact List.mem_flatMap.2 ⟨sumR g.bv g.B, List.mem_map.2 ⟨g, hg, rfl⟩, hk'⟩
    · intro hk
      obtain ⟨r, hr, hk'⟩ := List.mem_flatMap.1 hk
      obtain ⟨g, hg, rfl⟩ := List.mem_map.1 hr
      exact List.mem_flatMap.2 ⟨(g.bv, g.B.length), List.mem_map.2 ⟨g, hg, rfl⟩, hk'⟩
  have hp := List.pairwise_cons.1 h.apart
  refine ⟨h.frm, fun r hr => ?_, List.pairwise_cons.2 ⟨fun s hs k hk => hp.1 s hs k ((hb k).1 hk), hp.2⟩, fun r hr k hk => ?_⟩
  · rcases List.mem_cons.1 hr with rfl | hr
    · intro p hm
      obtain ⟨g, hg, rfl⟩ := List.mem_map.1 hm
      exact ⟨g.B, rfl, (h.get 0 rfl) (sumR g.bv g.B) (List.mem_map.2 ⟨g, hg, rfl⟩)⟩
    · exact h.holds r (by simp [hr])
  · rcases List.mem_cons.1 hr with rfl | hr
    · exact h.mine _ (by simp) k ((hb k).1 hk)
    · exact h.mine r (by simp [hr]) k hk
theorem loose_put {S : List Nat} {w0 w : World} {vs : List (Value × Nat)} {L : List Res} (h : Sep S w0 w (looR vs :: L)) {g n c : Nat} {m : Nat} (hm : (Value.slice (some ⟨g, 0, none⟩) n c, m) ∈ vs) (i : Nat) (u : Int) :
    Sep S w0 (w.setCell ⟨g, i, none⟩ (.int .u8 u)) (looR vs :: L) := by
  refine h.write 0 rfl (F := [g]) ((Frm.refl [g] w).put (.inl (by simp)) i none _) (fun k hk => ?_) (r' := looR vs) (fun p hp => ?_) (fun k hk => .inl hk)
  · simp at hk; subst hk
    exact List.mem_flatMap.2 ⟨_, hm, by simp [Value.ownBlock]⟩
  · obtain ⟨xs, hl, hx⟩ := (h.get 0 rfl) p hp
    rcases row_form hx with ⟨hv, h0⟩ | ⟨g', c', hv⟩
    · refine ⟨xs, hl, ?_⟩
      refine (sumR p.1 xs).stays w _ (fun k hk => ?_) hx
      rw [hv] at hk
      simp [sumR, ownR, Value.ownBlock] at hk
    · by_cases e : g' = g
      · subst e
        obtain ⟨pv, pn⟩ := p
        simp only at hv hx hl
        subst hv
        exact ⟨xs.set i u, by rw [List.length_set]; exact hl, by
          have := own_put (k := .u8) hx i u
          unfold sumR ownR
          rw [List.length_set]
          exact this⟩
      · refine ⟨xs, hl, ?_⟩
        refine (sumR p.1 xs).stays w _ (fun k hk => ?_) hx
        rw [hv] at hk
        simp [sumR, ownR, Value.ownBlock] at hk
        exact Below.heap_setCell w _ _ k (by rw [hk]; exact e)
theorem loose_cell {S : List Nat} {w0 w : World} {vs : List (Value × Nat)} {L : List Res} (h : Sep S w0 w (looR vs :: L)) {p : Value × Nat} (hm : p ∈ vs) :
    (p.2 = 0 ∧ p.1 = .slice none 0 0) ∨ ∃ g c, p.1 = .slice (some ⟨g, 0, none⟩) p.2 c ∧ g < w.heap.size ∧ ∀ i, i < p.2 → (∃ x, w.cell? ⟨g, i, none⟩ = some (.int .u8 x)) ∧ w.frozen? ⟨g, i, none⟩ = false := by
  obtain ⟨xs, hl, hx⟩ := (h.get 0 rfl) p hm
  obtain ⟨pv, pn⟩ := p
  simp only at hl hx ⊢
  subst hl
  rcases row_form hx with ⟨hv, h0⟩ | ⟨g, c, hv⟩
  · exact .inl ⟨h0, hv⟩
  · subst hv
    exact .inr ⟨g, c, rfl, (sumR _ xs).lies w hx g (by simp [sumR, ownR, Value.ownBlock]), fun i hi => ⟨⟨_, row_cell hx i hi⟩, row_free hx i⟩⟩

end Go.Proofs.Ytdkbibfgebfeaaa
