/-
  THE WALKS of package serial: which one is newer, what is added, the span, sorting few numbers.
-/
import Derived.Test.YtkpkfgnebgcoaaaSrt
set_option linter.unusedVariables false
set_option linter.unusedSimpArgs false
namespace Go.Proofs.Ytkpkfgnebgcoaaa
open Go.RowKit

theorem ret_tup2 {a a' b b' : Value} (h : a = a') (k : b = b') : Ending.returned (.tuple #[a, b]) = .returned (.tuple #[a', b']) := by rw [h, k]

def newer (a b : Int) : Bool := decide (0 < ah16 a b)
def later (a b : Int) : Int := if newer b a = true then b else a

set_option maxHeartbeats 400000 in
theorem newer_c (a b : Int) (w : World) (a0 : 0 ≤ a) (a1 : a ≤ 65535) (b0 : 0 ≤ b) (b1 : b ≤ 65535) :
    Calls Try.prog 14 #[.int .u16 a, .int .u16 b] w fun e w' => e = .returned (.bool (newer a b)) ∧ w = w' := by
  go_enter Try.func14, Try.ntmps14
  go_wp2_with fail
  refine (ahead_c a b _ a0 a1 b0 b1).mono ?_
  rintro e w' ⟨rfl, rfl⟩
  go_wp2_with fail
  go_ret
  exact ⟨rfl, rfl⟩

set_option maxHeartbeats 400000 in
theorem max_c (a b : Int) (w : World) (a0 : 0 ≤ a) (a1 : a ≤ 65535) (b0 : 0 ≤ b) (b1 : b ≤ 65535) :
    Calls Try.prog 15 #[.int .u16 a, .int .u16 b] w fun e w' => e = .returned (.int .u16 (later a b)) ∧ w = w' := by
  obtain ⟨n, hn⟩ : ∃ n, n = newer b a := ⟨_, rfl⟩
  have hl : later a b = if n = true then b else a := by unfold later; rw [hn]
  rw [hl]
  have HN := Lib.hid hn
  clear hn hl
  cases n
  · go_enter Try.func15, Try.ntmps15
    go_wp2_with fail
    refine (newer_c b a _ b0 b1 a0 a1).mono ?_
    rintro e w' ⟨rfl, rfl⟩
    rw [← HN.out]
    go_wp2_with fail
    go_ret
    exact ⟨rfl, rfl⟩
  · go_enter Try.func15, Try.ntmps15
    go_wp2_with fail
    refine (newer_c b a _ b0 b1 a0 a1).mono ?_
    rintro e w' ⟨rfl, rfl⟩
    rw [← HN.out]
    go_wp2_with fail
    go_ret
    exact ⟨rfl, rfl⟩

set_option maxHeartbeats 400000 in
theorem add32_c (a n : Int) (w : World) (a0 : 0 ≤ a) (a1 : a ≤ 4294967295) :
    Calls Try.prog 18 #[.int .u32 a, .int .i64 n] w fun e w' => e = .returned (.int .u32 (add32 a n)) ∧ w = w' := by
  go_enter Try.func18, Try.ntmps18
  go_wp2
  all_goals (go_ret; exact ⟨ret_int (by unfold add32; first | (rw [IntKind.wrap_u32, IntKind.wrap_u32]; omega) | (rw [IntKind.wrap_u32]; omega) | omega), rfl⟩)

set_option maxHeartbeats 400000 in
theorem radd_c (a n : Int) (w : World) (a0 : 0 ≤ a) (a1 : a ≤ 65535) :
    Calls Try.prog 17 #[.int .u16 a, .int .i64 n] w fun e w' => e = .returned (.int .u16 (add16 a n)) ∧ w = w' := by
  obtain ⟨d, hd⟩ : ∃ d, n.tmod 65536 = d := ⟨_, rfl⟩
  have d1 : -65535 ≤ d ∧ d ≤ 65535 ∧ (0 ≤ n → d = n % 65536) ∧ (n < 0 → d = -((-n) % 65536)) := by
    rw [← hd]
    by_cases hn : 0 ≤ n
    · rw [Int.tmod_eq_emod_of_nonneg hn]; omega
    · have h1 := Int.neg_tmod (-n) 65536
      have h2 := Int.tmod_eq_emod_of_nonneg (a := -n) (b := 65536) (by omega)
      rw [Int.neg_neg, h2] at h1
      omega
  obtain ⟨d1, d2, d3, d4⟩ := d1
  have e1 : IntKind.i64.wrap d = d := IntWalk.i64_in _ (by omega)
  by_cases hn : d < 0
  · go_enter Try.func17, Try.ntmps17
    have HD3 := Lib.hid d3
    have HD4 := Lib.hid d4
    clear d3 d4
    go_wp2_with fail
    all_goals (go_ret; exact ⟨ret_int (by have := HD3.out; have := HD4.out; unfold add16; omega), rfl⟩)
  · go_enter Try.func17, Try.ntmps17
    have HD3 := Lib.hid d3
    have HD4 := Lib.hid d4
    clear d3 d4
    go_wp2_with fail
    all_goals (go_ret; exact ⟨ret_int (by have := HD3.out; have := HD4.out; unfold add16; omega), rfl⟩)

set_option maxHeartbeats 400000 in
theorem radd32_c (a n : Int) (w : World) (a0 : 0 ≤ a) (a1 : a ≤ 4294967295) :
    Calls Try.prog 19 #[.int .u32 a, .int .i64 n] w fun e w' => e = .returned (.int .u32 (add32 a n)) ∧ w = w' := by
  obtain ⟨d, hd⟩ : ∃ d, n.tmod 4294967296 = d := ⟨_, rfl⟩
  have d1 : -4294967295 ≤ d ∧ d ≤ 4294967295 ∧ (0 ≤ n → d = n % 4294967296) ∧ (n < 0 → d = -((-n) % 4294967296)) := by
    rw [← hd]
    by_cases hn : 0 ≤ n
    · rw [Int.tmod_eq_emod_of_nonneg hn]; omega
    · have h1 := Int.neg_tmod (-n) 4294967296
      have h2 := Int.tmod_eq_emod_of_nonneg (a := -n) (b := 4294967296) (by omega)
      rw [Int.neg_neg, h2] at h1
      omega
  obtain ⟨d1, d2, d3, d4⟩ := d1
  have e1 : IntKind.i64.wrap d = d := IntWalk.i64_in _ (by omega)
  by_cases hn : d < 0
  · go_enter Try.func19, Try.ntmps19
    have HD3 := Lib.hid d3
    have HD4 := Lib.hid d4
    clear d3 d4
    go_wp2_with fail
    all_goals (go_ret; exact ⟨ret_int (by have := HD3.out; have := HD4.out; unfold add32; omega), rfl⟩)
  · go_enter Try.func19, Try.ntmps19
    have HD3 := Lib.hid d3
    have HD4 := Lib.hid d4
    clear d3 d4
    go_wp2_with fail
    all_goals (go_ret; exact ⟨ret_int (by have := HD3.out; have := HD4.out; unfold add32; omega), rfl⟩)

/-- The least and the greatest of how far numbers are ahead of f. -/
def spLow (f : Int) : List Int → Int
  | [] => 0
  | n :: l => min (spLow f l) (ah16 n f)
def spHigh (f : Int) : List Int → Int
  | [] => 0
  | n :: l => max (spHigh f l) (ah16 n f)
def lowR (ns : List Int) (k : Nat) : Int := spLow (ns.getD 0 0) (ns.take k).reverse
def highR (ns : List Int) (k : Nat) : Int := spHigh (ns.getD 0 0) (ns.take k).reverse
theorem spLow_in (f : Int) (l : List Int) : -32768 ≤ spLow f l ∧ spLow f l ≤ 0 := by
  induction l with
  | nil => simp [spLow, spHigh]
  | cons n l ih => have := ah16_in n f; simp only [spLow]; omega
theorem spHigh_in (f : Int) (l : List Int) : 0 ≤ spHigh f l ∧ spHigh f l ≤ 32767 := by
  induction l with
  | nil => simp [spLow, spHigh]
  | cons n l ih => have := ah16_in n f; simp only [spHigh]; omega
theorem take_snoc' {α : Type} (l : List α) (k : Nat) (x : α) (hx : l[k]? = some x) : (l.take (k + 1)).reverse = x :: (l.take k).reverse := by
  rw [List.take_add_one, hx]; simp
theorem lowR_step (ns : List Int) (k : Nat) (x : Int) (hx : ns[k]? = some x) : lowR ns (k + 1) = min (lowR ns k) (ah16 x (ns.getD 0 0)) := by unfold lowR; rw [take_snoc' ns k x hx]; rfl
theorem highR_step (ns : List Int) (k : Nat) (x : Int) (hx : ns[k]? = some x) : highR ns (k + 1) = max (highR ns k) (ah16 x (ns.getD 0 0)) := by unfold highR; rw [take_snoc' ns k x hx]; rfl
/-- The span: the least number, and how far the greatest one is ahead of it. -/
def spanL (ns : List Int) : Int := if ns.length = 0 then 0 else add16 (ns.getD 0 0) (lowR ns ns.length)
def spanN (ns : List Int) : Int := if ns.length = 0 then 0 else highR ns ns.length - lowR ns ns.length

set_option maxHeartbeats 2000000 in
theorem span_c (a : Option Addr) (cap : Nat) (ns : List Int) (w : World) (rd : RdI .u16 w a ns) (hl : ns.length ≤ 100000) (hn : ∀ n ∈ ns, 0 ≤ n ∧ n ≤ 65535) :
    Calls Try.prog 25 #[.slice a ns.length cap] w fun e w' => e = .returned (.tuple #[.int .u16 (spanL ns), .int .i64 (spanN ns)]) ∧ w = w' := by
  have HR := Lib.hid rd
  have HN := Lib.hid hn
  clear rd hn
  by_cases hz : ns.length = 0
  · have hzb : ((ns.length : Int) == 0) = true := beq_iff_eq.2 (by omega)
    have e1 : spanL ns = 0 := by unfold spanL; rw [if_pos hz]
    have e2 : spanN ns = 0 := by unfold spanN; rw [if_pos hz]
    rw [e1, e2]
    clear e1 e2 hz
    go_enter Try.func25, Try.ntmps25
    go_wp2_with fail
    go_ret2
    exact ⟨rfl, rfl⟩
  · have hzb : ((ns.length : Int) == 0) = false := beq_eq_false_iff_ne.2 (by omega)
    have e1 : spanL ns = add16 (ns.getD 0 0) (lowR ns ns.length) := by unfold spanL; rw [if_neg hz]
    have e2 : spanN ns = highR ns ns.length - lowR ns ns.length := by unfold spanN; rw [if_neg hz]
    rw [e1, e2]
    have h0 : 0 < ns.length := by omega
    clear e1 e2 hz
    obtain ⟨b, off, f, hf, rfl, hb, cf⟩ := HR.out.at_ 0 h0
    have hf0 : ns.getD 0 0 = f := by rw [List.getD_eq_getElem?_getD, hf]; rfl
    obtain ⟨f0, f1⟩ := HN.out f (List.mem_of_getElem? hf)
    have HF0 := Lib.hid hf0
    have cf0 : w.cell? ⟨b, off, none⟩ = some (.int .u16 f) := cf
    clear hf hf0 hb cf
    go_enter Try.func25, Try.ntmps25
    go_wp2_with fail
    go_loop [4, 5, 14] (fun lo hi i => ∃ k : Nat, k ≤ ns.length ∧ i = .int .i64 k ∧ lo = .int .i64 (lowR ns k) ∧ hi = .int .i64 (highR ns k)) (fun _ _ i => ns.length - (intOf i).toNat)
    case atStart => exact ⟨0, Nat.zero_le _, rfl, rfl, rfl⟩
    case round =>
      obtain ⟨k, hk, rfl, rfl, rfl⟩ := hrel
      have hlo := spLow_in (ns.getD 0 0) (ns.take k).reverse
      have hhi := spHigh_in (ns.getD 0 0) (ns.take k).reverse
      by_cases hlt : k < ns.length
      · obtain ⟨b', off', x, hx, hab, hb, cx⟩ := HR.out.at_ k hlt
        simp at hab
        obtain ⟨rfl, rfl⟩ := hab
        obtain ⟨x0, x1⟩ := HN.out x (List.mem_of_getElem? hx)
        have hls := lowR_step ns k x hx
        have hhs := highR_step ns k x hx
        obtain ⟨q, hq⟩ : ∃ q, q = ah16 x f := ⟨_, rfl⟩
        rw [HF0.out, ← hq] at hls hhs
        have hqi := ah16_in x f
        rw [← hq] at hqi
        obtain ⟨q0, q1⟩ := hqi
        have HCq : Hid (∀ W, Calls Try.prog 11 #[.int .u16 x, .int .u16 f] W fun e w' => e = .returned (.int .i64 q) ∧ W = w') := Lib.hid fun W => by rw [hq]; exact ahead_c x f W x0 x1 f0 f1
        obtain ⟨Lo, hLo⟩ : ∃ Lo, Lo = lowR ns k := ⟨_, rfl⟩
        obtain ⟨Hi, hHi⟩ : ∃ Hi, Hi = highR ns k := ⟨_, rfl⟩
        rw [← hLo] at hls ⊢
        rw [← hHi] at hhs ⊢
        have hlo' : -32768 ≤ Lo ∧ Lo ≤ 0 := by rw [hLo]; exact hlo
        have hhi' : 0 ≤ Hi ∧ Hi ≤ 32767 := by rw [hHi]; exact hhi
        obtain ⟨l0, l1⟩ := hlo'
        obtain ⟨g0, g1⟩ := hhi'
        have HLS := Lib.hid hls
        have HHS := Lib.hid hhs
        clear hx hb hls hhs hq hLo hHi hlo hhi
        go_wp2_with fail
        refine (HCq.out _).mono ?_
        rintro e w' ⟨rfl, rfl⟩
        go_wp2_with fail
        all_goals
          go_round
          case rel => exact ⟨k + 1, by omega, by go_num, by rw [HLS.out]; exact congrArg (Value.int .i64) (by omega), by rw [HHS.out]; exact congrArg (Value.int .i64) (by omega)⟩
          case measure => simp [intOf]; omega
      · obtain rfl : k = ns.length := by omega
        obtain ⟨Lo, hLo⟩ : ∃ Lo, Lo = lowR ns ns.length := ⟨_, rfl⟩
        obtain ⟨Hi, hHi⟩ : ∃ Hi, Hi = highR ns ns.length := ⟨_, rfl⟩
        have hlo' : -32768 ≤ Lo ∧ Lo ≤ 0 := by rw [hLo]; exact spLow_in _ _
        have hhi' : 0 ≤ Hi ∧ Hi ≤ 32767 := by rw [hHi]; exact spHigh_in _ _
        obtain ⟨l0, l1⟩ := hlo'
        obtain ⟨g0, g1⟩ := hhi'
        rw [← hLo, ← hHi]
        have HL := Lib.hid hLo
        have HH := Lib.hid hHi
        clear hLo hHi hlo hhi
        go_wp2_with fail
        refine (add_c f Lo _ f0 f1).mono ?_
        rintro e w' ⟨rfl, rfl⟩
        go_wp2_with fail
        go_ret2
        refine ⟨?_, rfl⟩
        rw [HF0.out, ← HL.out, ← HH.out]
        rfl

set_option maxHeartbeats 2000000 in
/-- Few numbers, sorted in place. -/
theorem stable_few_c (g c cap : Nat) (f : Int) (L : List Int) (tl : List Value) (w : World) (hg : Blk w g 22 (srtCells L tl)) (hc : Blk w c 22 #[.int .u16 f]) (hne : c ≠ g)
    (hb : L.length ≤ 19) (hl : L.length ≤ cap ∧ L.length ≤ 1000000) (hm : cap ≤ 9223372036854775807) (hL : ∀ x ∈ L, 0 ≤ x ∧ x ≤ 65535) (f0 : 0 ≤ f) (f1 : f ≤ 65535) :
    Calls Try.prog 32 #[.slice (some ⟨g, 0, none⟩) L.length cap, .int .i64 L.length, cmpV c] w fun e w' => e = .returned (.tuple #[]) ∧ ∃ L', Turned L L' 0 L.length ∧ SoOn (fun x => ah16 x f) L' 0 L.length ∧ Blk w' g 22 (srtCells L' tl) ∧ Frm [g] w w' := by
  have HI := Lib.hid (insertion_c g c cap f L tl 0 L.length w hg hc hne (Nat.zero_le _) (Nat.le_refl _) hl hm hL f0 f1)
  clear hg hc hne hL
  unfold cmpV at HI ⊢
  go_enter Try.func32, Try.ntmps32
  go_wp2_with fail
  go_loop [7, 8] (fun a b => a = .int .i64 0 ∧ b = .int .i64 20) (fun _ _ => 0)
  case atStart => exact ⟨rfl, rfl⟩
  case round =>
    obtain ⟨rfl, rfl⟩ := hrel
    go_wp2_with fail
    refine HI.out.mono ?_
    rintro e w1 ⟨rfl, L', h1, h2, h3, h4⟩
    have HX := Lib.hid (And.intro h1 (And.intro h2 (And.intro h3 h4)))
    clear h1 h2 h3 h4
    go_wp2_with fail
    go_loop [6] (fun a => a = .int .i64 20) (fun _ => 0)
    case atStart => rfl
    case round =>
      obtain rfl := hrel
      go_wp2_with fail
      go_end0
      exact ⟨rfl, L', HX.out.1, HX.out.2.1, HX.out.2.2.1, HX.out.2.2.2⟩

end Go.Proofs.Ytkpkfgnebgcoaaa
