/-
  THE WALKS of ulp.width, ulp.readLevel. Printed by gen_ula.py.
-/
import Derived.Test.YtjflcijiaennkaaDoorUlP
import Derived.Test.YtjflcijiaennkaaDoorBb
set_option linter.unusedVariables false
set_option linter.unusedSimpArgs false
namespace Go.Proofs.YtjflcijiaennkaaDoor
open Go.RowKit

theorem width_c (lg : Bool) (w : World) : Calls Tryd.prog 53 #[.bool lg] w fun e w' => e = .returned (.int .i64 (wid lg : Int)) ∧ w = w' := by
  cases lg
  · go_enter Tryd.func53, Tryd.ntmps53
    go_wp2
    go_ret
    exact ⟨rfl, rfl⟩
  · go_enter Tryd.func53, Tryd.ntmps53
    go_wp2
    go_ret
    exact ⟨rfl, rfl⟩
theorem ucut_add {zs : List Int} {p m n : Nat} : cut zs p (m + n) = cut zs p m ++ cut zs (p + m) n := by
  unfold cut
  rw [← List.drop_drop]
  exact List.take_add
theorem ubigN_app (xs : List Int) : ∀ (n : Nat) (ys : List Int), ys.length = n → bigN (xs ++ ys) = bigN xs * 256 ^ n + bigN ys
  | 0, ys, h => by rw [List.eq_nil_of_length_eq_zero h]; simp [bigN]
  | n + 1, ys, h => by
    rcases List.eq_nil_or_concat ys with e | ⟨u, z, e⟩
    · subst e; simp at h
    · rw [List.concat_eq_append] at e
      subst e
      have hu : u.length = n := by simpa using h
      rw [← List.append_assoc, bigN_snoc, bigN_snoc, ubigN_app xs n u hu, Int.pow_succ, Int.add_mul, Int.mul_assoc, Int.add_assoc]
theorem big6 {zs : List Int} {p : Nat} (h : p + 6 ≤ zs.length) : bigN (cut zs p 6) = bigN (cut zs p 2) * 4294967296 + bigN (cut zs (p + 2) 4) := by
  rw [show (6 : Nat) = 2 + 4 from rfl, ucut_add, ubigN_app _ 4 _ (cut_len (by omega))]
  rfl
theorem uor32 {v x : Int} (h0 : 0 ≤ v) (h1 : v < 65536) (x0 : 0 ≤ x) (x1 : x < 4294967296) : bits .or .u64 (v * 4294967296) x = v * 4294967296 + x :=
  bits_join .u64 64 (by decide) (fun n a b => wrapU64 a (by simpa using b)) 32 (v * 4294967296) x (by omega) (by omega) (by simp; omega) x0 (by simp; omega) (by simp; omega)
/-- What readLevel gives. -/
def LevP (W : World) (g : Nat) (a : Option Addr) (c : Nat) (zs : List Int) (lg : Bool) (p : Nat) (x : Ending) (W' : World) : Prop :=
  if zs.length < p + 2 + siz lg ∨ zs.length < lvE zs lg p then x = .panicked (faultV 20) ∧ Frm [g] W W'
  else ∃ bv, x = .returned (.agg #[.int .u64 ((lvAt zs lg p).h : Int), .int .u64 ((lvAt zs lg p).l : Int), bv]) ∧ Sep [g] W W' [blkR g 114 #[.slice a zs.length c, .int .i64 (lvE zs lg p : Int)], sumR bv (lvAt zs lg p).B]
theorem levP_err {W : World} {g : Nat} {a : Option Addr} {c : Nat} {zs : List Int} {lg : Bool} {p : Nat} {W' : World} (h : zs.length < p + 2 + siz lg ∨ zs.length < lvE zs lg p) (hf : Frm [g] W W') : LevP W g a c zs lg p (.panicked (faultV 20)) W' := by
  unfold LevP; rw [if_pos h]; exact ⟨rfl, hf⟩
set_option maxRecDepth 100000 in
set_option maxHeartbeats 8000000 in
theorem readLevel_false {w : World} {g : Nat} {a : Option Addr} {c : Nat} {zs : List Int} {p : Nat} (hR : Rdr w g a c zs p) (hp : p ≤ 1000000) :
    Calls Tryd.prog 49 #[.pointer (some ⟨g, 0, none⟩), .bool false] w (LevP w g a c zs false p) := by
  have HS0 := Lib.hid ((Sep.enter (r := blkR g 114 #[.slice a zs.length c, .int .i64 (p : Int)]) hR.blk).alloc #[.int .u64 0, .int .u64 0, .slice none 0 0] 44)
  have HR0 := Lib.hid hR
  have HBt := Lib.hid hR.byt
  have hsz : siz false = 2 := rfl
  have hwd : wid false = 16 := rfl
  clear hR
  go_enter Tryd.func49, Tryd.ntmps49
  go_upto_region 1 with fail
  obtain ⟨w1, hw1⟩ : ∃ w1, w1 = w.alloc (.cells #[.int .u64 0, .int .u64 0, .slice none 0 0] 44) := ⟨_, rfl⟩
  obtain ⟨o, ho⟩ : ∃ o, o = w.heap.size := ⟨_, rfl⟩
  rw [← hw1, ← ho] at HS0
  rw [← hw1, ← ho]
  clear hw1 ho
  have hRd := HR0.out.to HS0.out.frm (HS0.out.blk 1 rfl) HR0.out.le
  have HL9 := Lib.hid HS0.out.frm
  by_cases hsh : zs.length < p + 2
  · have HB := Lib.hid (word_short hRd hsh)
    go_wp2_with fail
    refine HB.out.mono ?_
    rintro x w9 ⟨rfl, hF⟩
    exact ⟨rfl, levP_err (.inl (by rw [hsz]; omega)) (HL9.out.trans hF.more)⟩
  have hby := word_ok hRd (by omega)
  have hn := bigN_lt (HBt.out.cut p 2)
  rw [cut_len (by omega)] at hn
  obtain ⟨n, hnn⟩ : ∃ n : Nat, n = lvN zs p := ⟨_, rfl⟩
  have hn2 : bigN (cut zs p 2) = (n : Int) := by rw [hnn]; unfold lvN; omega
  rw [hn2] at hby hn
  have hn3 : n < 65536 := by have := hn.2; simp at this; omega
  have HB := Lib.hid hby
  have HNN := Lib.hid hnn
  have HN2 := Lib.hid hn2
  have hl1 : p + 2 ≤ zs.length := by omega
  clear hRd hby hn hsh HL9 hnn hn2
  go_wp2_with fail
  refine HB.out.mono ?_
  rintro x w2 ⟨rfl, hR2, hF⟩
  have HS1 := Lib.hid (HS0.out.call 1 rfl hF hR2.blk)
  clear hF HB hR2 HS0
  have hRd := HR0.out.to HS1.out.frm (HS1.out.blk 1 rfl) (by omega)
  have HL9 := Lib.hid HS1.out.frm
  by_cases hsh : zs.length < p + 2 + 2
  · have HB := Lib.hid (word_short hRd hsh)
    go_wp2_with fail
    refine HB.out.mono ?_
    rintro x w9 ⟨rfl, hF⟩
    exact ⟨rfl, levP_err (.inl (by rw [hsz]; omega)) (HL9.out.trans hF.more)⟩
  have hby := word_ok hRd (by omega)
  have hv := bigN_lt (HBt.out.cut (p + 2) 2)
  rw [cut_len (by omega)] at hv
  obtain ⟨v, hvv⟩ : ∃ v : Nat, v = (bigN (cut zs (p + 2) 2)).toNat := ⟨_, rfl⟩
  have hv2 : bigN (cut zs (p + 2) 2) = (v : Int) := by omega
  rw [hv2] at hby hv
  have hv3 : v < 65536 := by have := hv.2; simp at this; omega
  have ew1 : IntKind.u64.wrap (v : Int) = (v : Int) := wrapU64 (by omega) (by omega)
  have HB := Lib.hid hby
  have HV2 := Lib.hid hv2
  replace hl1 : p + 2 + 2 ≤ zs.length := by omega
  clear hRd hby hv hsh HL9 hvv hv2
  go_wp2_with fail
  refine HB.out.mono ?_
  rintro x w3 ⟨rfl, hR2, hF⟩
  have HS2 := Lib.hid (HS1.out.call 1 rfl hF hR2.blk)
  clear hF HB hR2 HS1
  obtain ⟨X, hX⟩ : ∃ X : Nat, X = v := ⟨_, rfl⟩
  subst hX
  have hlX : lvX zs false p = X := by
    unfold lvX
    rw [hsz, HV2.out]
    simp
  have hE : lvE zs false p = p + 2 + 2 + n := by unfold lvE; rw [hsz, ← HNN.out]
  have HAt := Lib.hid (show lvAt zs false p = ⟨lyH 0 (wid false) X, lyL 0 (wid false) X, cut zs (p + 2 + 2) n⟩ by unfold lvAt; rw [hlX, ← HNN.out, hsz])
  have HLay := Lib.hid (fun Y : World => lay_c 0 (wid false : Int) X Y)
  obtain ⟨lh, hlh⟩ : ∃ q, q = lyH 0 (wid false) X := ⟨_, rfl⟩
  obtain ⟨ll, hll⟩ : ∃ q, q = lyL 0 (wid false) X := ⟨_, rfl⟩
  rw [← hlh, ← hll] at HLay HAt
  unfold mV at HLay
  have HE := Lib.hid hE
  have ew5 : IntKind.i64.wrap (n : Int) = (n : Int) := IntWalk.i64_in _ (by omega)
  clear hE hlX hlh hll 
  go_wp2_with fail
  refine (width_c _ _).mono ?_
  rintro e w5 ⟨rfl, rfl⟩
  skip
  rw [hwd] at HLay
  go_wp2_with fail
  refine (HLay.out _).mono ?_
  rintro e w6 ⟨rfl, hF⟩
  have HS4 := Lib.hid (HS2.out.keep hF)
  clear hF HS2 HLay
  have hRd := HR0.out.to HS4.out.frm (HS4.out.blk 1 rfl) (by omega)
  have HL9 := Lib.hid HS4.out.frm
  by_cases hsh : zs.length < p + 2 + 2 + n
  · have HB := Lib.hid (take_short hRd (n : Int) (by simpa using hsh))
    go_wp2_with fail
    refine HB.out.mono ?_
    rintro x w9 ⟨rfl, hF⟩
    exact ⟨rfl, levP_err (.inr (by rw [HE.out]; exact hsh)) (HL9.out.trans hF.more)⟩
  have HB := Lib.hid (take_ok hRd (n : Int) n (by simp) (by omega))
  have hno : ¬ (zs.length < p + 2 + siz false ∨ zs.length < lvE zs false p) := by rw [HE.out, hsz]; omega
  have HNo := Lib.hid hno
  clear hRd hsh HL9 hno
  go_wp2_with fail
  refine HB.out.mono ?_
  rintro x w7 ⟨v, rfl, hR4, hS⟩
  obtain ⟨va, vn, vc, rfl⟩ : ∃ va vn vc, v = .slice va vn vc := by
    obtain ⟨va, vc, hv, _⟩ := own_shape (hS.own 1 rfl)
    exact ⟨va, _, vc, hv⟩
  have HS5 := Lib.hid (show Sep [g] w w7 [blkR g 114 #[.slice a zs.length c, .int .i64 ((p + 2 + 2 + n : Nat) : Int)], sumR (.slice va vn vc) (cut zs (p + 2 + 2) n), blkR o 44 #[.int .u64 0, .int .u64 0, .slice none 0 0]] from (HS4.out.at_ [1, 0] (by decide) rfl).callMany hS (by simp [blkR]))
  clear hS hR4 HB HS4
  have f0 := (HS5.out.blk 2 rfl).free 0
  have f1 := (HS5.out.blk 2 rfl).free 1
  have f2 := (HS5.out.blk 2 rfl).free 2
  have c0 := (HS5.out.blk 2 rfl).cell 0 rfl
  have c1 := (HS5.out.blk 2 rfl).cell 1 rfl
  have c2 := (HS5.out.blk 2 rfl).cell 2 rfl
  go_wp2_with fail
  obtain ⟨wx, hwx⟩ : ∃ wx, wx = ((w7.setCell ⟨o, 0, none⟩ (.int .u64 (lh : Int))).setCell ⟨o, 1, none⟩ (.int .u64 (ll : Int))).setCell ⟨o, 2, none⟩ (.slice va vn vc) := ⟨_, rfl⟩
  have HS6 := Lib.hid (show Sep [g] w wx [blkR g 114 #[.slice a zs.length c, .int .i64 ((p + 2 + 2 + n : Nat) : Int)], sumR (.slice va vn vc) (cut zs (p + 2 + 2) n), blkR o 44 #[.int .u64 (lh : Int), .int .u64 (ll : Int), .slice va vn vc]] from hwx ▸ ((HS5.out.put 2 rfl 0 (.int .u64 (lh : Int))).put 2 rfl 1 (.int .u64 (ll : Int))).put 2 rfl 2 (.slice va vn vc))
  rw [← hwx]
  clear hwx c0 c1 c2 f0 f1 f2 HS5
  have c0 := (HS6.out.blk 2 rfl).cell 0 rfl
  have c1 := (HS6.out.blk 2 rfl).cell 1 rfl
  have c2 := (HS6.out.blk 2 rfl).cell 2 rfl
  refine bodyPost_ret (v := .agg #[.int .u64 (lh : Int), .int .u64 (ll : Int), .slice va vn vc]) ?_ rfl ?_
  · simp [results, Tryd.results49, go_sem, c0, c1, c2]
  · unfold LevP
    rw [if_neg HNo.out, HAt.out, HE.out]
    exact ⟨_, rfl, HS6.out.at_ [0, 1] (by decide) rfl⟩
set_option maxRecDepth 100000 in
set_option maxHeartbeats 8000000 in
theorem readLevel_true {w : World} {g : Nat} {a : Option Addr} {c : Nat} {zs : List Int} {p : Nat} (hR : Rdr w g a c zs p) (hp : p ≤ 1000000) :
    Calls Tryd.prog 49 #[.pointer (some ⟨g, 0, none⟩), .bool true] w (LevP w g a c zs true p) := by
  have HS0 := Lib.hid ((Sep.enter (r := blkR g 114 #[.slice a zs.length c, .int .i64 (p : Int)]) hR.blk).alloc #[.int .u64 0, .int .u64 0, .slice none 0 0] 44)
  have HR0 := Lib.hid hR
  have HBt := Lib.hid hR.byt
  have hsz : siz true = 6 := rfl
  have hwd : wid true = 48 := rfl
  clear hR
  go_enter Tryd.func49, Tryd.ntmps49
  go_upto_region 1 with fail
  obtain ⟨w1, hw1⟩ : ∃ w1, w1 = w.alloc (.cells #[.int .u64 0, .int .u64 0, .slice none 0 0] 44) := ⟨_, rfl⟩
  obtain ⟨o, ho⟩ : ∃ o, o = w.heap.size := ⟨_, rfl⟩
  rw [← hw1, ← ho] at HS0
  rw [← hw1, ← ho]
  clear hw1 ho
  have hRd := HR0.out.to HS0.out.frm (HS0.out.blk 1 rfl) HR0.out.le
  have HL9 := Lib.hid HS0.out.frm
  by_cases hsh : zs.length < p + 2
  · have HB := Lib.hid (word_short hRd hsh)
    go_wp2_with fail
    refine HB.out.mono ?_
    rintro x w9 ⟨rfl, hF⟩
    exact ⟨rfl, levP_err (.inl (by rw [hsz]; omega)) (HL9.out.trans hF.more)⟩
  have hby := word_ok hRd (by omega)
  have hn := bigN_lt (HBt.out.cut p 2)
  rw [cut_len (by omega)] at hn
  obtain ⟨n, hnn⟩ : ∃ n : Nat, n = lvN zs p := ⟨_, rfl⟩
  have hn2 : bigN (cut zs p 2) = (n : Int) := by rw [hnn]; unfold lvN; omega
  rw [hn2] at hby hn
  have hn3 : n < 65536 := by have := hn.2; simp at this; omega
  have HB := Lib.hid hby
  have HNN := Lib.hid hnn
  have HN2 := Lib.hid hn2
  have hl1 : p + 2 ≤ zs.length := by omega
  clear hRd hby hn hsh HL9 hnn hn2
  go_wp2_with fail
  refine HB.out.mono ?_
  rintro x w2 ⟨rfl, hR2, hF⟩
  have HS1 := Lib.hid (HS0.out.call 1 rfl hF hR2.blk)
  clear hF HB hR2 HS0
  have hRd := HR0.out.to HS1.out.frm (HS1.out.blk 1 rfl) (by omega)
  have HL9 := Lib.hid HS1.out.frm
  by_cases hsh : zs.length < p + 2 + 2
  · have HB := Lib.hid (word_short hRd hsh)
    go_wp2_with fail
    refine HB.out.mono ?_
    rintro x w9 ⟨rfl, hF⟩
    exact ⟨rfl, levP_err (.inl (by rw [hsz]; omega)) (HL9.out.trans hF.more)⟩
  have hby := word_ok hRd (by omega)
  have hv := bigN_lt (HBt.out.cut (p + 2) 2)
  rw [cut_len (by omega)] at hv
  obtain ⟨v, hvv⟩ : ∃ v : Nat, v = (bigN (cut zs (p + 2) 2)).toNat := ⟨_, rfl⟩
  have hv2 : bigN (cut zs (p + 2) 2) = (v : Int) := by omega
  rw [hv2] at hby hv
  have hv3 : v < 65536 := by have := hv.2; simp at this; omega
  have ew1 : IntKind.u64.wrap (v : Int) = (v : Int) := wrapU64 (by omega) (by omega)
  have HB := Lib.hid hby
  have HV2 := Lib.hid hv2
  replace hl1 : p + 2 + 2 ≤ zs.length := by omega
  clear hRd hby hv hsh HL9 hvv hv2
  go_wp2_with fail
  refine HB.out.mono ?_
  rintro x w3 ⟨rfl, hR2, hF⟩
  have HS2 := Lib.hid (HS1.out.call 1 rfl hF hR2.blk)
  clear hF HB hR2 HS1
  have hRd := HR0.out.to HS2.out.frm (HS2.out.blk 1 rfl) (by omega)
  have HL9 := Lib.hid HS2.out.frm
  by_cases hsh : zs.length < p + 2 + 2 + 4
  · have HB := Lib.hid (long_short hRd hsh)
    go_wp2_with fail
    refine HB.out.mono ?_
    rintro x w9 ⟨rfl, hF⟩
    exact ⟨rfl, levP_err (.inl (by rw [hsz]; omega)) (HL9.out.trans hF.more)⟩
  have hby := long_ok hRd (by omega)
  have hu := bigN_lt (HBt.out.cut (p + 2 + 2) 4)
  rw [cut_len (by omega)] at hu
  obtain ⟨u, huu⟩ : ∃ u : Nat, u = (bigN (cut zs (p + 2 + 2) 4)).toNat := ⟨_, rfl⟩
  have hu2 : bigN (cut zs (p + 2 + 2) 4) = (u : Int) := by omega
  rw [hu2] at hby hu
  have hu3 : u < 4294967296 := by have := hu.2; simp at this; omega
  obtain ⟨X, hX⟩ : ∃ X : Nat, X = v * 4294967296 + u := ⟨_, rfl⟩
  have hXX : (v : Int) * 4294967296 + (u : Int) = (X : Int) := by clear ew1; omega
  clear hX
  have ew2 : IntKind.u64.wrap (u : Int) = (u : Int) := wrapU64 (by omega) (by omega)
  have ew3 : IntKind.u64.wrap ((v : Int) * 4294967296) = (v : Int) * 4294967296 := wrapU64 (by omega) (by omega)
  have ew4 := uor32 (v := (v : Int)) (x := (u : Int)) (by omega) (by omega) (by omega) (by omega)
  have HB := Lib.hid hby
  have HU2 := Lib.hid hu2
  replace hl1 : p + 2 + 2 + 4 ≤ zs.length := by omega
  clear hRd hby hu hsh HL9 huu hu2
  go_wp2_with fail
  refine HB.out.mono ?_
  rintro x w4 ⟨rfl, hR2, hF⟩
  have HS3 := Lib.hid (HS2.out.call 1 rfl hF hR2.blk)
  clear hF HB hR2 HS2
  have hlX : lvX zs true p = X := by
    unfold lvX
    rw [hsz, big6 (by omega), HV2.out, HU2.out, hXX]
    rfl
  have hE : lvE zs true p = p + 2 + 2 + 4 + n := by unfold lvE; rw [hsz, ← HNN.out]
  have HAt := Lib.hid (show lvAt zs true p = ⟨lyH 0 (wid true) X, lyL 0 (wid true) X, cut zs (p + 2 + 2 + 4) n⟩ by unfold lvAt; rw [hlX, ← HNN.out, hsz])
  have HLay := Lib.hid (fun Y : World => lay_c 0 (wid true : Int) X Y)
  obtain ⟨lh, hlh⟩ : ∃ q, q = lyH 0 (wid true) X := ⟨_, rfl⟩
  obtain ⟨ll, hll⟩ : ∃ q, q = lyL 0 (wid true) X := ⟨_, rfl⟩
  rw [← hlh, ← hll] at HLay HAt
  unfold mV at HLay
  have HE := Lib.hid hE
  have ew5 : IntKind.i64.wrap (n : Int) = (n : Int) := IntWalk.i64_in _ (by omega)
  clear hE hlX hlh hll 
  go_wp2_with fail
  refine (width_c _ _).mono ?_
  rintro e w5 ⟨rfl, rfl⟩
  try rw [hXX]
  rw [hwd] at HLay
  go_wp2_with fail
  refine (HLay.out _).mono ?_
  rintro e w6 ⟨rfl, hF⟩
  have HS4 := Lib.hid (HS3.out.keep hF)
  clear hF HS3 HLay
  have hRd := HR0.out.to HS4.out.frm (HS4.out.blk 1 rfl) (by omega)
  have HL9 := Lib.hid HS4.out.frm
  by_cases hsh : zs.length < p + 2 + 2 + 4 + n
  · have HB := Lib.hid (take_short hRd (n : Int) (by simpa using hsh))
    go_wp2_with fail
    refine HB.out.mono ?_
    rintro x w9 ⟨rfl, hF⟩
    exact ⟨rfl, levP_err (.inr (by rw [HE.out]; exact hsh)) (HL9.out.trans hF.more)⟩
  have HB := Lib.hid (take_ok hRd (n : Int) n (by simp) (by omega))
  have hno : ¬ (zs.length < p + 2 + siz true ∨ zs.length < lvE zs true p) := by rw [HE.out, hsz]; omega
  have HNo := Lib.hid hno
  clear hRd hsh HL9 hno
  go_wp2_with fail
  refine HB.out.mono ?_
  rintro x w7 ⟨v, rfl, hR4, hS⟩
  obtain ⟨va, vn, vc, rfl⟩ : ∃ va vn vc, v = .slice va vn vc := by
    obtain ⟨va, vc, hv, _⟩ := own_shape (hS.own 1 rfl)
    exact ⟨va, _, vc, hv⟩
  have HS5 := Lib.hid (show Sep [g] w w7 [blkR g 114 #[.slice a zs.length c, .int .i64 ((p + 2 + 2 + 4 + n : Nat) : Int)], sumR (.slice va vn vc) (cut zs (p + 2 + 2 + 4) n), blkR o 44 #[.int .u64 0, .int .u64 0, .slice none 0 0]] from (HS4.out.at_ [1, 0] (by decide) rfl).callMany hS (by simp [blkR]))
  clear hS hR4 HB HS4
  have f0 := (HS5.out.blk 2 rfl).free 0
  have f1 := (HS5.out.blk 2 rfl).free 1
  have f2 := (HS5.out.blk 2 rfl).free 2
  have c0 := (HS5.out.blk 2 rfl).cell 0 rfl
  have c1 := (HS5.out.blk 2 rfl).cell 1 rfl
  have c2 := (HS5.out.blk 2 rfl).cell 2 rfl
  go_wp2_with fail
  obtain ⟨wx, hwx⟩ : ∃ wx, wx = ((w7.setCell ⟨o, 0, none⟩ (.int .u64 (lh : Int))).setCell ⟨o, 1, none⟩ (.int .u64 (ll : Int))).setCell ⟨o, 2, none⟩ (.slice va vn vc) := ⟨_, rfl⟩
  have HS6 := Lib.hid (show Sep [g] w wx [blkR g 114 #[.slice a zs.length c, .int .i64 ((p + 2 + 2 + 4 + n : Nat) : Int)], sumR (.slice va vn vc) (cut zs (p + 2 + 2 + 4) n), blkR o 44 #[.int .u64 (lh : Int), .int .u64 (ll : Int), .slice va vn vc]] from hwx ▸ ((HS5.out.put 2 rfl 0 (.int .u64 (lh : Int))).put 2 rfl 1 (.int .u64 (ll : Int))).put 2 rfl 2 (.slice va vn vc))
  rw [← hwx]
  clear hwx c0 c1 c2 f0 f1 f2 HS5
  have c0 := (HS6.out.blk 2 rfl).cell 0 rfl
  have c1 := (HS6.out.blk 2 rfl).cell 1 rfl
  have c2 := (HS6.out.blk 2 rfl).cell 2 rfl
  refine bodyPost_ret (v := .agg #[.int .u64 (lh : Int), .int .u64 (ll : Int), .slice va vn vc]) ?_ rfl ?_
  · simp [results, Tryd.results49, go_sem, c0, c1, c2]
  · unfold LevP
    rw [if_neg HNo.out, HAt.out, HE.out]
    exact ⟨_, rfl, HS6.out.at_ [0, 1] (by decide) rfl⟩
theorem readLevel_c {w : World} {g : Nat} {a : Option Addr} {c : Nat} {zs : List Int} {p : Nat} (lg : Bool) (hR : Rdr w g a c zs p) (hp : p ≤ 1000000) :
    Calls Tryd.prog 49 #[.pointer (some ⟨g, 0, none⟩), .bool lg] w (LevP w g a c zs lg p) := by
  cases lg
  · exact readLevel_false hR hp
  · exact readLevel_true hR hp

end Go.Proofs.YtjflcijiaennkaaDoor
