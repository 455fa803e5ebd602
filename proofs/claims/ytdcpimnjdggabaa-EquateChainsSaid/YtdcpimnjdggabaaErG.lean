/-
  THE WALK of the law's 'is': a set is just those.
-/
import Derived.Test.YtdcpimnjdggabaaErF
set_option linter.unusedVariables false
set_option linter.unusedSimpArgs false
namespace Go.Proofs.Ytdcpimnjdggabaa
open Go.RowKit Go.Maps

theorem RdZ.take {w : World} {a : Option Addr} {zs : List Int} (h : RdZ w a zs) (n : Nat) : RdZ w a (zs.take n) := fun i v hv => by
  rw [List.getElem?_map] at hv
  have hl : i < n := by
    cases hz : (zs.take n)[i]? with
    | none => rw [hz] at hv; simp at hv
    | some x => have := (List.getElem?_eq_some_iff.1 hz).1; rw [List.length_take] at this; omega
  rw [List.getElem?_take_of_lt hl] at hv
  exact h i v (by rw [List.getElem?_map]; exact hv)

set_option maxRecDepth 100000 in
set_option maxHeartbeats 4000000 in
theorem is_c (m : Nat) (KS : List Int) (a : Option Addr) (c : Nat) (xs : List Int) (w : World) (hm : MapAt Try.prog 3 w m (setKv (Value.int .i64) KS)) (hx : RdZ w a xs) (hc : xs.length ≤ c) (hcm : c ≤ maxLen) (hl : xs.length ≤ 100000) (hok : ∀ x ∈ xs, okI x) (hs : ∀ x, x ∈ KS ↔ x ∈ xs) :
    Calls Try.prog 11 #[.map (some m), .slice a xs.length c] w fun e w' => e = .returned (.bool true) ∧ Frm [] w w' := by
  have hnot : ∀ (x : Bool) (w : World), (Op.unary .not (.bool x)).run Try.prog w = .ok (.bool (!x)) w := fun _ _ => rfl
  have hkn := set_nodup hm
  have hkl : KS.length ≤ 100000 := by have := nodup_le hkn (fun x hx => (hs x).1 hx); omega
  obtain ⟨w1, hrun, hrg, hf⟩ := hm.range Try.underlying34
  obtain ⟨r, hr⟩ : ∃ r, r = w.heap.size := ⟨_, rfl⟩
  rw [← hr] at hrun hrg
  have HR := Lib.hid hr
  have HRg := Lib.hid hrg
  have HF := Lib.hid hf
  have HX := Lib.hid hx
  have HOk := Lib.hid hok
  have HSm := Lib.hid hs
  have HKn := Lib.hid hkn
  clear hm hx hok hs hrg hf hkn hr
  unfold maxLen at hcm
  go_enter Try.func11, Try.ntmps11
  go_wp2_with fail
  clear hrun
  go_loopg [5] KS.length (fun gk n wr => ∃ (todo : List (Value × Value)) (k : Nat), gk = todo.length ∧ n = .int .i64 k ∧ k + todo.length = KS.length ∧ RangeAt Try.prog 3 wr m r (setKv (Value.int .i64) KS) todo ∧ Frm [] w wr)
  case atStart => exact ⟨_, 0, by simp [setKv], rfl, by simp [setKv], HRg.out, HF.out⟩
  case round =>
    obtain ⟨todo, k, hgk, rfl, hk, hrg, hf⟩ := hrel
    rcases hrg.next 0 with ⟨htd, hrun⟩ | ⟨A, p, B, w2, htd, hp, hrun, hrg2, hf2, hen⟩
    · subst htd
      have hkk : k = KS.length := by simpa using hk
      subst hkk
      have HMr := Lib.hid hrg.map
      have HF2 := Lib.hid hf
      clear hgk hk hrg hf
      go_wp2_with fail
      clear hrun
      go_loopw [29, 5] (fun i n wq => ∃ (j k : Nat), j ≤ xs.length ∧ i = .int .i64 j ∧ n = .int .i64 k ∧ k + (addAll [] (xs.take j)).length = KS.length + j ∧ wr = wq) (fun i _ _ => xs.length - (intOf i).toNat)
      case atStart => exact ⟨0, KS.length, Nat.zero_le _, rfl, rfl, by simp [addAll], rfl⟩
      case round =>
        obtain ⟨j, k, hj, rfl, rfl, hk, rfl⟩ := hrel
        by_cases hlt : j < xs.length
        · obtain ⟨b, off, x, hx, rfl, hb, hcell⟩ := (HX.out.below HF2.out.below).at_ hlt
          have hx2 := hx ▸ List.getElem_mem hlt
          obtain ⟨kl, hkl2⟩ := keyI (HOk.out x hx2)
          have hlk := set_look HMr.out injI keyedI Try.underlying34 (zeroBI _) x hkl2
          rw [isIn_yes.2 ((HSm.out x).2 hx2)] at hlk
          have htl : (xs.take j).length = j := by rw [List.length_take]; omega
          have hin := in_c (some ⟨b, off, none⟩) c (xs.take j) x wr ((HX.out.below HF2.out.below).take j) (by omega)
          rw [htl] at hin
          have hadd := addAll_snoc ([] : List Int) (xs.take j) x
          rw [show xs.take j ++ [x] = xs.take (j + 1) from by rw [List.take_succ_eq_append_getElem hlt, hx]] at hadd
          have hal := addAll_len ([] : List Int) (xs.take j)
          rw [htl] at hal
          have hkb : k ≤ 300000 := by simp at hal; omega
          obtain ⟨N, hN⟩ : ∃ N, N = (addAll [] (xs.take j)).length := ⟨_, rfl⟩
          rw [← hN] at hk
          have HN := Lib.hid hN
          have HA := Lib.hid hadd
          have HIn := Lib.hid hin
          have HK := Lib.hid hk
          have ij : (j : Int) < (xs.length : Int) := by omega
          have ic : (j : Int) ≤ (c : Int) := by omega
          have i0 : (0 : Int) ≤ (j : Int) := by omega
          clear hx hx2 hkl2 htl hin hadd hal hN hk hb
          cases he : isIn (xs.take j) x
          · rw [he] at HIn
            have HE := Lib.hid he
            clear he
            go_wp2_with fail
            refine HIn.out.mono ?_
            rintro e w' ⟨rfl, rfl⟩
            go_wp2_with fail
            go_roundw
            case rel =>
              refine ⟨j + 1, k, by omega, by go_num, rfl, ?_, by first | rfl | trivial⟩
              rw [HA.out]
              unfold addU
              rw [if_neg (fun h => isIn_no.1 HE.out (by have := addAll_mem.1 h; simpa using this)), List.length_append, ← HN.out]
              have := HK.out
              simp
              omega
            case measure => simp [intOf]; omega
          · rw [he] at HIn
            have HE := Lib.hid he
            clear he
            go_wp2_with fail
            refine HIn.out.mono ?_
            rintro e w' ⟨rfl, rfl⟩
            go_wp2_with fail
            go_roundw
            case rel =>
              refine ⟨j + 1, k + 1, by omega, by go_num, by go_num, ?_, by first | rfl | trivial⟩
              rw [HA.out]
              unfold addU
              rw [if_pos (addAll_mem.2 (.inr (isIn_yes.1 HE.out))), ← HN.out]
              have := HK.out
              omega
            case measure => simp [intOf]; omega
        · obtain rfl : j = xs.length := by omega
          rw [List.take_length] at hk
          have he : k = xs.length := by
            have := nodup_same (addAll_nodup (List.nodup_nil) xs) HKn.out (fun x => by rw [HSm.out x, addAll_mem]; simp)
            omega
          subst he
          clear hk
          go_wp2_with fail
          go_ret
          exact ⟨ret_bool (by simp), HF2.out⟩
    · obtain ⟨x, hxk, rfl⟩ := List.mem_map.1 hp
      have hxx := (HSm.out x).1 hxk
      have hf3 := hf.after hf2 (fun g hg => by simp at hg; subst hg; exact .inr (by rw [HR.out]; exact Nat.le_refl _))
      have hin := in_c a c xs x w2 (HX.out.below hf3.below) (by omega)
      rw [isIn_yes.2 hxx] at hin
      have HIn := Lib.hid hin
      have HF3 := Lib.hid hf3
      have HR3 := Lib.hid hrg2
      have hkk : k + (A ++ B).length + 1 = KS.length := by rw [htd] at hk; simp at hk ⊢; omega
      have hgg : (A ++ B).length < gk := by rw [hgk, htd]; simp
      have hkb : k ≤ 100000 := by omega
      have HKK := Lib.hid hkk
      have HG := Lib.hid hgg
      dsimp only at hrun hen
      clear htd hp hxk hxx hf hf2 hf3 hin hrg hrg2 hgk hk hkk hgg
      go_wp2_with fail
      refine HIn.out.mono ?_
      rintro e w' ⟨rfl, rfl⟩
      clear hrun hen
      go_wp2_with fail
      go_roundg (A ++ B).length
      case rel => exact ⟨A ++ B, k + 1, rfl, by go_num, by have := HKK.out; omega, HR3.out, HF3.out⟩
      case measure => exact HG.out

end Go.Proofs.Ytdcpimnjdggabaa
