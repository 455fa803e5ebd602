/-
  THE WALKS of the reference's Few and Peel.
-/
import Derived.Test.YtdcpimnjdggabaaErA
set_option linter.unusedVariables false
set_option linter.unusedSimpArgs false
namespace Go.Proofs.Ytdcpimnjdggabaa
open Go.RowKit

/-- Few things. -/
structure FewP (xs : List Int) (E : List (List Int)) : Prop where
  xs : xs.length ≤ 60
  eqs : E.length ≤ 30
  row : ∀ r ∈ E, r.length ≤ 60
  sum : E.flatten.length ≤ 300
def FewPost (xs : List Int) (rs : List (Row Int)) (w : World) (e : Ending) (w' : World) : Prop := ∃ b, e = .returned (.bool b) ∧ (b = true → FewP xs (rs.map (·.xs))) ∧ w = w'
theorem flat_snoc {α : Type} (l : List (List α)) (x : List α) : (l ++ [x]).flatten.length = l.flatten.length + x.length := by simp
theorem rows_at {w : World} {a : Option Addr} {rs : List (Row Int)} (h : RdRows (Value.int .i64) w a rs) {j : Nat} (hj : j < rs.length) :
    ∃ b off r, rs[j]? = some r ∧ r ∈ rs ∧ rs.take (j + 1) = rs.take j ++ [r] ∧ a = some ⟨b, off, none⟩ ∧ b < w.heap.size ∧ w.cell? ⟨b, off + j, none⟩ = some (.slice r.a r.xs.length r.c) ∧ RdZ w r.a r.xs := by
  obtain ⟨b, off, ha, hb, hc⟩ := h.1 j (Row.val rs[j]) (by rw [List.getElem?_map, List.getElem?_eq_getElem hj]; rfl)
  exact ⟨b, off, rs[j], List.getElem?_eq_getElem hj, List.getElem_mem hj, List.take_succ_eq_append_getElem hj, ha, hb, hc, h.2 _ (List.getElem_mem hj)⟩

set_option maxRecDepth 100000 in
set_option maxHeartbeats 4000000 in
theorem few_c (ax : Option Addr) (cx : Nat) (xs : List Int) (a : Option Addr) (c : Nat) (rs : List (Row Int)) (w : World) (hr : RdRows (Value.int .i64) w a rs) (hxl : xs.length ≤ maxLen) (hrl : rs.length ≤ maxLen) (hrr : ∀ r ∈ rs, r.xs.length ≤ maxLen) :
    Calls Try.prog 8 #[.slice ax xs.length cx, .slice a rs.length c] w (FewPost xs rs w) := by
  have HR := Lib.hid hr
  have HRr := Lib.hid hrr
  unfold maxLen at hxl hrl
  clear hr hrr
  go_enter Try.func8, Try.ntmps8
  go_wp2_with fail
  go_loop [6, 5] (fun i t => ∃ (j n : Nat), j ≤ rs.length ∧ j ≤ 41 ∧ i = .int .i64 j ∧ t = .int .i64 n ∧ n ≤ 60 * j ∧ n = ((rs.take j).map (·.xs)).flatten.length ∧ ∀ r ∈ rs.take j, r.xs.length ≤ 60) (fun i _ => rs.length - (intOf i).toNat)
  case atStart => exact ⟨0, 0, Nat.zero_le _, by omega, rfl, rfl, by omega, rfl, by simp⟩
  case round =>
    obtain ⟨j, n, hj, hj2, rfl, rfl, hn0, hn, hrs⟩ := hrel
    have HN := Lib.hid hn
    have HRs := Lib.hid hrs
    clear hn hrs
    by_cases hlt : j < rs.length ∧ j ≤ 40
    · obtain ⟨hlt, hle⟩ := hlt
      obtain ⟨b, off, r, hre, hrm, hts, rfl, hb, hc, hrd⟩ := rows_at HR.out hlt
      have hrr := HRr.out r hrm
      obtain ⟨m, hm⟩ : ∃ m, m = r.xs.length := ⟨_, rfl⟩
      rw [← hm] at hc hrr
      unfold maxLen at hrr
      have i1 : (j : Int) < (rs.length : Int) := by omega
      have i2 : (j : Int) ≤ 40 := by omega
      have HT := Lib.hid hts
      have HM := Lib.hid hm
      clear hre hrm hts hb hrd hm HR
      by_cases hbig : 60 < m
      · have b1 : decide ((60 : Int) < (m : Int)) = true := by simp; omega
        clear hbig
        go_wp2_with fail
        go_ret
        exact ⟨false, rfl, (fun h => by cases h), rfl⟩
      · have b1 : decide ((60 : Int) < (m : Int)) = false := by simp; omega
        have hm60 : m ≤ 60 := by omega
        clear hbig
        go_wp2_with fail
        refine ⟨⟨j + 1, n + m, by omega, by omega, by go_num, by go_num, by omega, ?_, ?_⟩, by simp [intOf]; omega⟩
        · rw [HT.out, List.map_append, List.map_cons, List.map_nil, flat_snoc, ← HN.out, ← HM.out]
        · rw [HT.out]
          intro r' hr'
          rcases List.mem_append.1 hr' with h | h
          · exact HRs.out r' h
          · simp at h; subst h; rw [← HM.out]; exact hm60
    · have hfin : ∀ b : Bool, (b = true → xs.length ≤ 60 ∧ rs.length ≤ 30 ∧ n ≤ 300) → (b = true → FewP xs (rs.map (·.xs))) := fun b h hb => by
        obtain ⟨h1, h2, h3⟩ := h hb
        have hje : j = rs.length := by omega
        have h4 := HN.out
        have h5 := HRs.out
        rw [hje, List.take_length] at h4 h5
        exact ⟨h1, by simpa using h2, fun r hr => by obtain ⟨r', hr', rfl⟩ := List.mem_map.1 hr; exact h5 r' hr', by omega⟩
      have hg : decide (j < rs.length) = false ∨ (decide (j < rs.length) = true ∧ decide ((j : Int) ≤ 40) = false) := by
        by_cases h : j < rs.length
        · exact .inr ⟨by simpa using h, by simp; omega⟩
        · exact .inl (by simpa using h)
      have HFin := Lib.hid hfin
      clear hfin hlt
      rcases hg with hg | ⟨hg, hg2⟩
      all_goals
        by_cases h1 : xs.length ≤ 60
        · have d1 : decide ((xs.length : Int) ≤ 60) = true := by simp; omega
          by_cases h2 : rs.length ≤ 30
          · have d2 : decide ((rs.length : Int) ≤ 30) = true := by simp; omega
            by_cases h3 : n ≤ 300
            · have d3 : decide ((n : Int) ≤ 300) = true := by simp; omega
              go_wp2_with fail
              go_ret
              exact ⟨true, rfl, HFin.out _ (fun _ => ⟨h1, h2, h3⟩), rfl⟩
            · have d3 : decide ((n : Int) ≤ 300) = false := by simp; omega
              go_wp2_with fail
              go_ret
              exact ⟨false, rfl, (fun h => by cases h), rfl⟩
          · have d2 : decide ((rs.length : Int) ≤ 30) = false := by simp; omega
            go_wp2_with fail
            go_ret
            exact ⟨false, rfl, (fun h => by cases h), rfl⟩
        · have d1 : decide ((xs.length : Int) ≤ 60) = false := by simp; omega
          go_wp2_with fail
          go_ret
          exact ⟨false, rfl, (fun h => by cases h), rfl⟩

end Go.Proofs.Ytdcpimnjdggabaa
