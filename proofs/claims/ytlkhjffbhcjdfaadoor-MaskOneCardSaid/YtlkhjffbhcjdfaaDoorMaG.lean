/-
  THE WALKS of mask.Part, Lay (printed by gen_mag.py).
-/
import Derived.Test.YtlkhjffbhcjdfaaDoorMaF
set_option linter.unusedVariables false
set_option linter.unusedSimpArgs false
namespace Go.Proofs.YtlkhjffbhcjdfaaDoor
open Go.RowKit

def ptN (h l : Nat) (f n : Int) : Nat := dwH h l (-(held f (-128) 128)) / 2 ^ (64 - held n 0 64).toNat
set_option maxRecDepth 100000 in
set_option maxHeartbeats 4000000 in
theorem part_c (h l : Nat) (f n : Int) (w : World) (h0 : h < 18446744073709551616) (h1 : l < 18446744073709551616) : Calls Tryd.prog 30 #[mV h l, .int .i64 f, .int .i64 n] w fun e w' => e = .returned (.int .u64 (ptN h l f n : Int)) ∧ Frm [] w w' := by
  have HF := Lib.hid (Frm.refl [] w)
  unfold ptN
  obtain ⟨c, hc⟩ : ∃ c, c = held n (0) 64 := ⟨_, rfl⟩
  obtain ⟨a, ha⟩ : ∃ a : Int, a = if n < 0 then (0 : Int) else n := ⟨_, rfl⟩
  have hca : c = if 64 < a then (64 : Int) else a := by rw [hc, ha]; unfold held; split <;> split <;> (try split) <;> omega
  have mb1 : 0 ≤ c := by rw [hc]; unfold held; split <;> (try split) <;> omega
  have mb2 : c ≤ 64 := by rw [hc]; unfold held; split <;> (try split) <;> omega
  have m1 : (if (0 : Int) > n then (0 : Int) else n) = a := ha.symm
  have m2 : (if n < 0 then (0 : Int) else n) = a := ha.symm
  have m3 : (if n > 0 then n else (0 : Int)) = a := by rw [ha]; split <;> split <;> omega
  have m4 : (if (0 : Int) < n then n else (0 : Int)) = a := m3
  have m5 : (if (64 : Int) < a then (64 : Int) else a) = c := hca.symm
  have m6 : (if a > 64 then (64 : Int) else a) = c := hca.symm
  have m7 : (if a < 64 then a else (64 : Int)) = c := by rw [hca]; split <;> split <;> omega
  have m8 : (if (64 : Int) > a then a else (64 : Int)) = c := m7
  obtain ⟨d, hd⟩ : ∃ d, d = held f (-128) 128 := ⟨_, rfl⟩
  obtain ⟨b, hb⟩ : ∃ b : Int, b = if f < -128 then (-128 : Int) else f := ⟨_, rfl⟩
  have hdb : d = if 128 < b then (128 : Int) else b := by rw [hd, hb]; unfold held; split <;> split <;> (try split) <;> omega
  have kb1 : -128 ≤ d := by rw [hd]; unfold held; split <;> (try split) <;> omega
  have kb2 : d ≤ 128 := by rw [hd]; unfold held; split <;> (try split) <;> omega
  have k1 : (if (-128 : Int) > f then (-128 : Int) else f) = b := hb.symm
  have k2 : (if f < -128 then (-128 : Int) else f) = b := hb.symm
  have k3 : (if f > -128 then f else (-128 : Int)) = b := by rw [hb]; split <;> split <;> omega
  have k4 : (if (-128 : Int) < f then f else (-128 : Int)) = b := k3
  have k5 : (if (128 : Int) < b then (128 : Int) else b) = d := hdb.symm
  have k6 : (if b > 128 then (128 : Int) else b) = d := hdb.symm
  have k7 : (if b < 128 then b else (128 : Int)) = d := by rw [hdb]; split <;> split <;> omega
  have k8 : (if (128 : Int) > b then b else (128 : Int)) = d := k7
  rw [← hc, ← hd]
  have HD := Lib.hid (fun X => down_c h l (-d) X h0 h1)
  obtain ⟨p, hp⟩ : ∃ p, p = dwH h l (-d) := ⟨_, rfl⟩
  obtain ⟨q, hq⟩ : ∃ q, q = dwL h l (-d) := ⟨_, rfl⟩
  simp only [← hp, ← hq] at HD
  rw [← hp]
  obtain ⟨r, hr⟩ : ∃ r : Nat, r = p / 2 ^ (64 - c).toNat := ⟨_, rfl⟩
  rw [← hr]
  have e1 : (p : Int) / 2 ^ (64 - c).toNat = (r : Int) := by rw [hr]; exact c_div _ _
  have e2 : IntKind.i64.wrap (-d) = -d := IntWalk.i64_in _ (by omega)
  have e3 : IntKind.i64.wrap (64 - c) = 64 - c := IntWalk.i64_in _ (by omega)
  have j1 : 0 ≤ 64 - c := by omega
  have j2 : 64 - c ≤ 64 := by omega
  have hfd : ∀ w : World, (Instr.field 26 (.agg #[.int .u64 (p : Int), .int .u64 (q : Int)]) 0).run Tryd.prog w = .ok (.int .u64 (p : Int)) w := fun _ => by kernel_rfl
  clear hp hq hr hc ha hb hd hca hdb
  unfold mV at *
  go_enter Tryd.func30, Tryd.ntmps30
  go_wp2_with fail
  refine (HD.out _).mono ?_
  rintro e w2 ⟨rfl, hF⟩
  have HF2 := Lib.hid ((HF.out.alloc _).trans hF)
  clear hF
  go_wp2_with fail
  go_ret
  exact ⟨rfl, HF2.out⟩
def lyH (f n : Int) (x : Nat) : Nat := dwH (x * 2 ^ (64 - held n 0 64).toNat % 18446744073709551616) 0 (held f (-128) 128)
def lyL (f n : Int) (x : Nat) : Nat := dwL (x * 2 ^ (64 - held n 0 64).toNat % 18446744073709551616) 0 (held f (-128) 128)
set_option maxRecDepth 100000 in
set_option maxHeartbeats 4000000 in
theorem lay_c (f n : Int) (x : Nat) (w : World) : Calls Tryd.prog 32 #[.int .i64 f, .int .i64 n, .int .u64 (x : Int)] w fun e w' => e = .returned (mV (lyH f n x) (lyL f n x)) ∧ Frm [] w w' := by
  have HS := Lib.hid ((Sep.init w).alloc #[.int .u64 0, .int .u64 0] 26)
  unfold lyH lyL
  obtain ⟨c, hc⟩ : ∃ c, c = held n (0) 64 := ⟨_, rfl⟩
  obtain ⟨a, ha⟩ : ∃ a : Int, a = if n < 0 then (0 : Int) else n := ⟨_, rfl⟩
  have hca : c = if 64 < a then (64 : Int) else a := by rw [hc, ha]; unfold held; split <;> split <;> (try split) <;> omega
  have mb1 : 0 ≤ c := by rw [hc]; unfold held; split <;> (try split) <;> omega
  have mb2 : c ≤ 64 := by rw [hc]; unfold held; split <;> (try split) <;> omega
  have m1 : (if (0 : Int) > n then (0 : Int) else n) = a := ha.symm
  have m2 : (if n < 0 then (0 : Int) else n) = a := ha.symm
  have m3 : (if n > 0 then n else (0 : Int)) = a := by rw [ha]; split <;> split <;> omega
  have m4 : (if (0 : Int) < n then n else (0 : Int)) = a := m3
  have m5 : (if (64 : Int) < a then (64 : Int) else a) = c := hca.symm
  have m6 : (if a > 64 then (64 : Int) else a) = c := hca.symm
  have m7 : (if a < 64 then a else (64 : Int)) = c := by rw [hca]; split <;> split <;> omega
  have m8 : (if (64 : Int) > a then a else (64 : Int)) = c := m7
  obtain ⟨d, hd⟩ : ∃ d, d = held f (-128) 128 := ⟨_, rfl⟩
  obtain ⟨b, hb⟩ : ∃ b : Int, b = if f < -128 then (-128 : Int) else f := ⟨_, rfl⟩
  have hdb : d = if 128 < b then (128 : Int) else b := by rw [hd, hb]; unfold held; split <;> split <;> (try split) <;> omega
  have kb1 : -128 ≤ d := by rw [hd]; unfold held; split <;> (try split) <;> omega
  have kb2 : d ≤ 128 := by rw [hd]; unfold held; split <;> (try split) <;> omega
  have k1 : (if (-128 : Int) > f then (-128 : Int) else f) = b := hb.symm
  have k2 : (if f < -128 then (-128 : Int) else f) = b := hb.symm
  have k3 : (if f > -128 then f else (-128 : Int)) = b := by rw [hb]; split <;> split <;> omega
  have k4 : (if (-128 : Int) < f then f else (-128 : Int)) = b := k3
  have k5 : (if (128 : Int) < b then (128 : Int) else b) = d := hdb.symm
  have k6 : (if b > 128 then (128 : Int) else b) = d := hdb.symm
  have k7 : (if b < 128 then b else (128 : Int)) = d := by rw [hdb]; split <;> split <;> omega
  have k8 : (if (128 : Int) > b then b else (128 : Int)) = d := k7
  rw [← hc, ← hd]
  obtain ⟨y, hy⟩ : ∃ y : Nat, y = x * 2 ^ (64 - c).toNat % 18446744073709551616 := ⟨_, rfl⟩
  rw [← hy]
  have HD := Lib.hid (fun X => down_c y 0 d X (by omega) (by decide))
  obtain ⟨p, hp⟩ : ∃ p, p = dwH y 0 d := ⟨_, rfl⟩
  obtain ⟨q, hq⟩ : ∃ q, q = dwL y 0 d := ⟨_, rfl⟩
  simp only [← hp, ← hq] at HD
  rw [← hp, ← hq]
  have e1 : IntKind.u64.wrap ((x : Int) * 2 ^ (64 - c).toNat) = (y : Int) := by rw [hy]; exact c_shl _ _
  have e3 : IntKind.i64.wrap (64 - c) = 64 - c := IntWalk.i64_in _ (by omega)
  have j1 : 0 ≤ 64 - c := by omega
  have j2 : 64 - c ≤ 64 := by omega
  have hz : ((0 : Nat) : Int) = 0 := rfl
  unfold mV at *
  rw [hz] at HD
  clear hp hq hy hc ha hb hd hca hdb hz
  go_enter Tryd.func32, Tryd.ntmps32
  go_wp2_with fail
  refine (HD.out _).mono ?_
  rintro e w2 ⟨rfl, hF⟩
  have hS2 := HS.out.keep hF
  have HS2 := Lib.hid hS2
  have j0 := (hS2.blk 0 rfl).cell 0 rfl
  have j1 := (hS2.blk 0 rfl).cell 1 rfl
  have f0 := (hS2.blk 0 rfl).free 0
  have f1 := (hS2.blk 0 rfl).free 1
  clear hS2 hF
  go_wp2_with fail
  refine bodyPost_ret (v := .agg #[.int .u64 (p : Int), .int .u64 (q : Int)]) ?_ rfl ⟨rfl, ?_⟩
  · simp [results, Tryd.results32, go_sem, j0, j1]
  · exact ((HS2.out.put 0 rfl 0 _).put 0 rfl 1 _).frm

end Go.Proofs.YtlkhjffbhcjdfaaDoor
