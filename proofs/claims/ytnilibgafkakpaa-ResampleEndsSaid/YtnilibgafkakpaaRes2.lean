/-
  Resampling: Linear, Cubic, Nearest, and the document's; the sanity check.
-/
import Derived.Test.YtnilibgafkakpaaRes
namespace Go.Proofs.Ytnilibgafkakpaa
open Go.Pv Go.RowKit
set_option linter.unusedSimpArgs false
set_option linter.unusedVariables false
set_option maxRecDepth 100000
set_option maxHeartbeats 4000000

theorem mul_b {x y : Int} {X Y : Nat} (hx : x.natAbs ≤ X) (hy : y.natAbs ≤ Y) : (x * y).natAbs ≤ X * Y := by
  rw [Int.natAbs_mul]; exact Nat.mul_le_mul hx hy
theorem smp_b {x : Int} (h : smp x = true) : x.natAbs ≤ 16383 := by simp [smp, btw, ilt] at h; omega
theorem frc_b {n d : Int} (h : frc n d = true) : 1 ≤ d ∧ d ≤ 1000 ∧ 0 ≤ n ∧ n ≤ d := by simp [frc, btw, ilt] at h; omega
def vF (r : (Int × Int) × Int) : V := .tup [.int .i64 r.1.1, .int .i64 r.1.2, .int .i64 r.2]
def liF (a b n d : Int) : (Int × Int) × Int := if frc n d && smp a && smp b then (low (a * d + (b - a) * n) d, 0) else ((0, 0), 1)
theorem li_b {a b n d : Int} (h1 : frc n d = true) (h2 : smp a = true) (h3 : smp b = true) : (a * d + (b - a) * n).natAbs ≤ 100000000 := by
  have ⟨q1, q2, q3, q4⟩ := frc_b h1
  have e1 := smp_b h2
  have e2 := smp_b h3
  have m1 := mul_b (x := a) (y := d) (X := 16383) (Y := 1000) e1 (by omega)
  have m2 := mul_b (x := b - a) (y := n) (X := 32766) (Y := 1000) (by omega) (by omega)
  generalize a * d = u at m1 ⊢
  generalize (b - a) * n = v at m2 ⊢
  omega
theorem linear_ok (a b n d : Int) : PCall Try.prog 14 [.int .i64 a, .int .i64 b, .int .i64 n, .int .i64 d] (vF (liF a b n d)) := by
  cases h1 : frc n d
  · refine pcall_cx G3_ok mixed (fun _ => none) Try.func14 rfl Try.ntmps14 Try.results14 (by simp) (by kernel_rfl) ?_
    repeat' first
      | (refine gw_bool (fun _ => ?_) (fun _ => ?_))
      | (refine condw_bool (fun _ => ?_) (fun _ => ?_))
      | simp [*, liF, vF, il, decL, unI]
  · cases h2 : smp a
    · refine pcall_cx G3_ok mixed (fun _ => none) Try.func14 rfl Try.ntmps14 Try.results14 (by simp) (by kernel_rfl) ?_
      repeat' first
        | (refine gw_bool (fun _ => ?_) (fun _ => ?_))
        | (refine condw_bool (fun _ => ?_) (fun _ => ?_))
        | simp [*, liF, vF, il, decL, unI]
    · cases h3 : smp b
      · refine pcall_cx G3_ok mixed (fun _ => none) Try.func14 rfl Try.ntmps14 Try.results14 (by simp) (by kernel_rfl) ?_
        repeat' first
          | (refine gw_bool (fun _ => ?_) (fun _ => ?_))
          | (refine condw_bool (fun _ => ?_) (fun _ => ?_))
          | simp [*, liF, vF, il, decL, unI]
      · have hb := li_b h1 h2 h3
        have ⟨q1, q2, q3, q4⟩ := frc_b h1
        obtain ⟨S, hS⟩ : ∃ S, a * d + (b - a) * n = S := ⟨_, rfl⟩
        rw [hS] at hb
        have w1 : IntKind.i64.wrap S = S := wrap_id (by omega) (by omega)
        have k1 : 0 < d := by omega
        have k2 : d ≤ 4611686018427387904 := by omega
        have k3 : -4611686018427387904 ≤ S := by omega
        have k4 : S ≤ 4611686018427387904 := by omega
        clear hb q1 q2 q3 q4
        refine pcall_cx G3_ok mixed (fun _ => none) Try.func14 rfl Try.ntmps14 Try.results14 (by simp) (by kernel_rfl) ?_
        repeat' first
          | (refine gw_bool (fun _ => ?_) (fun _ => ?_))
          | (refine condw_bool (fun _ => ?_) (fun _ => ?_))
          | simp [*, liF, vF, vI, il, decL, unI, wrap_al, wrap_ar, wrap_sl, wrap_sr, wrap_ml, wrap_mr, wrap_ng]
theorem linearR_ok (a b n d : Int) : PCall Try.prog 17 [.int .i64 a, .int .i64 b, .int .i64 n, .int .i64 d] (vF (liF a b n d)) := by
  cases h1 : frc n d
  · refine pcall_cx G3_ok mixed (fun _ => none) Try.func17 rfl Try.ntmps17 Try.results17 (by simp) (by kernel_rfl) ?_
    repeat' first
      | (refine gw_bool (fun _ => ?_) (fun _ => ?_))
      | (refine condw_bool (fun _ => ?_) (fun _ => ?_))
      | simp [*, liF, vF]
  · cases h2 : smp a
    · refine pcall_cx G3_ok mixed (fun _ => none) Try.func17 rfl Try.ntmps17 Try.results17 (by simp) (by kernel_rfl) ?_
      repeat' first
        | (refine gw_bool (fun _ => ?_) (fun _ => ?_))
        | (refine condw_bool (fun _ => ?_) (fun _ => ?_))
        | simp [*, liF, vF]
    · cases h3 : smp b
      · refine pcall_cx G3_ok mixed (fun _ => none) Try.func17 rfl Try.ntmps17 Try.results17 (by simp) (by kernel_rfl) ?_
        repeat' first
          | (refine gw_bool (fun _ => ?_) (fun _ => ?_))
          | (refine condw_bool (fun _ => ?_) (fun _ => ?_))
          | simp [*, liF, vF]
      · have hb := li_b h1 h2 h3
        have ⟨q1, q2, q3, q4⟩ := frc_b h1
        obtain ⟨S, hS⟩ : ∃ S, a * d + (b - a) * n = S := ⟨_, rfl⟩
        rw [hS] at hb
        have w1 : IntKind.i64.wrap S = S := wrap_id (by omega) (by omega)
        have k1 : 0 < d := by omega
        have k2 : d ≤ 4611686018427387904 := by omega
        have k3 : -4611686018427387904 ≤ S := by omega
        have k4 : S ≤ 4611686018427387904 := by omega
        clear hb q1 q2 q3 q4
        refine pcall_cx G3_ok mixed (fun _ => none) Try.func17 rfl Try.ntmps17 Try.results17 (by simp) (by kernel_rfl) ?_
        repeat' first
          | (refine gw_bool (fun _ => ?_) (fun _ => ?_))
          | (refine condw_bool (fun _ => ?_) (fun _ => ?_))
          | simp [*, liF, vF, vI, wrap_al, wrap_ar, wrap_sl, wrap_sr, wrap_ml, wrap_mr, wrap_ng]
def cuS (a b c e p q : Int) : Int := -a * p * (p - q) * (p - 2 * q) + 3 * b * (p + q) * (p - q) * (p - 2 * q) - 3 * c * (p + q) * p * (p - 2 * q) + e * (p + q) * p * (p - q)
def cuF (a b c e p q : Int) : (Int × Int) × Int := if frc p q && smp a && smp b && smp c && smp e then (low (cuS a b c e p q) (6 * q * q * q), 0) else ((0, 0), 1)
theorem cu_b {a b c e p q : Int} (h0 : frc p q = true) (h1 : smp a = true) (h2 : smp b = true) (h3 : smp c = true) (h4 : smp e = true) : (cuS a b c e p q).natAbs ≤ 1000000000000000 ∧ 0 < 6 * q * q * q ∧ 6 * q * q * q ≤ 6000000000 := by
  have ⟨q1, q2, q3, q4⟩ := frc_b h0
  have m1 : (-a * p * (p - q) * (p - 2 * q)).natAbs ≤ 16383 * 1000 * 1000 * 2000 := mul_b (mul_b (mul_b (by have := smp_b h1; omega) (by omega)) (by omega)) (by omega)
  have m2 : (3 * b * (p + q) * (p - q) * (p - 2 * q)).natAbs ≤ 49149 * 2000 * 1000 * 2000 := mul_b (mul_b (mul_b (by have := smp_b h2; omega) (by omega)) (by omega)) (by omega)
  have m3 : (3 * c * (p + q) * p * (p - 2 * q)).natAbs ≤ 49149 * 2000 * 1000 * 2000 := mul_b (mul_b (mul_b (by have := smp_b h3; omega) (by omega)) (by omega)) (by omega)
  have m4 : (e * (p + q) * p * (p - q)).natAbs ≤ 16383 * 2000 * 1000 * 1000 := mul_b (mul_b (mul_b (smp_b h4) (by omega)) (by omega)) (by omega)
  have m5 : (6 * q * q * q).natAbs ≤ 6000 * 1000 * 1000 := mul_b (mul_b (by omega) (by omega)) (by omega)
  have m6 : 0 < 6 * q * q * q := Int.mul_pos (Int.mul_pos (by omega) (by omega)) (by omega)
  refine ⟨?_, m6, ?_⟩
  · unfold cuS
    generalize -a * p * (p - q) * (p - 2 * q) = x1 at m1 ⊢
    generalize 3 * b * (p + q) * (p - q) * (p - 2 * q) = x2 at m2 ⊢
    generalize 3 * c * (p + q) * p * (p - 2 * q) = x3 at m3 ⊢
    generalize e * (p + q) * p * (p - q) = x4 at m4 ⊢
    omega
  · generalize 6 * q * q * q = y at m5 m6 ⊢
    omega
theorem cubic_ok (a b c e p q : Int) : PCall Try.prog 12 [.agg [.int .i64 a, .int .i64 b, .int .i64 c, .int .i64 e], .int .i64 p, .int .i64 q] (vF (cuF a b c e p q)) := by
  cases h0 : frc p q
  · refine pcall_cx G3_ok mixed (fun _ => none) Try.func12 rfl Try.ntmps12 Try.results12 (by simp) (by kernel_rfl) ?_
    repeat' first
      | (refine gw_bool (fun _ => ?_) (fun _ => ?_))
      | (refine condw_bool (fun _ => ?_) (fun _ => ?_))
      | simp [*, cuF, vF]
  · by_cases hs : smp a = true ∧ smp b = true ∧ smp c = true ∧ smp e = true
    · obtain ⟨h1, h2, h3, h4⟩ := hs
      obtain ⟨hb, k1, k2⟩ := cu_b h0 h1 h2 h3 h4
      obtain ⟨S, hS⟩ : ∃ S, cuS a b c e p q = S := ⟨_, rfl⟩
      have hS' := hS
      unfold cuS at hS'
      rw [hS] at hb
      obtain ⟨Q, hQ⟩ : ∃ Q, 6 * q * q * q = Q := ⟨_, rfl⟩
      rw [hQ] at k1 k2
      have w1 : IntKind.i64.wrap S = S := wrap_id (by omega) (by omega)
      have w2 : IntKind.i64.wrap Q = Q := wrap_id (by omega) (by omega)
      have k2' : Q ≤ 4611686018427387904 := by omega
      have k3 : -4611686018427387904 ≤ S := by omega
      have k4 : S ≤ 4611686018427387904 := by omega
      clear hb k2
      refine pcall_cx G3_ok mixed (fun _ => none) Try.func12 rfl Try.ntmps12 Try.results12 (by simp) (by kernel_rfl) ?_
      repeat' first
        | (refine gw_bool (fun _ => ?_) (fun _ => ?_))
        | (refine condw_bool (fun _ => ?_) (fun _ => ?_))
        | simp [*, cuF, vF, vI, il, decL, unI, wrap_al, wrap_ar, wrap_sl, wrap_sr, wrap_ml, wrap_mr, wrap_ng]
    · have hz : smp a = true → smp b = true → smp c = true → smp e = false := by
        intro h1 h2 h3; cases h4 : smp e
        · rfl
        · exact absurd ⟨h1, h2, h3, h4⟩ hs
      cases h1 : smp a
      · clear hz hs
        refine pcall_cx G3_ok mixed (fun _ => none) Try.func12 rfl Try.ntmps12 Try.results12 (by simp) (by kernel_rfl) ?_
        repeat' first
          | (refine gw_bool (fun _ => ?_) (fun _ => ?_))
          | (refine condw_bool (fun _ => ?_) (fun _ => ?_))
          | simp [*, cuF, vF, il, decL, unI]
      · cases h2 : smp b
        · clear hz hs
          refine pcall_cx G3_ok mixed (fun _ => none) Try.func12 rfl Try.ntmps12 Try.results12 (by simp) (by kernel_rfl) ?_
          repeat' first
            | (refine gw_bool (fun _ => ?_) (fun _ => ?_))
            | (refine condw_bool (fun _ => ?_) (fun _ => ?_))
            | simp [*, cuF, vF, il, decL, unI]
        · cases h3 : smp c
          · clear hz hs
            refine pcall_cx G3_ok mixed (fun _ => none) Try.func12 rfl Try.ntmps12 Try.results12 (by simp) (by kernel_rfl) ?_
            repeat' first
              | (refine gw_bool (fun _ => ?_) (fun _ => ?_))
              | (refine condw_bool (fun _ => ?_) (fun _ => ?_))
              | simp [*, cuF, vF, il, decL, unI]
          · have h4 := hz h1 h2 h3
            clear hz hs
            refine pcall_cx G3_ok mixed (fun _ => none) Try.func12 rfl Try.ntmps12 Try.results12 (by simp) (by kernel_rfl) ?_
            repeat' first
              | (refine gw_bool (fun _ => ?_) (fun _ => ?_))
              | (refine condw_bool (fun _ => ?_) (fun _ => ?_))
              | simp [*, cuF, vF, il, decL, unI]
end Go.Proofs.Ytnilibgafkakpaa
