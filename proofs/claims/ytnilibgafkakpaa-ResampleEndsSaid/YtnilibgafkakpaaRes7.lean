/-
  Resampling: the law Exact.
-/
import Derived.Test.YtnilibgafkakpaaRes6
namespace Go.Proofs.Ytnilibgafkakpaa
open Go.Pv Go.RowKit
set_option linter.unusedSimpArgs false
set_option linter.unusedVariables false
set_option maxRecDepth 100000
set_option maxHeartbeats 4000000

theorem low_eq {n d : Int} (hd : 0 < d) : (low n d).1 * gcdI n d = n ∧ (low n d).2 * gcdI n d = d ∧ 0 < (low n d).2 := by
  have hg := gcd_pos (n := n) hd
  have h1 : gcdI n d ∣ n := by
    rw [← Int.dvd_natAbs]; exact Int.natCast_dvd_natCast.2 (Nat.gcd_dvd_left _ _)
  have h2 : gcdI n d ∣ d := by
    rw [← Int.dvd_natAbs]; exact Int.natCast_dvd_natCast.2 (Nat.gcd_dvd_right _ _)
  have e2 : (low n d).2 * gcdI n d = d := Int.tdiv_mul_cancel h2
  refine ⟨Int.tdiv_mul_cancel h1, e2, ?_⟩
  rcases Int.lt_trichotomy (low n d).2 0 with h | h | h
  · exfalso
    have := Int.mul_neg_of_neg_of_pos h hg
    omega
  · rw [h] at e2; omega
  · exact h
theorem low_cross {n d : Int} (hd : 0 < d) : (low n d).1 * d = n * (low n d).2 := by
  obtain ⟨h1, h2, h3⟩ := low_eq (n := n) hd
  generalize (low n d).1 = u at *
  generalize (low n d).2 = v at *
  generalize gcdI n d = g at *
  rw [← h1, ← h2]; grind
def pol (a b c e t : Int) : Int := a + b * t + c * t * t + e * t * t * t
def hom (a b c e p q : Int) : Int := a * q * q * q + b * p * q * q + c * p * p * q + e * p * p * p
theorem pol_cu (a b c e p q : Int) : cuS (a - b + c - e) a (a + b + c + e) (a + 2 * b + 4 * c + 8 * e) p q = 6 * hom a b c e p q := by
  unfold cuS hom; grind
theorem lawExact (a0 b0 c0 e0 n d : Int) : PCall Try.prog 3 [.agg [.int .i64 a0, .int .i64 b0, .int .i64 c0, .int .i64 e0], .int .i64 n, .int .i64 d] (.bool true) := by
  have ba := tmod_b (n := a0) (m := 500) (by omega)
  have bb := tmod_b (n := b0) (m := 500) (by omega)
  have bc := tmod_b (n := c0) (m := 500) (by omega)
  have be := tmod_b (n := e0) (m := 500) (by omega)
  obtain ⟨a, ha⟩ : ∃ a, a0.tmod 500 = a := ⟨_, rfl⟩
  obtain ⟨b, hb⟩ : ∃ b, b0.tmod 500 = b := ⟨_, rfl⟩
  obtain ⟨c, hc⟩ : ∃ c, c0.tmod 500 = c := ⟨_, rfl⟩
  obtain ⟨e, he⟩ : ∃ e, e0.tmod 500 = e := ⟨_, rfl⟩
  rw [ha] at ba; rw [hb] at bb; rw [hc] at bc; rw [he] at be
  obtain ⟨q, hq⟩ : ∃ q, 1 + d % 100 = q := ⟨_, rfl⟩
  have bq : 1 ≤ q ∧ q ≤ 100 := by omega
  obtain ⟨q1, hq1⟩ : ∃ q1, q + 1 = q1 := ⟨_, rfl⟩
  have c1 := Int.emod_nonneg n (show q1 ≠ 0 by omega)
  have c2 := Int.emod_lt_of_pos n (show 0 < q1 by omega)
  obtain ⟨p, hp⟩ : ∃ p, n % q1 = p := ⟨_, rfl⟩
  rw [hp] at c1 c2
  have hf : frc p q = true := by simp [frc, btw, ilt]; omega
  obtain ⟨S0, g0⟩ : ∃ S, a - b + c - e = S := ⟨_, rfl⟩
  obtain ⟨S2, g2⟩ : ∃ S, a + b + c + e = S := ⟨_, rfl⟩
  obtain ⟨S3, g3⟩ : ∃ S, a + 2 * b + 4 * c + 8 * e = S := ⟨_, rfl⟩
  have s0 : smp S0 = true := by simp [smp, btw, ilt]; omega
  have s1 : smp a = true := by simp [smp, btw, ilt]; omega
  have s2 : smp S2 = true := by simp [smp, btw, ilt]; omega
  have s3 : smp S3 = true := by simp [smp, btw, ilt]; omega
  have hQ : 0 < 6 * q * q * q := Int.mul_pos (Int.mul_pos (by omega) (by omega)) (by omega)
  have hcu : cuF S0 a S2 S3 p q = (low (6 * hom a b c e p q) (6 * q * q * q), 0) := by
    have := pol_cu a b c e p q
    rw [g0, g2, g3] at this
    simp [cuF, hf, s0, s1, s2, s3, this]
  have hx := low_cross (n := 6 * hom a b c e p q) hQ
  obtain ⟨_, _, hy⟩ := low_eq (n := 6 * hom a b c e p q) hQ
  obtain ⟨⟨x, y⟩, hxy⟩ : ∃ x, low (6 * hom a b c e p q) (6 * q * q * q) = x := ⟨_, rfl⟩
  rw [hxy] at hx hy hcu
  simp only at hx hy
  obtain ⟨Z, hZ⟩ : ∃ Z, x * (q * q * q) = Z := ⟨_, rfl⟩
  have hZ2 : (a * q * q * q + b * p * q * q + c * p * p * q + e * p * p * p) * y = Z := by
    rw [← hZ]
    have h6 : 6 * (x * (q * q * q)) = 6 * (hom a b c e p q * y) := by
      have := hx; grind
    have := Int.eq_of_mul_eq_mul_left (by omega) h6
    rw [this]; unfold hom; rfl
  have w1 : IntKind.i64.wrap q = q := wrap_id (by omega) (by omega)
  have w2 : IntKind.i64.wrap q1 = q1 := wrap_id (by omega) (by omega)
  have k1 : 0 < q1 := by omega
  have k2 : q1 ≤ 4611686018427387904 := by omega
  have v0 : IntKind.i64.wrap (a + b * (-1) + c * (-1) * (-1) + e * (-1) * (-1) * (-1)) = S0 := by
    rw [← g0]; rw [wrap_id (by omega) (by omega)]; omega
  have v1 : IntKind.i64.wrap a = a := wrap_id (by omega) (by omega)
  have v2 : IntKind.i64.wrap (a + b + c + e) = S2 := by rw [← g2]; exact wrap_id (by omega) (by omega)
  have v3 : IntKind.i64.wrap (a + b * 2 + c * 2 * 2 + e * 2 * 2 * 2) = S3 := by
    rw [← g3]; rw [wrap_id (by omega) (by omega)]; omega
  simp at v0
  have hy' : ilt 0 y = true := ilt_t (by omega)
  clear ba bb bc be bq c1 c2 hf s0 s1 s2 s3 hQ hx hy hxy g0 g2 g3
  refine pcall_cx G7_ok mixed (fun _ => none) Try.func3 rfl Try.ntmps3 Try.results3 (by simp) (by kernel_rfl) ?_
  repeat' first
    | (refine gw_bool (fun _ => ?_) (fun _ => ?_))
    | (refine condw_bool (fun _ => ?_) (fun _ => ?_))
    | (refine lp_unroll (D := (fun _ => none)) G7_ok mixed (by kernel_rfl) ?_)
    | simp [*, vF, vI, wrap_al, wrap_ar, wrap_sl, wrap_sr, wrap_ml, wrap_mr, wrap_ng]
end Go.Proofs.Ytnilibgafkakpaa
