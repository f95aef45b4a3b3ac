/-
  Resampling: the laws Mirror and Exact.
-/
import Derived.Test.YtnilibgafkakpaaRes5
namespace Go.Proofs.Ytnilibgafkakpaa
open Go.Pv Go.RowKit
set_option linter.unusedSimpArgs false
set_option linter.unusedVariables false
set_option maxRecDepth 100000
set_option maxHeartbeats 4000000

def lfD (d : Int) : Int := 1 + d % 1000
def lfN (n d : Int) : Int := n % (lfD d + 1)
theorem lfD_b (d : Int) : 1 ≤ lfD d ∧ lfD d ≤ 1000 := by unfold lfD; omega
theorem lfN_b (n d : Int) : 0 ≤ lfN n d ∧ lfN n d ≤ lfD d := by
  have := lfD_b d
  have h1 := Int.emod_nonneg n (show lfD d + 1 ≠ 0 by omega)
  have h2 := Int.emod_lt_of_pos n (show 0 < lfD d + 1 by omega)
  unfold lfN; omega
theorem lf_frc (n d : Int) : frc (lfN n d) (lfD d) = true := by
  have := lfD_b d
  have := lfN_b n d
  simp [frc, btw, ilt]; omega
theorem lfrac_ok (n d : Int) : PCall Try.prog 13 [.int .i64 n, .int .i64 d] (vI (lfN n d, lfD d)) := by
  have h1 := lfD_b d
  obtain ⟨D, hD⟩ : ∃ D, lfD d = D := ⟨_, rfl⟩
  have hD' : 1 + d % 1000 = D := hD
  have hN' : n % (D + 1) = lfN n d := by unfold lfN; rw [hD]
  rw [hD] at h1
  obtain ⟨D1, hD1⟩ : ∃ D1, D + 1 = D1 := ⟨_, rfl⟩
  rw [hD1] at hN'
  have w1 : IntKind.i64.wrap D = D := wrap_id (by omega) (by omega)
  have w2 : IntKind.i64.wrap D1 = D1 := wrap_id (by omega) (by omega)
  have k1 : 0 < D1 := by omega
  have k2 : D1 ≤ 4611686018427387904 := by omega
  clear h1
  refine pcall_cx G6_ok mixed (fun _ => none) Try.func13 rfl Try.ntmps13 Try.results13 (by simp) (by kernel_rfl) ?_
  repeat' first
    | (refine gw_bool (fun _ => ?_) (fun _ => ?_))
    | (refine condw_bool (fun _ => ?_) (fun _ => ?_))
    | simp [*, vI]
def Tlf : List V → Option V
  | [.int .i64 n, .int .i64 d] => some (vI (lfN n d, lfD d))
  | _ => none
def G7 : Tab := add 13 Tlf (G6)
theorem G7_at (f : FuncId) (vs : List V) : G7.at' f vs = if f = 13 then Tlf vs else G6.at' f vs := rfl
theorem G7_fr (f : FuncId) : G7.fr f = if f = 13 then false else G6.fr f := rfl
attribute [simp] G7_at G7_fr Tlf
theorem G7_ok : TabOK Try.prog G7 := by
  refine add_ok (G6_ok) (by kernel_rfl) ?_
  · intro vs v h; unfold Tlf at h; split at h
    · cases h; apply lfrac_ok
    · cases h
def wsp (x : Int) : Int := x % 32767 - 16383
theorem wsp_b (x : Int) : -16383 ≤ wsp x ∧ wsp x ≤ 16383 := by unfold wsp; omega
theorem wsp_s (x : Int) : smp (wsp x) = true := by have := wsp_b x; simp [smp, btw, ilt]; omega
theorem wsp_w (x : Int) : IntKind.i64.wrap (x % 32767 - 16383) = wsp x := by have := wsp_b x; exact wrap_id (by unfold wsp at *; omega) (by unfold wsp at *; omega)
theorem cuS_mirror (a b c e p q : Int) : cuS e c b a (q - p) q = cuS a b c e p q := by
  unfold cuS; grind
theorem lawMirror (a b c e p q : Int) : PCall Try.prog 4 [.agg [.int .i64 a, .int .i64 b, .int .i64 c, .int .i64 e], .int .i64 p, .int .i64 q] (.bool true) := by
  have hf := lf_frc p q
  have b1 := lfD_b q
  have b2 := lfN_b p q
  obtain ⟨Q, hQ⟩ : ∃ Q, lfD q = Q := ⟨_, rfl⟩
  obtain ⟨P, hP⟩ : ∃ P, lfN p q = P := ⟨_, rfl⟩
  rw [hQ] at hf b1 b2
  rw [hP] at hf b2
  have hf2 : frc (Q - P) Q = true := by simp [frc, btw, ilt]; omega
  have s1 := wsp_s a
  have s2 := wsp_s b
  have s3 := wsp_s c
  have s4 := wsp_s e
  have w1 := wsp_w a
  have w2 := wsp_w b
  have w3 := wsp_w c
  have w4 := wsp_w e
  generalize wsp a = A at *
  generalize wsp b = B at *
  generalize wsp c = C at *
  generalize wsp e = E at *
  have hm : cuF E C B A (Q - P) Q = cuF A B C E P Q := by
    simp only [cuF, hf, hf2, s1, s2, s3, s4, cuS_mirror]
  have hz : ∃ x y, cuF A B C E P Q = ((x, y), 0) := ⟨(low (cuS A B C E P Q) (6 * Q * Q * Q)).1, (low (cuS A B C E P Q) (6 * Q * Q * Q)).2, by simp [cuF, hf, s1, s2, s3, s4]⟩
  obtain ⟨x, y, hz⟩ := hz
  rw [hz] at hm
  have w5 : IntKind.i64.wrap (Q - P) = Q - P := wrap_id (by omega) (by omega)
  clear b1 b2 s1 s2 s3 s4 hf hf2
  refine pcall_cx G7_ok mixed (fun _ => none) Try.func4 rfl Try.ntmps4 Try.results4 (by simp) (by kernel_rfl) ?_
  repeat' first
    | (refine gw_bool (fun _ => ?_) (fun _ => ?_))
    | (refine condw_bool (fun _ => ?_) (fun _ => ?_))
    | (refine lp_unroll (D := (fun _ => none)) G7_ok mixed (by kernel_rfl) ?_)
    | simp [*, vF, vI]
end Go.Proofs.Ytnilibgafkakpaa
