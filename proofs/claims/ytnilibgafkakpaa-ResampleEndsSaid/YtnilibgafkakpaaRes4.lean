/-
  Resampling: the law Nearest; the document's Cubic.
-/
import Derived.Test.YtnilibgafkakpaaRes3
namespace Go.Proofs.Ytnilibgafkakpaa
open Go.Pv Go.RowKit
set_option linter.unusedSimpArgs false
set_option linter.unusedVariables false
set_option maxRecDepth 100000
set_option maxHeartbeats 4000000

def Tne : List V → Option V
  | [.int .i64 n, .int .i64 d] => some (vI (neF n d))
  | _ => none
def Tkn : List V → Option V
  | [] => some (.bool true)
  | _ => none
def G5 : Tab := add 16 Tne (add 19 Tne (add 10 Tkn (G4)))
theorem G5_at (f : FuncId) (vs : List V) : G5.at' f vs = if f = 16 then Tne vs else if f = 19 then Tne vs else if f = 10 then Tkn vs else G4.at' f vs := rfl
theorem G5_fr (f : FuncId) : G5.fr f = if f = 16 then false else if f = 19 then false else if f = 10 then false else G4.fr f := rfl
attribute [simp] G5_at G5_fr Tkn Tne
theorem G5_ok : TabOK Try.prog G5 := by
  refine add_ok (add_ok (add_ok (G4_ok) (by kernel_rfl) ?_) (by kernel_rfl) ?_) (by kernel_rfl) ?_
  · intro vs v h; unfold Tkn at h; split at h
    · cases h; apply known_ok
    · cases h
  · intro vs v h; unfold Tne at h; split at h
    · cases h; apply nearestR_ok
    · cases h
  · intro vs v h; unfold Tne at h; split at h
    · cases h; apply nearest_ok
    · cases h
theorem lawNearest (n d : Int) : PCall Try.prog 6 [.int .i64 n, .int .i64 d] (.bool true) := by
  have b := tmod_b (n := n) (m := 1099511627776) (by omega)
  obtain ⟨N, hN⟩ : ∃ N, n.tmod 1099511627776 = N := ⟨_, rfl⟩
  rw [hN] at b
  have c1 := Int.emod_nonneg d (show (1099511627776 : Int) ≠ 0 by omega)
  have c2 := Int.emod_lt_of_pos d (show (0 : Int) < 1099511627776 by omega)
  obtain ⟨E, hE⟩ : ∃ E, d % 1099511627776 = E := ⟨_, rfl⟩
  rw [hE] at c1 c2
  obtain ⟨D, hD⟩ : ∃ D, 1 + E = D := ⟨_, rfl⟩
  have w1 : IntKind.i64.wrap D = D := wrap_id (by omega) (by omega)
  have hr : neR N D = true := by simp [neR, btw, ilt]; omega
  have m1 := Int.mul_ediv_add_emod (2 * N + D) (2 * D)
  have m2 := Int.emod_nonneg (2 * N + D) (show 2 * D ≠ 0 by omega)
  have m3 := Int.emod_lt_of_pos (2 * N + D) (show 0 < 2 * D by omega)
  obtain ⟨q, hq⟩ : ∃ q, (2 * N + D) / (2 * D) = q := ⟨_, rfl⟩
  rw [hq] at m1
  obtain ⟨X, hX⟩ : ∃ X, 2 * q * D = X := ⟨_, rfl⟩
  rw [Int.mul_right_comm, hX] at m1
  obtain ⟨Y, hY⟩ : ∃ Y, 2 * N - X = Y := ⟨_, rfl⟩
  have w2 : IntKind.i64.wrap Y = Y := wrap_id (by omega) (by omega)
  have w3 : IntKind.i64.wrap (-D) = -D := wrap_id (by omega) (by omega)
  have f1 : ilt Y D = true := ilt_t (by omega)
  have f2 : ilt Y (-D) = false := ilt_f (by omega)
  clear b c1 c2 m1 m2 m3
  refine pcall_cx G5_ok mixed (fun _ => none) Try.func6 rfl Try.ntmps6 Try.results6 (by simp) (by kernel_rfl) ?_
  repeat' first
    | (refine gw_bool (fun _ => ?_) (fun _ => ?_))
    | (refine condw_bool (fun _ => ?_) (fun _ => ?_))
    | simp [*, neF, vI, wrap_al, wrap_ar, wrap_sl, wrap_sr, wrap_ml, wrap_mr]
end Go.Proofs.Ytnilibgafkakpaa
