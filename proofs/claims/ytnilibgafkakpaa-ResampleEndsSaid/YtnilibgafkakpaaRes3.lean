/-
  Resampling: Nearest, the document's Cubic and Nearest, the sanity check, the law's fractions.
-/
import Derived.Test.YtnilibgafkakpaaRes2
namespace Go.Proofs.Ytnilibgafkakpaa
open Go.Pv Go.RowKit
set_option linter.unusedSimpArgs false
set_option linter.unusedVariables false
set_option maxRecDepth 100000
set_option maxHeartbeats 4000000

def Tli : List V → Option V
  | [.int .i64 a, .int .i64 b, .int .i64 n, .int .i64 d] => some (vF (liF a b n d))
  | _ => none
def Tcu : List V → Option V
  | [.agg [.int .i64 a, .int .i64 b, .int .i64 c, .int .i64 e], .int .i64 n, .int .i64 d] => some (vF (cuF a b c e n d))
  | _ => none
theorem floor_ok (S D : Int) (h1 : 0 < D) (h2 : D ≤ 4611686018427387904) (h3 : -4611686018427387904 ≤ S) (h4 : S ≤ 4611686018427387904) : PCall Try.prog 30 [.int .i64 S, .int .i64 D] (.int .i64 (S / D)) := by
  have e1 := tdiv_fix (n := S) h1
  obtain ⟨N, rfl⟩ := Int.eq_ofNat_of_zero_le (show 0 ≤ D by omega)
  have h0 : ¬ N = 0 := by omega
  have w3 : IntKind.i64.wrap (S.tdiv (N : Int)) = S.tdiv (N : Int) := tdiv_b h3 h4
  cases hn : ilt (S.tmod N) 0
  · have e2 : S.tdiv N = S / N := by rw [← e1, if_neg (by have := ilt_iff'.1 hn; omega)]
    rw [e2] at w3
    clear e1
    refine pcall_cx noTab_ok mixed (fun _ => none) Try.func30 rfl Try.ntmps30 Try.results30 (by simp) (by kernel_rfl) ?_
    repeat' first
      | (refine gw_bool (fun _ => ?_) (fun _ => ?_))
      | (refine condw_bool (fun _ => ?_) (fun _ => ?_))
      | simp [*]
  · have e2 : S.tdiv N - 1 = S / N := by rw [← e1, if_pos (ilt_iff.1 hn)]
    have h5 : (S.tdiv (N : Int)).natAbs = S.natAbs / N := by rw [Int.natAbs_tdiv]; rfl
    have h6 : S.natAbs / N ≤ S.natAbs := Nat.div_le_self _ _
    have w4 : IntKind.i64.wrap (S.tdiv N - 1) = S / N := by
      rw [← e2]
      generalize S.natAbs / N = c at h5 h6
      exact wrap_id (by omega) (by omega)
    clear e1 e2 h5 h6
    refine pcall_cx noTab_ok mixed (fun _ => none) Try.func30 rfl Try.ntmps30 Try.results30 (by simp) (by kernel_rfl) ?_
    repeat' first
      | (refine gw_bool (fun _ => ?_) (fun _ => ?_))
      | (refine condw_bool (fun _ => ?_) (fun _ => ?_))
      | simp [*]
def Tfloor : List V → Option V
  | [.int .i64 S, .int .i64 D] => bif decide (0 < D) && (decide (D ≤ 4611686018427387904) && (decide (-4611686018427387904 ≤ S) && decide (S ≤ 4611686018427387904))) then some (.int .i64 (S / D)) else none
  | _ => none
theorem floor_tab : ∀ vs v, Tfloor vs = some v → PCall Try.prog 30 vs v := by
  intro vs v h; unfold Tfloor at h; split at h
  · simp only [cond_eq_ite, Bool.and_eq_true, decide_eq_true_eq] at h
    split at h
    · rename_i hc; cases h; exact floor_ok _ _ hc.1 hc.2.1 hc.2.2.1 hc.2.2.2
    · cases h
  · cases h
def G4 : Tab := add 14 Tli (add 17 Tli (add 12 Tcu (add 30 Tfloor (G3))))
theorem G4_at (f : FuncId) (vs : List V) : G4.at' f vs = if f = 14 then Tli vs else if f = 17 then Tli vs else if f = 12 then Tcu vs else if f = 30 then Tfloor vs else G3.at' f vs := rfl
theorem G4_fr (f : FuncId) : G4.fr f = if f = 14 then false else if f = 17 then false else if f = 12 then false else if f = 30 then false else G3.fr f := rfl
attribute [simp] G4_at G4_fr Tcu Tfloor Tli
theorem G4_ok : TabOK Try.prog G4 := by
  refine add_ok (add_ok (add_ok (add_ok (G3_ok) (by kernel_rfl) ?_) (by kernel_rfl) ?_) (by kernel_rfl) ?_) (by kernel_rfl) ?_
  · exact floor_tab
  · intro vs v h; unfold Tcu at h; split at h
    · cases h; apply cubic_ok
    · cases h
  · intro vs v h; unfold Tli at h; split at h
    · cases h; apply linearR_ok
    · cases h
  · intro vs v h; unfold Tli at h; split at h
    · cases h; apply linear_ok
    · cases h
def neR (n d : Int) : Bool := btw d 1 1152921504606846976 && btw n (-1152921504606846976) 1152921504606846976
def neF (n d : Int) : Int × Int := if neR n d then ((2 * n + d) / (2 * d), 0) else (0, 1)
theorem neR_b {n d : Int} (h : neR n d = true) : 1 ≤ d ∧ d ≤ 1152921504606846976 ∧ -1152921504606846976 ≤ n ∧ n ≤ 1152921504606846976 := by simp [neR, btw, ilt] at h; omega
theorem nearest_ok (n d : Int) : PCall Try.prog 16 [.int .i64 n, .int .i64 d] (vI (neF n d)) := by
  cases h : neR n d
  · have h' : btw d 1 1152921504606846976 = true → btw n (-1152921504606846976) 1152921504606846976 = false := by
      intro hq; simpa [neR, hq] using h
    cases hq : btw d 1 1152921504606846976
    · clear h'
      refine pcall_cx G4_ok mixed (fun _ => none) Try.func16 rfl Try.ntmps16 Try.results16 (by simp) (by kernel_rfl) ?_
      repeat' first
        | (refine gw_bool (fun _ => ?_) (fun _ => ?_))
        | (refine condw_bool (fun _ => ?_) (fun _ => ?_))
        | simp [*, neF, vI]
    · have hr := h' hq
      clear h'
      refine pcall_cx G4_ok mixed (fun _ => none) Try.func16 rfl Try.ntmps16 Try.results16 (by simp) (by kernel_rfl) ?_
      repeat' first
        | (refine gw_bool (fun _ => ?_) (fun _ => ?_))
        | (refine condw_bool (fun _ => ?_) (fun _ => ?_))
        | simp [*, neF, vI]
  · obtain ⟨b1, b2, b3, b4⟩ := neR_b h
    have hq : btw d 1 1152921504606846976 = true := by simp [neR] at h; exact h.1
    have hr : btw n (-1152921504606846976) 1152921504606846976 = true := by simp [neR] at h; exact h.2
    obtain ⟨S, hS⟩ : ∃ S, 2 * n + d = S := ⟨_, rfl⟩
    obtain ⟨D, hD⟩ : ∃ D : Nat, 2 * d = (D : Int) := Int.eq_ofNat_of_zero_le (by omega)
    have e1 := tdiv_fix (n := S) (m := (D : Int)) (by omega)
    have w1 : IntKind.i64.wrap S = S := wrap_id (by omega) (by omega)
    have w2 : IntKind.i64.wrap (D : Int) = D := wrap_id (by omega) (by omega)
    have w3 : IntKind.i64.wrap (S.tdiv (D : Int)) = S.tdiv (D : Int) := tdiv_b (by omega) (by omega)
    have h0 : ¬ D = 0 := by omega
    have h5 : (S.tdiv (D : Int)).natAbs = S.natAbs / D := by rw [Int.natAbs_tdiv]; rfl
    have h6 : S.natAbs / D ≤ S.natAbs := Nat.div_le_self _ _
    cases hn : ilt (S.tmod D) 0
    · have e2 : S.tdiv D = S / D := by rw [← e1, if_neg (by have := ilt_iff'.1 hn; omega)]
      rw [e2] at w3
      clear e1 b1 b2 b3 b4 h5 h6
      refine pcall_cx G4_ok mixed (fun _ => none) Try.func16 rfl Try.ntmps16 Try.results16 (by simp) (by kernel_rfl) ?_
      repeat' first
        | (refine gw_bool (fun _ => ?_) (fun _ => ?_))
        | (refine condw_bool (fun _ => ?_) (fun _ => ?_))
        | simp [*, neF, vI, wrap_al, wrap_ar]
    · have e2 : S.tdiv D - 1 = S / D := by rw [← e1, if_pos (ilt_iff.1 hn)]
      have w4 : IntKind.i64.wrap (S.tdiv D - 1) = S / D := by
        rw [← e2]
        generalize S.natAbs / D = c at h5 h6
        exact wrap_id (by omega) (by omega)
      clear e1 e2 b1 b2 b3 b4 h5 h6
      refine pcall_cx G4_ok mixed (fun _ => none) Try.func16 rfl Try.ntmps16 Try.results16 (by simp) (by kernel_rfl) ?_
      repeat' first
        | (refine gw_bool (fun _ => ?_) (fun _ => ?_))
        | (refine condw_bool (fun _ => ?_) (fun _ => ?_))
        | simp [*, neF, vI, wrap_al, wrap_ar]
theorem nearestR_ok (n d : Int) : PCall Try.prog 19 [.int .i64 n, .int .i64 d] (vI (neF n d)) := by
  cases h : neR n d
  · have h' := h
    simp only [neR, btw] at h'
    refine pcall_cx G4_ok mixed (fun _ => none) Try.func19 rfl Try.ntmps19 Try.results19 (by simp) (by kernel_rfl) ?_
    repeat' first
      | (refine gw_bool (fun _ => ?_) (fun _ => ?_))
      | (refine condw_bool (fun _ => ?_) (fun _ => ?_))
      | simp [*, neF, vI]
    all_goals (exfalso; simp_all)
  · obtain ⟨b1, b2, b3, b4⟩ := neR_b h
    obtain ⟨S, hS⟩ : ∃ S, 2 * n + d = S := ⟨_, rfl⟩
    obtain ⟨D, hD⟩ : ∃ D, 2 * d = D := ⟨_, rfl⟩
    have w1 : IntKind.i64.wrap S = S := wrap_id (by omega) (by omega)
    have w2 : IntKind.i64.wrap D = D := wrap_id (by omega) (by omega)
    have k1 : 0 < D := by omega
    have k2 : D ≤ 4611686018427387904 := by omega
    have k3 : -4611686018427387904 ≤ S := by omega
    have k4 : S ≤ 4611686018427387904 := by omega
    have f1 : ilt d 1 = false := ilt_f (by omega)
    have f2 : ilt 1152921504606846976 d = false := ilt_f (by omega)
    have f3 : ilt n (-1152921504606846976) = false := ilt_f (by omega)
    have f4 : ilt 1152921504606846976 n = false := ilt_f (by omega)
    clear b1 b2 b3 b4
    refine pcall_cx G4_ok mixed (fun _ => none) Try.func19 rfl Try.ntmps19 Try.results19 (by simp) (by kernel_rfl) ?_
    repeat' first
      | (refine gw_bool (fun _ => ?_) (fun _ => ?_))
      | (refine condw_bool (fun _ => ?_) (fun _ => ?_))
      | simp [*, neF, vI, wrap_al, wrap_ar]
theorem known_ok : PCall Try.prog 10 [] (.bool true) := by
  have e : cuF 0 1 8 27 1 2 = ((27, 8), 0) := by decide
  refine pcall_cx G4_ok mixed (fun _ => none) Try.func10 rfl Try.ntmps10 Try.results10 (by simp) (by kernel_rfl) ?_
  repeat' first
    | (refine gw_bool (fun _ => ?_) (fun _ => ?_))
    | (refine condw_bool (fun _ => ?_) (fun _ => ?_))
    | simp [*, vF]
end Go.Proofs.Ytnilibgafkakpaa
