/-
  Resampling: the document's Cubic; the law Interpolates.
-/
import Derived.Test.YtnilibgafkakpaaRes4
namespace Go.Proofs.Ytnilibgafkakpaa
open Go.Pv Go.RowKit
set_option linter.unusedSimpArgs false
set_option linter.unusedVariables false
set_option maxRecDepth 100000
set_option maxHeartbeats 4000000

theorem cubicR_ok (a b c e p q : Int) : PCall Try.prog 18 [.agg [.int .i64 a, .int .i64 b, .int .i64 c, .int .i64 e], .int .i64 p, .int .i64 q] (vF (cuF a b c e p q)) := by
  cases h1 : smp a
  · refine pcall_cx G5_ok mixed (fun _ => none) Try.func18 rfl Try.ntmps18 Try.results18 (by simp) (by kernel_rfl) ?_
    repeat' first
      | (refine gw_bool (fun _ => ?_) (fun _ => ?_))
      | (refine condw_bool (fun _ => ?_) (fun _ => ?_))
      | (refine lp_unroll (D := (fun _ => none)) G5_ok mixed (by kernel_rfl) ?_)
      | simp [*, cuF, vF]
  · cases h2 : smp b
    · refine pcall_cx G5_ok mixed (fun _ => none) Try.func18 rfl Try.ntmps18 Try.results18 (by simp) (by kernel_rfl) ?_
      repeat' first
        | (refine gw_bool (fun _ => ?_) (fun _ => ?_))
        | (refine condw_bool (fun _ => ?_) (fun _ => ?_))
        | (refine lp_unroll (D := (fun _ => none)) G5_ok mixed (by kernel_rfl) ?_)
        | simp [*, cuF, vF]
    · cases h3 : smp c
      · refine pcall_cx G5_ok mixed (fun _ => none) Try.func18 rfl Try.ntmps18 Try.results18 (by simp) (by kernel_rfl) ?_
        repeat' first
          | (refine gw_bool (fun _ => ?_) (fun _ => ?_))
          | (refine condw_bool (fun _ => ?_) (fun _ => ?_))
          | (refine lp_unroll (D := (fun _ => none)) G5_ok mixed (by kernel_rfl) ?_)
          | simp [*, cuF, vF]
      · cases h4 : smp e
        · refine pcall_cx G5_ok mixed (fun _ => none) Try.func18 rfl Try.ntmps18 Try.results18 (by simp) (by kernel_rfl) ?_
          repeat' first
            | (refine gw_bool (fun _ => ?_) (fun _ => ?_))
            | (refine condw_bool (fun _ => ?_) (fun _ => ?_))
            | (refine lp_unroll (D := (fun _ => none)) G5_ok mixed (by kernel_rfl) ?_)
            | simp [*, cuF, vF]
        · cases h0 : frc p q
          · refine pcall_cx G5_ok mixed (fun _ => none) Try.func18 rfl Try.ntmps18 Try.results18 (by simp) (by kernel_rfl) ?_
            repeat' first
              | (refine gw_bool (fun _ => ?_) (fun _ => ?_))
              | (refine condw_bool (fun _ => ?_) (fun _ => ?_))
              | (refine lp_unroll (D := (fun _ => none)) G5_ok mixed (by kernel_rfl) ?_)
              | simp [*, cuF, vF]
          · obtain ⟨hb, k1, k2⟩ := cu_b h0 h1 h2 h3 h4
            obtain ⟨S, hS⟩ : ∃ S, cuS a b c e p q = S := ⟨_, rfl⟩
            have hS' := hS
            unfold cuS at hS'
            simp only [Int.neg_mul] at hS'
            rw [hS] at hb
            obtain ⟨Q, hQ⟩ : ∃ Q, 6 * q * q * q = Q := ⟨_, rfl⟩
            rw [hQ] at k1 k2
            have w1 : IntKind.i64.wrap S = S := wrap_id (by omega) (by omega)
            have w2 : IntKind.i64.wrap Q = Q := wrap_id (by omega) (by omega)
            have k2' : Q ≤ 4611686018427387904 := by omega
            have k3 : -4611686018427387904 ≤ S := by omega
            have k4 : S ≤ 4611686018427387904 := by omega
            clear hb k2
            refine pcall_cx G5_ok mixed (fun _ => none) Try.func18 rfl Try.ntmps18 Try.results18 (by simp) (by kernel_rfl) ?_
            repeat' first
              | (refine gw_bool (fun _ => ?_) (fun _ => ?_))
              | (refine condw_bool (fun _ => ?_) (fun _ => ?_))
              | (refine lp_unroll (D := (fun _ => none)) G5_ok mixed (by kernel_rfl) ?_)
              | simp [*, cuF, vF, vI, wrap_al, wrap_ar, wrap_sl, wrap_sr, wrap_ml, wrap_mr, wrap_ng]
def G6 : Tab := add 18 Tcu (G5)
theorem G6_at (f : FuncId) (vs : List V) : G6.at' f vs = if f = 18 then Tcu vs else G5.at' f vs := rfl
theorem G6_fr (f : FuncId) : G6.fr f = if f = 18 then false else G5.fr f := rfl
attribute [simp] G6_at G6_fr Tcu
theorem G6_ok : TabOK Try.prog G6 := by
  refine add_ok (G5_ok) (by kernel_rfl) ?_
  · intro vs v h; unfold Tcu at h; split at h
    · cases h; apply cubicR_ok
    · cases h
theorem lawInterpolates (a b c e p q : Int) : PCall Try.prog 7 [.agg [.int .i64 a, .int .i64 b, .int .i64 c, .int .i64 e], .int .i64 p, .int .i64 q] (.bool true) := by
  obtain ⟨⟨⟨l1, l2⟩, l3⟩, hl⟩ : ∃ x, liF a b p q = x := ⟨_, rfl⟩
  obtain ⟨⟨⟨c1, c2⟩, c3⟩, hc⟩ : ∃ x, cuF a b c e p q = x := ⟨_, rfl⟩
  obtain ⟨⟨n1, n2⟩, hn⟩ : ∃ x, neF p q = x := ⟨_, rfl⟩
  refine pcall_cx G6_ok mixed (fun _ => none) Try.func7 rfl Try.ntmps7 Try.results7 (by simp) (by kernel_rfl) ?_
  repeat' first
    | (refine gw_bool (fun _ => ?_) (fun _ => ?_))
    | (refine condw_bool (fun _ => ?_) (fun _ => ?_))
    | simp [*, vF, vI]
theorem has_arr {u : V} (h : HasV (.struct [.int .i64, .int .i64, .int .i64, .int .i64]) u) : ∃ a b c d, u = .agg [.int .i64 a, .int .i64 b, .int .i64 c, .int .i64 d] := by
  simp only [HasV, HasL, HasC] at h
  obtain ⟨_, rfl, _, _, rfl, ⟨t, rfl, _⟩, _, _, rfl, ⟨r, rfl, _⟩, _, _, rfl, ⟨k, rfl, _⟩, _, _, rfl, ⟨e, rfl, _⟩, rfl⟩ := h
  exact ⟨t, r, k, e, rfl⟩
end Go.Proofs.Ytnilibgafkakpaa
