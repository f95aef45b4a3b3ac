/-
  Frequency: the law Measures.
-/
import Derived.Test.YtacmchjaldljjaaBig4
namespace Go.Proofs.Ytacmchjaldljjaa
open Go.Pv Go.RowKit
set_option linter.unusedSimpArgs false
set_option linter.unusedVariables false
set_option maxRecDepth 100000
set_option maxHeartbeats 4000000

theorem wiR_tab : ∀ vs v, Twi vs = some v → PCall Try.prog 19 vs v := by
  intro vs v h; unfold Twi at h; split at h
  · split at h
    · rename_i l h1
      rw [decL_inv unI_inv _ _ h1]
      simp only [cond_eq_ite, decide_eq_true_eq] at h
      split at h
      · rename_i hc; cases h; exact wiR_ok _ _ hc
      · cases h
    · cases h
  · cases h
def G7 : Tab := add 19 Twi (G6)
theorem G7_at (f : FuncId) (vs : List V) : G7.at' f vs = if f = 19 then Twi vs else G6.at' f vs := rfl
theorem G7_fr (f : FuncId) : G7.fr f = if f = 19 then false else G6.fr f := rfl
attribute [simp] G7_at G7_fr Twi
theorem G7_ok : TabOK Try.prog G7 := by
  refine add_ok (G6_ok) (by kernel_rfl) ?_
  · exact wiR_tab
theorem lawMeasures (l : List Int) (dv : Int) (hl : l.length ≤ maxLen) : PCall Try.prog 5 [.list 1 (l.map il), .int .i64 dv] (.bool true) := by
  have hmx : maxLen = 9223372036854775807 := by decide
  rw [hmx] at hl
  have hdec := dec_i l
  obtain ⟨N, hN⟩ : ∃ N, l.length = N := ⟨_, rfl⟩
  rw [hN] at hl
  cases b1 : ilt 1000 (N : Int)
  · obtain ⟨⟨⟨p, q⟩, er⟩, hp⟩ : ∃ r, perF l = r := ⟨_, rfl⟩
    obtain ⟨⟨m1, m2⟩, hm⟩ : ∃ r, mhF ((p, q), er) = r := ⟨_, rfl⟩
    obtain ⟨⟨w1, w2⟩, hw⟩ : ∃ r, wiF l dv = r := ⟨_, rfl⟩
    obtain ⟨L, ev, hcr⟩ : ∃ (L : List Pt) (e : Int), crV l = .tup [.list 3 (L.map Pt.cs), .int .i64 e] := by
      unfold crV; split
      · exact ⟨_, _, rfl⟩
      · exact ⟨[], 1, rfl⟩
    have hL : L.length ≤ 1000 := by
      have h0 := hcr
      unfold crV at h0
      split at h0
      · injection h0 with h0
        injection h0 with h0 _
        injection h0 with _ h0
        have := congrArg List.length h0
        simp only [List.length_map] at this
        have h1 := crsN_len l (l.length - 1)
        have h2 := ilt_iff'.1 b1
        simp only [crs] at this
        omega
      · injection h0 with h0
        injection h0 with h0 _
        injection h0 with _ h0
        have := congrArg List.length h0
        simp only [List.length_map, List.length_nil] at this
        omega
    obtain ⟨M, hM⟩ : ∃ M, L.length = M := ⟨_, rfl⟩
    rw [hM] at hL
    refine pcall_cx G7_ok mixed (fun _ => none) Try.func5 rfl Try.ntmps5 Try.results5 (by simp) (by kernel_rfl) ?_
    repeat' first
      | (refine gw_bool (fun _ => ?_) (fun _ => ?_))
      | (refine condw_bool (fun _ => ?_) (fun _ => ?_))
      | simp [*]
    refine lp_go (D := (fun _ => none)) G7_ok mixed (by kernel_rfl) [0, 1, 5, 7] [] (α := Nat) (fun i e h => i ≤ M ∧ e 9 = .int .i64 i) (fun i => M - i) 0 ?_ ?_
    · exact ⟨by omega, rfl⟩
    · rintro i e h hk hkh ⟨hi, g9⟩
      simp [Keep] at hk
      simp [KeepH] at hkh
      by_cases hlt : i < M
      · obtain ⟨x, hx, hx'⟩ := at_ex (show i < L.length by omega)
        have f1 : ilt (i : Int) (M : Int) = true := ilt_t (by omega)
        have w1 : IntKind.i64.wrap ((i : Int) + 1) = ((i + 1 : Nat) : Int) := wrap_succ (by omega)
        repeat' first
          | (refine gw_bool (fun _ => ?_) (fun _ => ?_))
          | (refine condw_bool (fun _ => ?_) (fun _ => ?_))
          | simp [*, Pt.cs]
        refine nxt_go (i + 1) (View.refl _ _) (by omega) (by simp [*, Keep, St.forget, scr, scrC]) (by simp [*, KeepH, St.forget, scr, scrC]) ?_
        refine ⟨by omega, ?_⟩; simp [*]
      · have f1 : ilt (i : Int) (M : Int) = false := ilt_f (by omega)
        repeat' first
          | (refine gw_bool (fun _ => ?_) (fun _ => ?_))
          | (refine condw_bool (fun _ => ?_) (fun _ => ?_))
          | simp [*, vF, vI, vW]
  · refine pcall_cx G7_ok mixed (fun _ => none) Try.func5 rfl Try.ntmps5 Try.results5 (by simp) (by kernel_rfl) ?_
    repeat' first
      | (refine gw_bool (fun _ => ?_) (fun _ => ?_))
      | (refine condw_bool (fun _ => ?_) (fun _ => ?_))
      | simp [*]
end Go.Proofs.Ytacmchjaldljjaa
