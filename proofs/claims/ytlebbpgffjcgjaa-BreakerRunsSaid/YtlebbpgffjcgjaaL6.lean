/-
  BreakerSteps and BreakerKeepsValid: the walks.
-/
import Derived.Test.YtlebbpgffjcgjaaRun
namespace Go.Proofs.Ytlebbpgffjcgjaa
open Go.Pv Go.RowKit
set_option linter.unusedVariables false
set_option linter.unusedSimpArgs false
set_option maxRecDepth 100000

def B5 : Tab := add 21 Ttrue (B4)
theorem B5_at (f : FuncId) (vs : List V) : B5.at' f vs = if f = 21 then Ttrue vs else B4.at' f vs := rfl
theorem B5_fr (f : FuncId) : B5.fr f = if f = 21 then false else B4.fr f := rfl
theorem B5_ok : TabOK Try.prog B5 := by
  refine add_ok (B4_ok) (by kernel_rfl) ?_
  · intro vs v h; unfold Ttrue at h; split at h
    · cases h; apply known29_ok
    · cases h
theorem stepB_form (b : Br) (t : Int) (s o k : Bool) : ∃ c g l m, stepB b t s o k = ⟨c, g, l, m⟩ := ⟨_, _, _, _, rfl⟩
theorem walk6 (c g : Bool) (l : Int) (m : Bool) (t : Int) (s o k : Bool) : PCall Try.prog 6 [.agg [.bool c, .bool g, .int .i64 l, .bool m], .int .i64 t, .agg [.bool s, .bool o, .bool k]] (.bool true) := by
  obtain ⟨c', g', l', m', hs⟩ := stepB_form ⟨c, g, l, m⟩ t s o k
  refine pcall_cx B5_ok mixed Try.func6 rfl Try.ntmps6 Try.results6 (by simp) (by kernel_rfl) ?_
  repeat' first
    | (refine gw_bool (fun _ => ?_) (fun _ => ?_))
    | (refine condw_bool (fun _ => ?_) (fun _ => ?_))
    | simp [*, td36, td41, td3, td4, B5_at, B5_fr, B4_at, B4_fr, B3_at, B3_fr, B2_at, B2_fr, Ttrue, TvalidB, TstepB, Br.v, eq36]
/-- A step of a valid state is valid. -/
theorem step_valid {b : Br} {t : Int} {s o k : Bool} (h : validB b t = true) : validB (stepB b t s o k) t = true := by
  have hl := valid_left h
  obtain ⟨c, g, l, m⟩ := b
  simp only at hl
  have hu : usableB t = true := by simp [usableB, ilt]; omega
  have w : IntKind.i64.wrap (l - 1) = l - 1 := wrap_id (by omega) (by omega)
  have key : ∀ b' : Br, validB b' t = true ↔ 0 ≤ b'.left ∧ b'.left ≤ t ∧ (b'.left = 0 → b'.closing = false) ∧ (0 < b'.left → b'.closed ≠ b'.closing) ∧ (b'.closed = true ∨ b'.com = false) := by
    intro b'
    obtain ⟨c', g', l', m'⟩ := b'
    cases c' <;> cases g' <;> cases m' <;> simp [validB, hu, ilt, ieq] <;> omega
  have h0 := (key _).1 h
  rw [key]
  simp only at h0
  simp only [stepB, h, if_true, moveB, commandB, ilt, ieq, w, beq_iff_eq, Bool.and_eq_true, decide_eq_true_eq, Bool.not_eq_true']
  by_cases e0 : l = 0
  · subst e0
    cases c <;> cases g <;> cases m <;> cases s <;> cases o <;> cases k <;> simp_all <;> omega
  · by_cases e1 : l = 1
    · subst e1
      cases c <;> cases g <;> cases m <;> cases s <;> cases o <;> cases k <;> simp_all <;> omega
    · have e2 : ¬ l - 1 = 0 := by omega
      have e3 : 0 < l - 1 := by omega
      cases c <;> cases g <;> cases m <;> cases s <;> cases o <;> cases k <;> simp_all <;> omega
theorem step_rest {b : Br} {t : Int} {s : Bool} (h : validB b t = true) (h0 : b.left = 0) : stepB b t s false false = b := by
  obtain ⟨c, g, l, m⟩ := b
  simp only at h0
  subst h0
  simp [stepB, h, moveB, commandB, ieq]
theorem walk7 (c g : Bool) (l : Int) (m : Bool) (t : Int) (s o k : Bool) : PCall Try.prog 7 [.agg [.bool c, .bool g, .int .i64 l, .bool m], .int .i64 t, .agg [.bool s, .bool o, .bool k]] (.bool true) := by
  cases hv : validB ⟨c, g, l, m⟩ t
  · refine pcall_cx B5_ok mixed Try.func7 rfl Try.ntmps7 Try.results7 (by simp) (by kernel_rfl) ?_
    repeat' first
      | (refine gw_bool (fun _ => ?_) (fun _ => ?_))
      | (refine condw_bool (fun _ => ?_) (fun _ => ?_))
      | simp [*, td36, td41, td3, td4, B5_at, B5_fr, B4_at, B4_fr, B3_at, B3_fr, B2_at, B2_fr, Ttrue, TvalidB, TstepB, Br.v, eq36]
  · have hv' := step_valid (s := s) (o := o) (k := k) hv
    by_cases hz : l = 0 ∧ o = false ∧ k = false
    · obtain ⟨rfl, rfl, rfl⟩ := hz
      have hs := step_rest (s := s) hv rfl
      refine pcall_cx B5_ok mixed Try.func7 rfl Try.ntmps7 Try.results7 (by simp) (by kernel_rfl) ?_
      repeat' first
        | (refine gw_bool (fun _ => ?_) (fun _ => ?_))
        | (refine condw_bool (fun _ => ?_) (fun _ => ?_))
        | simp [*, td36, td41, td3, td4, B5_at, B5_fr, B4_at, B4_fr, B3_at, B3_fr, B2_at, B2_fr, Ttrue, TvalidB, TstepB, Br.v, eq36]
    · obtain ⟨c', g', l', m', hs⟩ := stepB_form ⟨c, g, l, m⟩ t s o k
      rw [hs] at hv'
      have hz' : Hid (¬ (l = 0 ∧ o = false ∧ k = false)) := hz
      clear hz
      refine pcall_cx B5_ok mixed Try.func7 rfl Try.ntmps7 Try.results7 (by simp) (by kernel_rfl) ?_
      repeat' first
        | (refine gw_bool (fun _ => ?_) (fun _ => ?_))
        | (refine condw_bool (fun _ => ?_) (fun _ => ?_))
        | simp [*, td36, td41, td3, td4, B5_at, B5_fr, B4_at, B4_fr, B3_at, B3_fr, B2_at, B2_fr, Ttrue, TvalidB, TstepB, Br.v, eq36]
      all_goals (have := hz'.out; simp_all [ieq])
theorem has_plan {u : V} (h : HasV (.struct [.bool, .int .i64, .bool, .slice .bool, .slice .bool]) u) : ∃ vs, u = .agg vs ∧ ∃ (c : Bool) (t : Int) (s : Bool) (os cs : List Bool), vs = [.bool c, .int .i64 t, .bool s, .list 1 (os.map bl), .list 1 (cs.map bl)] ∧ os.length ≤ maxLen ∧ cs.length ≤ maxLen := by
  simp only [HasV, HasC, HasL] at h
  obtain ⟨_, rfl, _, _, rfl, ⟨c, rfl⟩, _, _, rfl, ⟨t, rfl, _⟩, _, _, rfl, ⟨s, rfl⟩, _, _, rfl, ⟨xs, rfl, hx, hx'⟩, _, _, rfl, ⟨ys, rfl, hy, hy'⟩, rfl⟩ := h
  obtain ⟨os, rfl⟩ := bools_of hx'
  obtain ⟨cs, rfl⟩ := bools_of hy'
  exact ⟨_, rfl, c, t, s, os, cs, rfl, by simpa using hx, by simpa using hy⟩
end Go.Proofs.Ytlebbpgffjcgjaa
