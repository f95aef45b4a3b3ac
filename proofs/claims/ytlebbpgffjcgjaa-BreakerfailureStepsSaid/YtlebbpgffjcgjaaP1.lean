/-
  BreakerfailureSteps returns true for every input, and leaves the input as it was. No condition.
-/
import Derived.Test.YtlebbpgffjcgjaaFail
import Derived.Test.YtlebbpgffjcgjaaRows
namespace Go.Proofs.Ytlebbpgffjcgjaa.breakerfailureStepsDone
open Go.Pv Go.ChangeShapes Go.WideShapes Go.ChangeAt Go.RowKit
set_option linter.unusedVariables false
set_option linter.unusedSimpArgs false

theorem wrap_id {n : Int} (h1 : -9223372036854775808 ≤ n) (h2 : n ≤ 9223372036854775807) : IntKind.i64.wrap n = n := by
  simp only [IntKind.wrap, IntKind.signed, IntKind.bits]; simp; omega
theorem plain (on : Bool) (d n : Int) (c a : Bool) : law3 on d n c a = true := by
  unfold law3 stepF
  split
  · rename_i h
    simp only [usable, valid, ilt, ieq, Bool.and_eq_true, Bool.or_eq_true, Bool.not_eq_true', decide_eq_false_iff_not, decide_eq_true_eq, beq_iff_eq] at h
    obtain ⟨⟨⟨⟨⟨h1, h2⟩, h3⟩, h4⟩, h5⟩, h6⟩ := h
    have e1 : IntKind.i64.wrap (d + 1) = d + 1 := wrap_id (by omega) (by omega)
    rw [e1] at h4 ⊢
    have e2 : IntKind.i64.wrap (n + 1) = n + 1 := wrap_id (by omega) (by omega)
    rw [e2]
    have hm : 1 ≤ min (n + 1) (d + 1) ∧ min (n + 1) (d + 1) ≤ d + 1 := by omega
    revert hm
    generalize min (n + 1) (d + 1) = q
    intro hm
    have hq1 : ¬ (q = 0) := by omega
    have hq2 : ¬ (d + 1 < q) := by omega
    have hq3 : 0 < q := by omega
    simp [usable, valid, ilt, ieq, e1, h1, h2, h3, hq1, hq2, hq3]
  · simp [valid, ieq]
theorem law : ∀ us, HasAll [.struct [.bool, .int .i64, .int .i64], .int .i64, .struct [.bool, .bool]] us → PCall Try.prog 3 us (.bool true) := by
  intro us h
  simp only [HasAll, HasV, HasC, HasL] at h
  obtain ⟨_, _, rfl, ⟨_, rfl, _, _, rfl, ⟨on, rfl⟩, _, _, rfl, ⟨p, rfl, _⟩, _, _, rfl, ⟨d, rfl, _⟩, rfl⟩, _, _, rfl, ⟨n, hn, _⟩, _, _, rfl, ⟨_, rfl, _, _, rfl, ⟨c, rfl⟩, _, _, rfl, ⟨a, rfl⟩, rfl⟩, rfl⟩ := h
  simp at hn; subst hn
  have := law3_ok on p d n c a
  rw [plain] at this
  simpa using this

theorem own : ownKnob Try.prog.godebug = none := by kernel_rfl
theorem laidOut : laidOutB Try.prog = true := by kernel_rfl
theorem spec_at (H : Type) : ∀ ds : List (DataW H), ds.length = 3 → Rows.breakerfailureStepsSpec.fn H ds = { results := [.lit (.bool true)], args := ds } := by
  intro ds h
  rcases ds with _ | ⟨d0, _ | ⟨d1, _ | ⟨d2, _ | ⟨e, r⟩⟩⟩⟩
  all_goals first | rfl | (simp at h; done) | (simp at h; omega)

set_option maxRecDepth 100000 in
theorem lifted (os : Os) (started : os.Started) (H : Type) (enc : TypeId × Value → H) :
    ReturnsInHanded {} Try.checked os 3 .any (Rows.breakerfailureStepsSpec.pre6 enc Try.prog Try.f3 Rows.breakerfailureStepsRow.domain false) (Rows.breakerfailureStepsSpec.post enc Try.prog Try.f3 false true false false) :=
  lift (C := Try.checked) (m := 9) own laidOut started (by kernel_rfl) Try.func3
    (ChangeSpec.witness6 (enc := enc) (C := Try.checked) false ⟨#[], #[.agg #[.bool false, .int .i64 0, .int .i64 0], .int .i64 0, .agg #[.bool false, .bool false]], []⟩ 8 (by kernel_rfl) (by kernel_rfl) (by kernel_rfl) (by kernel_rfl))
    Try.params3 (by kernel_rfl) Try.underlying4 rfl (by kernel_rfl) (by kernel_rfl) (spec_at H) law

theorem over : Rows.breakerfailureStepsRow.holds Try.pinned (OpenSpec.ofChange Rows.breakerfailureStepsSpec) :=
  OpenClaim.holds_of_wide 3 Try.f3 rfl rfl rfl rfl rfl rfl rfl ⟨rfl, rfl, rfl, rfl, rfl⟩ rfl rfl rfl rfl rfl (by kernel_rfl) Try.func3 (by kernel_rfl)
    (of_decide_eq_true (by kernel_rfl)) (by unfold Func.isWrapper; first | (rw [if_pos (by decide +kernel)]; kernel_rfl) | (rw [if_neg (by decide +kernel)]; exact ⟨rfl, rfl⟩))
    (fun os started H enc _ => lifted os started H enc)

theorem proved : Rows.BreakerfailureStepsSaid := over
end Go.Proofs.Ytlebbpgffjcgjaa.breakerfailureStepsDone
