/-
  BreakerfailureStuck: the walk.
-/
import Derived.Test.YtlebbpgffjcgjaaStepD
import Derived.Test.YtlebbpgffjcgjaaBrk2
namespace Go.Proofs.Ytlebbpgffjcgjaa.breakerfailureStuckDone
open Go.Pv Go.ChangeShapes Go.WideShapes Go.ChangeAt Go.RowKit
set_option linter.unusedVariables false
set_option linter.unusedSimpArgs false
set_option maxRecDepth 100000

theorem stepRest {T : Int} (h1 : 1 ≤ T) (h2 : T ≤ 6) (x o : Bool) : stepB ⟨true, false, 0, x⟩ T true o false = ⟨true, false, 0, x || o⟩ := by
  have hu : usableB T = true := by simp [usableB, ilt]; omega
  have hv : validB ⟨true, false, 0, x⟩ T = true := by simp [validB, hu, ilt, ieq]; omega
  cases x <;> cases o <;> simp [stepB, hv, moveB, commandB, ieq]
def Inv (T D F N : Int) (s : St) : Prop := ∃ (i run : Nat) (com : Bool), (i : Int) ≤ N ∧ s.env 1 = .int .i64 N ∧ s.env 5 = .int .i64 T ∧ s.env 6 = .int .i64 D ∧ s.env 7 = .int .i64 F ∧ s.env 8 = .ptr 8 0 ∧
  s.env 9 = .int .i64 (min (run : Int) (D + 1)) ∧ s.env 10 = .int .i64 i ∧ s.heap 8 = some ⟨36, [.bool true, .bool false, .int .i64 0, .bool com]⟩ ∧ Hid ((i : Int) ≤ F ∧ run = 0 ∧ com = false ∨ F < (i : Int) ∧ (run : Int) = i - F ∧ com = true)
def mu (N : Int) (s : St) : Nat := (N - ival (s.env 10)).toNat

theorem walk (T D F N : Int) : PCall Try.prog 13 [.agg [.int .i64 T, .int .i64 D, .int .i64 F], .int .i64 N] (.bool true) := by
  refine pcall_cx B3_ok mixed Try.func13 rfl Try.ntmps13 Try.results13 (by simp) (by kernel_rfl) ?_
  repeat' first
    | (refine gw_bool (fun _ => ?_) (fun _ => ?_))
    | (refine condw_bool (fun _ => ?_) (fun _ => ?_))
    | simp [*, td47, td36, td3, td4, B3_at, B2_at, B1_at, G4_at, Ttrue, TnewB, Br.v]
  rename_i h1 h2 h3 h4 h5 h6 h7 h8
  simp only [ilt, ieq, decide_eq_false_iff_not, beq_iff_eq] at h1 h2 h3 h4 h5 h6 h7 h8
  refine lp_intro (Inv T D F N) (mu N) ⟨0, 0, false, by omega, rfl, rfl, rfl, rfl, rfl, by simp; omega, rfl, rfl, .inl ⟨by omega, rfl, rfl⟩⟩ ?_
  rintro e h ⟨i, run, com, hi, g1, g5, g6, g7, g8, g9, g10, q8, hH⟩
  simp only at g1 g5 g6 g7 g8 g9 g10 q8
  by_cases hlt : (i : Int) < N
  · have w1 : IntKind.i64.wrap ((i : Int) + 1) = ((i + 1 : Nat) : Int) := wrap_succ (by omega)
    have w2 : IntKind.i64.wrap (F + D) = F + D := wrap_id (by omega) (by omega)
    have f1 : ilt (i : Int) N = true := by simp only [ilt, decide_eq_true_eq]; omega
    by_cases c1 : (i : Int) < F
    · have f2 : ieq (i : Int) F = false := by simp [ieq]; omega
      have f3 : com = false := by
        rcases hH.out with ⟨a1, a2, a3⟩ | ⟨a1, a2, a3⟩
        · exact a3
        · omega
      subst f3
      have f4 := stepRest (show 1 ≤ T by omega) (show T ≤ 6 by omega) false false
      have f5 : stepF true D (min (run : Int) (D + 1)) false true = (0, false) := stepZ rfl
      have f6 : ilt (i : Int) (F + D) = true := by simp [ilt]; omega
      repeat' first
        | (refine gw_bool (fun _ => ?_) (fun _ => ?_))
        | (refine condw_bool (fun _ => ?_) (fun _ => ?_))
        | simp [*, td47, td36, td23, td3, td4, B3_at, B2_at, B1_at, G4_at, G3_at, Ttrue, Tstep, TstepB, Br.v]
      refine ⟨_, View.refl _ _, ⟨i + 1, 0, false, by omega, ?_⟩, ?_⟩
      · simp [g1, g5, g6, g7, g8, g9, g10, q8, f4]
        unfold Hid
        omega
      · simp [mu, ival, g10]
        omega
    · have f5 := stepD (run := run) (show 1 ≤ D by omega) (show D ≤ 500 by omega)
      have f6 : ilt D ((run + 1 : Nat) : Int) = !ilt (i : Int) (F + D) := by
        have := hH.out
        simp only [ilt]; rw [Bool.eq_iff_iff]; simp; omega
      rw [f6] at f5
      clear f6
      have f9 : stepB ⟨true, false, 0, com⟩ T true (ieq (i : Int) F) false = ⟨true, false, 0, true⟩ := by
        rw [stepRest (by omega) (by omega)]
        congr 1
        rcases hH.out with ⟨a1, a2, a3⟩ | ⟨a1, a2, a3⟩
        · have : (i : Int) = F := by omega
          simp [ieq, this]
        · simp [a3]
      repeat' first
        | (refine gw_bool (fun _ => ?_) (fun _ => ?_))
        | (refine condw_bool (fun _ => ?_) (fun _ => ?_))
        | simp [*, td47, td36, td23, td3, td4, B3_at, B2_at, B1_at, G4_at, G3_at, Ttrue, Tstep, TstepB, Br.v]
      refine ⟨_, View.refl _ _, ⟨i + 1, run + 1, true, by omega, ?_⟩, ?_⟩
      · simp [g1, g5, g6, g7, g8, g9, g10, q8]
        unfold Hid
        rcases hH.out with ⟨a1, a2, a3⟩ | ⟨a1, a2, a3⟩ <;> omega
      · simp [mu, ival, g10]
        omega
  · have f1 : ilt (i : Int) N = false := by simp only [ilt, decide_eq_false_iff_not]; omega
    repeat' first
      | (refine gw_bool (fun _ => ?_) (fun _ => ?_))
      | (refine condw_bool (fun _ => ?_) (fun _ => ?_))
      | simp [*, td47, td36, td3, td4, B3_at, B2_at, B1_at, G4_at, Ttrue]
end Go.Proofs.Ytlebbpgffjcgjaa.breakerfailureStuckDone
