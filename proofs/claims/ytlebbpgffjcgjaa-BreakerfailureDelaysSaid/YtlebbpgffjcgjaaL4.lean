/-
  BreakerfailureDelays: the walk.
-/
import Derived.Test.YtlebbpgffjcgjaaFail
import Derived.Test.YtlebbpgffjcgjaaTools
namespace Go.Proofs.Ytlebbpgffjcgjaa.breakerfailureDelaysDone
open Go.Pv Go.ChangeShapes Go.WideShapes Go.ChangeAt Go.RowKit
set_option linter.unusedVariables false
set_option linter.unusedSimpArgs false
set_option maxRecDepth 100000

def Inv (D : Int) (cs bs : List Bool) (s : St) : Prop := s.heap = (fun _ => none) ∧ ∃ i run : Nat, i ≤ bs.length ∧ run ≤ i ∧ s.env 0 = .int .i64 D ∧ s.env 1 = .list 1 (cs.map bl) ∧ s.env 2 = .list 1 (bs.map bl) ∧ s.env 31 = .int .i64 bs.length ∧
  s.env 32 = .int .i64 i ∧ s.env 7 = .int .i64 (min run (D + 1)) ∧ s.env 8 = .int .i64 run
def mu (bs : List Bool) (s : St) : Nat := ((bs.length : Int) - ival (s.env 32)).toNat

theorem stepD {D : Int} {run : Nat} (h1 : 1 ≤ D) (h2 : D ≤ 500) : stepF true D (min run (D + 1)) true true = (min ((run + 1 : Nat) : Int) (D + 1), ilt D ((run + 1 : Nat) : Int)) := by
  have e1 : IntKind.i64.wrap (D + 1) = D + 1 := wrap_id (by omega) (by omega)
  have e2 : IntKind.i64.wrap (min (run : Int) (D + 1) + 1) = min (run : Int) (D + 1) + 1 := wrap_id (by omega) (by omega)
  have hu : usable true D = true := by simp [usable, ilt]; omega
  have hv : valid true D (min run (D + 1)) = true := by simp [valid, hu, e1, ilt, ieq]; omega
  have e3 : min (min (run : Int) (D + 1) + 1) (D + 1) = min ((run + 1 : Nat) : Int) (D + 1) := by omega
  have e4 : ilt D (min ((run + 1 : Nat) : Int) (D + 1)) = ilt D ((run + 1 : Nat) : Int) := by simp only [ilt]; congr 1; apply propext; omega
  simp only [stepF, hu, hv, e1, e2, e3, e4, Bool.and_self, if_true]

theorem walk (D : Int) (cs bs : List Bool) (hl : bs.length ≤ maxLen) : PCall Try.prog 4 [.int .i64 D, .list 1 (cs.map bl), .list 1 (bs.map bl)] (.bool true) := by
  refine pcall_cx G4_ok mixed Try.func4 rfl Try.ntmps4 Try.results4 (by simp) (by kernel_rfl) ?_
  repeat' first
    | (refine gw_bool (fun _ => ?_) (fun _ => ?_))
    | (refine condw_bool (fun _ => ?_) (fun _ => ?_))
    | simp [*, td31, td3, td4, G4_at, Ttrue]
  rename_i h1 h2 h3 h4
  simp only [ilt, ieq, decide_eq_false_iff_not, beq_iff_eq] at h1 h2 h3 h4
  have h3' : cs.length = bs.length := by omega
  refine lp_intro (Inv D cs bs) (mu bs) ⟨rfl, 0, 0, by simp, by simp, rfl, rfl, rfl, by simp, rfl, by simp; omega, rfl⟩ ?_
  rintro e h ⟨hh, i, run, hi, hr, g0, g1, g2, g31, g32, g7, g8⟩
  simp only at hh g0 g1 g2 g31 g32 g7 g8
  subst hh
  by_cases hlt : i < bs.length
  · obtain ⟨c, hc, hc'⟩ := at_ex (show i < cs.length by omega)
    obtain ⟨b, hb, hb'⟩ := at_ex hlt
    have w1 : IntKind.i64.wrap ((i : Int) + 1) = ((i + 1 : Nat) : Int) := wrap_succ (by omega)
    have w2 : IntKind.i64.wrap ((run : Int) + 1) = ((run + 1 : Nat) : Int) := wrap_succ (by omega)
    have k1 : ilt (i : Int) (bs.length : Int) = true := by simp only [ilt, decide_eq_true_eq]; omega
    have k2 : ilt D 0 = false := by simp only [ilt, decide_eq_false_iff_not]; omega
    have s1 := stepD (run := run) (show 1 ≤ D by omega) (show D ≤ 500 by omega)
    have s2 : ∀ c b, (c && b) = false → stepF true D (min run (D + 1)) c b = (0, false) := by
      intro c b hcb
      simp only [stepF]
      rw [if_neg]
      cases c <;> cases b <;> simp_all
    cases c <;> cases b
    · have s3 := s2 false false rfl
      repeat' first
        | (refine gw_bool (fun _ => ?_) (fun _ => ?_))
        | (refine condw_bool (fun _ => ?_) (fun _ => ?_))
        | simp [*, td31, td23, td3, td4, G4_at, G3_at, Ttrue, Tstep, bl]
      refine ⟨_, View.refl _ _, ⟨rfl, i + 1, 0, by omega, by omega, ?_⟩, ?_⟩
      · simp [*]
        try omega
      · simp [mu, ival, g32]
        omega
    · have s3 := s2 false true rfl
      repeat' first
        | (refine gw_bool (fun _ => ?_) (fun _ => ?_))
        | (refine condw_bool (fun _ => ?_) (fun _ => ?_))
        | simp [*, td31, td23, td3, td4, G4_at, G3_at, Ttrue, Tstep, bl]
      refine ⟨_, View.refl _ _, ⟨rfl, i + 1, 0, by omega, by omega, ?_⟩, ?_⟩
      · simp [*]
        try omega
      · simp [mu, ival, g32]
        omega
    · have s3 := s2 true false rfl
      repeat' first
        | (refine gw_bool (fun _ => ?_) (fun _ => ?_))
        | (refine condw_bool (fun _ => ?_) (fun _ => ?_))
        | simp [*, td31, td23, td3, td4, G4_at, G3_at, Ttrue, Tstep, bl]
      refine ⟨_, View.refl _ _, ⟨rfl, i + 1, 0, by omega, by omega, ?_⟩, ?_⟩
      · simp [*]
        try omega
      · simp [mu, ival, g32]
        omega
    · skip
      repeat' first
        | (refine gw_bool (fun _ => ?_) (fun _ => ?_))
        | (refine condw_bool (fun _ => ?_) (fun _ => ?_))
        | simp [*, td31, td23, td3, td4, G4_at, G3_at, Ttrue, Tstep, bl]
      refine ⟨_, View.refl _ _, ⟨rfl, i + 1, run + 1, by omega, by omega, ?_⟩, ?_⟩
      · simp [*]
        try omega
      · simp [mu, ival, g32]
        omega
  · have k1 : ilt (i : Int) (bs.length : Int) = false := by simp only [ilt, decide_eq_false_iff_not]; omega
    repeat' first
      | (refine gw_bool (fun _ => ?_) (fun _ => ?_))
      | (refine condw_bool (fun _ => ?_) (fun _ => ?_))
      | simp [*, td31, td23, td3, td4, G4_at, Ttrue]
end Go.Proofs.Ytlebbpgffjcgjaa.breakerfailureDelaysDone
