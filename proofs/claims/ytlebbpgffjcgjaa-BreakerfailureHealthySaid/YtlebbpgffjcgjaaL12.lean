/-
  BreakerfailureHealthy: the walk.
-/
import Derived.Test.YtlebbpgffjcgjaaStepD
import Derived.Test.YtlebbpgffjcgjaaBrk2
namespace Go.Proofs.Ytlebbpgffjcgjaa.breakerfailureHealthyDone
open Go.Pv Go.ChangeShapes Go.WideShapes Go.ChangeAt Go.RowKit
set_option linter.unusedVariables false
set_option linter.unusedSimpArgs false
set_option maxRecDepth 100000

/-- At rest; opening; behind that, with no command. -/
def Phase (T F : Int) (i : Nat) (n : Int) (b : Br) : Prop :=
  (i : Int) ≤ F ∧ b = ⟨true, false, 0, false⟩ ∧ n = 0 ∨ F < (i : Int) ∧ b = ⟨true, false, b.left, true⟩ ∧ 1 ≤ b.left ∧ b.left ≤ T ∧ n = T - b.left + 1 ∨ F < (i : Int) ∧ b.com = false ∧ n = 0

theorem com_step (b : Br) (T : Int) (c : Bool) (h : b.com = false) : (stepB b T false false c).com = false := by
  unfold stepB
  split
  · have hm : (moveB b).com = false := by
      unfold moveB
      split
      · exact h
      · split
        · simp [h]
        · exact h
    unfold commandB
    simp only [Bool.and_false, Bool.false_eq_true, if_false]
    split
    · exact hm
    · exact hm
  · rfl

theorem phase_step {T D F : Int} {i : Nat} {n : Int} {b : Br} {cl : Bool} (hT : 1 ≤ T) (hT' : T ≤ 6) (hD : T ≤ D) (hD' : D ≤ 500) (hc : (i : Int) ≤ F → cl = false) (h : Phase T F i n b) :
    ∃ b' n', stepB b T false (ieq (i : Int) F) cl = b' ∧ stepF true D n b'.com b'.closed = (n', false) ∧ Phase T F (i + 1) n' b' := by
  have hu : usableB T = true := by simp [usableB, ilt]; omega
  rcases h with ⟨h1, rfl, rfl⟩ | ⟨h1, h2, h3, h4, rfl⟩ | ⟨h1, h2, rfl⟩
  · have hv : validB ⟨true, false, 0, false⟩ T = true := by simp [validB, hu, ilt, ieq]; omega
    obtain rfl := hc h1
    by_cases e : (i : Int) = F
    · have e' : ieq (i : Int) F = true := by simp [ieq, e]
      refine ⟨⟨true, false, T, true⟩, 1, ?_, ?_, .inr (.inl ⟨by omega, rfl, hT, by simp, by simp⟩)⟩
      · simp [stepB, hv, moveB, commandB, ieq, e]
      · have := stepD (D := D) (run := 0) (by omega) hD'
        have m0 : min ((0 : Nat) : Int) (D + 1) = 0 := by omega
        rw [m0] at this
        rw [this]
        have m1 : min ((0 + 1 : Nat) : Int) (D + 1) = 1 := by omega
        rw [m1]
        have m2 : ilt D ((0 + 1 : Nat) : Int) = false := by simp [ilt]; omega
        rw [m2]
    · have e' : ieq (i : Int) F = false := by simp [ieq, e]
      refine ⟨⟨true, false, 0, false⟩, 0, ?_, stepZ rfl, .inl ⟨by omega, rfl, rfl⟩⟩
      rw [e']
      simp [stepB, hv, moveB, commandB, ieq]
  · have e' : ieq (i : Int) F = false := by simp [ieq]; omega
    rw [e']
    obtain ⟨c, g, l, m⟩ := b
    simp only [Br.mk.injEq] at h2
    obtain ⟨rfl, rfl, _, rfl⟩ := h2
    simp only at h3 h4 ⊢
    have hv : validB ⟨true, false, l, true⟩ T = true := by simp [validB, hu, ilt, ieq]; omega
    have l0 : ieq l 0 = false := by simp [ieq]; omega
    have w : IntKind.i64.wrap (l - 1) = l - 1 := wrap_id (by omega) (by omega)
    by_cases e : l = 1
    · subst e
      have w0 : IntKind.i64.wrap 0 = 0 := by decide
      cases cl
      · refine ⟨⟨false, false, 0, false⟩, 0, ?_, stepZ rfl, .inr (.inr ⟨by omega, rfl, rfl⟩)⟩
        simp [stepB, hv, moveB, commandB, ieq, w0]
      · refine ⟨⟨false, true, T, false⟩, 0, ?_, stepZ rfl, .inr (.inr ⟨by omega, rfl, rfl⟩)⟩
        simp [stepB, hv, moveB, commandB, ieq, w0]
    · have l1 : ieq (l - 1) 0 = false := by simp [ieq]; omega
      have l2 : ilt 0 (l - 1) = true := by simp [ilt]; omega
      refine ⟨⟨true, false, l - 1, true⟩, T - (l - 1) + 1, ?_, ?_, .inr (.inl ⟨by omega, rfl, by simp; omega, by simp; omega, rfl⟩)⟩
      · simp [stepB, hv, moveB, commandB, l0, w, l1, l2]
      · have := stepD (D := D) (run := (T - l + 1).toNat) (by omega) hD'
        have m0 : min (((T - l + 1).toNat : Nat) : Int) (D + 1) = T - l + 1 := by omega
        rw [m0] at this
        rw [this]
        have m1 : min (((T - l + 1).toNat + 1 : Nat) : Int) (D + 1) = T - (l - 1) + 1 := by omega
        rw [m1]
        have m2 : ilt D (((T - l + 1).toNat + 1 : Nat) : Int) = false := by simp only [ilt, decide_eq_false_iff_not]; omega
        rw [m2]
  · have e' : ieq (i : Int) F = false := by simp [ieq]; omega
    rw [e']
    refine ⟨_, 0, rfl, ?_, .inr (.inr ⟨by omega, com_step b T cl h2, rfl⟩)⟩
    exact stepZ (by rw [com_step b T cl h2]; rfl)

def Inv (T D F : Int) (n : Nat) (cs : List Bool) (s : St) : Prop := ∃ (i : Nat) (k : Int) (c g : Bool) (l : Int) (m : Bool), i ≤ n ∧ s.env 49 = .list 1 (cs.map bl) ∧ s.env 5 = .int .i64 T ∧ s.env 6 = .int .i64 D ∧ s.env 7 = .int .i64 F ∧ s.env 8 = .ptr 8 0 ∧
  s.env 9 = .int .i64 k ∧ s.env 50 = .int .i64 n ∧ s.env 51 = .int .i64 i ∧ s.heap 8 = some ⟨36, [.bool c, .bool g, .int .i64 l, .bool m]⟩ ∧ Hid (Phase T F i k ⟨c, g, l, m⟩)
def mu (n : Nat) (s : St) : Nat := ((n : Int) - ival (s.env 51)).toNat

theorem walk (T D F : Int) (cs : List Bool) (hm : cs.length ≤ maxLen) : PCall Try.prog 12 [.agg [.int .i64 T, .int .i64 D, .int .i64 F], .list 1 (cs.map bl)] (.bool true) := by
  obtain ⟨n, hn⟩ : ∃ n, cs.length = n := ⟨_, rfl⟩
  have hm' := maxLen_le
  rw [hn] at hm
  refine pcall_cx B3_ok mixed Try.func12 rfl Try.ntmps12 Try.results12 (by simp) (by kernel_rfl) ?_
  repeat' first
    | (refine gw_bool (fun _ => ?_) (fun _ => ?_))
    | (refine condw_bool (fun _ => ?_) (fun _ => ?_))
    | simp [*, td47, td36, td31, td3, td4, B3_at, B2_at, B1_at, G4_at, Ttrue, TnewB, Br.v]
  rename_i h1 h2 h3 h4 h5 h6 h7
  simp only [ilt, ieq, decide_eq_false_iff_not, beq_iff_eq] at h1 h2 h3 h4 h5 h6 h7
  refine lp_intro (Inv T D F n cs) (mu n) ⟨0, 0, true, false, 0, false, by omega, rfl, rfl, rfl, rfl, rfl, rfl, rfl, rfl, rfl, .inl ⟨by omega, rfl, rfl⟩⟩ ?_
  rintro e h ⟨i, k, c, g, l, m, hi, g49, g5, g6, g7, g8, g9, g50, g51, q8, hH⟩
  simp only at g49 g5 g6 g7 g8 g9 g50 g51 q8
  by_cases hlt : i < n
  · have w1 : IntKind.i64.wrap ((i : Int) + 1) = ((i + 1 : Nat) : Int) := wrap_succ (by omega)
    have f1 : ilt (i : Int) (n : Int) = true := by simp only [ilt, decide_eq_true_eq]; omega
    obtain ⟨x, hx, hx'⟩ := at_ex (show i < cs.length by omega)
    obtain ⟨b', k', p1, p2, p3⟩ := phase_step (cl := x && ilt F (i : Int)) (show 1 ≤ T by omega) (show T ≤ 6 by omega) (show T ≤ D by omega) (show D ≤ 500 by omega) (fun hle => by have : ilt F (i : Int) = false := by { simp [ilt]; omega }; simp [this]) hH.out
    obtain ⟨c', g', l', m'⟩ := b'
    have p4 : Hid (Phase T F (i + 1) k' ⟨c', g', l', m'⟩) := p3
    clear p3
    simp only at p2
    cases x
    · simp only [Bool.false_and] at p1
      repeat' first
        | (refine gw_bool (fun _ => ?_) (fun _ => ?_))
        | (refine condw_bool (fun _ => ?_) (fun _ => ?_))
        | simp [*, td47, td36, td31, td23, td3, td4, B3_at, B2_at, B1_at, G4_at, G3_at, Ttrue, Tstep, TstepB, Br.v, bl]
      refine ⟨_, View.refl _ _, ⟨i + 1, k', c', g', l', m', by omega, ?_⟩, ?_⟩
      · simp [g49, g5, g6, g7, g8, g9, g50, g51, q8]
        exact p4
      · simp [mu, ival, g51]
        omega
    · simp only [Bool.true_and] at p1
      repeat' first
        | (refine gw_bool (fun _ => ?_) (fun _ => ?_))
        | (refine condw_bool (fun _ => ?_) (fun _ => ?_))
        | simp [*, td47, td36, td31, td23, td3, td4, B3_at, B2_at, B1_at, G4_at, G3_at, Ttrue, Tstep, TstepB, Br.v, bl]
      refine ⟨_, View.refl _ _, ⟨i + 1, k', c', g', l', m', by omega, ?_⟩, ?_⟩
      · simp [g49, g5, g6, g7, g8, g9, g50, g51, q8]
        exact p4
      · simp [mu, ival, g51]
        omega
  · have f1 : ilt (i : Int) (n : Int) = false := by simp only [ilt, decide_eq_false_iff_not]; omega
    repeat' first
      | (refine gw_bool (fun _ => ?_) (fun _ => ?_))
      | (refine condw_bool (fun _ => ?_) (fun _ => ?_))
      | simp [*, td47, td36, td31, td3, td4, B3_at, B2_at, B1_at, G4_at, Ttrue]
end Go.Proofs.Ytlebbpgffjcgjaa.breakerfailureHealthyDone
