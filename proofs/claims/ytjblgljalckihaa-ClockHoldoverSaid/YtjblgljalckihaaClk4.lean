/-
  ClockHoldover and ClockBounded: the plain laws and the walks.
-/
import Derived.Test.YtjblgljalckihaaClk3
namespace Go.Proofs.Ytjblgljalckihaa
open Go.Pv Go.RowKit
set_option linter.unusedSimpArgs false
set_option linter.unusedVariables false
set_option maxRecDepth 100000
set_option maxHeartbeats 4000000

/-- The class of a synchronized clock behind k steps. -/
def clK (a : Int) (k : Nat) : Int := if 1000 < a + k + k + 1 then 2 else if k ≤ 4 then 0 else 1
theorem clC_k {t r a : Int} {k : Nat} : clC ⟨t, r, true, a, k⟩ = clK a k := by
  simp only [clC, bdC, clK, ilt]
  by_cases h1 : 1000 < a + (k : Int) + k + 1
  · simp [h1]
  · by_cases h2 : k ≤ 4
    · simp [h1, h2, show ¬ (4 < (k : Int)) by omega]
    · simp [h1, h2, show (4 < (k : Int)) by omega]
theorem hold_ok (acc drift : Int) : PCall Try.prog 5 [.int .i64 acc, .int .i64 drift] (.bool true) := by
  obtain ⟨a, ha⟩ : ∃ a, acc % 901 = a := ⟨_, rfl⟩
  have ha0 : 0 ≤ a := by rw [← ha]; exact Int.emod_nonneg _ (by omega)
  have ha1 : a < 901 := by rw [← ha]; exact Int.emod_lt_of_pos _ (by omega)
  have s0 : syC ⟨0, 0, false, 0, 0⟩ 0 a = (⟨0, 0, true, a, 0⟩, 0) := by
    simp only [syC, ilt_f ha0, ilt_f (show a ≤ 1000 by omega)]; simp
  have c0 : clC ⟨0, 0, true, a, 0⟩ = 0 := by
    have := clC_k (t := 0) (r := 0) (a := a) (k := 0)
    simp only [clK] at this
    rw [if_neg (by omega), if_pos (by omega)] at this
    simpa using this
  have ok0 : Ck.ok ⟨0, 0, true, a, 0⟩ = true := by rw [ok_iff]; simp only; omega
  have hz : Hid (0 ≤ a ∧ a < 901) := show _ ∧ _ from ⟨ha0, ha1⟩
  clear ha0 ha1
  refine pcall_cx G8_ok mixed (fun _ => none) Try.func5 rfl Try.ntmps5 Try.results5 (by simp) (by kernel_rfl) ?_
  repeat' first
    | (refine gw_bool (fun _ => ?_) (fun _ => ?_))
    | (refine condw_bool (fun _ => ?_) (fun _ => ?_))
    | simp [*, Ck.v, vE]
  refine lp_go (D := (fun _ => none)) G8_ok mixed (by kernel_rfl) [1, 5] [] (α := Nat × Ck) (fun x e h => x.1 ≤ 500 ∧ e 8 = .int .i64 ((x.1 + 1 : Nat) : Int) ∧ e 7 = .int .i64 (clK a x.1) ∧ h 5 = some ⟨25, [.int .i64 x.2.t, .int .i64 x.2.r, .bool true, .int .i64 a, .int .i64 x.1]⟩ ∧ Hid (0 ≤ x.2.t ∧ x.2.t ≤ 20003 * x.1 ∧ 0 ≤ x.2.r ∧ x.2.r < 1000000)) (fun x => 500 - x.1) (0, ⟨0, 0, true, a, 0⟩) ?_ ?_
  · refine ⟨by simp, rfl, ?_, rfl, show _ ∧ _ by simp⟩
    have := hz.out
    have e : clK a 0 = 0 := by unfold clK; rw [if_neg (by omega), if_pos (by omega)]
    simp [e]
  · rintro ⟨i, ⟨t, r, k, e', s⟩⟩ e h hk hkh ⟨hi, g8, g7, q5, hinv⟩
    simp [Keep] at hk
    simp [KeepH] at hkh
    simp only at hi g8 g7 q5 hinv
    obtain ⟨z1, z2⟩ := hz.out
    obtain ⟨v1, v2, v3, v4⟩ := hinv.out
    by_cases hlt : i < 500
    · have f1 : ilt 500 ((i + 1 : Nat) : Int) = false := ilt_f (by omega)
      have w1 : IntKind.i64.wrap (((i + 1 : Nat) : Int) + 1) = ((i + 1 + 1 : Nat) : Int) := wrap_succ (by omega)
      have ok1 : Ck.ok ⟨t, r, true, a, i⟩ = true := by rw [ok_iff]; simp only; omega
      obtain ⟨y, hy⟩ : ∃ y, stC ⟨t, r, true, a, i⟩ drift = y := ⟨_, rfl⟩
      have hyb := stC_b (c := ⟨t, r, true, a, i⟩) (d := drift) ⟨v3, v4⟩
      have hys : (stC ⟨t, r, true, a, i⟩ drift).s = ((i + 1 : Nat) : Int) := by simp [stC]
      rw [hy] at hyb hys
      obtain ⟨y1, y2, y3, y4, y5⟩ := y
      simp only at hyb hys
      obtain ⟨c1, c2, c3, c4, c5, c6, c7⟩ := hyb
      clear c7
      rw [c5, c6, hys] at hy
      clear c5 c6 hys
      have ok2 : Ck.ok ⟨y1, y2, true, a, ((i + 1 : Nat) : Int)⟩ = true := by rw [ok_iff]; simp only; omega
      have cl1 : clC ⟨y1, y2, true, a, ((i + 1 : Nat) : Int)⟩ = clK a (i + 1) := clC_k
      have m1 : ilt (clK a (i + 1)) (clK a i) = false := by
        refine ilt_f ?_
        unfold clK
        repeat' split
        all_goals omega
      have hz2 : Hid (0 ≤ y1 ∧ y1 ≤ 20003 * ((i + 1 : Nat) : Int) ∧ 0 ≤ y2 ∧ y2 < 1000000) := show _ ∧ _ from ⟨by omega, by omega, c1, c2⟩
      by_cases h4 : i + 1 ≤ 4
      · have l1 : ilt 4 ((i + 1 : Nat) : Int) = false := ilt_f (by omega)
        have l2 : clK a (i + 1) = 0 := by unfold clK; rw [if_neg (by omega), if_pos (by omega)]
        rw [l2] at cl1 m1
        obtain ⟨j, hj⟩ : ∃ j, i + 1 = j := ⟨_, rfl⟩
        rw [hj] at g8 f1 w1 hy ok2 cl1 l1 l2 hz2
        clear z1 z2 v1 v2 v3 v4 c1 c2 c3 c4 hinv
        repeat' first
          | (refine gw_bool (fun _ => ?_) (fun _ => ?_))
          | (refine condw_bool (fun _ => ?_) (fun _ => ?_))
          | simp [*, Ck.v]
        refine nxt_go (j, ⟨y1, y2, true, a, 0⟩) (View.refl _ _) (by simp only; omega) (by simp [*, Keep, St.forget, scr, scrC]) (by simp [*, KeepH, St.forget, scr, scrC]) ?_
        refine ⟨by simp only; omega, ?_, ?_, ?_, hz2⟩
        all_goals simp [*]
      · have l1 : ilt 4 ((i + 1 : Nat) : Int) = true := ilt_t (by omega)
        have l2 : ieq (clK a (i + 1)) 0 = false := by
          refine ieq_f ?_
          unfold clK
          repeat' split
          all_goals omega
        obtain ⟨j, hj⟩ : ∃ j, i + 1 = j := ⟨_, rfl⟩
        rw [hj] at g8 f1 w1 hy ok2 cl1 m1 l1 l2 hz2
        clear z1 z2 v1 v2 v3 v4 c1 c2 c3 c4 hinv
        repeat' first
          | (refine gw_bool (fun _ => ?_) (fun _ => ?_))
          | (refine condw_bool (fun _ => ?_) (fun _ => ?_))
          | simp [*, Ck.v]
        refine nxt_go (j, ⟨y1, y2, true, a, 0⟩) (View.refl _ _) (by simp only; omega) (by simp [*, Keep, St.forget, scr, scrC]) (by simp [*, KeepH, St.forget, scr, scrC]) ?_
        refine ⟨by simp only; omega, ?_, ?_, ?_, hz2⟩
        all_goals simp [*]
    · have e1 : i = 500 := by omega
      subst e1
      have f1 : ilt 500 ((500 + 1 : Nat) : Int) = true := by decide
      have l2 : clK a 500 = 2 := by unfold clK; rw [if_pos (by omega)]
      rw [l2] at g7
      clear z1 z2 v1 v2 v3 v4 hinv
      repeat' first
        | (refine gw_bool (fun _ => ?_) (fun _ => ?_))
        | (refine condw_bool (fun _ => ?_) (fun _ => ?_))
        | simp [*]
end Go.Proofs.Ytjblgljalckihaa
