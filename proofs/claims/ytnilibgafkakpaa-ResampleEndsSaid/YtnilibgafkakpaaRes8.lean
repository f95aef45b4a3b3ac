/-
  Resampling: the law Lowest.
-/
import Derived.Test.YtnilibgafkakpaaRes7
namespace Go.Proofs.Ytnilibgafkakpaa
open Go.Pv Go.RowKit
set_option linter.unusedSimpArgs false
set_option linter.unusedVariables false
set_option maxRecDepth 100000
set_option maxHeartbeats 4000000

theorem gcdL_ok (n : Int) (B0 : Nat) (h1 : -4611686018427387904 ≤ n) (h1' : n ≤ 4611686018427387904) (h2 : B0 ≤ 9223372036854775807) : PCall Try.prog 15 [.int .i64 n, .int .i64 B0] (.int .i64 (Nat.gcd n.natAbs B0 : Nat)) := by
  obtain ⟨g, hg⟩ : ∃ g, Nat.gcd n.natAbs B0 = g := ⟨_, rfl⟩
  obtain ⟨N, hN⟩ : ∃ N, n.natAbs = N := ⟨_, rfl⟩
  rw [hg]
  rw [hN] at hg
  have key : ∀ (e : Nat → V) , True := fun _ => trivial
  cases hlt : ilt n 0
  · have hn : n = (N : Int) := by have := ilt_iff'.1 hlt; omega
    rw [hn] at hlt ⊢
    refine pcall_cx noTab_ok mixed (fun _ => none) Try.func15 rfl Try.ntmps15 Try.results15 (by simp) (by kernel_rfl) ?_
    repeat' first
      | (refine gw_bool (fun _ => ?_) (fun _ => ?_))
      | (refine condw_bool (fun _ => ?_) (fun _ => ?_))
      | simp [*]
    refine lp_go (D := (fun _ => none)) noTab_ok mixed (by kernel_rfl) [] [] (α := Nat × Nat) (fun x e h => e 0 = .int .i64 x.1 ∧ e 1 = .int .i64 x.2 ∧ Hid (Nat.gcd x.1 x.2 = g)) (fun x => x.2) (N, B0) ?_ ?_
    · exact ⟨rfl, rfl, hg⟩
    · rintro ⟨A, B⟩ e h hk hkh ⟨g6, g7, hinv⟩
      simp [Keep] at hk
      simp [KeepH] at hkh
      simp only at g6 g7 hinv
      by_cases hB : B = 0
      · subst hB
        have : A = g := by have := hinv.out; simpa using this
        subst this
        have f1 : ilt 0 (((0 : Nat)) : Int) = false := by decide
        clear hinv
        repeat' first
          | (refine gw_bool (fun _ => ?_) (fun _ => ?_))
          | (refine condw_bool (fun _ => ?_) (fun _ => ?_))
          | simp [*]
      · have f1 : ilt 0 (B : Int) = true := ilt_t (by omega)
        have f3 : (A : Int).tmod (B : Int) = ((A % B : Nat) : Int) := by rw [Int.tmod_eq_emod_of_nonneg (by omega)]; simp
        have hz : Hid (Nat.gcd B (A % B) = g) := by
          show _ = _
          rw [← hinv.out, Nat.gcd_comm A B, Nat.gcd_rec B A, Nat.gcd_comm]
        have hlt : A % B < B := Nat.mod_lt _ (by omega)
        clear hinv
        repeat' first
          | (refine gw_bool (fun _ => ?_) (fun _ => ?_))
          | (refine condw_bool (fun _ => ?_) (fun _ => ?_))
          | simp [*]
        refine nxt_go (B, A % B) (View.refl _ _) (by simp only; exact hlt) (by simp [*, Keep, St.forget, scr, scrC]) (by simp [*, KeepH, St.forget, scr, scrC]) ?_
        refine ⟨?_, ?_, hz⟩
        · simp [*]
        · simp [*]
  · have hn : -n = (N : Int) := by have := ilt_iff.1 hlt; omega
    have w1 : IntKind.i64.wrap (-n) = (N : Int) := by rw [hn]; exact wrap_id (by omega) (by omega)
    clear hn hN
    refine pcall_cx noTab_ok mixed (fun _ => none) Try.func15 rfl Try.ntmps15 Try.results15 (by simp) (by kernel_rfl) ?_
    repeat' first
      | (refine gw_bool (fun _ => ?_) (fun _ => ?_))
      | (refine condw_bool (fun _ => ?_) (fun _ => ?_))
      | simp [*]
    refine lp_go (D := (fun _ => none)) noTab_ok mixed (by kernel_rfl) [] [] (α := Nat × Nat) (fun x e h => e 0 = .int .i64 x.1 ∧ e 1 = .int .i64 x.2 ∧ Hid (Nat.gcd x.1 x.2 = g)) (fun x => x.2) (N, B0) ?_ ?_
    · exact ⟨by simp [*], by simp [*], hg⟩
    · rintro ⟨A, B⟩ e h hk hkh ⟨g6, g7, hinv⟩
      simp [Keep] at hk
      simp [KeepH] at hkh
      simp only at g6 g7 hinv
      by_cases hB : B = 0
      · subst hB
        have : A = g := by have := hinv.out; simpa using this
        subst this
        have f1 : ilt 0 (((0 : Nat)) : Int) = false := by decide
        clear hinv
        repeat' first
          | (refine gw_bool (fun _ => ?_) (fun _ => ?_))
          | (refine condw_bool (fun _ => ?_) (fun _ => ?_))
          | simp [*]
      · have f1 : ilt 0 (B : Int) = true := ilt_t (by omega)
        have f3 : (A : Int).tmod (B : Int) = ((A % B : Nat) : Int) := by rw [Int.tmod_eq_emod_of_nonneg (by omega)]; simp
        have hz : Hid (Nat.gcd B (A % B) = g) := by
          show _ = _
          rw [← hinv.out, Nat.gcd_comm A B, Nat.gcd_rec B A, Nat.gcd_comm]
        have hlt : A % B < B := Nat.mod_lt _ (by omega)
        clear hinv
        repeat' first
          | (refine gw_bool (fun _ => ?_) (fun _ => ?_))
          | (refine condw_bool (fun _ => ?_) (fun _ => ?_))
          | simp [*]
        refine nxt_go (B, A % B) (View.refl _ _) (by simp only; exact hlt) (by simp [*, Keep, St.forget, scr, scrC]) (by simp [*, KeepH, St.forget, scr, scrC]) ?_
        refine ⟨?_, ?_, hz⟩
        · simp [*]
        · simp [*]
end Go.Proofs.Ytnilibgafkakpaa
