/-
  RecloserLockout and RecloserClosings: the walks.
-/
import Derived.Test.YtjecnmamoidijaaLoops2
namespace Go.Proofs.Ytjecnmamoidijaa
open Go.Pv Go.RowKit
set_option linter.unusedSimpArgs false
set_option linter.unusedVariables false
set_option maxRecDepth 100000
set_option maxHeartbeats 4000000

theorem lockout_ok (s d r p0 q0 n0 : Int) (l : List Ip) (hl : l.length ≤ maxLen) : PCall Try.prog 7 [.agg [.int .i64 s, .int .i64 d, .int .i64 r], .agg [.int .i64 p0, .int .i64 q0, .int .i64 n0], .list 4 (l.map Ip.cs)] (.bool true) := by
  obtain ⟨n, hn⟩ : ∃ n, l.length = n := ⟨_, rfl⟩
  cases hbig : ilt 200 (n : Int)
  · have hle : n ≤ 200 := by have := ilt_iff'.1 hbig; omega
    cases hv : vaR s d r ⟨p0, q0, n0⟩
    · refine pcall_cx G5_ok mixed (fun _ => none) Try.func7 rfl Try.ntmps7 Try.results7 (by simp) (by kernel_rfl) ?_
      repeat' first
        | (refine gw_bool (fun _ => ?_) (fun _ => ?_))
        | (refine condw_bool (fun _ => ?_) (fun _ => ?_))
        | simp [*]
    · have hs0 : stR s d r ⟨p0, q0, n0⟩ ⟨false, true, false, false⟩ = (⟨5, 0, 0⟩, false) := by simp [stR, hv, lk]
      have hu : usR s d r = true := by grind [vaR]
      have hb := us_bounds hu
      have hr1 : 1 ≤ r := by omega
      clear hb hu
      refine pcall_cx G5_ok mixed (fun _ => none) Try.func7 rfl Try.ntmps7 Try.results7 (by simp) (by kernel_rfl) ?_
      repeat' first
        | (refine gw_bool (fun _ => ?_) (fun _ => ?_))
        | (refine condw_bool (fun _ => ?_) (fun _ => ?_))
        | simp [*, vb, Rc.v]
      refine lp_go (D := (fun _ => none)) G5_ok mixed (by kernel_rfl) [3, 7, 41, 42] [3, 4, 12] (α := Nat × Rc × Int × Bool) (fun x e h => x.1 ≤ n ∧ e 43 = .int .i64 x.1 ∧ e 9 = .int .i64 x.2.2.1 ∧ e 10 = .bool x.2.2.2 ∧ h 7 = some ⟨25, [.int .i64 x.2.1.p, .int .i64 x.2.1.s, .int .i64 x.2.1.n]⟩ ∧ Hid (lockInv s d r x.2.1 x.2.2.1 x.2.2.2 ∧ x.2.2.1 ≤ x.1)) (fun x => n - x.1) (0, ⟨5, 0, 0⟩, 0, false) ?_ ?_
      · refine ⟨by omega, rfl, rfl, rfl, rfl, show _ ∧ _ from ⟨?_, by simp⟩⟩
        have := va_step (i := ⟨false, true, false, false⟩) hv
        rw [hs0] at this
        exact ⟨by simp, this.1, fun _ => .inl ⟨rfl, by simp⟩⟩
      · rintro ⟨i, ⟨p, q, m⟩, k, fa⟩ e h hk hkh ⟨hi, g43, g9, g10, q7, hinv⟩
        simp [Keep] at hk
        simp [KeepH] at hkh
        simp only at hi g43 g9 g10 q7 hinv
        by_cases hlt : i < n
        · obtain ⟨⟨x1, x2, x3, x4⟩, hx, hx'⟩ := has_len hn hlt
          have f1 : ilt (i : Int) (n : Int) = true := ilt_t (by omega)
          have w1 : IntKind.i64.wrap ((i : Int) + 1) = ((i + 1 : Nat) : Int) := wrap_succ (by omega)
          obtain ⟨y, hr⟩ : ∃ y, stR s d r ⟨p, q, m⟩ ⟨x1, x2, x3, x4⟩ = y := ⟨_, rfl⟩
          obtain ⟨⟨p', q', m'⟩, c'⟩ := y
          obtain ⟨hi1, hi2⟩ := hinv.out
          have hk0 := hi1.1
          obtain ⟨hq1, hq2, hq3⟩ := lock_next hr hi1
          have w2 : IntKind.i64.wrap (k + 1) = k + 1 := wrap_id (by omega) (by omega)
          obtain ⟨fa', hfa⟩ : ∃ b, fast1 fa ⟨p, q, m⟩ ⟨x1, x2, x3, x4⟩ = b := ⟨_, rfl⟩
          obtain ⟨k', hk'⟩ : ∃ b, lock1 k ⟨x1, x2, x3, x4⟩ = b := ⟨_, rfl⟩
          have hz : Hid (lockInv s d r ⟨p', q', m'⟩ k' fa' ∧ k' ≤ ((i + 1 : Nat) : Int)) := show _ ∧ _ from by
            rw [← hfa, ← hk']; exact ⟨hq3, by unfold lock1; split; omega; split <;> omega⟩
          rw [hfa] at hq1 hq2
          rw [hk'] at hq2
          have hz3 : Hid ((c' = true → fa' = true) ∧ (ieq p' 5 = false → ilt k' r = true → fa' = true)) := show _ ∧ _ from ⟨hq1, hq2⟩
          clear hq1 hq2 hq3 hi1 hinv hi2 hk0
          simp only [fast1, lock1] at hfa hk'
          cases x3 <;> cases x4 <;> cases x1 <;> cases fa <;> cases h5 : ieq p 5 <;> simp [h5] at hfa hk' <;> subst hk' <;> subst hfa
          all_goals skip
          repeat' first
            | (refine gw_bool (fun _ => ?_) (fun _ => ?_))
            | (refine condw_bool (fun _ => ?_) (fun _ => ?_))
            | simp [*, vb, Rc.v, Ip.cs]
          all_goals first
            | (exfalso; have hz3 := hz3.out; simp_all; done)
            | (refine nxt_go (i + 1, ⟨p', q', m'⟩, _, _) (View.forget _ _ 12) (by simp only; omega) (by simp [*, Keep, St.forget, scr, scrC]) (by simp [*, KeepH, St.forget, scr, scrC]) ⟨by simp only; omega, ?_, ?_, ?_, ?_, hz⟩ <;> simp [*, St.forget, scr, scrC]; done)
            | trace_state
        · have f1 : ilt (i : Int) (n : Int) = false := ilt_f (by omega)
          repeat' first
            | (refine gw_bool (fun _ => ?_) (fun _ => ?_))
            | (refine condw_bool (fun _ => ?_) (fun _ => ?_))
            | simp [*]
  · refine pcall_cx G5_ok mixed (fun _ => none) Try.func7 rfl Try.ntmps7 Try.results7 (by simp) (by kernel_rfl) ?_
    repeat' first
      | (refine gw_bool (fun _ => ?_) (fun _ => ?_))
      | (refine condw_bool (fun _ => ?_) (fun _ => ?_))
      | simp [*]
end Go.Proofs.Ytjecnmamoidijaa
