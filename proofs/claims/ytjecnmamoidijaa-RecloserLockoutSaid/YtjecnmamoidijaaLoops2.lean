/-
  RecloserDeadTime and RecloserLockout: the plain laws and the walks.
-/
import Derived.Test.YtjecnmamoidijaaLoops
namespace Go.Proofs.Ytjecnmamoidijaa
open Go.Pv Go.RowKit
set_option linter.unusedSimpArgs false
set_option linter.unusedVariables false
set_option maxRecDepth 100000
set_option maxHeartbeats 4000000

def deadInv (s d r : Int) (x : Rc) (k : Int) : Prop := 0 ≤ k ∧ ((vaR s d r x = true ∧ (x.p = 2 → x.n + 1 ≤ k)) ∨ usR s d r = false)
def dead1 (k : Int) (i : Ip) : Int := if !i.o || i.sl then 0 else k + 1
theorem dead_next {s d r : Int} {x : Rc} {i : Ip} {k : Int} {y : Rc} {c : Bool} (hy : stR s d r x i = (y, c)) (h : deadInv s d r x k) :
    (c = true → ilt d (dead1 k i) = true) ∧ deadInv s d r y (dead1 k i) := by
  obtain ⟨h0, h | h⟩ := h
  · have h2 := va_step (i := i) h.1
    have hb := va_bounds h.1
    rw [hy] at h2
    simp only at h2
    have hst := st_eq (i := i) h.1
    rw [hy] at hst
    have hk : 0 ≤ dead1 k i := by unfold dead1; split <;> omega
    refine ⟨fun hc => ilt_t ?_, hk, .inl ⟨h2.1, ?_⟩⟩
    · unfold dead1
      grind (splits := 30) [lk, rc0]
    · unfold dead1
      grind (splits := 30) [lk, rc0]
  · have hv : vaR s d r x = false := by simp [vaR, h]
    rw [st_bad hv] at hy
    cases hy
    refine ⟨by simp, ?_, .inr h⟩
    unfold dead1; split <;> omega
theorem dead_ok (s d r : Int) (l : List Ip) (hl : l.length ≤ maxLen) : PCall Try.prog 6 [.agg [.int .i64 s, .int .i64 d, .int .i64 r], .list 4 (l.map Ip.cs)] (.bool true) := by
  obtain ⟨n, hn⟩ : ∃ n, l.length = n := ⟨_, rfl⟩
  cases hbig : ilt 200 (n : Int)
  · have hle : n ≤ 200 := by have := ilt_iff'.1 hbig; omega
    refine pcall_cx G5_ok mixed (fun _ => none) Try.func6 rfl Try.ntmps6 Try.results6 (by simp) (by kernel_rfl) ?_
    repeat' first
      | (refine gw_bool (fun _ => ?_) (fun _ => ?_))
      | (refine condw_bool (fun _ => ?_) (fun _ => ?_))
      | simp [*]
    refine lp_go (D := (fun _ => none)) G5_ok mixed (by kernel_rfl) [2, 5, 15, 16] [2, 8] (α := Nat × Rc × Int) (fun x e h => x.1 ≤ n ∧ e 17 = .int .i64 x.1 ∧ e 6 = .int .i64 x.2.2 ∧ h 5 = some ⟨25, [.int .i64 x.2.1.p, .int .i64 x.2.1.s, .int .i64 x.2.1.n]⟩ ∧ Hid (deadInv s d r x.2.1 x.2.2 ∧ x.2.2 ≤ x.1)) (fun x => n - x.1) (0, rc0, 0) ?_ ?_
    · simp only [rc0]
      refine ⟨by omega, rfl, rfl, rfl, show _ ∧ _ from ⟨?_, by simp⟩⟩
      unfold deadInv
      cases hu : usR s d r <;> simp [vaR, hu, within]
    · rintro ⟨i, ⟨p, q, m⟩, k⟩ e h hk hkh ⟨hi, g17, g6, q5, hinv⟩
      simp [Keep] at hk
      simp [KeepH] at hkh
      simp only at hi g17 g6 q5 hinv
      by_cases hlt : i < n
      · obtain ⟨⟨x1, x2, x3, x4⟩, hx, hx'⟩ := has_len hn hlt
        have f1 : ilt (i : Int) (n : Int) = true := ilt_t (by omega)
        have w1 : IntKind.i64.wrap ((i : Int) + 1) = ((i + 1 : Nat) : Int) := wrap_succ (by omega)
        obtain ⟨y, hr⟩ : ∃ y, stR s d r ⟨p, q, m⟩ ⟨x1, x2, x3, x4⟩ = y := ⟨_, rfl⟩
        obtain ⟨⟨p', q', m'⟩, c'⟩ := y
        obtain ⟨hi1, hi2⟩ := hinv.out
        have hk0 := hi1.1
        obtain ⟨hq1, hq2⟩ := dead_next hr hi1
        have w2 : IntKind.i64.wrap (k + 1) = k + 1 := wrap_id (by omega) (by omega)
        have hz : Hid (deadInv s d r ⟨p', q', m'⟩ (dead1 k ⟨x1, x2, x3, x4⟩) ∧ dead1 k ⟨x1, x2, x3, x4⟩ ≤ ((i + 1 : Nat) : Int)) := show _ ∧ _ from ⟨hq2, by unfold dead1; split <;> omega⟩
        clear hq2 hi1 hinv hi2 hk0
        cases x3
        · have hz' : Hid (deadInv s d r ⟨p', q', m'⟩ 0 ∧ 0 ≤ ((i + 1 : Nat) : Int)) := hz
          clear hz
          cases c'
          · clear hq1
            repeat' first
              | (refine gw_bool (fun _ => ?_) (fun _ => ?_))
              | (refine condw_bool (fun _ => ?_) (fun _ => ?_))
              | simp [*, vb, Rc.v, Ip.cs]
            all_goals refine nxt_go (i + 1, ⟨p', q', m'⟩, 0) ((View.forget _ _ 8)) (by simp only; omega) (by simp [*, Keep, St.forget, scr, scrC]) (by simp [*, KeepH, St.forget, scr, scrC]) ?_
            all_goals refine ⟨by simp only; omega, ?_, ?_, ?_, hz'⟩
            all_goals simp [*, St.forget, scr, scrC]
          · have hq := hq1 rfl
            simp only [dead1, Bool.not_false, Bool.true_or, if_true] at hq
            clear hq1
            repeat' first
              | (refine gw_bool (fun _ => ?_) (fun _ => ?_))
              | (refine condw_bool (fun _ => ?_) (fun _ => ?_))
              | simp [*, vb, Rc.v, Ip.cs]
            all_goals refine nxt_go (i + 1, ⟨p', q', m'⟩, 0) ((View.forget _ _ 8)) (by simp only; omega) (by simp [*, Keep, St.forget, scr, scrC]) (by simp [*, KeepH, St.forget, scr, scrC]) ?_
            all_goals refine ⟨by simp only; omega, ?_, ?_, ?_, hz'⟩
            all_goals simp [*, St.forget, scr, scrC]
        · cases x2
          · have hz' : Hid (deadInv s d r ⟨p', q', m'⟩ (k + 1) ∧ k + 1 ≤ ((i + 1 : Nat) : Int)) := hz
            clear hz
            cases c'
            · clear hq1
              repeat' first
                | (refine gw_bool (fun _ => ?_) (fun _ => ?_))
                | (refine condw_bool (fun _ => ?_) (fun _ => ?_))
                | simp [*, vb, Rc.v, Ip.cs]
              all_goals refine nxt_go (i + 1, ⟨p', q', m'⟩, k + 1) ((View.forget _ _ 8)) (by simp only; omega) (by simp [*, Keep, St.forget, scr, scrC]) (by simp [*, KeepH, St.forget, scr, scrC]) ?_
              all_goals refine ⟨by simp only; omega, ?_, ?_, ?_, hz'⟩
              all_goals simp [*, St.forget, scr, scrC]
            · have hq := hq1 rfl
              simp only [dead1, Bool.not_true, Bool.or_self, Bool.false_eq_true, if_false] at hq
              clear hq1
              repeat' first
                | (refine gw_bool (fun _ => ?_) (fun _ => ?_))
                | (refine condw_bool (fun _ => ?_) (fun _ => ?_))
                | simp [*, vb, Rc.v, Ip.cs]
              all_goals refine nxt_go (i + 1, ⟨p', q', m'⟩, k + 1) ((View.forget _ _ 8)) (by simp only; omega) (by simp [*, Keep, St.forget, scr, scrC]) (by simp [*, KeepH, St.forget, scr, scrC]) ?_
              all_goals refine ⟨by simp only; omega, ?_, ?_, ?_, hz'⟩
              all_goals simp [*, St.forget, scr, scrC]
          · have hz' : Hid (deadInv s d r ⟨p', q', m'⟩ 0 ∧ 0 ≤ ((i + 1 : Nat) : Int)) := hz
            clear hz
            cases c'
            · clear hq1
              repeat' first
                | (refine gw_bool (fun _ => ?_) (fun _ => ?_))
                | (refine condw_bool (fun _ => ?_) (fun _ => ?_))
                | simp [*, vb, Rc.v, Ip.cs]
              all_goals refine nxt_go (i + 1, ⟨p', q', m'⟩, 0) ((View.forget _ _ 8)) (by simp only; omega) (by simp [*, Keep, St.forget, scr, scrC]) (by simp [*, KeepH, St.forget, scr, scrC]) ?_
              all_goals refine ⟨by simp only; omega, ?_, ?_, ?_, hz'⟩
              all_goals simp [*, St.forget, scr, scrC]
            · have hq := hq1 rfl
              simp only [dead1, Bool.or_true, if_true] at hq
              clear hq1
              repeat' first
                | (refine gw_bool (fun _ => ?_) (fun _ => ?_))
                | (refine condw_bool (fun _ => ?_) (fun _ => ?_))
                | simp [*, vb, Rc.v, Ip.cs]
              all_goals refine nxt_go (i + 1, ⟨p', q', m'⟩, 0) ((View.forget _ _ 8)) (by simp only; omega) (by simp [*, Keep, St.forget, scr, scrC]) (by simp [*, KeepH, St.forget, scr, scrC]) ?_
              all_goals refine ⟨by simp only; omega, ?_, ?_, ?_, hz'⟩
              all_goals simp [*, St.forget, scr, scrC]
      · have f1 : ilt (i : Int) (n : Int) = false := ilt_f (by omega)
        repeat' first
          | (refine gw_bool (fun _ => ?_) (fun _ => ?_))
          | (refine condw_bool (fun _ => ?_) (fun _ => ?_))
          | simp [*]
  · refine pcall_cx G5_ok mixed (fun _ => none) Try.func6 rfl Try.ntmps6 Try.results6 (by simp) (by kernel_rfl) ?_
    repeat' first
      | (refine gw_bool (fun _ => ?_) (fun _ => ?_))
      | (refine condw_bool (fun _ => ?_) (fun _ => ?_))
      | simp [*]

/-- What is so while no fast trip has come: locked, or ready after the reclaim time. -/
def lockInv (s d r : Int) (x : Rc) (k : Int) (fast : Bool) : Prop := 0 ≤ k ∧ vaR s d r x = true ∧ (fast = false → (x.p = 5 ∧ x.n ≤ k) ∨ (x = rc0 ∧ r ≤ k))
def fast1 (fast : Bool) (x : Rc) (i : Ip) : Bool := fast || (i.f && !ieq x.p 5)
def lock1 (k : Int) (i : Ip) : Int := if i.o then 0 else if i.b then k else k + 1
theorem lock_next {s d r : Int} {x : Rc} {i : Ip} {k : Int} {fast : Bool} {y : Rc} {c : Bool} (hy : stR s d r x i = (y, c)) (h : lockInv s d r x k fast) :
    (c = true → fast1 fast x i = true) ∧ (ieq y.p 5 = false → ilt (lock1 k i) r = true → fast1 fast x i = true) ∧ lockInv s d r y (lock1 k i) (fast1 fast x i) := by
  obtain ⟨h0, h1, h2⟩ := h
  have h3 := va_step (i := i) h1
  have hb := va_bounds h1
  rw [hy] at h3
  simp only at h3
  have hst := st_eq (i := i) h1
  rw [hy] at hst
  have hk : 0 ≤ lock1 k i := by unfold lock1; grind
  obtain ⟨p, q, n⟩ := x
  obtain ⟨f, sl, o, b⟩ := i
  refine ⟨?_, ?_, hk, h3.1, ?_⟩
  · unfold fast1
    grind (splits := 30) [lk, rc0, ieq]
  · unfold fast1 lock1
    grind (splits := 30) [lk, rc0, ieq, ilt]
  · unfold fast1 lock1
    grind (splits := 30) [lk, rc0, ieq]
end Go.Proofs.Ytjecnmamoidijaa
