/-
  RecloserShots, RecloserDeadTime, RecloserLockout, RecloserClosings: the plain laws and the walks.
-/
import Derived.Test.YtjecnmamoidijaaHas
namespace Go.Proofs.Ytjecnmamoidijaa
open Go.Pv Go.RowKit
set_option linter.unusedSimpArgs false
set_option linter.unusedVariables false
set_option maxRecDepth 100000
set_option maxHeartbeats 4000000

/-- A step, by its phase; for use in plain arguments. -/
theorem st_bad {s d r : Int} {x : Rc} {i : Ip} (h : vaR s d r x = false) : stR s d r x i = (rc0, false) := by simp [stR, h]
def maxn (s : Int) (x : Rc) : Int := if x.p = 0 then 0 else if x.p = 1 then x.s - 1 else if x.p = 2 then x.s - 1 else if x.p = 3 then x.s else if x.p = 4 then x.s else s
theorem st_eq {s d r : Int} {x : Rc} {i : Ip} (h : vaR s d r x = true) : stR s d r x i =
    if i.sl then (lk, false)
    else if i.f ∧ (x.p = 0 ∨ x.p = 4) then (if i.b ∨ x.s = s then (lk, false) else (⟨1, x.s + 1, 0⟩, false))
    else if x.p = 0 then (if i.o then lk else x, false)
    else if x.p = 1 then (if i.o then ⟨2, x.s, 0⟩ else if x.n = 20 then lk else ⟨x.p, x.s, x.n + 1⟩, false)
    else if x.p = 2 then (if i.o then (if i.b then (x, false) else if x.n = d - 1 then (⟨3, x.s, 0⟩, true) else (⟨x.p, x.s, x.n + 1⟩, false)) else (lk, false))
    else if x.p = 3 then (if i.o then (if x.n = 20 then lk else ⟨x.p, x.s, x.n + 1⟩) else ⟨4, x.s, 0⟩, false)
    else (if i.o then lk else if i.b then x else if x.n = r - 1 then rc0 else ⟨x.p, x.s, x.n + 1⟩, false) := by
  have hb := va_bounds h
  have w1 : IntKind.i64.wrap (d - 1) = d - 1 := wrap_id (by omega) (by omega)
  have w2 : IntKind.i64.wrap (r - 1) = r - 1 := wrap_id (by omega) (by omega)
  have w3 : IntKind.i64.wrap (x.s + 1) = x.s + 1 := wrap_id (by omega) (by omega)
  have w4 : IntKind.i64.wrap (x.n + 1) = x.n + 1 := wrap_id (by omega) (by omega)
  simp only [stR, h, if_true, awR, paR, reR, coR, w1, w2, w3, w4, ieq]
  cases i.o <;> simp
theorem shots_step {s d r : Int} {x : Rc} {i : Ip} {n : Int} (h : vaR s d r x = true) (h0 : 0 ≤ n) (hn : n ≤ maxn s x) :
    n + (if (stR s d r x i).2 then 1 else 0) ≤ s ∧ ((stR s d r x i).1.p ≠ 0 → n + (if (stR s d r x i).2 then 1 else 0) ≤ maxn s (stR s d r x i).1) := by
  have hb := va_bounds h
  have hu : usR s d r = true := by grind [vaR]
  have hv : (x.p = 1 ∨ x.p = 2 ∨ x.p = 3 ∨ x.p = 4) → 1 ≤ x.s := by
    intro hp; simp only [vaR, hu, if_true, within, ilt, ieq] at h; grind
  rw [st_eq h]
  unfold maxn at hn ⊢
  grind (splits := 30) [lk, rc0]
def shotInv (s d r : Int) (x : Rc) (n : Int) : Prop := 0 ≤ n ∧ ((vaR s d r x = true ∧ n ≤ maxn s x) ∨ (usR s d r = false ∧ n = 0))
theorem shot_next {s d r : Int} {x : Rc} {i : Ip} {n : Int} {y : Rc} {c : Bool} (hy : stR s d r x i = (y, c)) (h : shotInv s d r x n) :
    (ilt s (n + if c then 1 else 0) = false ∨ ilt 0 (n + if c then 1 else 0) = false) ∧ shotInv s d r y (if y.p = 0 then 0 else n + if c then 1 else 0) := by
  obtain ⟨h0, h | h⟩ := h
  · have h1 := shots_step (i := i) h.1 h0 h.2
    have h2 := va_step (i := i) h.1
    rw [hy] at h1 h2
    simp only at h1 h2
    refine ⟨.inl (ilt_f h1.1), ?_⟩
    unfold shotInv
    refine ⟨by split <;> (try split) <;> omega, .inl ⟨h2.1, ?_⟩⟩
    by_cases hp : y.p = 0
    · simp [hp, maxn]
    · simp only [hp, if_false]; exact h1.2 hp
  · have hv : vaR s d r x = false := by simp [vaR, h.1]
    rw [st_bad hv] at hy
    cases hy
    refine ⟨.inr (by simp [h.2]), ?_⟩
    unfold shotInv
    simp [h.1, rc0]
theorem has_len {l : List Ip} {n : Nat} (h : l.length = n) {i : Nat} (hi : i < n) : ∃ x, l[i]? = some x ∧ l[i]'(by omega) = x := ⟨_, List.getElem?_eq_getElem (by omega), rfl⟩
theorem shots_ok (s d r : Int) (l : List Ip) (hl : l.length ≤ maxLen) : PCall Try.prog 5 [.agg [.int .i64 s, .int .i64 d, .int .i64 r], .list 4 (l.map Ip.cs)] (.bool true) := by
  obtain ⟨n, hn⟩ : ∃ n, l.length = n := ⟨_, rfl⟩
  cases hbig : ilt 200 (n : Int)
  · have hle : n ≤ 200 := by have := ilt_iff'.1 hbig; omega
    refine pcall_cx G5_ok mixed (fun _ => none) Try.func5 rfl Try.ntmps5 Try.results5 (by simp) (by kernel_rfl) ?_
    repeat' first
      | (refine gw_bool (fun _ => ?_) (fun _ => ?_))
      | (refine condw_bool (fun _ => ?_) (fun _ => ?_))
      | simp [*]
    refine lp_go (D := (fun _ => none)) G5_ok mixed (by kernel_rfl) [2, 5, 15, 16] [2, 8] (α := Nat × Rc × Int) (fun x e h => x.1 ≤ n ∧ e 17 = .int .i64 x.1 ∧ e 6 = .int .i64 x.2.2 ∧ h 5 = some ⟨25, [.int .i64 x.2.1.p, .int .i64 x.2.1.s, .int .i64 x.2.1.n]⟩ ∧ Hid (shotInv s d r x.2.1 x.2.2 ∧ x.2.2 ≤ x.1)) (fun x => n - x.1) (0, rc0, 0) ?_ ?_
    · simp only [rc0]
      refine ⟨by omega, rfl, rfl, rfl, show _ ∧ _ from ⟨?_, by simp⟩⟩
      unfold shotInv
      cases hu : usR s d r <;> simp [vaR, hu, maxn, within]
    · rintro ⟨i, ⟨p, q, m⟩, k⟩ e h hk hkh ⟨hi, g17, g6, q5, hinv⟩
      simp [Keep] at hk
      simp [KeepH] at hkh
      simp only at hi g17 g6 q5 hinv
      by_cases hlt : i < n
      · obtain ⟨x, hx, hx'⟩ := has_len hn hlt
        have f1 : ilt (i : Int) (n : Int) = true := ilt_t (by omega)
        have w1 : IntKind.i64.wrap ((i : Int) + 1) = ((i + 1 : Nat) : Int) := wrap_succ (by omega)
        obtain ⟨y, hr⟩ : ∃ y, stR s d r ⟨p, q, m⟩ ⟨x.f, x.sl, x.o, x.b⟩ = y := ⟨_, rfl⟩
        obtain ⟨⟨p', q', m'⟩, c'⟩ := y
        obtain ⟨hi1, hi2⟩ := hinv.out
        have hk0 := hi1.1
        have hq := shot_next hr hi1
        simp only at hq
        have w2 : IntKind.i64.wrap (k + 1) = k + 1 := wrap_id (by omega) (by omega)
        obtain ⟨hq1, hq2⟩ := hq
        have hz : Hid (shotInv s d r ⟨p', q', m'⟩ (if p' = 0 then 0 else k + if c' then 1 else 0)) := hq2
        have hz2 : Hid (k ≤ i ∧ 0 ≤ k) := show _ ∧ _ from ⟨hi2, hk0⟩
        clear hq2 hi1 hinv hi2 hk0
        cases c'
        · simp only [Bool.false_eq_true, if_false, Int.add_zero] at hq1 hz
          by_cases hp : p' = 0
          · subst hp
            simp only [if_true] at hz
            rcases hq1 with hq1 | hq1
            all_goals skip
            repeat' first
              | (refine gw_bool (fun _ => ?_) (fun _ => ?_))
              | (refine condw_bool (fun _ => ?_) (fun _ => ?_))
              | simp [*, vb, Rc.v, Ip.cs]
            all_goals refine nxt_go (i + 1, ⟨0, q', m'⟩, 0) ((View.forget _ _ 8)) (by simp only; omega) (by simp [*, Keep, St.forget, scr, scrC]) (by simp [*, KeepH, St.forget, scr, scrC]) ?_
            all_goals refine ⟨by simp only; omega, ?_, ?_, ?_, show _ ∧ _ from ⟨hz.out, by have := hz2.out; simp only; omega⟩⟩
            all_goals simp [*, St.forget, scr, scrC]
          · have f3 : ieq p' 0 = false := ieq_f hp
            simp only [hp, if_false] at hz
            clear hp
            rcases hq1 with hq1 | hq1
            all_goals skip
            repeat' first
              | (refine gw_bool (fun _ => ?_) (fun _ => ?_))
              | (refine condw_bool (fun _ => ?_) (fun _ => ?_))
              | simp [*, vb, Rc.v, Ip.cs]
            all_goals refine nxt_go (i + 1, ⟨p', q', m'⟩, k) ((View.forget _ _ 8)) (by simp only; omega) (by simp [*, Keep, St.forget, scr, scrC]) (by simp [*, KeepH, St.forget, scr, scrC]) ?_
            all_goals refine ⟨by simp only; omega, ?_, ?_, ?_, show _ ∧ _ from ⟨hz.out, by have := hz2.out; simp only; omega⟩⟩
            all_goals simp [*, St.forget, scr, scrC]
        · simp only [if_true] at hq1 hz
          by_cases hp : p' = 0
          · subst hp
            simp only [if_true] at hz
            rcases hq1 with hq1 | hq1
            all_goals skip
            repeat' first
              | (refine gw_bool (fun _ => ?_) (fun _ => ?_))
              | (refine condw_bool (fun _ => ?_) (fun _ => ?_))
              | simp [*, vb, Rc.v, Ip.cs]
            all_goals refine nxt_go (i + 1, ⟨0, q', m'⟩, 0) ((View.forget _ _ 8)) (by simp only; omega) (by simp [*, Keep, St.forget, scr, scrC]) (by simp [*, KeepH, St.forget, scr, scrC]) ?_
            all_goals refine ⟨by simp only; omega, ?_, ?_, ?_, show _ ∧ _ from ⟨hz.out, by have := hz2.out; simp only; omega⟩⟩
            all_goals simp [*, St.forget, scr, scrC]
          · have f3 : ieq p' 0 = false := ieq_f hp
            simp only [hp, if_false] at hz
            clear hp
            rcases hq1 with hq1 | hq1
            all_goals skip
            repeat' first
              | (refine gw_bool (fun _ => ?_) (fun _ => ?_))
              | (refine condw_bool (fun _ => ?_) (fun _ => ?_))
              | simp [*, vb, Rc.v, Ip.cs]
            all_goals refine nxt_go (i + 1, ⟨p', q', m'⟩, k + 1) ((View.forget _ _ 8)) (by simp only; omega) (by simp [*, Keep, St.forget, scr, scrC]) (by simp [*, KeepH, St.forget, scr, scrC]) ?_
            all_goals refine ⟨by simp only; omega, ?_, ?_, ?_, show _ ∧ _ from ⟨hz.out, by have := hz2.out; simp only; omega⟩⟩
            all_goals simp [*, St.forget, scr, scrC]
      · have f1 : ilt (i : Int) (n : Int) = false := ilt_f (by omega)
        repeat' first
          | (refine gw_bool (fun _ => ?_) (fun _ => ?_))
          | (refine condw_bool (fun _ => ?_) (fun _ => ?_))
          | simp [*]
  · refine pcall_cx G5_ok mixed (fun _ => none) Try.func5 rfl Try.ntmps5 Try.results5 (by simp) (by kernel_rfl) ?_
    repeat' first
      | (refine gw_bool (fun _ => ?_) (fun _ => ?_))
      | (refine condw_bool (fun _ => ?_) (fun _ => ?_))
      | simp [*]
end Go.Proofs.Ytjecnmamoidijaa
