/-
  ClockExact and ClockHoldover: the plain laws and the walks.
-/
import Derived.Test.YtjblgljalckihaaHas
namespace Go.Proofs.Ytjblgljalckihaa
open Go.Pv Go.RowKit
set_option linter.unusedSimpArgs false
set_option linter.unusedVariables false
set_option maxRecDepth 100000
set_option maxHeartbeats 4000000

theorem lim_b (d : Int) : -100 ≤ lim d ∧ lim d ≤ 100 := by unfold lim; omega
def dN (a d1 d2 : Int) : Nat → Ck
  | 0 => ⟨a, 0, false, 0, 0⟩
  | k + 1 => stC (stC (dN a d1 d2 k) d1) d2
theorem stC_b {c : Ck} {d : Int} (h : 0 ≤ c.r ∧ c.r < 1000000) : 0 ≤ (stC c d).r ∧ (stC c d).r < 1000000 ∧ c.t + 19997 ≤ (stC c d).t ∧ (stC c d).t ≤ c.t + 20003 ∧ (stC c d).k = c.k ∧ (stC c d).e = c.e ∧ (c.k = false → (stC c d).s = c.s) := by
  have := lim_b d
  simp only [stC]
  refine ⟨by omega, by omega, by omega, by omega, trivial, trivial, fun h => by simp [h]⟩
theorem dN_b (a d1 d2 : Int) : ∀ k : Nat, 0 ≤ (dN a d1 d2 k).r ∧ (dN a d1 d2 k).r < 1000000 ∧ a ≤ (dN a d1 d2 k).t ∧ (dN a d1 d2 k).t ≤ a + 40006 * k ∧ (dN a d1 d2 k).k = false ∧ (dN a d1 d2 k).e = 0 ∧ (dN a d1 d2 k).s = 0
  | 0 => by simp [dN]
  | k + 1 => by
    obtain ⟨h1, h2, h3, h4, h5, h6, h7⟩ := dN_b a d1 d2 k
    obtain ⟨g1, g2, g3, g4, g5, g6, g7⟩ := stC_b (c := dN a d1 d2 k) (d := d1) ⟨h1, h2⟩
    obtain ⟨k1, k2, k3, k4, k5, k6, k7⟩ := stC_b (c := stC (dN a d1 d2 k) d1) (d := d2) ⟨g1, g2⟩
    simp only [dN]
    refine ⟨k1, k2, by omega, by omega, by rw [k5, g5, h5], by rw [k6, g6, h6], by rw [k7 (by rw [g5, h5]), g7 h5, h7]⟩
theorem dN_opp {a d : Int} (h1 : -100 ≤ d) (h2 : d ≤ 100) : ∀ k : Nat, dN a d (-d) k = ⟨a + 40000 * k, 0, false, 0, 0⟩
  | 0 => by simp [dN]
  | k + 1 => by
    rw [dN, dN_opp h1 h2 k]
    have e1 : lim d = d := by unfold lim; omega
    have e2 : lim (-d) = -d := by unfold lim; omega
    simp only [stC, e1, e2, Ck.mk.injEq, Bool.false_eq_true, if_false, and_true]
    omega
theorem st0 {a : Int} : stC ⟨a, 0, false, 0, 0⟩ 0 = ⟨a + 20000, 0, false, 0, 0⟩ := by
  have : lim 0 = 0 := by unfold lim; omega
  simp [stC, this]
theorem st_hi {c : Ck} {d : Int} (h : 100 < d) : stC c d = stC c 100 := by
  have : lim d = lim 100 := by unfold lim; omega
  simp [stC, this]
theorem st_lo {c : Ck} {d : Int} (h : d < -100) : stC c d = stC c (-100) := by
  have : lim d = lim (-100) := by unfold lim; omega
  simp [stC, this]
theorem tmod_small {n m : Int} (h1 : -m < n) (h2 : n < m) : n.tmod m = n := by
  by_cases h : 0 ≤ n
  · exact Int.tmod_eq_of_lt h h2
  · have e : n = -(-n) := by omega
    rw [e, Int.neg_tmod, Int.tmod_eq_of_lt (by omega) (by omega)]
theorem tmod_b {n m : Int} (hm : 0 < m) : -m < n.tmod m ∧ n.tmod m < m := by
  by_cases h : 0 ≤ n
  · rw [Int.tmod_eq_emod_of_nonneg h]
    have h2 := Int.emod_nonneg n (show m ≠ 0 by omega)
    have h3 := Int.emod_lt_of_pos n hm
    omega
  · have e : n = -(-n) := by omega
    rw [e, Int.neg_tmod, Int.tmod_eq_emod_of_nonneg (by omega)]
    have h2 := Int.emod_nonneg (-n) (show m ≠ 0 by omega)
    have h3 := Int.emod_lt_of_pos (-n) hm
    omega
theorem exact_ok (start drift m : Int) : PCall Try.prog 3 [.int .i64 start, .int .i64 drift, .int .i64 m] (.bool true) := by
  obtain ⟨a, ha⟩ : ∃ a, start.tmod 1125899906842624 = a := ⟨_, rfl⟩
  have hab := tmod_b (n := start) (m := 1125899906842624) (by omega)
  rw [ha] at hab
  obtain ⟨n, hn⟩ := Int.eq_ofNat_of_zero_le (Int.emod_nonneg m (show (100 : Int) ≠ 0 by omega))
  have hn2 : n < 100 := by have := Int.emod_lt_of_pos m (show (0 : Int) < 100 by omega); omega
  obtain ⟨d2, hd2⟩ : ∃ d2, drift.tmod 101 = d2 := ⟨_, rfl⟩
  have hdb := tmod_b (n := drift) (m := 101) (by omega)
  rw [hd2] at hdb
  have w0 : IntKind.i64.wrap (-d2) = -d2 := wrap_id (by omega) (by omega)
  have w0' : IntKind.i64.wrap (0 - d2) = -d2 := by rw [Int.zero_sub]; exact w0
  have hz : Hid (-1125899906842624 < a ∧ a < 1125899906842624 ∧ n < 100) := show _ ∧ _ from ⟨hab.1, hab.2, hn2⟩
  have hd3 : Hid (-100 ≤ drift → drift ≤ 100 → d2 = drift) := show _ → _ → _ by
    intro h1 h2
    rw [← hd2, tmod_small (by omega) (by omega)]
  clear hab hn2 hdb
  refine pcall_cx G8_ok mixed (fun _ => none) Try.func3 rfl Try.ntmps3 Try.results3 (by simp) (by kernel_rfl) ?_
  repeat' first
    | (refine gw_bool (fun _ => ?_) (fun _ => ?_))
    | (refine condw_bool (fun _ => ?_) (fun _ => ?_))
    | simp [*, Ck.v]
  refine lp_go (D := (fun _ => none)) G8_ok mixed (by kernel_rfl) [0, 1, 2, 7, 8] [10, 11, 12] (α := Nat × Ck) (fun x e h => x.1 ≤ n ∧ e 9 = .int .i64 x.1 ∧ h 7 = some ⟨25, [.int .i64 (a + 20000 * x.1), .int .i64 0, .bool false, .int .i64 0, .int .i64 0]⟩ ∧ h 8 = some ⟨25, [.int .i64 x.2.t, .int .i64 x.2.r, .bool x.2.k, .int .i64 x.2.e, .int .i64 x.2.s]⟩ ∧ Hid (dN a drift (-d2) x.1 = x.2)) (fun x => n - x.1) (0, ⟨a, 0, false, 0, 0⟩) ?_ ?_
  · exact ⟨by simp, rfl, by simp, rfl, show _ = _ from rfl⟩
  · rintro ⟨i, ⟨t, r, k, e', s⟩⟩ e h hk hkh ⟨hi, g9, q7, q8, hinv⟩
    simp [Keep] at hk
    simp [KeepH] at hkh
    simp only at hi g9 q7 q8 hinv
    obtain ⟨z1, z2, z3⟩ := hz.out
    have hb := dN_b a drift (-d2) i
    rw [hinv.out] at hb
    simp only at hb
    obtain ⟨b1, b2, b3, b4, rfl, rfl, rfl⟩ := hb
    have ok1 : Ck.ok ⟨a + 20000 * (i : Int), 0, false, 0, 0⟩ = true := by rw [ok_iff]; simp only; omega
    have ok2 : Ck.ok ⟨t, r, false, 0, 0⟩ = true := by rw [ok_iff]; simp only; omega
    by_cases hlt : i < n
    · have f1 : ilt (i : Int) (n : Int) = true := ilt_t (by omega)
      have w1 : IntKind.i64.wrap ((i : Int) + 1) = ((i + 1 : Nat) : Int) := wrap_succ (by omega)
      have s1 : stC ⟨a + 20000 * (i : Int), 0, false, 0, 0⟩ 0 = ⟨a + 20000 * ((i + 1 : Nat) : Int), 0, false, 0, 0⟩ := by rw [st0]; simp only [Ck.mk.injEq, and_true]; omega
      obtain ⟨y, hy⟩ : ∃ y, stC ⟨t, r, false, 0, 0⟩ drift = y := ⟨_, rfl⟩
      obtain ⟨x, hx⟩ : ∃ x, stC y (-d2) = x := ⟨_, rfl⟩
      have hnx : Hid (dN a drift (-d2) (i + 1) = x) := show _ = _ by simp only [dN, hinv.out, hy, hx]
      have hyb := stC_b (c := ⟨t, r, false, 0, 0⟩) (d := drift) ⟨b1, b2⟩
      rw [hy] at hyb
      simp only at hyb
      obtain ⟨y1, y2, y3, y4, y5⟩ := y
      obtain ⟨x1, x2, x3, x4, x5⟩ := x
      simp only at hyb
      obtain ⟨c1, c2, c3, c4, c5, c6, c7⟩ := hyb
      replace c7 := c7 trivial
      have ok3 : Ck.ok ⟨y1, y2, y3, y4, y5⟩ = true := by rw [ok_iff]; simp only; omega
      clear b1 b2 b3 b4 z1 z2 z3 c1 c2 c3 c4 c5 c6 c7 hinv
      repeat' first
        | (refine gw_bool (fun _ => ?_) (fun _ => ?_))
        | (refine condw_bool (fun _ => ?_) (fun _ => ?_))
        | simp [*, Ck.v]
      refine nxt_go (i + 1, ⟨x1, x2, x3, x4, x5⟩) (View.refl _ _) (by simp only; omega) (by simp [*, Keep, St.forget, scr, scrC]) (by simp [*, KeepH, St.forget, scr, scrC]) ?_
      refine ⟨by simp only; omega, ?_, ?_, ?_, hnx⟩
      all_goals simp [*]
    · have f1 : ilt (i : Int) (n : Int) = false := ilt_f (by omega)
      have e1 : i = n := by omega
      subst e1
      have u1 : IntKind.i64.wrap (2 * (i : Int)) = 2 * (i : Int) := wrap_id (by omega) (by omega)
      have u2 : IntKind.i64.wrap (2 * (i : Int) * 20000) = 2 * (i : Int) * 20000 := wrap_id (by omega) (by omega)
      have u3 : IntKind.i64.wrap (a + 2 * (i : Int) * 20000) = a + 2 * (i : Int) * 20000 := wrap_id (by omega) (by omega)
      have u4 : IntKind.i64.wrap ((i : Int) * 20000) = 20000 * (i : Int) := by rw [wrap_id (by omega) (by omega)]; omega
      have u5 : IntKind.i64.wrap (a + 20000 * (i : Int)) = a + 20000 * (i : Int) := wrap_id (by omega) (by omega)
      have hi1 : 100 < drift → stC ⟨a + 20000 * (i : Int), 0, false, 0, 0⟩ drift = stC ⟨a + 20000 * (i : Int), 0, false, 0, 0⟩ 100 := st_hi
      have lo1 : drift < -100 → stC ⟨a + 20000 * (i : Int), 0, false, 0, 0⟩ drift = stC ⟨a + 20000 * (i : Int), 0, false, 0, 0⟩ (-100) := st_lo
      clear b1 b2 b3 b4 z1 z2 z3 hi
      by_cases q1 : drift < -100
      · have l1 : ilt drift (-100) = true := ilt_t q1
        have l2 : ilt 100 drift = false := ilt_f (by omega)
        have e2 := lo1 q1
        clear hi1 lo1 q1
        repeat' first
          | (refine gw_bool (fun _ => ?_) (fun _ => ?_))
          | (refine condw_bool (fun _ => ?_) (fun _ => ?_))
          | simp [*, Ck.v]
      · have l1 : ilt drift (-100) = false := ilt_f (by omega)
        by_cases q2 : 100 < drift
        · have l2 : ilt 100 drift = true := ilt_t q2
          have e2 := hi1 q2
          clear hi1 lo1 q1 q2
          repeat' first
            | (refine gw_bool (fun _ => ?_) (fun _ => ?_))
            | (refine condw_bool (fun _ => ?_) (fun _ => ?_))
            | simp [*, Ck.v]
        · have l2 : ilt 100 drift = false := ilt_f (by omega)
          have e3 := hd3.out (by omega) (by omega)
          have e4 := hinv.out
          rw [e3, dN_opp (by omega) (by omega)] at e4
          simp only [Ck.mk.injEq, and_true] at e4
          obtain ⟨e5, e6⟩ := e4
          have e7 : a + 2 * (i : Int) * 20000 = t := by omega
          have u6 : IntKind.i64.wrap t = t := by rw [← e7]; exact u3
          subst e6
          clear hi1 lo1 q1 q2 e5 hinv
          repeat' first
            | (refine gw_bool (fun _ => ?_) (fun _ => ?_))
            | (refine condw_bool (fun _ => ?_) (fun _ => ?_))
            | simp [*, Ck.v]
end Go.Proofs.Ytjblgljalckihaa
