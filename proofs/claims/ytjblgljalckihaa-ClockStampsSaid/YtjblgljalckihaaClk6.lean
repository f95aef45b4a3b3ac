/-
  ClockStamps: the stamp, the plain law and the walk.
-/
import Derived.Test.YtjblgljalckihaaClk3
namespace Go.Proofs.Ytjblgljalckihaa
open Go.Pv Go.RowKit
set_option linter.unusedSimpArgs false
set_option linter.unusedVariables false
set_option maxRecDepth 100000
set_option maxHeartbeats 4000000

theorem and32 {a : Int} (h0 : 0 ≤ a) (h1 : a < 9223372036854775808) : (BitVec.ofInt 64 a &&& BitVec.ofInt 64 4294967295).toNat = (a % 4294967296).toNat := by
  obtain ⟨n, rfl⟩ := Int.eq_ofNat_of_zero_le h0
  have e1 : (BitVec.ofInt 64 (n : Int)).toNat = n := by
    rw [BitVec.toNat_ofInt]
    simp
    omega
  have e2 : (BitVec.ofInt 64 4294967295).toNat = 2 ^ 32 - 1 := by decide
  rw [BitVec.toNat_and, e1, e2, Nat.and_two_pow_sub_one_eq_mod]
  omega
def spC (c : Ck) : Int × Int := (c.t / 1000000 % 4294967296, c.t % 1000000 * 16777216 / 1000000)
theorem stamp_ok (t r : Int) (k : Bool) (e s : Int) (h : Ck.ok ⟨t, r, k, e, s⟩ = true) (ht : 0 ≤ t) : PCall Try.prog 15 [.agg [.int .i64 t, .int .i64 r, .bool k, .int .i64 e, .int .i64 s]] (.agg [.int .i64 (spC ⟨t, r, k, e, s⟩).1, .int .i64 (spC ⟨t, r, k, e, s⟩).2, .int .i64 (clC ⟨t, r, k, e, s⟩)]) := by
  have hb := ok_iff.1 h
  simp only at hb
  obtain ⟨q, hq⟩ : ∃ q, t / 1000000 = q := ⟨_, rfl⟩
  obtain ⟨m, hm⟩ : ∃ m, t % 1000000 = m := ⟨_, rfl⟩
  have a1 := and32 (a := q) (by omega) (by omega)
  have a1' : (BitVec.ofInt 64 q &&& 4294967295#64).toNat = (q % 4294967296).toNat := a1
  have a2 : IntKind.i64.wrap ((q % 4294967296).toNat : Int) = q % 4294967296 := by
    rw [Int.toNat_of_nonneg (by omega)]; exact wrap_id (by omega) (by omega)
  have a2' : IntKind.i64.wrap (max (q % 4294967296) 0) = q % 4294967296 := by
    rw [Int.max_eq_left (by omega)]; exact wrap_id (by omega) (by omega)
  have a3 : IntKind.i64.wrap (m * 16777216) = m * 16777216 := wrap_id (by omega) (by omega)
  have a4 : (m * 16777216).tdiv 1000000 = m * 16777216 / 1000000 := Int.tdiv_eq_ediv_of_nonneg (by omega)
  have a5 : IntKind.i64.wrap (m * 16777216 / 1000000) = m * 16777216 / 1000000 := wrap_id (by omega) (by omega)
  have c1 : -4611686018427387904 ≤ t := by omega
  have c2 : t ≤ 4611686018427387904 := by omega
  simp only [spC, hq, hm]
  clear hb ht
  refine pcall_cx G8_ok mixed (fun _ => none) Try.func15 rfl Try.ntmps15 Try.results15 (by simp) (by kernel_rfl) ?_
  repeat' first
    | (refine gw_bool (fun _ => ?_) (fun _ => ?_))
    | (refine condw_bool (fun _ => ?_) (fun _ => ?_))
    | simp [*, IntKind.bits]
  show IntKind.i64.wrap (((BitVec.ofInt 64 q &&& BitVec.ofInt 64 4294967295).toNat : Nat) : Int) = _
  rw [a1]; exact a2
def Tstamp : List V → Option V
  | [.agg [.int .i64 t, .int .i64 r, .bool k, .int .i64 e, .int .i64 s]] => bif Ck.ok ⟨t, r, k, e, s⟩ && decide (0 ≤ t) then some (.agg [.int .i64 (spC ⟨t, r, k, e, s⟩).1, .int .i64 (spC ⟨t, r, k, e, s⟩).2, .int .i64 (clC ⟨t, r, k, e, s⟩)]) else none
  | _ => none
theorem stamp_tab : ∀ vs v, Tstamp vs = some v → PCall Try.prog 15 vs v := by
  intro vs v h; unfold Tstamp at h; split at h
  · simp only [cond_eq_ite, Bool.and_eq_true, decide_eq_true_eq] at h
    split at h
    · rename_i hc; cases h; exact stamp_ok _ _ _ _ _ hc.1 hc.2
    · cases h
  · cases h
def G9 : Tab := add 15 Tstamp (G8)
theorem G9_at (f : FuncId) (vs : List V) : G9.at' f vs = if f = 15 then Tstamp vs else G8.at' f vs := rfl
theorem G9_fr (f : FuncId) : G9.fr f = if f = 15 then false else G8.fr f := rfl
attribute [simp] G9_at G9_fr Tstamp
theorem G9_ok : TabOK Try.prog G9 := by
  refine add_ok (G8_ok) (by kernel_rfl) ?_
  · exact stamp_tab
theorem stamps_ok (start drift m : Int) : PCall Try.prog 6 [.int .i64 start, .int .i64 drift, .int .i64 m] (.bool true) := by
  obtain ⟨a, ha⟩ : ∃ a, start % 1125899906842624 = a := ⟨_, rfl⟩
  have a0 : 0 ≤ a := by rw [← ha]; exact Int.emod_nonneg _ (by omega)
  have a1 : a < 1125899906842624 := by rw [← ha]; exact Int.emod_lt_of_pos _ (by omega)
  obtain ⟨n, hn⟩ := Int.eq_ofNat_of_zero_le (Int.emod_nonneg m (show (60 : Int) ≠ 0 by omega))
  have hn2 : n < 60 := by have := Int.emod_lt_of_pos m (show (0 : Int) < 60 by omega); omega
  have hz : Hid (0 ≤ a ∧ a < 1125899906842624 ∧ n < 60) := show _ ∧ _ from ⟨a0, a1, hn2⟩
  clear a0 a1 hn2
  refine pcall_cx G9_ok mixed (fun id => if id = 8 then some ⟨[(6, 10), (7, 11)], [2]⟩ else none) Try.func6 rfl Try.ntmps6 Try.results6 (by simp) (by kernel_rfl) ?_
  repeat' first
    | (refine gw_bool (fun _ => ?_) (fun _ => ?_))
    | (refine condw_bool (fun _ => ?_) (fun _ => ?_))
    | simp [*, Ck.v]
  refine lp_go (D := (fun id => if id = 8 then some ⟨[(6, 10), (7, 11)], [2]⟩ else none)) G9_ok mixed (by kernel_rfl) [1, 2, 7] [9, 10, 11] (α := Nat × Int × Int) (fun x e h => x.1 ≤ n ∧ e 8 = .int .i64 x.1 ∧ h 7 = some ⟨25, [.int .i64 x.2.1, .int .i64 x.2.2, .bool false, .int .i64 0, .int .i64 0]⟩ ∧ Hid (0 ≤ x.2.2 ∧ x.2.2 < 1000000 ∧ a ≤ x.2.1 ∧ x.2.1 ≤ a + 20003 * x.1)) (fun x => n - x.1) (0, a, 0) ?_ ?_
  · exact ⟨by simp, rfl, rfl, show _ ∧ _ by simp⟩
  · rintro ⟨i, t, r⟩ e h hk hkh ⟨hi, g8, q7, hinv⟩
    simp [Keep] at hk
    simp [KeepH] at hkh
    simp only at hi g8 q7 hinv
    obtain ⟨z1, z2, z3⟩ := hz.out
    obtain ⟨v1, v2, v3, v4⟩ := hinv.out
    by_cases hlt : i < n
    · have f1 : ilt (i : Int) (n : Int) = true := ilt_t (by omega)
      have w1 : IntKind.i64.wrap ((i : Int) + 1) = ((i + 1 : Nat) : Int) := wrap_succ (by omega)
      have ok1 : Ck.ok ⟨t, r, false, 0, 0⟩ = true := by rw [ok_iff]; simp only; omega
      obtain ⟨y, hy⟩ : ∃ y, stC ⟨t, r, false, 0, 0⟩ drift = y := ⟨_, rfl⟩
      have hyb := stC_b (c := ⟨t, r, false, 0, 0⟩) (d := drift) ⟨v1, v2⟩
      rw [hy] at hyb
      obtain ⟨y1, y2, y3, y4, y5⟩ := y
      simp only at hyb
      obtain ⟨c1, c2, c3, c4, c5, c6, c7⟩ := hyb
      rw [c5, c6, c7 trivial] at hy
      clear c5 c6 c7
      have ok2 : Ck.ok ⟨y1, y2, false, 0, 0⟩ = true := by rw [ok_iff]; simp only; omega
      have t0 : 0 ≤ t := by omega
      have t1 : 0 ≤ y1 := by omega
      have cl : ∀ x1 x2 : Int, clC ⟨x1, x2, false, 0, 0⟩ = 2 := fun _ _ => by simp [clC, bdC]
      obtain ⟨s1, hs1⟩ : ∃ s1, spC ⟨t, r, false, 0, 0⟩ = s1 := ⟨_, rfl⟩
      obtain ⟨s2, hs2⟩ : ∃ s2, spC ⟨y1, y2, false, 0, 0⟩ = s2 := ⟨_, rfl⟩
      obtain ⟨p1, p2⟩ := s1
      obtain ⟨p3, p4⟩ := s2
      have hs1' := hs1
      have hs2' := hs2
      simp only [spC, Prod.mk.injEq] at hs1' hs2'
      obtain ⟨k1, k2⟩ := hs1'
      obtain ⟨k3, k4⟩ := hs2'
      have d1 : t.tdiv 1000000 = t / 1000000 := Int.tdiv_eq_ediv_of_nonneg t0
      have d2 : IntKind.i64.wrap (t / 1000000) = t / 1000000 := wrap_id (by omega) (by omega)
      have d3 : (t / 1000000).tmod 4294967296 = p1 := by rw [Int.tmod_eq_emod_of_nonneg (by omega)]; exact k1
      have g1 : ilt p3 p1 = true → ieq p3 0 = true := by
        intro hh
        have := ilt_iff.1 hh
        exact ieq_t (by omega)
      have g2 : ieq p3 p1 = true → ilt p4 p2 = false := by
        intro hh
        have h5 := ieq_iff.1 hh
        refine ilt_f ?_
        obtain ⟨x, hx⟩ : ∃ x, t / 1000000 = x := ⟨_, rfl⟩
        obtain ⟨x', hx'⟩ : ∃ x', y1 / 1000000 = x' := ⟨_, rfl⟩
        rw [hx] at k1
        rw [hx'] at k3
        have h6 : x' = x ∨ x' = x + 1 := by omega
        rcases h6 with h6 | h6
        · have h7 : t % 1000000 ≤ y1 % 1000000 := by omega
          rw [← k2, ← k4]
          omega
        · exfalso
          subst h6
          omega
      have g3 : ilt p2 0 = false := ilt_f (by omega)
      have g4 : ilt p2 16777216 = true := ilt_t (by omega)
      have hz2 : Hid (0 ≤ y2 ∧ y2 < 1000000 ∧ a ≤ y1 ∧ y1 ≤ a + 20003 * ((i + 1 : Nat) : Int)) := show _ ∧ _ from ⟨c1, c2, by omega, by omega⟩
      clear z1 z2 z3 v1 v2 v3 v4 c1 c2 c3 c4 k1 k2 k3 k4 hinv
      cases l1 : ilt p3 p1
      · clear g1
        cases l2 : ieq p3 p1
        · clear g2
          repeat' first
            | (refine gw_bool (fun _ => ?_) (fun _ => ?_))
            | (refine condw_bool (fun _ => ?_) (fun _ => ?_))
            | simp [*, Ck.v]
          refine nxt_go (i + 1, y1, y2) ((View.forget _ _ 9).trans ((View.forget _ _ 10).trans ((View.forget _ _ 11)))) (by simp only; omega) (by simp [*, Keep, St.forget, scr, scrC]) (by simp [*, KeepH, St.forget, scr, scrC]) ?_
          refine ⟨by simp only; omega, ?_, ?_, hz2⟩
          all_goals simp [*, St.forget, scr, scrC]
        · have l3 := g2 l2
          clear g2
          repeat' first
            | (refine gw_bool (fun _ => ?_) (fun _ => ?_))
            | (refine condw_bool (fun _ => ?_) (fun _ => ?_))
            | simp [*, Ck.v]
          refine nxt_go (i + 1, y1, y2) ((View.forget _ _ 9).trans ((View.forget _ _ 10).trans ((View.forget _ _ 11)))) (by simp only; omega) (by simp [*, Keep, St.forget, scr, scrC]) (by simp [*, KeepH, St.forget, scr, scrC]) ?_
          refine ⟨by simp only; omega, ?_, ?_, hz2⟩
          all_goals simp [*, St.forget, scr, scrC]
      · have l3 := g1 l1
        clear g1
        have l4 : ieq p3 p1 = false := by
          refine ieq_f ?_
          have := ilt_iff.1 l1
          omega
        clear g2
        repeat' first
          | (refine gw_bool (fun _ => ?_) (fun _ => ?_))
          | (refine condw_bool (fun _ => ?_) (fun _ => ?_))
          | simp [*, Ck.v]
        refine nxt_go (i + 1, y1, y2) ((View.forget _ _ 9).trans ((View.forget _ _ 10).trans ((View.forget _ _ 11)))) (by simp only; omega) (by simp [*, Keep, St.forget, scr, scrC]) (by simp [*, KeepH, St.forget, scr, scrC]) ?_
        refine ⟨by simp only; omega, ?_, ?_, hz2⟩
        all_goals simp [*, St.forget, scr, scrC]
    · have f1 : ilt (i : Int) (n : Int) = false := ilt_f (by omega)
      clear z1 z2 z3 v1 v2 v3 v4 hinv
      repeat' first
        | (refine gw_bool (fun _ => ?_) (fun _ => ?_))
        | (refine condw_bool (fun _ => ?_) (fun _ => ?_))
        | simp [*]
end Go.Proofs.Ytjblgljalckihaa
