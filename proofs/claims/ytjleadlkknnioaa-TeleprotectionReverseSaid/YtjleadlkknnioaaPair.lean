/-
  Two relays that exchange their signals: what 'pair' answers.
-/
import Derived.Test.YtjleadlkknnioaaL4
namespace Go.Proofs.Ytjleadlkknnioaa
open Go.Pv Go.RowKit
set_option linter.unusedSimpArgs false
set_option linter.unusedVariables false
set_option maxRecDepth 100000
set_option maxHeartbeats 4000000

structure PS where
  t0 : Te
  t1 : Te
  s0 : Bool
  s1 : Bool
  f0 : Int
  f1 : Int
def ps0 : PS := ⟨⟨0, 0⟩, ⟨0, 0⟩, false, false, -1, -1⟩
def in0 : In := ⟨false, false, false, false⟩
def pairStep (s w g : Int) (a b : In) (i : Nat) (p : PS) : PS :=
  ⟨(stT s w g p.t0 ⟨a.z1, a.z2, a.rv, p.s1⟩).1, (stT s w g p.t1 ⟨b.z1, b.z2, b.rv, p.s0⟩).1, (stT s w g p.t0 ⟨a.z1, a.z2, a.rv, p.s1⟩).2.1, (stT s w g p.t1 ⟨b.z1, b.z2, b.rv, p.s0⟩).2.1,
    if (stT s w g p.t0 ⟨a.z1, a.z2, a.rv, p.s1⟩).2.2 && ilt p.f0 0 then (i : Int) else p.f0, if (stT s w g p.t1 ⟨b.z1, b.z2, b.rv, p.s0⟩).2.2 && ilt p.f1 0 then (i : Int) else p.f1⟩
def pairN (s w g : Int) (xs ys : List In) : Nat → PS
  | 0 => ps0
  | k + 1 => pairStep s w g (xs.getD k in0) (ys.getD k in0) k (pairN s w g xs ys k)
theorem pair_ok (s w g : Int) (xs ys : List In) (hl : xs.length ≤ ys.length) (hl2 : xs.length ≤ 1000) :
    PCall Try.prog 14 [.int .i64 s, .int .i64 w, .int .i64 g, .list 4 (xs.map In.cs), .list 4 (ys.map In.cs)] (.agg [.int .i64 (pairN s w g xs ys xs.length).f0, .int .i64 (pairN s w g xs ys xs.length).f1]) := by
  obtain ⟨n, hn⟩ : ∃ n, xs.length = n := ⟨_, rfl⟩
  obtain ⟨m, hm⟩ : ∃ m, ys.length = m := ⟨_, rfl⟩
  rw [hn, hm] at hl
  rw [hn] at hl2
  refine pcall_cx G4_ok mixed (fun id => if id = 14 then some ⟨[(15, 12), (16, 18)], []⟩ else none) Try.func14 rfl Try.ntmps14 Try.results14 (by simp) (by kernel_rfl) ?_
  repeat' first
    | (refine gw_bool (fun _ => ?_) (fun _ => ?_))
    | (refine condw_bool (fun _ => ?_) (fun _ => ?_))
    | simp [*]
  refine lp_go (D := (fun id => if id = 14 then some ⟨[(15, 12), (16, 18)], []⟩ else none)) G4_ok mixed (by kernel_rfl) [0, 1, 2, 3, 4, 10, 11, 12, 13, 21] [10, 15, 16, 18] (α := Nat) (fun i e h => i ≤ n ∧ e 22 = .int .i64 i ∧ ∃ p, pairN s w g xs ys i = p ∧ h 11 = some ⟨38, [.int .i64 p.f0, .int .i64 p.f1]⟩ ∧ h 12 = some ⟨46, [.int .i64 p.t0.g, .int .i64 p.t0.h, .int .i64 p.t1.g, .int .i64 p.t1.h]⟩ ∧ h 13 = some ⟨47, [.bool p.s0, .bool p.s1]⟩) (fun i => n - i) 0 ?_ ?_
  · exact ⟨by omega, rfl, _, rfl, rfl, rfl, rfl⟩
  · rintro i e h hk hkh ⟨hi, g22, ⟨⟨tg0, th0⟩, ⟨tg1, th1⟩, s0, s1, f0, f1⟩, hp, q11, q12, q13⟩
    simp [Keep] at hk
    simp [KeepH] at hkh
    simp only at q11 q12 q13
    by_cases hlt : i < n
    · obtain ⟨a, ha, ha'⟩ := at_ex (show i < xs.length by omega)
      obtain ⟨b, hb, hb'⟩ := at_ex (show i < ys.length by omega)
      have f1' : ilt (i : Int) (n : Int) = true := ilt_t (by omega)
      have f2' : i < m := by omega
      have w1 : IntKind.i64.wrap ((i : Int) + 1) = ((i + 1 : Nat) : Int) := wrap_succ (by omega)
      obtain ⟨r0, hr0⟩ : ∃ r, stT s w g ⟨tg0, th0⟩ ⟨a.z1, a.z2, a.rv, s1⟩ = r := ⟨_, rfl⟩
      obtain ⟨r1, hr1⟩ : ∃ r, stT s w g ⟨tg1, th1⟩ ⟨b.z1, b.z2, b.rv, s0⟩ = r := ⟨_, rfl⟩
      have hnext : Hid (pairN s w g xs ys (i + 1) = ⟨r0.1, r1.1, r0.2.1, r1.2.1, if r0.2.2 && ilt f0 0 then (i : Int) else f0, if r1.2.2 && ilt f1 0 then (i : Int) else f1⟩) := by
        show _ = _
        simp only [pairN, hp, List.getD_eq_getElem?_getD, ha, hb, Option.getD_some, pairStep, hr0, hr1]
      obtain ⟨⟨u0, v0⟩, se0, tr0⟩ := r0
      obtain ⟨⟨u1, v1⟩, se1, tr1⟩ := r1
      clear hp
      repeat' first
        | (refine gw_bool (fun _ => ?_) (fun _ => ?_))
        | (refine condw_bool (fun _ => ?_) (fun _ => ?_))
        | simp [*, In.cs]
      refine lp_unroll (D := (fun id => if id = 14 then some ⟨[(15, 12), (16, 18)], []⟩ else none)) G4_ok mixed (by kernel_rfl) ?_
      repeat' first
        | (refine gw_bool (fun _ => ?_) (fun _ => ?_))
        | (refine condw_bool (fun _ => ?_) (fun _ => ?_))
        | simp [*, stV]
      all_goals refine lp_view (View.forget _ _ 18) ?_
      all_goals refine lp_unroll (D := (fun id => if id = 14 then some ⟨[(15, 12), (16, 18)], []⟩ else none)) G4_ok mixed (by kernel_rfl) ?_
      all_goals simp only [St.forget]
      repeat' first
        | (refine gw_bool (fun _ => ?_) (fun _ => ?_))
        | (refine condw_bool (fun _ => ?_) (fun _ => ?_))
        | simp [*, stV, scr, scrC]
      all_goals refine lp_unroll (D := (fun id => if id = 14 then some ⟨[(15, 12), (16, 18)], []⟩ else none)) G4_ok mixed (by kernel_rfl) ?_
      repeat' first
        | (refine gw_bool (fun _ => ?_) (fun _ => ?_))
        | (refine condw_bool (fun _ => ?_) (fun _ => ?_))
        | simp [*, stV, scr, scrC]
      all_goals refine nxt_go (i + 1) ((View.forget _ _ 15).trans ((View.forget _ _ 16).trans ((View.forget _ _ 18)))) (by omega) (by simp [*, Keep, St.forget, scr, scrC]) (by simp [*, KeepH, St.forget, scr, scrC]) ?_
      all_goals refine ⟨by omega, ?_, _, hnext.out, ?_, ?_, ?_⟩
      all_goals simp [*, St.forget, scr, scrC]
    · have f1' : ilt (i : Int) (n : Int) = false := ilt_f (by omega)
      have e1 : i = n := by omega
      subst e1
      repeat' first
        | (refine gw_bool (fun _ => ?_) (fun _ => ?_))
        | (refine condw_bool (fun _ => ?_) (fun _ => ?_))
        | simp [*]
end Go.Proofs.Ytjleadlkknnioaa
