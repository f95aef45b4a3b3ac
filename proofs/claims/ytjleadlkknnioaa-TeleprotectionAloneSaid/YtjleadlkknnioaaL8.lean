/-
  TeleprotectionAlone: the walk.
-/
import Derived.Test.YtjleadlkknnioaaL4
namespace Go.Proofs.Ytjleadlkknnioaa
open Go.Pv Go.RowKit
set_option linter.unusedSimpArgs false
set_option linter.unusedVariables false
set_option maxRecDepth 100000

theorem alone_step {s w g : Int} {t : Te} {a b c : Bool} {i : Nat} (h : vaT s w g t = true) (hh : t.h ≤ i) :
    (stT s w g t ⟨a, b, c, false⟩).1.h ≤ ((i + 1 : Nat) : Int) ∧ ((stT s w g t ⟨a, b, c, false⟩).2.2 = true → ieq s 3 = true ∧ ilt i w = false) := by
  have hb := va_bounds h
  simp only [stT, h, if_true]
  grind [ilt, ieq]
theorem alone_ok (s w g : Int) (l : List In) (hl : l.length ≤ maxLen) : PCall Try.prog 8 [.agg [.int .i64 s, .int .i64 w, .int .i64 g], .list 4 (l.map In.cs)] (.bool true) := by
  obtain ⟨n, hn⟩ : ∃ n, l.length = n := ⟨_, rfl⟩
  cases hbig : ilt 80 (n : Int)
  · have hle : n ≤ 80 := by have := ilt_iff'.1 hbig; omega
    cases hv : vaT s w g ⟨0, 0⟩
    · refine pcall_cx G4_ok mixed (fun _ => []) Try.func8 rfl Try.ntmps8 Try.results8 (by simp) (by kernel_rfl) ?_
      repeat' first
        | (refine gw_bool (fun _ => ?_) (fun _ => ?_))
        | (refine condw_bool (fun _ => ?_) (fun _ => ?_))
        | simp [*]
    · refine pcall_cx G4_ok mixed (fun _ => []) Try.func8 rfl Try.ntmps8 Try.results8 (by simp) (by kernel_rfl) ?_
      repeat' first
        | (refine gw_bool (fun _ => ?_) (fun _ => ?_))
        | (refine condw_bool (fun _ => ?_) (fun _ => ?_))
        | simp [*]
      refine lp_go (D := (fun _ => [])) G4_ok mixed (by kernel_rfl) [5, 6, 7, 8, 31, 32] [2, 10, 11] (α := Nat × Te) (fun x e h => x.1 ≤ n ∧ e 33 = .int .i64 x.1 ∧ h 8 = some ⟨23, [.int .i64 x.2.g, .int .i64 x.2.h]⟩ ∧ vaT s w g x.2 = true ∧ x.2.h ≤ x.1) (fun x => n - x.1) (0, ⟨0, 0⟩) ?_ ?_
      · simp [hv]
      · rintro ⟨i, t⟩ e h hk hkh ⟨hi, g33, q8, hva, hth⟩
        simp [Keep] at hk
        simp [KeepH] at hkh
        simp only at hi g33 q8 hva hth
        by_cases hlt : i < n
        · obtain ⟨x, hx, hx'⟩ := at_ex (show i < l.length by omega)
          have f1 : ilt (i : Int) (n : Int) = true := ilt_t (by omega)
          have w1 : IntKind.i64.wrap ((i : Int) + 1) = ((i + 1 : Nat) : Int) := wrap_succ (by omega)
          obtain ⟨r, hr⟩ : ∃ r, stT s w g t ⟨x.z1, x.z2, x.rv, false⟩ = r := ⟨_, rfl⟩
          have hq := alone_step (a := x.z1) (b := x.z2) (c := x.rv) hva hth
          have hq2 := va_step (x := ⟨x.z1, x.z2, x.rv, false⟩) hva
          rw [hr] at hq hq2
          obtain ⟨t', se, tr⟩ := r
          simp only at hq hq2
          obtain ⟨hq, hq3⟩ := hq
          have hz : Hid (t'.h ≤ ((i + 1 : Nat) : Int)) := hq
          clear hq
          cases tr
          · clear hq3
            repeat' first
              | (refine gw_bool (fun _ => ?_) (fun _ => ?_))
              | (refine condw_bool (fun _ => ?_) (fun _ => ?_))
              | simp [*, stV, In.cs]
            refine nxt_go (i + 1, t') ((View.forget _ _ 10).trans ((View.forget _ _ 11))) (by simp only; omega) (by simp [*, Keep, St.forget, scr, scrC]) (by simp [*, KeepH, St.forget, scr, scrC]) ?_
            refine ⟨by simp only; omega, ?_, ?_, hq2, hz.out⟩ <;> simp [*, St.forget, scr, scrC]
          · obtain ⟨h3, h4⟩ := hq3 rfl
            clear hq3
            repeat' first
              | (refine gw_bool (fun _ => ?_) (fun _ => ?_))
              | (refine condw_bool (fun _ => ?_) (fun _ => ?_))
              | simp [*, stV, In.cs]
            refine nxt_go (i + 1, t') ((View.forget _ _ 10).trans ((View.forget _ _ 11))) (by simp only; omega) (by simp [*, Keep, St.forget, scr, scrC]) (by simp [*, KeepH, St.forget, scr, scrC]) ?_
            refine ⟨by simp only; omega, ?_, ?_, hq2, hz.out⟩ <;> simp [*, St.forget, scr, scrC]
        · have f1 : ilt (i : Int) (n : Int) = false := ilt_f (by omega)
          repeat' first
            | (refine gw_bool (fun _ => ?_) (fun _ => ?_))
            | (refine condw_bool (fun _ => ?_) (fun _ => ?_))
            | simp [*]
  · refine pcall_cx G4_ok mixed (fun _ => []) Try.func8 rfl Try.ntmps8 Try.results8 (by simp) (by kernel_rfl) ?_
    repeat' first
      | (refine gw_bool (fun _ => ?_) (fun _ => ?_))
      | (refine condw_bool (fun _ => ?_) (fun _ => ?_))
      | simp [*]
end Go.Proofs.Ytjleadlkknnioaa
