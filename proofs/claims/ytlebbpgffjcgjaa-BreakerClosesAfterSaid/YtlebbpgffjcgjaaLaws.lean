/-
  BreakerOpensInTime, BreakerStuck, BreakerClosesAfter: the plain laws and the walks.
-/
import Derived.Test.YtlebbpgffjcgjaaCore
namespace Go.Proofs.Ytlebbpgffjcgjaa
open Go.Pv Go.RowKit
set_option linter.unusedSimpArgs false
set_option linter.unusedVariables false
set_option maxRecDepth 100000
set_option maxHeartbeats 4000000

theorem opening {t l : Int} (ht : 1 ≤ t) (ht6 : t ≤ 6) (h1 : 1 ≤ l) (h2 : l ≤ t) (o c : Bool) : stepB ⟨true, false, l, true⟩ t false o (if l = 1 then false else c) = if l = 1 then br0 else ⟨true, false, l - 1, true⟩ := by
  rw [stepB_eq ht ht6 (by simp only; omega) h2 (by simp) (by simp) (by simp)]
  by_cases h : l = 1
  · subst h; simp [br0]
  · simp [h, show ¬ l = 0 by omega, show ¬ (l - 1 = 0) by omega]
theorem at_opt {l : List Bool} {n i : Nat} (hn : l.length = n) : (i < n ∧ ∃ c, l[i]? = some c ∧ (∀ h : i < l.length, l[i] = c)) ∨ (¬ i < n) := by
  by_cases h : i < n
  · exact .inl ⟨h, _, List.getElem?_eq_getElem (by omega), fun _ => rfl⟩
  · exact .inr h
theorem opens_ok (T : Int) (os cs : List Bool) (ho : os.length ≤ maxLen) : PCall Try.prog 9 [.int .i64 T, .list 1 (os.map bl), .list 1 (cs.map bl)] (.bool true) := by
  obtain ⟨n, hn⟩ : ∃ n, os.length = n := ⟨_, rfl⟩
  obtain ⟨m, hm⟩ : ∃ m, cs.length = m := ⟨_, rfl⟩
  by_cases hg : 1 ≤ T ∧ T ≤ 6 ∧ n = m ∧ n ≤ 60
  · obtain ⟨a1, a2, a3, a4⟩ := hg
    subst a3
    obtain ⟨t, rfl⟩ := Int.eq_ofNat_of_zero_le (show 0 ≤ T by omega)
    have b1 : ilt (t : Int) 1 = false := ilt_f a1
    have b2 : ilt 6 (t : Int) = false := ilt_f a2
    have b3 : ilt 60 (n : Int) = false := ilt_f (by omega)
    have s0 : stepB ⟨true, false, 0, false⟩ t false true false = ⟨true, false, t, true⟩ := by
      rw [stepB_eq a1 a2 (by simp) (by simp only; omega) (by simp) (by simp) (by simp)]; simp
    have w0 : IntKind.i64.wrap ((t : Int) - 1) = (t : Int) - 1 := wrap_id (by omega) (by omega)
    have hz : Hid (1 ≤ (t : Int) ∧ (t : Int) ≤ 6) := show _ ∧ _ from ⟨a1, a2⟩
    clear a1 a2
    refine pcall_cx B5_ok mixed (fun _ => none) Try.func9 rfl Try.ntmps9 Try.results9 (by simp) (by kernel_rfl) ?_
    repeat' first
      | (refine gw_bool (fun _ => ?_) (fun _ => ?_))
      | (refine condw_bool (fun _ => ?_) (fun _ => ?_))
      | simp [*, Br.v]
    refine lp_go (D := (fun _ => none)) B5_ok mixed (by kernel_rfl) [0, 1, 2, 7] [] (α := Nat) (fun i e h => i ≤ t ∧ e 8 = .int .i64 i ∧ h 7 = some ⟨36, if i = t then [.bool false, .bool false, .int .i64 0, .bool false] else [.bool true, .bool false, .int .i64 ((t - i : Nat) : Int), .bool true]⟩) (fun i => t - i) 0 ?_ ?_
    · have := hz.out
      refine ⟨by omega, rfl, ?_⟩
      rw [if_neg (by omega)]; rfl
    · rintro i e h hk hkh ⟨hi, g8, q7⟩
      have ht := hz.out
      simp [Keep] at hk
      simp [KeepH] at hkh
      by_cases hlt : i < t
      · rw [if_neg (by omega)] at q7
        have f1 : ilt (i : Int) (t : Int) = true := ilt_t (by omega)
        have w1 : IntKind.i64.wrap ((i : Int) + 1) = ((i + 1 : Nat) : Int) := wrap_succ (by omega)
        have w2 : IntKind.i64.wrap ((t : Int) - (i : Int)) = ((t - i : Nat) : Int) := by rw [wrap_id (by omega) (by omega)]; omega
        obtain ⟨l, hl⟩ : ∃ l : Int, ((t - i : Nat) : Int) = l := ⟨_, rfl⟩
        rw [hl] at q7 w2
        have hop := opening (t := t) (l := l) (by omega) (by omega) (by omega) (by omega)
        have hlast : Hid (i + 1 = t ↔ l = 1) := show _ ↔ _ by omega
        have hnext : Hid (¬ i + 1 = t → ((t - (i + 1) : Nat) : Int) = l - 1) := show _ → _ by omega
        clear hl ht
        by_cases h1 : l = 1
        · subst h1
          have f2 : ieq (i : Int) ((t : Int) - 1) = true := by have := hlast.out; exact ieq_t (by omega)
          have hz1 : Hid (i + 1 = t) := hlast.out.2 rfl
          have hop' : ∀ o : Bool, stepB ⟨true, false, 1, true⟩ t false o false = br0 := fun o => by simpa using hop o true
          clear hop hlast hnext
          rcases at_opt (i := i) hn with ⟨c1, x, hx, hx'⟩ | c1
          · rcases at_opt (i := i) hm with ⟨c2, y, hy, hy'⟩ | c2
            · have d1 : ilt (i : Int) (n : Int) = true := ilt_t (by omega)
              have hx2 := hx' (by omega)
              have hy2 := hy' (by omega)
              repeat' first
                | (refine gw_bool (fun _ => ?_) (fun _ => ?_))
                | (refine condw_bool (fun _ => ?_) (fun _ => ?_))
                | simp [*, bl, Br.v, br0]
              refine nxt_go (i + 1) (View.refl _ _) (by omega) (by simp [*, Keep, St.forget, scr, scrC]) (by simp [*, KeepH, St.forget, scr, scrC]) ?_
              refine ⟨by omega, ?_, ?_⟩
              · simp [*]
              · rw [if_pos hz1.out]; simp [*]
            · exact absurd c1 c2
          · have d1 : ilt (i : Int) (n : Int) = false := ilt_f (by omega)
            repeat' first
              | (refine gw_bool (fun _ => ?_) (fun _ => ?_))
              | (refine condw_bool (fun _ => ?_) (fun _ => ?_))
              | simp [*, bl, Br.v, br0]
            refine nxt_go (i + 1) (View.refl _ _) (by omega) (by simp [*, Keep, St.forget, scr, scrC]) (by simp [*, KeepH, St.forget, scr, scrC]) ?_
            refine ⟨by omega, ?_, ?_⟩
            · simp [*]
            · rw [if_pos hz1.out]; simp [*]
        · have f2 : ieq (i : Int) ((t : Int) - 1) = false := by have := hlast.out; exact ieq_f (by omega)
          have hz1 : Hid (¬ i + 1 = t) := fun h => h1 (hlast.out.1 h)
          have hz2 : Hid (((t - (i + 1) : Nat) : Int) = l - 1) := hnext.out hz1.out
          simp only [h1, if_false] at hop
          clear hlast hnext
          rcases at_opt (i := i) hn with ⟨c1, x, hx, hx'⟩ | c1
          · rcases at_opt (i := i) hm with ⟨c2, y, hy, hy'⟩ | c2
            · have d1 : ilt (i : Int) (n : Int) = true := ilt_t (by omega)
              have hx2 := hx' (by omega)
              have hy2 := hy' (by omega)
              repeat' first
                | (refine gw_bool (fun _ => ?_) (fun _ => ?_))
                | (refine condw_bool (fun _ => ?_) (fun _ => ?_))
                | simp [*, bl, Br.v, br0]
              refine nxt_go (i + 1) (View.refl _ _) (by omega) (by simp [*, Keep, St.forget, scr, scrC]) (by simp [*, KeepH, St.forget, scr, scrC]) ?_
              refine ⟨by omega, ?_, ?_⟩
              · simp [*]
              · rw [if_neg hz1.out, hz2.out]; simp [*]
            · exact absurd c1 c2
          · have d1 : ilt (i : Int) (n : Int) = false := ilt_f (by omega)
            repeat' first
              | (refine gw_bool (fun _ => ?_) (fun _ => ?_))
              | (refine condw_bool (fun _ => ?_) (fun _ => ?_))
              | simp [*, bl, Br.v, br0]
            refine nxt_go (i + 1) (View.refl _ _) (by omega) (by simp [*, Keep, St.forget, scr, scrC]) (by simp [*, KeepH, St.forget, scr, scrC]) ?_
            refine ⟨by omega, ?_, ?_⟩
            · simp [*]
            · rw [if_neg hz1.out, hz2.out]; simp [*]
      · have f1 : ilt (i : Int) (t : Int) = false := ilt_f (by omega)
        have e1 : i = t := by omega
        rw [if_pos e1] at q7
        clear ht
        repeat' first
          | (refine gw_bool (fun _ => ?_) (fun _ => ?_))
          | (refine condw_bool (fun _ => ?_) (fun _ => ?_))
          | simp [*]
  · have hz : Hid (¬ (1 ≤ T ∧ T ≤ 6 ∧ n = m ∧ n ≤ 60)) := hg
    clear hg
    refine pcall_cx B5_ok mixed (fun _ => none) Try.func9 rfl Try.ntmps9 Try.results9 (by simp) (by kernel_rfl) ?_
    repeat' first
      | (refine gw_bool (fun _ => ?_) (fun _ => ?_))
      | (refine condw_bool (fun _ => ?_) (fun _ => ?_))
      | simp [*]
    all_goals (exfalso; have hz := hz.out; simp only [ilt_iff', ilt_iff, ieq_iff, ieq_iff'] at *; omega)
theorem stepRest {T : Int} (h1 : 1 ≤ T) (h2 : T ≤ 6) (x o c : Bool) : stepB ⟨true, false, 0, x⟩ T true o c = ⟨true, false, 0, x || o⟩ := by
  have hu : usableB T = true := by simp [usableB, ilt]; omega
  have hv : validB ⟨true, false, 0, x⟩ T = true := by simp [validB, hu, ilt, ieq]; omega
  cases x <;> cases o <;> cases c <;> simp [stepB, hv, moveB, commandB, ieq]
def comK (os : List Bool) : Nat → Bool
  | 0 => false
  | k + 1 => comK os k || os.getD k false
theorem stt_stuck {T : Int} (h1 : 1 ≤ T) (h2 : T ≤ 6) (os cs : List Bool) : ∀ k, stt true T true os cs k = ⟨true, false, 0, comK os k⟩
  | 0 => rfl
  | k + 1 => by rw [stt, stt_stuck h1 h2 os cs k, stepRest h1 h2]; rfl
theorem stuck_ok (T : Int) (os cs : List Bool) (ho : os.length ≤ maxLen) : PCall Try.prog 10 [.int .i64 T, .list 1 (os.map bl), .list 1 (cs.map bl)] (.bool true) := by
  obtain ⟨n, hn⟩ : ∃ n, os.length = n := ⟨_, rfl⟩
  obtain ⟨m, hm⟩ : ∃ m, cs.length = m := ⟨_, rfl⟩
  by_cases hg : 1 ≤ T ∧ T ≤ 6 ∧ n = m ∧ n ≤ 80
  · obtain ⟨a1, a2, a3, a4⟩ := hg
    subst a3
    have b1 : ilt T 1 = false := ilt_f a1
    have b2 : ilt 6 T = false := ilt_f a2
    have b3 : ilt 80 (n : Int) = false := ilt_f (by omega)
    have b4 : n ≤ 1000 := by omega
    have hu : usableB T = true := by simp [usableB, ilt]; omega
    obtain ⟨L, hL⟩ : ∃ L, runA true T true os cs = L := ⟨_, rfl⟩
    have hLn : L.length = n := by rw [← hL]; simp [runA, hu, hn, hm]
    have hLi : Hid (∀ i, i < n → L[i]? = some ⟨true, false, 0, comK os (i + 1)⟩) := show ∀ i, _ by
      intro i hi
      rw [← hL]
      simp only [runA, hu, hn, hm, beq_self_eq_true, Bool.and_self, if_true, List.getElem?_map, List.getElem?_range hi, Option.map_some, stt_stuck a1 a2]
    clear hu
    refine pcall_cx B5_ok mixed (fun _ => none) Try.func10 rfl Try.ntmps10 Try.results10 (by simp) (by kernel_rfl) ?_
    repeat' first
      | (refine gw_bool (fun _ => ?_) (fun _ => ?_))
      | (refine condw_bool (fun _ => ?_) (fun _ => ?_))
      | simp [*, dec_b]
    refine lp_go (D := (fun _ => none)) B5_ok mixed (by kernel_rfl) [1, 39, 40] [10] (α := Nat) (fun i e h => i ≤ n ∧ e 41 = .int .i64 i ∧ e 7 = .bool (comK os i)) (fun i => n - i) 0 ?_ ?_
    · exact ⟨by omega, rfl, rfl⟩
    · rintro i e h hk hkh ⟨hi, g41, g7⟩
      simp [Keep] at hk
      simp [KeepH] at hkh
      by_cases hlt : i < n
      · have w1 : IntKind.i64.wrap ((i : Int) + 1) = ((i + 1 : Nat) : Int) := wrap_succ (by omega)
        have f1 : ilt (i : Int) (n : Int) = true := ilt_t (by omega)
        obtain ⟨o, ho1, ho2⟩ := at_ex (show i < os.length by omega)
        have f2 : comK os (i + 1) = (comK os i || o) := by simp [comK, ho1]
        have f3 := hLi.out i hlt
        have f4 : L[i]'(by omega) = ⟨true, false, 0, comK os (i + 1)⟩ := by
          have := List.getElem?_eq_some_iff.1 f3; exact this.2
        rw [f2] at f3 f4
        cases hx : comK os i
        · rw [hx] at g7 f2 f3 f4
          simp only [Bool.false_or] at f2 f3 f4
          repeat' first
            | (refine gw_bool (fun _ => ?_) (fun _ => ?_))
            | (refine condw_bool (fun _ => ?_) (fun _ => ?_))
            | simp [*, bl, Br.cs]
          refine nxt_go (i + 1) ((View.forget _ _ 10)) (by omega) (by simp [*, Keep, St.forget, scr, scrC]) (by simp [*, KeepH, St.forget, scr, scrC]) ?_
          refine ⟨by omega, ?_, ?_⟩ <;> simp [*, St.forget, scr, scrC]
        · rw [hx] at g7 f2 f3 f4
          simp only [Bool.true_or] at f2 f3 f4
          repeat' first
            | (refine gw_bool (fun _ => ?_) (fun _ => ?_))
            | (refine condw_bool (fun _ => ?_) (fun _ => ?_))
            | simp [*, bl, Br.cs]
          refine nxt_go (i + 1) ((View.forget _ _ 10)) (by omega) (by simp [*, Keep, St.forget, scr, scrC]) (by simp [*, KeepH, St.forget, scr, scrC]) ?_
          refine ⟨by omega, ?_, ?_⟩ <;> simp [*, St.forget, scr, scrC]
      · have f1 : ilt (i : Int) (n : Int) = false := ilt_f (by omega)
        repeat' first
          | (refine gw_bool (fun _ => ?_) (fun _ => ?_))
          | (refine condw_bool (fun _ => ?_) (fun _ => ?_))
          | simp [*]
  · have hz : Hid (¬ (1 ≤ T ∧ T ≤ 6 ∧ n = m ∧ n ≤ 80)) := hg
    clear hg
    refine pcall_cx B5_ok mixed (fun _ => none) Try.func10 rfl Try.ntmps10 Try.results10 (by simp) (by kernel_rfl) ?_
    repeat' first
      | (refine gw_bool (fun _ => ?_) (fun _ => ?_))
      | (refine condw_bool (fun _ => ?_) (fun _ => ?_))
      | simp [*]
    all_goals (exfalso; have hz := hz.out; simp only [ilt_iff', ilt_iff, ieq_iff, ieq_iff'] at *; omega)
end Go.Proofs.Ytlebbpgffjcgjaa
