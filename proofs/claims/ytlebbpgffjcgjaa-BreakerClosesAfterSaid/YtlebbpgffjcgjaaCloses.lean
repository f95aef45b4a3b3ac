/-
  BreakerClosesAfter: the plain law and the walk.
-/
import Derived.Test.YtlebbpgffjcgjaaLaws
namespace Go.Proofs.Ytlebbpgffjcgjaa
open Go.Pv Go.RowKit
set_option linter.unusedSimpArgs false
set_option linter.unusedVariables false
set_option maxRecDepth 100000
set_option maxHeartbeats 4000000

theorem stepS_eq {b : Br} {t : Int} {s o c : Bool} (ht : 1 ≤ t) (ht6 : t ≤ 6) (h0 : 0 ≤ b.left) (h1 : b.left ≤ t) (h2 : b.left = 0 → b.closing = false) (h3 : 0 < b.left → b.closed ≠ b.closing) (h4 : b.com = true → b.closed = true) :
    stepB b t s o c = (let m : Br := if b.left = 0 then b else if b.left = 1 then ⟨b.closing, false, 0, b.com && b.closing⟩ else { b with left := b.left - 1 }
      if 0 < m.left ∧ m.closing = true ∧ o = true then ⟨m.closed, false, 0, m.com⟩ else if m.left = 0 ∧ m.closed = true ∧ o = true then ⟨m.closed, m.closing, if s then m.left else t, true⟩ else if m.left = 0 ∧ m.closed = false ∧ c = true ∧ o = false then ⟨m.closed, true, t, m.com⟩ else m) := by
  have hv : validB b t = true := by
    obtain ⟨c1, c2, c3, c4⟩ := b
    cases c1 <;> cases c2 <;> cases c4 <;> simp_all [validB, usableB, ilt, ieq] <;> omega
  have w1 : IntKind.i64.wrap (b.left - 1) = b.left - 1 := wrap_id (by omega) (by omega)
  have e1 : moveB b = if b.left = 0 then b else if b.left = 1 then ⟨b.closing, false, 0, b.com && b.closing⟩ else { b with left := b.left - 1 } := by
    simp only [moveB, w1, ieq]
    by_cases a1 : b.left = 0
    · simp [a1]
    · by_cases a2 : b.left = 1
      · simp [a2]
      · simp [a1, a2, show b.left - 1 ≠ 0 by omega]
  simp only [stepB, hv, if_true, e1, commandB, ieq, ilt]
  generalize (if b.left = 0 then b else if b.left = 1 then (⟨b.closing, false, 0, b.com && b.closing⟩ : Br) else { b with left := b.left - 1 }) = m
  obtain ⟨m1, m2, m3, m4⟩ := m
  cases m1 <;> cases m2 <;> cases o <;> cases c <;> simp
/-- What is so of the state behind i steps. -/
structure Good (t : Nat) (os cs : List Bool) (i : Nat) (b : Br) : Prop where
  l0 : 0 ≤ b.left
  lt : b.left ≤ t
  z : b.left = 0 → b.closing = false
  p : 0 < b.left → b.closed ≠ b.closing
  c : b.com = true → b.closed = true
  m : b.closing = true → ∃ j : Nat, (j : Int) + t - b.left + 1 = i ∧ cs.getD j false = true ∧ ∀ k, j ≤ k → k < i → os.getD k false = false
theorem goodR {t : Nat} {os cs : List Bool} {i : Nat} {b1 : Bool} {b3 : Int} {b4 : Bool} (h0 : 0 ≤ b3) (h1 : b3 ≤ t) (h2 : 0 < b3 → b1 = true) (h3 : b4 = true → b1 = true) : Good t os cs i ⟨b1, false, b3, b4⟩ :=
  ⟨h0, h1, fun _ => rfl, fun h => by rw [h2 h]; simp, h3, by simp⟩
theorem goodC {t : Nat} {os cs : List Bool} {i : Nat} {b3 : Int} (h0 : 1 ≤ b3) (h1 : b3 ≤ t) (j : Nat) (hj : (j : Int) + t - b3 + 1 = i) (hc : cs.getD j false = true) (ho : ∀ k, j ≤ k → k < i → os.getD k false = false) : Good t os cs i ⟨false, true, b3, false⟩ :=
  ⟨by simp only; omega, h1, by simp only; omega, by simp, by simp, fun _ => ⟨j, hj, hc, ho⟩⟩
theorem good_all {t : Nat} {s : Bool} {os cs : List Bool} (ht : 1 ≤ t) (ht6 : t ≤ 6) : ∀ i, Good t os cs i (stt false t s os cs i)
  | 0 => goodR (by omega) (by omega) (by omega) (by simp)
  | i + 1 => by
    obtain ⟨l0, lt, z, p, c, m⟩ := good_all (s := s) (os := os) (cs := cs) ht ht6 i
    rw [stt, stepS_eq (by omega) (by omega) l0 lt z p c]
    obtain ⟨o, ho⟩ : ∃ o, os.getD i false = o := ⟨_, rfl⟩
    obtain ⟨cl, hcl⟩ : ∃ o, cs.getD i false = o := ⟨_, rfl⟩
    rw [ho, hcl]
    generalize stt false (t : Int) s os cs i = b at l0 lt z p c m
    obtain ⟨b1, b2, b3, b4⟩ := b
    simp only at l0 lt z p c m
    have ext : ∀ j : Nat, o = false → (∀ k, j ≤ k → k < i → os.getD k false = false) → ∀ k, j ≤ k → k < i + 1 → os.getD k false = false := by
      intro j hf hk k h1 h2
      by_cases e : k = i
      · subst e; rw [ho, hf]
      · exact hk k h1 (by omega)
    have here : o = false → ∀ k, i ≤ k → k < i + 1 → os.getD k false = false := fun hf k h1 h2 => by rw [show k = i by omega, ho, hf]
    -- what the commands do to a breaker at rest
    have rest : ∀ b1 b4 : Bool, (b4 = true → b1 = true) → Good t os cs (i + 1) (if (0 : Int) < 0 ∧ false = true ∧ o = true then (⟨b1, false, 0, b4⟩ : Br) else if (0 : Int) = 0 ∧ b1 = true ∧ o = true then ⟨b1, false, if s then 0 else (t : Int), true⟩ else if (0 : Int) = 0 ∧ b1 = false ∧ cl = true ∧ o = false then ⟨b1, true, t, b4⟩ else ⟨b1, false, 0, b4⟩) := by
      intro b1 b4 hb
      rw [if_neg (by simp)]
      by_cases e1 : b1 = true ∧ o = true
      · rw [if_pos ⟨rfl, e1⟩, e1.1]
        exact goodR (by split <;> omega) (by split <;> omega) (fun _ => rfl) (fun _ => rfl)
      · rw [if_neg (fun h => e1 h.2)]
        by_cases e2 : b1 = false ∧ cl = true ∧ o = false
        · have h4 : b4 = false := by
            cases b4
            · rfl
            · have := hb rfl; rw [e2.1] at this; cases this
          rw [if_pos ⟨rfl, e2⟩, e2.1, h4]
          exact goodC (by omega) (by omega) i (by omega) (by rw [hcl, e2.2.1]) (here e2.2.2)
        · rw [if_neg (fun h => e2 h.2)]
          exact goodR (by omega) (by omega) (by omega) hb
    by_cases e0 : b3 = 0
    · subst e0
      have hz := z rfl
      subst hz
      simp only [if_true]
      have q := rest b1 b4 c
      simp only [true_and] at q ⊢
      exact q
    · by_cases e1 : b3 = 1
      · subst e1
        simp only [show ¬ ((1 : Int) = 0) by omega, if_true, if_false]
        have q := rest b2 (b4 && b2) (by cases b4 <;> simp)
        simp only [true_and] at q ⊢
        exact q
      · have hp := p (by omega)
        have e2 : ¬ b3 - 1 = 0 := by omega
        have e3 : (0 : Int) < b3 - 1 := by omega
        simp only [e0, e1, e2, e3, if_false, true_and, false_and]
        cases b2
        · have h1 : b1 = true := by
            cases b1
            · exact absurd rfl hp
            · rfl
          subst h1
          rw [if_neg (by simp)]
          exact goodR (by omega) (by omega) (fun _ => rfl) (fun _ => rfl)
        · have h1 : b1 = false := by
            cases b1
            · rfl
            · exact absurd rfl hp
          subst h1
          have h4 : b4 = false := by
            cases b4
            · rfl
            · exact absurd (c rfl) (by simp)
          subst h4
          cases o
          · rw [if_neg (by simp)]
            obtain ⟨j, j1, j2, j3⟩ := m rfl
            exact goodC (by omega) (by omega) j (by omega) j2 (ext j rfl j3)
          · rw [if_pos ⟨rfl, rfl⟩]
            exact goodR (by omega) (by omega) (by omega) (by simp)
theorem closes {t : Nat} {s : Bool} {os cs : List Bool} (ht : 1 ≤ t) (ht6 : t ≤ 6) {i : Nat} (h1 : (stt false t s os cs (i + 1)).closed = true) (h0 : (stt false t s os cs i).closed = false) :
    t ≤ i ∧ cs.getD (i - t) false = true ∧ ∀ k, i - t ≤ k → k < i → os.getD k false = false := by
  obtain ⟨l0, lt, z, p, c, m⟩ := good_all (s := s) (os := os) (cs := cs) ht ht6 i
  rw [stt, stepS_eq (by omega) (by omega) l0 lt z p c] at h1
  generalize stt false (t : Int) s os cs i = b at l0 lt z p c m h0 h1
  obtain ⟨b1, b2, b3, b4⟩ := b
  simp only at l0 lt z p c m h0 h1
  subst h0
  have hb : b3 = 1 ∧ b2 = true := by
    by_cases e0 : b3 = 0
    · simp only [e0, if_true] at h1
      grind
    · by_cases e1 : b3 = 1
      · refine ⟨e1, ?_⟩
        have := p (by omega)
        cases b2 <;> simp_all
      · simp only [e0, e1, if_false] at h1
        grind
  obtain ⟨rfl, rfl⟩ := hb
  obtain ⟨j, j1, j2, j3⟩ := m rfl
  have : j = i - t := by omega
  subst this
  exact ⟨by omega, j2, j3⟩
theorem closes_ok (c0 : Bool) (T : Int) (s : Bool) (os cs : List Bool) (ho : os.length ≤ maxLen) : PCall Try.prog 11 [.agg [.bool c0, .int .i64 T, .bool s, .list 1 (os.map bl), .list 1 (cs.map bl)]] (.bool true) := by
  obtain ⟨n, hn⟩ : ∃ n, os.length = n := ⟨_, rfl⟩
  obtain ⟨m, hm⟩ : ∃ m, cs.length = m := ⟨_, rfl⟩
  by_cases hg : 1 ≤ T ∧ T ≤ 6 ∧ n = m ∧ n ≤ 80
  · obtain ⟨a1, a2, a3, a4⟩ := hg
    subst a3
    obtain ⟨t, rfl⟩ := Int.eq_ofNat_of_zero_le (show 0 ≤ T by omega)
    have b1 : ilt (t : Int) 1 = false := ilt_f a1
    have b2 : ilt 6 (t : Int) = false := ilt_f a2
    have b3 : ilt 80 (n : Int) = false := ilt_f (by omega)
    have b4 : n ≤ 1000 := by omega
    have hu : usableB t = true := by simp [usableB, ilt]; omega
    obtain ⟨L, hL⟩ : ∃ L, runA false t s os cs = L := ⟨_, rfl⟩
    have hLn : L.length = n := by rw [← hL]; simp [runA, hu, hn, hm]
    have hLi : Hid (∀ i, i < n → L[i]? = some (stt false t s os cs (i + 1))) := show ∀ i, _ by
      intro i hi
      rw [← hL]
      simp only [runA, hu, hn, hm, beq_self_eq_true, Bool.and_self, if_true, List.getElem?_map, List.getElem?_range hi, Option.map_some]
    have hcl : Hid (∀ i, (stt false t s os cs (i + 1)).closed = true → (stt false t s os cs i).closed = false → t ≤ i ∧ cs.getD (i - t) false = true ∧ ∀ k, i - t ≤ k → k < i → os.getD k false = false) := show ∀ i, _ from fun i h1 h2 => closes (by omega) (by omega) h1 h2
    have ht : Hid ((t : Int) ≤ 6) := a2
    clear hu a1 a2
    refine pcall_cx B5_ok mixed (fun _ => none) Try.func11 rfl Try.ntmps11 Try.results11 (by simp) (by kernel_rfl) ?_
    repeat' first
      | (refine gw_bool (fun _ => ?_) (fun _ => ?_))
      | (refine condw_bool (fun _ => ?_) (fun _ => ?_))
      | simp [*, dec_b]
    refine lp_go (D := (fun _ => none)) B5_ok mixed (by kernel_rfl) [3, 4, 5, 6, 47, 48] [1, 8] (α := Nat) (fun i e h => i ≤ n ∧ e 49 = .int .i64 i) (fun i => n - i) 0 ?_ ?_
    · exact ⟨by omega, rfl⟩
    · rintro i e h hk hkh ⟨hi, g49⟩
      simp [Keep] at hk
      simp [KeepH] at hkh
      by_cases hlt : i < n
      · have w1 : IntKind.i64.wrap ((i : Int) + 1) = ((i + 1 : Nat) : Int) := wrap_succ (by omega)
        have f1 : ilt (i : Int) (n : Int) = true := ilt_t (by omega)
        obtain ⟨⟨x1, x2, x3, x4⟩, hx⟩ : ∃ x, stt false t s os cs (i + 1) = x := ⟨_, rfl⟩
        have f3 := hLi.out i hlt
        rw [hx] at f3
        have f4 : L[i]'(by omega) = ⟨x1, x2, x3, x4⟩ := (List.getElem?_eq_some_iff.1 f3).2
        cases x1
        · skip
          repeat' first
            | (refine gw_bool (fun _ => ?_) (fun _ => ?_))
            | (refine condw_bool (fun _ => ?_) (fun _ => ?_))
            | simp [*, bl, Br.cs]
          refine nxt_go (i + 1) ((View.forget _ _ 8)) (by omega) (by simp [*, Keep, St.forget, scr, scrC]) (by simp [*, KeepH, St.forget, scr, scrC]) ?_
          refine ⟨by omega, ?_⟩; simp [*, St.forget, scr, scrC]
        · obtain ⟨⟨y1, y2, y3, y4⟩, hy⟩ : ∃ y, stt false t s os cs i = y := ⟨_, rfl⟩
          by_cases hcase : 0 < i ∧ y1 = true
          · obtain ⟨hi0, rfl⟩ := hcase
            have d1 : ilt 0 (i : Int) = true := ilt_t (by omega)
            have w2 : IntKind.i64.wrap ((i : Int) - 1) = ((i - 1 : Nat) : Int) := by rw [wrap_id (by omega) (by omega)]; omega
            have f5 := hLi.out (i - 1) (by omega)
            rw [show i - 1 + 1 = i by omega, hy] at f5
            have f6 : i - 1 < n := by omega
            have f7 : L[i - 1]'(by omega) = ⟨true, y2, y3, y4⟩ := (List.getElem?_eq_some_iff.1 f5).2
            repeat' first
              | (refine gw_bool (fun _ => ?_) (fun _ => ?_))
              | (refine condw_bool (fun _ => ?_) (fun _ => ?_))
              | simp [*, bl, Br.cs]
            refine nxt_go (i + 1) ((View.forget _ _ 8)) (by omega) (by simp [*, Keep, St.forget, scr, scrC]) (by simp [*, KeepH, St.forget, scr, scrC]) ?_
            refine ⟨by omega, ?_⟩; simp [*, St.forget, scr, scrC]
          · have hop : y1 = false := by
              by_cases hi0 : 0 < i
              · cases y1
                · rfl
                · exact absurd ⟨hi0, rfl⟩ hcase
              · have : i = 0 := by omega
                subst this
                simp [stt] at hy
                exact hy.1
            subst hop
            obtain ⟨k1, k2, k3⟩ := hcl.out i (by rw [hx]) (by rw [hy])
            have w2 : IntKind.i64.wrap ((i : Int) - (t : Int)) = ((i - t : Nat) : Int) := by have := ht.out; rw [wrap_id (by omega) (by omega)]; omega
            obtain ⟨j, hj⟩ : ∃ j, i - t = j := ⟨_, rfl⟩
            rw [hj] at w2 k2 k3
            have hjn : j < n := by omega
            have hcj : cs[j]? = some true := by
              obtain ⟨c, hc, hc'⟩ := at_ex (show j < cs.length by omega)
              rw [List.getD_eq_getElem?_getD, hc] at k2
              simp at k2; subst k2; exact hc
            have hcj' : cs[j]'(by omega) = true := (List.getElem?_eq_some_iff.1 hcj).2
            have hos : Hid (∀ k, j ≤ k → k < i → os[k]? = some false) := show ∀ k, _ by
              intro k h1 h2
              obtain ⟨c, hc, hc'⟩ := at_ex (show k < os.length by omega)
              have := k3 k h1 h2
              rw [List.getD_eq_getElem?_getD, hc] at this
              simp at this; subst this; exact hc
            have hj0 : ilt (j : Int) 0 = false := ilt_f (by omega)
            have hji : Hid (j ≤ i) := show _ ≤ _ by omega
            have key : ilt 0 (i : Int) = true → ∃ y, L[i - 1]? = some y ∧ (∀ h : i - 1 < L.length, L[i - 1] = y) ∧ y.closed = false ∧ i - 1 < n ∧ IntKind.i64.wrap ((i : Int) - 1) = ((i - 1 : Nat) : Int) := by
              intro hh
              have hi0 : 0 < i := by have := ilt_iff.1 hh; omega
              have f5 := hLi.out (i - 1) (by omega)
              rw [show i - 1 + 1 = i by omega, hy] at f5
              exact ⟨_, f5, fun h => (List.getElem?_eq_some_iff.1 f5).2, rfl, by omega, by rw [wrap_id (by omega) (by omega)]; omega⟩
            clear k1 k2 k3 hcase
            cases d1 : ilt 0 (i : Int)
            · clear key
              repeat' first
                | (refine gw_bool (fun _ => ?_) (fun _ => ?_))
                | (refine condw_bool (fun _ => ?_) (fun _ => ?_))
                | simp [*, bl, Br.cs]
              refine lp_go (D := (fun _ => none)) B5_ok mixed (by kernel_rfl) [3, 4, 5, 6, 7, 8, 9, 47, 48, 49, 50, 51, 52, 53, 54, 55, 56, 57, 58, 59, 60, 61, 62, 63, 64, 65, 66, 67, 68, 69, 70, 71, 72, 73, 74, 75, 76, 77, 78, 79, 80, 81] [1, 8] (α := Nat) (fun k e h => j ≤ k ∧ k ≤ i ∧ e 10 = .int .i64 k) (fun k => i - k) j ?_ ?_
              · exact ⟨by omega, hji.out, rfl⟩
              · rintro k e' h' hk' hkh' ⟨hk1, hk2, g10⟩
                simp [Keep] at hk'
                simp [KeepH] at hkh'
                by_cases hlt' : k < i
                · have z1 : ilt (k : Int) (i : Int) = true := ilt_t (by omega)
                  have z2 : IntKind.i64.wrap ((k : Int) + 1) = ((k + 1 : Nat) : Int) := wrap_succ (by omega)
                  have z3 := hos.out k hk1 hlt'
                  have z4 : os[k]'(by omega) = false := (List.getElem?_eq_some_iff.1 z3).2
                  have z5 : k < n := by omega
                  repeat' first
                    | (refine gw_bool (fun _ => ?_) (fun _ => ?_))
                    | (refine condw_bool (fun _ => ?_) (fun _ => ?_))
                    | simp [*, bl, Br.cs]
                  refine nxt_go (k + 1) (View.refl _ _) (by omega) (by simp [*, Keep, St.forget, scr, scrC]) (by simp [*, KeepH, St.forget, scr, scrC]) ?_
                  refine ⟨by omega, by omega, ?_⟩; simp [*]
                · have z1 : ilt (k : Int) (i : Int) = false := ilt_f (by omega)
                  repeat' first
                    | (refine gw_bool (fun _ => ?_) (fun _ => ?_))
                    | (refine condw_bool (fun _ => ?_) (fun _ => ?_))
                    | simp [*, bl, Br.cs]
                  refine nxt_go (i + 1) ((View.forget _ _ 8)) (by omega) (by simp [*, Keep, St.forget, scr, scrC]) (by simp [*, KeepH, St.forget, scr, scrC]) ?_
                  refine ⟨by omega, ?_⟩; simp [*, St.forget, scr, scrC]
            · obtain ⟨⟨u1, u2, u3, u4⟩, v1, v2, v3, v4, v5⟩ := key d1
              simp only at v3
              subst v3
              have v6 := v2 (by omega)
              clear key v2
              repeat' first
                | (refine gw_bool (fun _ => ?_) (fun _ => ?_))
                | (refine condw_bool (fun _ => ?_) (fun _ => ?_))
                | simp [*, bl, Br.cs]
              refine lp_go (D := (fun _ => none)) B5_ok mixed (by kernel_rfl) [3, 4, 5, 6, 7, 8, 9, 47, 48, 49, 50, 51, 52, 53, 54, 55, 56, 57, 58, 59, 60, 61, 62, 63, 64, 65, 66, 67, 68, 69, 70, 71, 72, 73, 74, 75, 76, 77, 78, 79, 80, 81] [1, 8] (α := Nat) (fun k e h => j ≤ k ∧ k ≤ i ∧ e 10 = .int .i64 k) (fun k => i - k) j ?_ ?_
              · exact ⟨by omega, hji.out, rfl⟩
              · rintro k e' h' hk' hkh' ⟨hk1, hk2, g10⟩
                simp [Keep] at hk'
                simp [KeepH] at hkh'
                by_cases hlt' : k < i
                · have z1 : ilt (k : Int) (i : Int) = true := ilt_t (by omega)
                  have z2 : IntKind.i64.wrap ((k : Int) + 1) = ((k + 1 : Nat) : Int) := wrap_succ (by omega)
                  have z3 := hos.out k hk1 hlt'
                  have z4 : os[k]'(by omega) = false := (List.getElem?_eq_some_iff.1 z3).2
                  have z5 : k < n := by omega
                  repeat' first
                    | (refine gw_bool (fun _ => ?_) (fun _ => ?_))
                    | (refine condw_bool (fun _ => ?_) (fun _ => ?_))
                    | simp [*, bl, Br.cs]
                  refine nxt_go (k + 1) (View.refl _ _) (by omega) (by simp [*, Keep, St.forget, scr, scrC]) (by simp [*, KeepH, St.forget, scr, scrC]) ?_
                  refine ⟨by omega, by omega, ?_⟩; simp [*]
                · have z1 : ilt (k : Int) (i : Int) = false := ilt_f (by omega)
                  repeat' first
                    | (refine gw_bool (fun _ => ?_) (fun _ => ?_))
                    | (refine condw_bool (fun _ => ?_) (fun _ => ?_))
                    | simp [*, bl, Br.cs]
                  refine nxt_go (i + 1) ((View.forget _ _ 8)) (by omega) (by simp [*, Keep, St.forget, scr, scrC]) (by simp [*, KeepH, St.forget, scr, scrC]) ?_
                  refine ⟨by omega, ?_⟩; simp [*, St.forget, scr, scrC]
      · have f1 : ilt (i : Int) (n : Int) = false := ilt_f (by omega)
        repeat' first
          | (refine gw_bool (fun _ => ?_) (fun _ => ?_))
          | (refine condw_bool (fun _ => ?_) (fun _ => ?_))
          | simp [*]
  · have hz : Hid (¬ (1 ≤ T ∧ T ≤ 6 ∧ n = m ∧ n ≤ 80)) := hg
    clear hg
    refine pcall_cx B5_ok mixed (fun _ => none) Try.func11 rfl Try.ntmps11 Try.results11 (by simp) (by kernel_rfl) ?_
    repeat' first
      | (refine gw_bool (fun _ => ?_) (fun _ => ?_))
      | (refine condw_bool (fun _ => ?_) (fun _ => ?_))
      | simp [*]
    all_goals (exfalso; have hz := hz.out; simp only [ilt_iff', ilt_iff, ieq_iff, ieq_iff'] at *; omega)
theorem has_bools {u : V} (h : HasV (.slice .bool) u) : ∃ bs : List Bool, u = .list 1 (bs.map bl) ∧ bs.length ≤ maxLen := by
  obtain ⟨xs, rfl, hl, hx⟩ := has_slice h
  obtain ⟨l, rfl⟩ := rows_of (enc := bl) fun x hx2 => by have := hx x hx2; simp only [HasC] at this; exact this
  exact ⟨l, rfl, by simpa using hl⟩
end Go.Proofs.Ytlebbpgffjcgjaa
