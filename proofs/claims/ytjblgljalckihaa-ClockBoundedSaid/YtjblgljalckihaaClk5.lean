/-
  ClockBounded: the plain law and the walk.
-/
import Derived.Test.YtjblgljalckihaaClk3
namespace Go.Proofs.Ytjblgljalckihaa
open Go.Pv Go.RowKit
set_option linter.unusedSimpArgs false
set_option linter.unusedVariables false
set_option maxRecDepth 100000
set_option maxHeartbeats 4000000

/-- How far a clock may be from true time behind i steps. -/
structure Near (i : Nat) (now : Int) (c : Ck) : Prop where
  r0 : 0 ≤ c.r
  r1 : c.r < 1000000
  e0 : 0 ≤ c.e
  e1 : c.e ≤ 100
  s0 : 0 ≤ c.s
  s1 : c.s ≤ i
  u : c.k = false → -(2000000 * (i : Int)) ≤ 1000000 * (c.t - now) + c.r - 77000000 ∧ 1000000 * (c.t - now) + c.r - 77000000 ≤ 2000000 * i
  k : c.k = true → -(1000000 * c.e + 2000000 * c.s) ≤ 1000000 * (c.t - now) + c.r ∧ 1000000 * (c.t - now) + c.r ≤ 1000000 * c.e + 2000000 * c.s
theorem Near.step {i : Nat} {now : Int} {c : Ck} (h : Near i now c) (d : Int) : Near (i + 1) (now + 20000) (stC c d) := by
  have hl := lim_b d
  obtain ⟨r0, r1, e0, e1, s0, s1, u, k⟩ := h
  obtain ⟨t, r, b, e, s⟩ := c
  simp only at *
  have hq := Int.mul_ediv_add_emod (r + 20000 * lim d) 1000000
  cases b
  · have u := u rfl
    constructor
    all_goals simp only [stC, Bool.false_eq_true, if_false]
    · omega
    · omega
    · exact e0
    · exact e1
    · exact s0
    · omega
    · intro _; omega
    · intro h; cases h
  · have k := k rfl
    constructor
    all_goals simp only [stC, if_true]
    · omega
    · omega
    · exact e0
    · exact e1
    · omega
    · omega
    · intro h; cases h
    · intro _; omega
theorem Near.sync {i : Nat} {now : Int} {w a : Int} (ha : 0 ≤ a) (ha1 : a ≤ 100) (hw : 0 ≤ w) (hw1 : w ≤ 2 * a) : Near i now ⟨now + w - a, 0, true, a, 0⟩ :=
  ⟨by simp, by simp, ha, ha1, by simp, by simp, by simp, fun _ => by simp only; omega⟩
theorem Near.ok {i : Nat} {now : Int} {c : Ck} (h : Near i now c) (hi : i ≤ 301) (hn : -1100000000000 ≤ now) (hn1 : now ≤ 1100000000000) : c.ok = true := by
  obtain ⟨r0, r1, e0, e1, s0, s1, u, k⟩ := h
  rw [ok_iff]
  cases hk : c.k
  · have := u hk; omega
  · have := k hk; omega
theorem Near.bound {i : Nat} {now : Int} {c : Ck} (h : Near i now c) (hk : c.k = true) : c.t - now ≤ c.e + c.s + c.s + 1 ∧ now - c.t ≤ c.e + c.s + c.s + 1 := by
  obtain ⟨r0, r1, e0, e1, s0, s1, u, k⟩ := h
  have := k hk
  omega
theorem Near.near {i : Nat} {now : Int} {c : Ck} (h : Near i now c) (hi : i ≤ 301) : -100000 ≤ c.t - now ∧ c.t - now ≤ 100000 := by
  obtain ⟨r0, r1, e0, e1, s0, s1, u, k⟩ := h
  cases hk : c.k
  · have := u hk; omega
  · have := k hk; omega
theorem bounded_ok (start : Int) (l : List Ev) (hl : l.length ≤ maxLen) (hlo : ∀ x ∈ l, -9223372036854775808 ≤ x.o ∧ x.o ≤ 9223372036854775807) : PCall Try.prog 4 [.int .i64 start, .list 3 (l.map Ev.cs)] (.bool true) := by
  obtain ⟨a, ha⟩ : ∃ a, start.tmod 1099511627776 = a := ⟨_, rfl⟩
  have hab := tmod_b (n := start) (m := 1099511627776) (by omega)
  rw [ha] at hab
  obtain ⟨n, hn⟩ : ∃ n, l.length = n := ⟨_, rfl⟩
  have w0 : IntKind.i64.wrap (a + 77) = a + 77 := wrap_id (by omega) (by omega)
  have hz : Hid (-1099511627776 < a ∧ a < 1099511627776) := hab
  have hzo : Hid (∀ x ∈ l, -9223372036854775808 ≤ x.o ∧ x.o ≤ 9223372036854775807) := hlo
  clear hab hlo
  refine pcall_cx G8_ok mixed (fun id => if id = 12 then some ⟨[(21, 9)], []⟩ else none) Try.func4 rfl Try.ntmps4 Try.results4 (by simp) (by kernel_rfl) ?_
  repeat' first
    | (refine gw_bool (fun _ => ?_) (fun _ => ?_))
    | (refine condw_bool (fun _ => ?_) (fun _ => ?_))
    | simp [*, Ck.v]
  refine lp_go (D := (fun id => if id = 12 then some ⟨[(21, 9)], []⟩ else none)) G8_ok mixed (by kernel_rfl) [1, 6] [9] (α := Nat × Ck) (fun x e h => x.1 ≤ n ∧ x.1 ≤ 300 ∧ e 7 = .int .i64 x.1 ∧ e 5 = .int .i64 (a + 20000 * x.1) ∧ h 6 = some ⟨25, [.int .i64 x.2.t, .int .i64 x.2.r, .bool x.2.k, .int .i64 x.2.e, .int .i64 x.2.s]⟩ ∧ Hid (Near x.1 (a + 20000 * x.1) x.2)) (fun x => 300 - x.1) (0, ⟨a + 77, 0, false, 0, 0⟩) ?_ ?_
  · refine ⟨by simp, by simp, rfl, by simp, rfl, ?_⟩
    show Near _ _ _
    exact ⟨by simp, by simp, by simp, by simp, by simp, by simp, fun _ => by simp only; omega, by simp⟩
  · rintro ⟨i, ⟨t, r, k, e', s⟩⟩ e h hk hkh ⟨hi, hi3, g7, g5, q6, hinv⟩
    simp [Keep] at hk
    simp [KeepH] at hkh
    simp only at hi hi3 g7 g5 q6 hinv
    obtain ⟨z1, z2⟩ := hz.out
    by_cases hlt : i < n
    · have f1 : ilt (i : Int) (n : Int) = true := ilt_t (by omega)
      by_cases hlt3 : i < 300
      · have f2 : ilt (i : Int) 300 = true := ilt_t (by omega)
        have w1 : IntKind.i64.wrap ((i : Int) + 1) = ((i + 1 : Nat) : Int) := wrap_succ (by omega)
        obtain ⟨⟨xd, xo, xs⟩, hx, hx'⟩ := at_ex (show i < l.length by omega)
        have hxo := hzo.out _ (List.mem_of_getElem? hx)
        simp only at hxo
        have ok1 := hinv.out.ok (by omega) (by omega) (by omega)
        obtain ⟨now, hnow⟩ : ∃ now, a + 20000 * ((i + 1 : Nat) : Int) = now := ⟨_, rfl⟩
        have w2 : IntKind.i64.wrap (a + 20000 * (i : Int) + 20000) = now := by rw [wrap_id (by omega) (by omega)]; omega
        obtain ⟨y, hy⟩ : ∃ y, stC ⟨t, r, k, e', s⟩ xd = y := ⟨_, rfl⟩
        have hN : Hid (Near (i + 1) now y) := by
          show Near _ _ _
          have := hinv.out.step xd
          rw [hy] at this
          have e2 : a + 20000 * (i : Int) + 20000 = now := by omega
          rw [e2] at this
          exact this
        have hnb : Hid (-1100000000000 ≤ now ∧ now ≤ 1100000000000) := show _ ∧ _ by omega
        have nx : ∀ y : Ck, Near (i + 1) now y → y.ok = true ∧ (bdC y).2 = y.k ∧ (y.k = true → (bdC y).1 = y.e + y.s + y.s + 1 ∧ ilt (y.e + y.s + y.s + 1) (IntKind.i64.wrap (y.t - now)) = false ∧ ilt (y.e + y.s + y.s + 1) (IntKind.i64.wrap (now - y.t)) = false) := by
          intro y hy
          have hb := hnb.out
          refine ⟨hy.ok (by omega) (by omega) (by omega), by simp only [bdC]; cases y.k <;> rfl, fun hk => ⟨by simp [bdC, hk], ?_, ?_⟩⟩
          · have := hy.bound hk
            have h3 := hy.near (by omega)
            rw [wrap_id (by omega) (by omega)]
            exact ilt_f (by omega)
          · have := hy.bound hk
            have h3 := hy.near (by omega)
            rw [wrap_id (by omega) (by omega)]
            exact ilt_f (by omega)
        have hnx : Hid (∀ y : Ck, Near (i + 1) now y → y.ok = true ∧ (bdC y).2 = y.k ∧ (y.k = true → (bdC y).1 = y.e + y.s + y.s + 1 ∧ ilt (y.e + y.s + y.s + 1) (IntKind.i64.wrap (y.t - now)) = false ∧ ilt (y.e + y.s + y.s + 1) (IntKind.i64.wrap (now - y.t)) = false)) := nx
        have hnow' : Hid (a + 20000 * ((i + 1 : Nat) : Int) = now) := hnow
        clear nx hnow
        cases xs
        · obtain ⟨ok2, bd2, bd3⟩ := hnx.out y hN.out
          obtain ⟨y1, y2, y3, y4, y5⟩ := y
          simp only at bd2 bd3
          cases y3
          · clear bd3 hinv z1 z2 hxo
            repeat' first
              | (refine gw_bool (fun _ => ?_) (fun _ => ?_))
              | (refine condw_bool (fun _ => ?_) (fun _ => ?_))
              | simp [*, Ck.v, Ev.cs]
            refine nxt_go (i + 1, ⟨y1, y2, false, y4, y5⟩) ((View.forget _ _ 9)) (by simp only; omega) (by simp [*, Keep, St.forget, scr, scrC]) (by simp [*, KeepH, St.forget, scr, scrC]) ?_
            refine ⟨by simp only; omega, by simp only; omega, ?_, ?_, ?_, ?_⟩
            · simp [*, St.forget, scr, scrC]
            · rw [hnow'.out]; simp [*, St.forget, scr, scrC]
            · simp [*, St.forget, scr, scrC]
            · show Near _ _ _; rw [hnow'.out]; exact hN.out
          · obtain ⟨bd4, bd5, bd6⟩ := bd3 rfl
            clear bd3 hinv z1 z2 hxo
            repeat' first
              | (refine gw_bool (fun _ => ?_) (fun _ => ?_))
              | (refine condw_bool (fun _ => ?_) (fun _ => ?_))
              | simp [*, Ck.v, Ev.cs]
            refine nxt_go (i + 1, ⟨y1, y2, true, y4, y5⟩) ((View.forget _ _ 9)) (by simp only; omega) (by simp [*, Keep, St.forget, scr, scrC]) (by simp [*, KeepH, St.forget, scr, scrC]) ?_
            refine ⟨by simp only; omega, by simp only; omega, ?_, ?_, ?_, ?_⟩
            · simp [*, St.forget, scr, scrC]
            · rw [hnow'.out]; simp [*, St.forget, scr, scrC]
            · simp [*, St.forget, scr, scrC]
            · show Near _ _ _; rw [hnow'.out]; exact hN.out
        · obtain ⟨A, hA⟩ : ∃ A, xo % 101 = A := ⟨_, rfl⟩
          have A0 : 0 ≤ A := by rw [← hA]; exact Int.emod_nonneg _ (by omega)
          have A1 : A ≤ 100 := by have := Int.emod_lt_of_pos xo (show (0 : Int) < 101 by omega); omega
          have v1 : IntKind.i64.wrap (2 * A) = 2 * A := wrap_id (by omega) (by omega)
          have v2 : IntKind.i64.wrap (2 * A + 1) = 2 * A + 1 := wrap_id (by omega) (by omega)
          have v3 : 0 < 2 * A + 1 := by omega
          have v4 : 2 * A + 1 ≤ 4611686018427387904 := by omega
          obtain ⟨W, hW⟩ : ∃ W, xo.tdiv 101 % (2 * A + 1) = W := ⟨_, rfl⟩
          have W0 : 0 ≤ W := by rw [← hW]; exact Int.emod_nonneg _ (by omega)
          have W1 : W ≤ 2 * A := by have := Int.emod_lt_of_pos (xo.tdiv 101) v3; omega
          have v5 : IntKind.i64.wrap (xo.tdiv 101) = xo.tdiv 101 := by
            have h1 := tdiv_fix (n := xo) (m := 101) (by omega)
            split at h1 <;> exact wrap_id (by omega) (by omega)
          have hb := hnb.out
          have v6 : IntKind.i64.wrap (now + W) = now + W := wrap_id (by omega) (by omega)
          have v7 : IntKind.i64.wrap (now + W - A) = now + W - A := wrap_id (by omega) (by omega)
          have sy : ∀ c : Ck, syC c (now + W - A) A = (⟨now + W - A, 0, true, A, 0⟩, 0) := by
            intro c
            simp only [syC, ilt_f A0, ilt_f (show A ≤ 1000 by omega), ilt_f (show -1125899906842624 ≤ now + W - A by omega), ilt_f (show now + W - A ≤ 1125899906842624 by omega)]
            simp
          have hN2 : Hid (Near (i + 1) now ⟨now + W - A, 0, true, A, 0⟩) := Near.sync A0 A1 W0 W1
          obtain ⟨ok2, bd2, bd3⟩ := hnx.out _ hN2.out
          simp only at bd2 bd3
          obtain ⟨bd4, bd5, bd6⟩ := bd3 trivial
          simp only [Int.add_zero] at bd4 bd5 bd6
          obtain ⟨y1, y2, y3, y4, y5⟩ := y
          obtain ⟨T, hT⟩ : ∃ T, now + W - A = T := ⟨_, rfl⟩
          rw [hT] at v7 sy hN2 ok2 bd2 bd4 bd5 bd6
          clear bd3 hinv z1 z2 hxo A0 A1 W0 W1 hb hN
          repeat' first
            | (refine gw_bool (fun _ => ?_) (fun _ => ?_))
            | (refine condw_bool (fun _ => ?_) (fun _ => ?_))
            | simp [*, Ck.v, Ev.cs, vE]
          refine nxt_go (i + 1, ⟨T, 0, true, A, 0⟩) ((View.forget _ _ 9)) (by simp only; omega) (by simp [*, Keep, St.forget, scr, scrC]) (by simp [*, KeepH, St.forget, scr, scrC]) ?_
          refine ⟨by simp only; omega, by simp only; omega, ?_, ?_, ?_, ?_⟩
          · simp [*, St.forget, scr, scrC]
          · rw [hnow'.out]; simp [*, St.forget, scr, scrC]
          · simp [*, St.forget, scr, scrC]
          · show Near _ _ _; rw [hnow'.out]; exact hN2.out
      · have f2 : ilt (i : Int) 300 = false := ilt_f (by omega)
        clear hinv z1 z2
        repeat' first
          | (refine gw_bool (fun _ => ?_) (fun _ => ?_))
          | (refine condw_bool (fun _ => ?_) (fun _ => ?_))
          | simp [*]
    · have f1 : ilt (i : Int) (n : Int) = false := ilt_f (by omega)
      clear hinv z1 z2
      repeat' first
        | (refine gw_bool (fun _ => ?_) (fun _ => ?_))
        | (refine condw_bool (fun _ => ?_) (fun _ => ?_))
        | simp [*]
theorem has_evs : ∀ {xs : List (List V)}, (∀ x ∈ xs, HasC (.struct [.int .i64, .int .i64, .bool]) x) → ∃ l : List Ev, xs = l.map Ev.cs ∧ ∀ y ∈ l, -9223372036854775808 ≤ y.o ∧ y.o ≤ 9223372036854775807
  | [], _ => ⟨[], rfl, by simp⟩
  | c :: cs, hx => by
    obtain ⟨l, rfl, h1⟩ := has_evs (xs := cs) fun y hy => hx y (by simp [hy])
    obtain ⟨y, rfl, h2⟩ := has_evC (hx c (by simp))
    exact ⟨y :: l, rfl, by intro z hz; rcases List.mem_cons.1 hz with rfl | hz; exact h2; exact h1 z hz⟩
end Go.Proofs.Ytjblgljalckihaa
