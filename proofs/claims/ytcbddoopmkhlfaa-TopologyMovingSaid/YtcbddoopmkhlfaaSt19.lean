/-
  The document's diagrams: a bay's object, ranges and links.
-/
import Derived.Test.YtcbddoopmkhlfaaSt18
namespace Go.Proofs.Ytcbddoopmkhlfaa
open Go.Pv Go.RowKit
set_option linter.unusedSimpArgs false
set_option linter.unusedVariables false
set_option maxRecDepth 100000
set_option maxHeartbeats 4000000
attribute [-simp] Tclo_at Tgrp_at Tchk Tpchk TcI TcB Tclo Tgrp Tsid Tnod Tlook Tbnd Tidx Tnms Tnmd

theorem ieq_comm (a b : Int) : ieq a b = ieq b a := BEq.comm
theorem win_cnt {ob : Int} {n : Nat} (hn : n ≤ 1000) : withinF ob 0 (IntKind.i64.wrap ((n : Int) - 1)) = (!ilt ob 0 && ilt ob n) := by
  have hw : IntKind.i64.wrap ((n : Int) - 1) = (n : Int) - 1 := wrap_id (by omega) (by omega)
  rw [hw, withinF]
  congr 1
  cases h : ilt ob n
  · have := ilt_iff'.1 h
    rw [ilt_t (by omega)]; rfl
  · have := ilt_iff.1 h
    rw [ilt_f (by omega)]; rfl
theorem win_zero (n : Int) : withinF n 0 0 = ieq n 0 := by
  unfold withinF
  cases h : ieq n 0
  · have := ieq_iff'.1 h
    rcases Int.lt_or_gt_of_ne this with h1 | h1
    · rw [ilt_t h1]; rfl
    · rw [ilt_t (show (0 : Int) < n from h1)]; simp
  · have := ieq_iff.1 h
    subst this; rfl
def objE (nl ns : Int) (b : By) : Int := match cntF nl ns b.kind with
  | none => 10
  | some c => if withinF b.ob 0 (IntKind.i64.wrap (c - 1)) = true then 0 else 9
theorem robject_ok (s : Stn) (b : By) (h1 : s.ls.length ≤ 1000) (h2 : s.ss.length ≤ 1000) : PCall Try.prog 95 [.agg s.cs, .agg b.cs] (.int .i64 (objE s.ls.length s.ss.length b)) := by
  obtain ⟨nl, hnl⟩ : ∃ n, s.ls.length = n := ⟨_, rfl⟩
  obtain ⟨ns, hns⟩ : ∃ n, s.ss.length = n := ⟨_, rfl⟩
  rw [hnl] at h1
  rw [hns] at h2
  rw [hnl, hns]
  cases k1 : ieq b.kind 1
  · cases k2 : ieq b.kind 2
    · cases k3 : ieq b.kind 3
      · have her : objE nl ns b = 10 := by simp [objE, cntF, k1, k2, k3]
        rw [her]
        refine pcall_cx E4_ok mixed (fun _ => none) Try.func95 rfl Try.ntmps95 Try.results95 (by simp) (by kernel_rfl) ?_
        repeat' first
          | (with_reducible refine gw_bool (fun _ => ?_) (fun _ => ?_))
          | (with_reducible refine condw_bool (fun _ => ?_) (fun _ => ?_))
          | simp [*, Stn.cs, By.cs]
      · have hw : withinF b.ob 0 (IntKind.i64.wrap (1 - 1)) = ieq b.ob 0 := win_zero _
        cases c : ieq b.ob 0
        · have her : objE nl ns b = 9 := by rw [c] at hw; simp [objE, cntF, k1, k2, k3]; simpa using hw
          rw [her]
          refine pcall_cx E4_ok mixed (fun _ => none) Try.func95 rfl Try.ntmps95 Try.results95 (by simp) (by kernel_rfl) ?_
          repeat' first
            | (with_reducible refine gw_bool (fun _ => ?_) (fun _ => ?_))
            | (with_reducible refine condw_bool (fun _ => ?_) (fun _ => ?_))
            | simp [*, Stn.cs, By.cs]
        · have her : objE nl ns b = 0 := by rw [c] at hw; simp [objE, cntF, k1, k2, k3]; simpa using hw
          rw [her]
          refine pcall_cx E4_ok mixed (fun _ => none) Try.func95 rfl Try.ntmps95 Try.results95 (by simp) (by kernel_rfl) ?_
          repeat' first
            | (with_reducible refine gw_bool (fun _ => ?_) (fun _ => ?_))
            | (with_reducible refine condw_bool (fun _ => ?_) (fun _ => ?_))
            | simp [*, Stn.cs, By.cs]
    · have hw := win_cnt (ob := b.ob) h2
      cases c1 : ilt b.ob 0 <;> cases c2 : ilt b.ob ns
      all_goals rw [c1, c2] at hw
      all_goals
        have her : objE nl ns b = (if withinF b.ob 0 (IntKind.i64.wrap ((ns : Int) - 1)) = true then 0 else 9) := by simp [objE, cntF, k1, k2]
      all_goals rw [her, hw]
      all_goals
        refine pcall_cx E4_ok mixed (fun _ => none) Try.func95 rfl Try.ntmps95 Try.results95 (by simp) (by kernel_rfl) ?_
      all_goals
        repeat' first
          | (with_reducible refine gw_bool (fun _ => ?_) (fun _ => ?_))
          | (with_reducible refine condw_bool (fun _ => ?_) (fun _ => ?_))
          | simp [*, Stn.cs, By.cs]
  · have hw := win_cnt (ob := b.ob) h1
    cases c1 : ilt b.ob 0 <;> cases c2 : ilt b.ob nl
    all_goals rw [c1, c2] at hw
    all_goals
      have her : objE nl ns b = (if withinF b.ob 0 (IntKind.i64.wrap ((nl : Int) - 1)) = true then 0 else 9) := by simp [objE, cntF, k1]
    all_goals rw [her, hw]
    all_goals
      refine pcall_cx E4_ok mixed (fun _ => none) Try.func95 rfl Try.ntmps95 Try.results95 (by simp) (by kernel_rfl) ?_
    all_goals
      repeat' first
        | (with_reducible refine gw_bool (fun _ => ?_) (fun _ => ?_))
        | (with_reducible refine condw_bool (fun _ => ?_) (fun _ => ?_))
        | simp [*, Stn.cs, By.cs]
theorem rranges_ok (b : By) : PCall Try.prog 96 [.agg b.cs] (.bool (rngF b)) := by
  have hz := win_zero b.en
  cases k3 : ieq b.kind 3
  · cases k1 : ieq b.kind 1
    · cases c1 : ieq b.en 0 <;> cases c2 : ieq b.zr 0 <;> cases c3 : ieq b.zx 0 <;> cases c4 : withinF b.vt 1 10000
      all_goals
        refine pcall_cx E4_ok mixed (fun _ => none) Try.func96 rfl Try.ntmps96 Try.results96 (by simp) (by kernel_rfl) ?_
      all_goals
        repeat' first
          | (with_reducible refine gw_bool (fun _ => ?_) (fun _ => ?_))
          | (with_reducible refine condw_bool (fun _ => ?_) (fun _ => ?_))
          | simp [*, rngF, By.cs]
    · cases c1 : withinF b.en 0 1 <;> cases c2 : ieq b.zr 0 <;> cases c3 : ieq b.zx 0 <;> cases c4 : withinF b.vt 1 10000
      all_goals
        refine pcall_cx E4_ok mixed (fun _ => none) Try.func96 rfl Try.ntmps96 Try.results96 (by simp) (by kernel_rfl) ?_
      all_goals
        repeat' first
          | (with_reducible refine gw_bool (fun _ => ?_) (fun _ => ?_))
          | (with_reducible refine condw_bool (fun _ => ?_) (fun _ => ?_))
          | simp [*, rngF, By.cs]
  · have k1 : ieq b.kind 1 = false := by
      have : b.kind = 3 := ieq_iff.1 k3
      rw [this]; decide
    cases c1 : ieq b.en 0 <;> cases c2 : impF b.zr b.zx <;> cases c4 : ieq b.vt 0
    all_goals
      refine pcall_cx E4_ok mixed (fun _ => none) Try.func96 rfl Try.ntmps96 Try.results96 (by simp) (by kernel_rfl) ?_
    all_goals
      repeat' first
        | (with_reducible refine gw_bool (fun _ => ?_) (fun _ => ?_))
        | (with_reducible refine condw_bool (fun _ => ?_) (fun _ => ?_))
        | simp [*, rngF, By.cs]
/-! ### links -/
def pvB (lks : List Lk) : Nat → Int
  | 0 => 0
  | i + 1 => match lks[i]? with
    | some y => y.bus
    | none => 0
def lkAt (nb kind : Int) (lks : List Lk) (i : Nat) : Int := match lks[i]? with
  | some x => lkE nb kind (i == 0) (pvB lks i) x
  | none => 0
theorem lksE_first (nb kind : Int) (lks : List Lk) : lksE nb kind lks = if lks.length < 1 ∨ lks.length > 2 ∨ (ieq kind 3 = true ∧ lks.length ≠ 2) then 3 else firstN (lkAt nb kind lks) lks.length := by
  match lks with
  | [] => simp [lksE]
  | [a] =>
    cases h : ieq kind 3
    · simp [lksE, h, firstN, lkAt, pvB]
    · simp [lksE, h]
  | [a, b] =>
    simp only [lksE, firstN, lkAt, pvB, List.length_cons, List.length_nil]
    simp [ieq]
  | _ :: _ :: _ :: _ => simp [lksE]
theorem rlinks_ok (s : Stn) (b : By) (hb : s.bs.length ≤ 1000) (hlm : b.lks.length ≤ 9223372036854775807) : PCall Try.prog 97 [.agg s.cs, .agg b.cs] (.int .i64 (lksE s.bs.length b.kind b.lks)) := by
  rw [lksE_first]
  obtain ⟨nb, hnb⟩ : ∃ n, s.bs.length = n := ⟨_, rfl⟩
  rw [hnb] at hb ⊢
  obtain ⟨n, hn⟩ : ∃ n, b.lks.length = n := ⟨_, rfl⟩
  rw [hn] at hlm ⊢
  cases g1 : ilt (n : Int) 1
  case true =>
    rw [if_pos (by have := ilt_iff.1 g1; omega)]
    refine pcall_cx E4_ok mixed (fun _ => none) Try.func97 rfl Try.ntmps97 Try.results97 (by simp) (by kernel_rfl) ?_
    repeat' first
      | (with_reducible refine gw_bool (fun _ => ?_) (fun _ => ?_))
      | (with_reducible refine condw_bool (fun _ => ?_) (fun _ => ?_))
      | simp [*, Stn.cs, By.cs]
  cases g2 : ilt 2 (n : Int)
  case true =>
    rw [if_pos (by have := ilt_iff.1 g2; omega)]
    refine pcall_cx E4_ok mixed (fun _ => none) Try.func97 rfl Try.ntmps97 Try.results97 (by simp) (by kernel_rfl) ?_
    repeat' first
      | (with_reducible refine gw_bool (fun _ => ?_) (fun _ => ?_))
      | (with_reducible refine condw_bool (fun _ => ?_) (fun _ => ?_))
      | simp [*, Stn.cs, By.cs]
  have hn1 : 1 ≤ n := by have := ilt_iff'.1 g1; omega
  have hn2 : n ≤ 2 := by have := ilt_iff'.1 g2; omega
  have main : (ieq b.kind 3 = true → n = 2) → PCall Try.prog 97 [.agg s.cs, .agg b.cs] (.int .i64 (firstN (lkAt nb b.kind b.lks) n)) := by
    intro hk2
    have hstop : ∀ i, i < n → firstN (lkAt nb b.kind b.lks) i = 0 → lkAt nb b.kind b.lks i ≠ 0 → firstN (lkAt nb b.kind b.lks) n = lkAt nb b.kind b.lks i := fun i hi h0 h1 => firstN_stop h0 h1 hi
    obtain ⟨R, hR⟩ : ∃ R, firstN (lkAt nb b.kind b.lks) n = R := ⟨_, rfl⟩
    rw [hR] at hstop ⊢
    replace hstop : Hid (∀ i, i < n → firstN (lkAt nb b.kind b.lks) i = 0 → lkAt nb b.kind b.lks i ≠ 0 → R = lkAt nb b.kind b.lks i) := hstop
    replace hR : Hid (firstN (lkAt nb b.kind b.lks) n = R) := hR
    have hc3 : (ieq b.kind 3 && !ieq (n : Int) 2) = false := by
      cases h : ieq b.kind 3
      · rfl
      · rw [hk2 h]; rfl
    cases k3 : ieq b.kind 3
    all_goals rw [k3] at hc3
    all_goals clear hk2
    all_goals first
      | (have hq2 : ieq (n : Int) 2 = true := by simpa using hc3)
      | skip
    all_goals clear hc3
    all_goals
      refine pcall_cx E4_ok mixed (fun _ => none) Try.func97 rfl Try.ntmps97 Try.results97 (by simp) (by kernel_rfl) ?_
    all_goals
      repeat' first
        | (with_reducible refine gw_bool (fun _ => ?_) (fun _ => ?_))
        | (with_reducible refine condw_bool (fun _ => ?_) (fun _ => ?_))
        | simp [*, Stn.cs, By.cs]
    all_goals refine lp_go (D := (fun _ => none)) E4_ok mixed (by kernel_rfl) [2, 3, 5] [2, 3] (α := Nat) (fun i e h => i ≤ n ∧ e 6 = .int .i64 i ∧ h 7 = none ∧ Hid (firstN (lkAt nb b.kind b.lks) i = 0)) (fun i => n - i) 0 ?_ ?_
    all_goals first
      | exact ⟨by omega, by simp, by simp, rfl⟩
      | skip
    all_goals
      rintro i e h hk hkh ⟨hi, g7, gh, hinv⟩
      simp [Keep] at hk
      simp [KeepH] at hkh
      by_cases hlt : i < n
      · obtain ⟨x, hx, hx'⟩ := at_ex (l := b.lks) (i := i) (by omega)
        have f1 : ilt (i : Int) (n : Int) = true := ilt_t (by omega)
        have w1 : IntKind.i64.wrap ((i : Int) + 1) = ((i + 1 : Nat) : Int) := wrap_succ (by omega)
        have hst := hstop.out i hlt hinv.out
        have hnx : lkAt nb b.kind b.lks i = 0 → firstN (lkAt nb b.kind b.lks) (i + 1) = 0 := fun h0 => by simp [firstN, hinv.out, h0]
        have her : lkAt nb b.kind b.lks i = lkE nb b.kind (i == 0) (pvB b.lks i) x := by simp [lkAt, hx]
        have hwn := win_cnt (ob := x.bus) hb
        obtain ⟨y, hy, hy', hpv⟩ : ∃ y : Int, (i = 0 ∨ ∃ z : Lk, b.lks[i - 1]? = some z ∧ z.bus = y) ∧ True ∧ pvB b.lks i = y := by
          cases i with
          | zero => exact ⟨_, .inl rfl, trivial, rfl⟩
          | succ k =>
            obtain ⟨z, hz, _⟩ := at_ex (l := b.lks) (i := k) (by omega)
            exact ⟨z.bus, .inr ⟨z, by simpa using hz, rfl⟩, trivial, by simp [pvB, hz]⟩
        clear hR hstop hinv hy'
        rw [hpv] at her
        clear hpv
        have hic := ieq_comm y x.bus
        have fin : ∀ c : Int, lkE nb b.kind (i == 0) y x = c → c ≠ 0 → R = c := fun c h0 h1 => by rw [hst (by rw [her, h0]; exact h1), her, h0]
        have nxt : lkE nb b.kind (i == 0) y x = 0 → Hid (firstN (lkAt nb b.kind b.lks) (i + 1) = 0) := fun h0 => hnx (by rw [her, h0])
        clear hst hnx her
        cases c1 : ilt x.bus 0
        case true =>
          rw [c1] at hwn
          have hRc := fin 9 (by simp [lkE, hwn]) (by decide)
          clear fin nxt hy hic
          subst hRc
          repeat' first
            | (with_reducible refine gw_bool (fun _ => ?_) (fun _ => ?_))
            | (with_reducible refine condw_bool (fun _ => ?_) (fun _ => ?_))
            | simp [*, Lk.cs]
        cases c2 : ilt x.bus nb
        case false =>
          rw [c1, c2] at hwn
          have hRc := fin 9 (by simp [lkE, hwn]) (by decide)
          clear fin nxt hy hic
          subst hRc
          repeat' first
            | (with_reducible refine gw_bool (fun _ => ?_) (fun _ => ?_))
            | (with_reducible refine condw_bool (fun _ => ?_) (fun _ => ?_))
            | simp [*, Lk.cs]
        rw [c1, c2] at hwn
        cases p1 : ieq x.pos 1 <;> cases p0 : ieq x.pos 0
        all_goals
          by_cases i0 : i = 0
          · have b0 : (i == 0) = true := by simpa using i0
            have gi : ilt 0 (i : Int) = false := ilt_f (by omega)
            rw [b0] at fin nxt
            clear hy i0 b0
            try
              have hRc := fin 16 (by simp [lkE, hwn, p1, p0, k3]) (by decide)
              clear fin nxt hic
              subst hRc
              repeat' first
                | (with_reducible refine gw_bool (fun _ => ?_) (fun _ => ?_))
                | (with_reducible refine condw_bool (fun _ => ?_) (fun _ => ?_))
                | simp [*, Lk.cs]
              done
            try
              have hq := nxt (by simp [lkE, hwn, p1, p0, k3])
              clear fin nxt hic
              repeat' first
                | (with_reducible refine gw_bool (fun _ => ?_) (fun _ => ?_))
                | (with_reducible refine condw_bool (fun _ => ?_) (fun _ => ?_))
                | simp [*, Lk.cs]
              refine nxt_go (i + 1) ((View.forget _ _ 7)) (by omega) (by simp [*, Keep, St.forget, scr, scrC]) (by simp [*, KeepH, St.forget, scr, scrC]) ?_
              refine ⟨by omega, by simp [*, St.forget, scr, scrC], by simp [St.forget], hq⟩
              done
          · obtain ⟨z, hz, hzy⟩ := hy.resolve_left i0
            have b0 : (i == 0) = false := by simpa using i0
            have gi : ilt 0 (i : Int) = true := ilt_t (by omega)
            have wi : IntKind.i64.wrap ((i : Int) - 1) = ((i - 1 : Nat) : Int) := by rw [wrap_id (by omega) (by omega)]; omega
            have hz' : ∀ h : i - 1 < b.lks.length, b.lks[i - 1] = z := fun h => by rw [List.getElem?_eq_getElem h] at hz; exact Option.some.inj hz
            have hzl : i - 1 < n := by omega
            rw [b0] at fin nxt
            clear hy
            subst hzy
            try
              have hRc := fin 16 (by simp [lkE, hwn, p1, p0, k3]) (by decide)
              clear fin nxt hic
              subst hRc
              repeat' first
                | (with_reducible refine gw_bool (fun _ => ?_) (fun _ => ?_))
                | (with_reducible refine condw_bool (fun _ => ?_) (fun _ => ?_))
                | simp [*, Lk.cs]
              done
            try
              cases q : ieq x.bus z.bus
              · rw [q] at hic
                have hq := nxt (by simp [lkE, hwn, p1, p0, k3, hic])
                clear fin nxt hic
                repeat' first
                  | (with_reducible refine gw_bool (fun _ => ?_) (fun _ => ?_))
                  | (with_reducible refine condw_bool (fun _ => ?_) (fun _ => ?_))
                  | simp [*, Lk.cs]
                refine nxt_go (i + 1) ((View.forget _ _ 7)) (by omega) (by simp [*, Keep, St.forget, scr, scrC]) (by simp [*, KeepH, St.forget, scr, scrC]) ?_
                refine ⟨by omega, by simp [*, St.forget, scr, scrC], by simp [St.forget], hq⟩
              · rw [q] at hic
                have hRc := fin 12 (by simp [lkE, hwn, p1, p0, k3, hic]) (by decide)
                clear fin nxt hic
                subst hRc
                repeat' first
                  | (with_reducible refine gw_bool (fun _ => ?_) (fun _ => ?_))
                  | (with_reducible refine condw_bool (fun _ => ?_) (fun _ => ?_))
                  | simp [*, Lk.cs]
              done
      · have f1 : ilt (i : Int) (n : Int) = false := ilt_f (by omega)
        have e1 : i = n := by omega
        have hRc : (0 : Int) = R := by rw [← hR.out, ← e1]; exact hinv.out.symm
        clear hR hstop hinv
        subst hRc
        repeat' first
          | (with_reducible refine gw_bool (fun _ => ?_) (fun _ => ?_))
          | (with_reducible refine condw_bool (fun _ => ?_) (fun _ => ?_))
          | simp [*]
  cases k3 : ieq b.kind 3
  · rw [if_neg (by rintro (h | h | ⟨h, _⟩) <;> first | omega | cases h)]
    exact main (fun h => by rw [k3] at h; cases h)
  · by_cases hn' : n = 2
    · rw [if_neg (by omega)]
      exact main (fun _ => hn')
    · rw [if_pos (.inr (.inr ⟨rfl, hn'⟩))]
      have : ieq (n : Int) 2 = false := ieq_f (by omega)
      refine pcall_cx E4_ok mixed (fun _ => none) Try.func97 rfl Try.ntmps97 Try.results97 (by simp) (by kernel_rfl) ?_
      repeat' first
        | (with_reducible refine gw_bool (fun _ => ?_) (fun _ => ?_))
        | (with_reducible refine condw_bool (fun _ => ?_) (fun _ => ?_))
        | simp [*, Stn.cs, By.cs]
end Go.Proofs.Ytcbddoopmkhlfaa
