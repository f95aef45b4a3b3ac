/-
  Stations: the builder takes a bay.
-/
import Derived.Test.YtcbddoopmkhlfaaSt4
namespace Go.Proofs.Ytcbddoopmkhlfaa
open Go.Pv Go.RowKit
set_option linter.unusedSimpArgs false
set_option linter.unusedVariables false
set_option maxRecDepth 100000
set_option maxHeartbeats 4000000

def cflF (b y : By) : Bool := !ieq b.kind 3 && (ieq b.kind y.kind && (ieq b.ob y.ob && ieq b.en y.en))
def cntF (nl ns : Int) (k : Int) : Option Int := if ieq k 1 = true then some nl else if ieq k 2 = true then some ns else if ieq k 3 = true then some 1 else none
/-- The error of a bay without its name, before its links. -/
def byE0 (nl ns : Int) (qs : List By) (b : By) : Int := match cntF nl ns b.kind with
  | none => 10
  | some c => if withinF b.ob 0 (IntKind.i64.wrap (c - 1)) = true then (if rngF b = true then (if qs.any (cflF b) = true then 12 else 0) else 2) else 9
def byE1 (nb nl ns : Int) (qs : List By) (b : By) : Int := if ieq (byE0 nl ns qs b) 0 = true then lksE nb b.kind b.lks else byE0 nl ns qs b
def byE (S : BS) (b : By) : Int := if nameF b.nm = true then (if dupF S.ns b.nm = true then 8 else byE1 S.bs.length S.ls.length S.ss.length S.qs b) else 7
theorem unBy_mk (nm : ByteArray) (kind ob en zr zx : Int) (lks : List Lk) (cl : Bool) (ct vt sat tr : Int) : unBy [.str nm, .int .i64 kind, .int .i64 ob, .int .i64 en, .int .i64 zr, .int .i64 zx, .list 2 (lks.map Lk.cs), .bool cl, .int .i64 ct, .int .i64 vt, .int .i64 sat, .int .i64 tr] = some ⟨nm, kind, ob, en, zr, zx, lks, cl, ct, vt, sat, tr⟩ := unBy_cs ⟨nm, kind, ob, en, zr, zx, lks, cl, ct, vt, sat, tr⟩
attribute [simp] unBy_mk
theorem scr_comp (k : Nat) : scrC k ∘ V.str = V.str := rfl
attribute [simp] scr_comp length_chunks
theorem bay_ok (S : BS) (b : By) (h1 : S.bs.length ≤ 100) (h2 : S.ls.length ≤ 100) (h3 : S.ss.length ≤ 100) (hl : S.qs.length ≤ 100) : PEff 76 (.agg b.cs) (byE S b) S { S with ns := S.ns ++ [b.nm], qs := S.qs ++ [b] } := by
  refine peff_of C3_ok mixed (fun _ => none) Try.func76 rfl Try.ntmps76 Try.results76 (by simp) (by kernel_rfl) ?_
  rintro bb h ⟨e0, e1, e2, e3, e4, e5, en⟩
  have f5 : (S.qs.length + 1) * 120 ≤ 140737488355328 := by omega
  have f6 : S.qs.length + 1 ≤ 9223372036854775807 := by omega
  obtain ⟨nm, kind, ob, ed, zr, zx, lks, cl, ct, vt, sat, tr⟩ := b
  cases hn : nameF nm
  · skip
    repeat' first
      | (with_reducible refine gw_bool (fun _ => ?_) (fun _ => ?_))
      | (with_reducible refine condw_bool (fun _ => ?_) (fun _ => ?_))
      | simp [*, nmE, byE, By.cs]
    exact ⟨_, View.refl _ _, rfl, fun h => by cases h⟩
  cases hd : dupF S.ns nm
  case true =>
    repeat' first
      | (with_reducible refine gw_bool (fun _ => ?_) (fun _ => ?_))
      | (with_reducible refine condw_bool (fun _ => ?_) (fun _ => ?_))
      | simp [*, nmE, byE, By.cs]
    exact ⟨_, View.refl _ _, rfl, fun h => by cases h⟩
  obtain ⟨nb, hnb⟩ : ∃ nb, S.bs.length = nb := ⟨_, rfl⟩
  obtain ⟨nl, hnl⟩ : ∃ nl, S.ls.length = nl := ⟨_, rfl⟩
  obtain ⟨ns, hns⟩ : ∃ ns, S.ss.length = ns := ⟨_, rfl⟩
  obtain ⟨nq, hnq⟩ : ∃ nq, S.qs.length = nq := ⟨_, rfl⟩
  by_cases k1 : kind = 1
  · subst k1
    cases hw : withinF ob 0 (IntKind.i64.wrap ((nl : Int) - 1))
    · have her : byE S (⟨nm, 1, ob, ed, zr, zx, lks, cl, ct, vt, sat, tr⟩ : By) = 9 := by simp [byE, byE1, byE0, cntF, ieq_nat, hn, hd, hnb, hnl, hns, hw]
      rw [her]
      repeat' first
        | (with_reducible refine gw_bool (fun _ => ?_) (fun _ => ?_))
        | (with_reducible refine condw_bool (fun _ => ?_) (fun _ => ?_))
        | simp [*, nmE, By.cs]
      exact ⟨_, View.refl _ _, rfl, fun h => by cases h⟩
    cases hr : rngF (⟨nm, 1, ob, ed, zr, zx, lks, cl, ct, vt, sat, tr⟩ : By)
    · have her : byE S (⟨nm, 1, ob, ed, zr, zx, lks, cl, ct, vt, sat, tr⟩ : By) = 2 := by simp [byE, byE1, byE0, cntF, ieq_nat, hn, hd, hnb, hnl, hns, hw, hr]
      rw [her]
      repeat' first
        | (with_reducible refine gw_bool (fun _ => ?_) (fun _ => ?_))
        | (with_reducible refine condw_bool (fun _ => ?_) (fun _ => ?_))
        | simp [*, nmE, By.cs]
      exact ⟨_, View.refl _ _, rfl, fun h => by cases h⟩
    have hE1 : S.qs.any (cflF (⟨nm, 1, ob, ed, zr, zx, lks, cl, ct, vt, sat, tr⟩ : By)) = true → byE S (⟨nm, 1, ob, ed, zr, zx, lks, cl, ct, vt, sat, tr⟩ : By) = 12 := fun hc => by simp only [byE, byE1, byE0, cntF, hn, hd, hnb, hnl, hns, hw, hr, hc]; simp [ieq_nat, hw]
    have hE2 : S.qs.any (cflF (⟨nm, 1, ob, ed, zr, zx, lks, cl, ct, vt, sat, tr⟩ : By)) = false → byE S (⟨nm, 1, ob, ed, zr, zx, lks, cl, ct, vt, sat, tr⟩ : By) = lksE nb 1 lks := fun hc => by simp only [byE, byE1, byE0, cntF, hn, hd, hnb, hnl, hns, hw, hr, hc]; simp [ieq_nat, hw]
    obtain ⟨er, her⟩ : ∃ er, byE S (⟨nm, 1, ob, ed, zr, zx, lks, cl, ct, vt, sat, tr⟩ : By) = er := ⟨_, rfl⟩
    rw [her] at hE1 hE2 ⊢
    obtain ⟨cf, hcf⟩ : ∃ cf, cflF (⟨nm, 1, ob, ed, zr, zx, lks, cl, ct, vt, sat, tr⟩ : By) = cf := ⟨_, rfl⟩
    rw [hcf] at hE1 hE2
    obtain ⟨qs, hqs⟩ : ∃ qs, S.qs = qs := ⟨_, rfl⟩
    rw [hqs] at hnq hE1 hE2
    replace hE1 : Hid (qs.any cf = true → er = 12) := hE1
    replace hE2 : Hid (qs.any cf = false → er = lksE nb 1 lks) := hE2
    replace hcf : Hid (cflF (⟨nm, 1, ob, ed, zr, zx, lks, cl, ct, vt, sat, tr⟩ : By) = cf) := hcf
    clear her
    repeat' first
      | (with_reducible refine gw_bool (fun _ => ?_) (fun _ => ?_))
      | (with_reducible refine condw_bool (fun _ => ?_) (fun _ => ?_))
      | simp [*, nmE, By.cs]
    refine lp_go (D := (fun _ => none)) C3_ok mixed (by kernel_rfl) [0, 3, 50, 51] [3, 8, 100, 101, 1000, 1001, 1002, 1003, 1004, 1005] (α := Nat) (fun i e h => i ≤ nq ∧ e 52 = .int .i64 i ∧ Hid ((qs.take i).any cf = false) ∧ Hid (∀ k, k < 1000 → k ≠ 3 → h k = none)) (fun i => nq - i) 0 ?_ ?_
    · refine ⟨by omega, rfl, show _ = _ by simp, fun k hk hk3 => ?_⟩
      have := en k hk
      simp [*]
    · rintro i e hh hk hkh ⟨hi, g7, hinv, hlow⟩
      simp [Keep] at hk
      simp [KeepH, *] at hkh
      have hnq100 : nq ≤ 100 := by rw [← hnq, ← hqs]; exact hl
      by_cases hlt : i < nq
      · obtain ⟨y, hy, hy'⟩ := at_ex (show i < qs.length by omega)
        have f1 : ilt (i : Int) (nq : Int) = true := ilt_t (by omega)
        have w1 : IntKind.i64.wrap ((i : Int) + 1) = ((i + 1 : Nat) : Int) := wrap_succ (by omega)
        have hnext : (qs.take (i + 1)).any cf = cf y := by
          rw [List.take_add_one, hy, List.any_append, hinv.out]; simp
        have hp : ((byC qs).drop (i * 12)).take 12 = y.cs := flat_part (sz := 12) (fun _ => rfl) qs i y hy
        have hle : i * 12 + 12 ≤ nq * 12 := by omega
        cases hcy : cf y
        · have hq : Hid ((qs.take (i + 1)).any cf = false) := by rw [hcy] at hnext; exact hnext
          have hcy2 := hcy
          rw [← hcf.out, cflF] at hcy2
          replace hcy2 : Hid ((!ieq 1 3 && (ieq 1 y.kind && (ieq ob y.ob && ieq ed y.en))) = false) := hcy2
          clear hinv hnext hE1 hE2
          repeat' first
            | (with_reducible refine gw_bool (fun _ => ?_) (fun _ => ?_))
            | (with_reducible refine condw_bool (fun _ => ?_) (fun _ => ?_))
            | simp [*, By.cs]
          all_goals first
            | (exfalso; have hcy2 := hcy2.out; simp [*] at hcy2; done)
            | skip
          all_goals refine nxt_go (i + 1) ((View.forget _ _ 8)) (by omega) (by simp [*, Keep, St.forget, scr, scrC]) (by simp [*, KeepH, St.forget, scr, scrC]) ?_
          all_goals
            refine ⟨by omega, ?_, hq, fun k hk hk3 => ?_⟩
            · simp [*, St.forget, scr, scrC]
            · have h0 := hlow.out k hk hk3
              by_cases hk8 : k = 8
              · simp [hk8, St.forget]
              · simp [hk8, St.forget, h0]
        · have hall : qs.any cf = true := List.any_eq_true.2 ⟨y, List.mem_of_getElem? hy, hcy⟩
          have her : er = 12 := hE1.out hall
          have hcy2 := hcy
          rw [← hcf.out, cflF] at hcy2
          replace hcy2 : Hid ((!ieq 1 3 && (ieq 1 y.kind && (ieq ob y.ob && ieq ed y.en))) = true) := hcy2
          clear hinv hnext hE1 hE2 hall
          subst her
          repeat' first
            | (with_reducible refine gw_bool (fun _ => ?_) (fun _ => ?_))
            | (with_reducible refine condw_bool (fun _ => ?_) (fun _ => ?_))
            | simp [*, By.cs]
          all_goals first
            | (exfalso; have hcy2 := hcy2.out; simp [*] at hcy2; done)
            | skip
          all_goals (exact ⟨_, View.refl _ _, rfl, fun h => by cases h⟩)
      · have f1 : ilt (i : Int) (nq : Int) = false := ilt_f (by omega)
        have hall : qs.any cf = false := by
          have := hinv.out
          rwa [List.take_of_length_le (by omega)] at this
        have her := hE2.out hall
        have f5' : (nq + 1) * 120 ≤ 140737488355328 := by omega
        have f6' : nq + 1 ≤ 9223372036854775807 := by omega
        clear hinv hE1 hE2 hall hcf
        cases hL : ieq er 0
        · skip
          rw [her] at hL
          repeat' first
            | (with_reducible refine gw_bool (fun _ => ?_) (fun _ => ?_))
            | (with_reducible refine condw_bool (fun _ => ?_) (fun _ => ?_))
            | simp [*, By.cs]
          exact ⟨_, View.refl _ _, rfl, fun h => by rw [h] at hL; cases hL⟩
        · have hz : er = 0 := by simpa [ieq] using hL
          rw [hz] at her
          subst hz
          replace her := her.symm
          repeat' first
            | (with_reducible refine gw_bool (fun _ => ?_) (fun _ => ?_))
            | (with_reducible refine condw_bool (fun _ => ?_) (fun _ => ?_))
            | simp [*, By.cs, appendV, srcCells, St.forget, scr, scrC]
          refine ⟨_, (View.forget _ _ 100).trans (View.forget _ _ 3), rfl, fun _ => ⟨?_, ?_⟩⟩
          · simp [*, St.forget, scr]
          · constructor
            all_goals try (simp [*, St.forget, scrC, byC_snoc, By.cs]; done)
            · intro k hk
              have h0 := hlow.out k hk
              have k0 : k ≠ 1000 := by omega
              have k1 : k ≠ 1004 := by omega
              have k5 : k ≠ 1005 := by omega
              clear en e0 e1 e2 e3 e4 e5
              by_cases hk1 : k = 100
              · simp [hk1, St.forget]
              · by_cases hk2 : k = 3
                · simp [hk2, St.forget]
                · simp [*, St.forget, scrC]
  by_cases k2 : kind = 2
  · subst k2
    cases hw : withinF ob 0 (IntKind.i64.wrap ((ns : Int) - 1))
    · have her : byE S (⟨nm, 2, ob, ed, zr, zx, lks, cl, ct, vt, sat, tr⟩ : By) = 9 := by simp [byE, byE1, byE0, cntF, ieq_nat, hn, hd, hnb, hnl, hns, hw]
      rw [her]
      repeat' first
        | (with_reducible refine gw_bool (fun _ => ?_) (fun _ => ?_))
        | (with_reducible refine condw_bool (fun _ => ?_) (fun _ => ?_))
        | simp [*, nmE, By.cs]
      exact ⟨_, View.refl _ _, rfl, fun h => by cases h⟩
    cases hr : rngF (⟨nm, 2, ob, ed, zr, zx, lks, cl, ct, vt, sat, tr⟩ : By)
    · have her : byE S (⟨nm, 2, ob, ed, zr, zx, lks, cl, ct, vt, sat, tr⟩ : By) = 2 := by simp [byE, byE1, byE0, cntF, ieq_nat, hn, hd, hnb, hnl, hns, hw, hr]
      rw [her]
      repeat' first
        | (with_reducible refine gw_bool (fun _ => ?_) (fun _ => ?_))
        | (with_reducible refine condw_bool (fun _ => ?_) (fun _ => ?_))
        | simp [*, nmE, By.cs]
      exact ⟨_, View.refl _ _, rfl, fun h => by cases h⟩
    have hE1 : S.qs.any (cflF (⟨nm, 2, ob, ed, zr, zx, lks, cl, ct, vt, sat, tr⟩ : By)) = true → byE S (⟨nm, 2, ob, ed, zr, zx, lks, cl, ct, vt, sat, tr⟩ : By) = 12 := fun hc => by simp only [byE, byE1, byE0, cntF, hn, hd, hnb, hnl, hns, hw, hr, hc]; simp [ieq_nat, hw]
    have hE2 : S.qs.any (cflF (⟨nm, 2, ob, ed, zr, zx, lks, cl, ct, vt, sat, tr⟩ : By)) = false → byE S (⟨nm, 2, ob, ed, zr, zx, lks, cl, ct, vt, sat, tr⟩ : By) = lksE nb 2 lks := fun hc => by simp only [byE, byE1, byE0, cntF, hn, hd, hnb, hnl, hns, hw, hr, hc]; simp [ieq_nat, hw]
    obtain ⟨er, her⟩ : ∃ er, byE S (⟨nm, 2, ob, ed, zr, zx, lks, cl, ct, vt, sat, tr⟩ : By) = er := ⟨_, rfl⟩
    rw [her] at hE1 hE2 ⊢
    obtain ⟨cf, hcf⟩ : ∃ cf, cflF (⟨nm, 2, ob, ed, zr, zx, lks, cl, ct, vt, sat, tr⟩ : By) = cf := ⟨_, rfl⟩
    rw [hcf] at hE1 hE2
    obtain ⟨qs, hqs⟩ : ∃ qs, S.qs = qs := ⟨_, rfl⟩
    rw [hqs] at hnq hE1 hE2
    replace hE1 : Hid (qs.any cf = true → er = 12) := hE1
    replace hE2 : Hid (qs.any cf = false → er = lksE nb 2 lks) := hE2
    replace hcf : Hid (cflF (⟨nm, 2, ob, ed, zr, zx, lks, cl, ct, vt, sat, tr⟩ : By) = cf) := hcf
    clear her
    repeat' first
      | (with_reducible refine gw_bool (fun _ => ?_) (fun _ => ?_))
      | (with_reducible refine condw_bool (fun _ => ?_) (fun _ => ?_))
      | simp [*, nmE, By.cs]
    refine lp_go (D := (fun _ => none)) C3_ok mixed (by kernel_rfl) [0, 3, 50, 51] [3, 8, 100, 101, 1000, 1001, 1002, 1003, 1004, 1005] (α := Nat) (fun i e h => i ≤ nq ∧ e 52 = .int .i64 i ∧ Hid ((qs.take i).any cf = false) ∧ Hid (∀ k, k < 1000 → k ≠ 3 → h k = none)) (fun i => nq - i) 0 ?_ ?_
    · refine ⟨by omega, rfl, show _ = _ by simp, fun k hk hk3 => ?_⟩
      have := en k hk
      simp [*]
    · rintro i e hh hk hkh ⟨hi, g7, hinv, hlow⟩
      simp [Keep] at hk
      simp [KeepH, *] at hkh
      have hnq100 : nq ≤ 100 := by rw [← hnq, ← hqs]; exact hl
      by_cases hlt : i < nq
      · obtain ⟨y, hy, hy'⟩ := at_ex (show i < qs.length by omega)
        have f1 : ilt (i : Int) (nq : Int) = true := ilt_t (by omega)
        have w1 : IntKind.i64.wrap ((i : Int) + 1) = ((i + 1 : Nat) : Int) := wrap_succ (by omega)
        have hnext : (qs.take (i + 1)).any cf = cf y := by
          rw [List.take_add_one, hy, List.any_append, hinv.out]; simp
        have hp : ((byC qs).drop (i * 12)).take 12 = y.cs := flat_part (sz := 12) (fun _ => rfl) qs i y hy
        have hle : i * 12 + 12 ≤ nq * 12 := by omega
        cases hcy : cf y
        · have hq : Hid ((qs.take (i + 1)).any cf = false) := by rw [hcy] at hnext; exact hnext
          have hcy2 := hcy
          rw [← hcf.out, cflF] at hcy2
          replace hcy2 : Hid ((!ieq 2 3 && (ieq 2 y.kind && (ieq ob y.ob && ieq ed y.en))) = false) := hcy2
          clear hinv hnext hE1 hE2
          repeat' first
            | (with_reducible refine gw_bool (fun _ => ?_) (fun _ => ?_))
            | (with_reducible refine condw_bool (fun _ => ?_) (fun _ => ?_))
            | simp [*, By.cs]
          all_goals first
            | (exfalso; have hcy2 := hcy2.out; simp [*] at hcy2; done)
            | skip
          all_goals refine nxt_go (i + 1) ((View.forget _ _ 8)) (by omega) (by simp [*, Keep, St.forget, scr, scrC]) (by simp [*, KeepH, St.forget, scr, scrC]) ?_
          all_goals
            refine ⟨by omega, ?_, hq, fun k hk hk3 => ?_⟩
            · simp [*, St.forget, scr, scrC]
            · have h0 := hlow.out k hk hk3
              by_cases hk8 : k = 8
              · simp [hk8, St.forget]
              · simp [hk8, St.forget, h0]
        · have hall : qs.any cf = true := List.any_eq_true.2 ⟨y, List.mem_of_getElem? hy, hcy⟩
          have her : er = 12 := hE1.out hall
          have hcy2 := hcy
          rw [← hcf.out, cflF] at hcy2
          replace hcy2 : Hid ((!ieq 2 3 && (ieq 2 y.kind && (ieq ob y.ob && ieq ed y.en))) = true) := hcy2
          clear hinv hnext hE1 hE2 hall
          subst her
          repeat' first
            | (with_reducible refine gw_bool (fun _ => ?_) (fun _ => ?_))
            | (with_reducible refine condw_bool (fun _ => ?_) (fun _ => ?_))
            | simp [*, By.cs]
          all_goals first
            | (exfalso; have hcy2 := hcy2.out; simp [*] at hcy2; done)
            | skip
          all_goals (exact ⟨_, View.refl _ _, rfl, fun h => by cases h⟩)
      · have f1 : ilt (i : Int) (nq : Int) = false := ilt_f (by omega)
        have hall : qs.any cf = false := by
          have := hinv.out
          rwa [List.take_of_length_le (by omega)] at this
        have her := hE2.out hall
        have f5' : (nq + 1) * 120 ≤ 140737488355328 := by omega
        have f6' : nq + 1 ≤ 9223372036854775807 := by omega
        clear hinv hE1 hE2 hall hcf
        cases hL : ieq er 0
        · skip
          rw [her] at hL
          repeat' first
            | (with_reducible refine gw_bool (fun _ => ?_) (fun _ => ?_))
            | (with_reducible refine condw_bool (fun _ => ?_) (fun _ => ?_))
            | simp [*, By.cs]
          exact ⟨_, View.refl _ _, rfl, fun h => by rw [h] at hL; cases hL⟩
        · have hz : er = 0 := by simpa [ieq] using hL
          rw [hz] at her
          subst hz
          replace her := her.symm
          repeat' first
            | (with_reducible refine gw_bool (fun _ => ?_) (fun _ => ?_))
            | (with_reducible refine condw_bool (fun _ => ?_) (fun _ => ?_))
            | simp [*, By.cs, appendV, srcCells, St.forget, scr, scrC]
          refine ⟨_, (View.forget _ _ 100).trans (View.forget _ _ 3), rfl, fun _ => ⟨?_, ?_⟩⟩
          · simp [*, St.forget, scr]
          · constructor
            all_goals try (simp [*, St.forget, scrC, byC_snoc, By.cs]; done)
            · intro k hk
              have h0 := hlow.out k hk
              have k0 : k ≠ 1000 := by omega
              have k1 : k ≠ 1004 := by omega
              have k5 : k ≠ 1005 := by omega
              clear en e0 e1 e2 e3 e4 e5
              by_cases hk1 : k = 100
              · simp [hk1, St.forget]
              · by_cases hk2 : k = 3
                · simp [hk2, St.forget]
                · simp [*, St.forget, scrC]
  by_cases k3 : kind = 3
  · subst k3
    cases hw : withinF ob 0 0
    · have her : byE S (⟨nm, 3, ob, ed, zr, zx, lks, cl, ct, vt, sat, tr⟩ : By) = 9 := by simp [byE, byE1, byE0, cntF, ieq_nat, hn, hd, hnb, hnl, hns, hw]
      rw [her]
      repeat' first
        | (with_reducible refine gw_bool (fun _ => ?_) (fun _ => ?_))
        | (with_reducible refine condw_bool (fun _ => ?_) (fun _ => ?_))
        | simp [*, nmE, By.cs]
      exact ⟨_, View.refl _ _, rfl, fun h => by cases h⟩
    cases hr : rngF (⟨nm, 3, ob, ed, zr, zx, lks, cl, ct, vt, sat, tr⟩ : By)
    · have her : byE S (⟨nm, 3, ob, ed, zr, zx, lks, cl, ct, vt, sat, tr⟩ : By) = 2 := by simp [byE, byE1, byE0, cntF, ieq_nat, hn, hd, hnb, hnl, hns, hw, hr]
      rw [her]
      repeat' first
        | (with_reducible refine gw_bool (fun _ => ?_) (fun _ => ?_))
        | (with_reducible refine condw_bool (fun _ => ?_) (fun _ => ?_))
        | simp [*, nmE, By.cs]
      exact ⟨_, View.refl _ _, rfl, fun h => by cases h⟩
    have hE1 : S.qs.any (cflF (⟨nm, 3, ob, ed, zr, zx, lks, cl, ct, vt, sat, tr⟩ : By)) = true → byE S (⟨nm, 3, ob, ed, zr, zx, lks, cl, ct, vt, sat, tr⟩ : By) = 12 := fun hc => by simp only [byE, byE1, byE0, cntF, hn, hd, hnb, hnl, hns, hw, hr, hc]; simp [ieq_nat, hw]
    have hE2 : S.qs.any (cflF (⟨nm, 3, ob, ed, zr, zx, lks, cl, ct, vt, sat, tr⟩ : By)) = false → byE S (⟨nm, 3, ob, ed, zr, zx, lks, cl, ct, vt, sat, tr⟩ : By) = lksE nb 3 lks := fun hc => by simp only [byE, byE1, byE0, cntF, hn, hd, hnb, hnl, hns, hw, hr, hc]; simp [ieq_nat, hw]
    obtain ⟨er, her⟩ : ∃ er, byE S (⟨nm, 3, ob, ed, zr, zx, lks, cl, ct, vt, sat, tr⟩ : By) = er := ⟨_, rfl⟩
    rw [her] at hE1 hE2 ⊢
    obtain ⟨cf, hcf⟩ : ∃ cf, cflF (⟨nm, 3, ob, ed, zr, zx, lks, cl, ct, vt, sat, tr⟩ : By) = cf := ⟨_, rfl⟩
    rw [hcf] at hE1 hE2
    obtain ⟨qs, hqs⟩ : ∃ qs, S.qs = qs := ⟨_, rfl⟩
    rw [hqs] at hnq hE1 hE2
    replace hE1 : Hid (qs.any cf = true → er = 12) := hE1
    replace hE2 : Hid (qs.any cf = false → er = lksE nb 3 lks) := hE2
    replace hcf : Hid (cflF (⟨nm, 3, ob, ed, zr, zx, lks, cl, ct, vt, sat, tr⟩ : By) = cf) := hcf
    clear her
    repeat' first
      | (with_reducible refine gw_bool (fun _ => ?_) (fun _ => ?_))
      | (with_reducible refine condw_bool (fun _ => ?_) (fun _ => ?_))
      | simp [*, nmE, By.cs]
    refine lp_go (D := (fun _ => none)) C3_ok mixed (by kernel_rfl) [0, 3, 50, 51] [3, 8, 100, 101, 1000, 1001, 1002, 1003, 1004, 1005] (α := Nat) (fun i e h => i ≤ nq ∧ e 52 = .int .i64 i ∧ Hid ((qs.take i).any cf = false) ∧ Hid (∀ k, k < 1000 → k ≠ 3 → h k = none)) (fun i => nq - i) 0 ?_ ?_
    · refine ⟨by omega, rfl, show _ = _ by simp, fun k hk hk3 => ?_⟩
      have := en k hk
      simp [*]
    · rintro i e hh hk hkh ⟨hi, g7, hinv, hlow⟩
      simp [Keep] at hk
      simp [KeepH, *] at hkh
      have hnq100 : nq ≤ 100 := by rw [← hnq, ← hqs]; exact hl
      by_cases hlt : i < nq
      · obtain ⟨y, hy, hy'⟩ := at_ex (show i < qs.length by omega)
        have f1 : ilt (i : Int) (nq : Int) = true := ilt_t (by omega)
        have w1 : IntKind.i64.wrap ((i : Int) + 1) = ((i + 1 : Nat) : Int) := wrap_succ (by omega)
        have hnext : (qs.take (i + 1)).any cf = cf y := by
          rw [List.take_add_one, hy, List.any_append, hinv.out]; simp
        have hp : ((byC qs).drop (i * 12)).take 12 = y.cs := flat_part (sz := 12) (fun _ => rfl) qs i y hy
        have hle : i * 12 + 12 ≤ nq * 12 := by omega
        cases hcy : cf y
        · have hq : Hid ((qs.take (i + 1)).any cf = false) := by rw [hcy] at hnext; exact hnext
          have hcy2 := hcy
          rw [← hcf.out, cflF] at hcy2
          replace hcy2 : Hid ((!ieq 3 3 && (ieq 3 y.kind && (ieq ob y.ob && ieq ed y.en))) = false) := hcy2
          clear hinv hnext hE1 hE2
          repeat' first
            | (with_reducible refine gw_bool (fun _ => ?_) (fun _ => ?_))
            | (with_reducible refine condw_bool (fun _ => ?_) (fun _ => ?_))
            | simp [*, By.cs]
          all_goals first
            | (exfalso; have hcy2 := hcy2.out; simp [*] at hcy2; done)
            | skip
          all_goals refine nxt_go (i + 1) ((View.forget _ _ 8)) (by omega) (by simp [*, Keep, St.forget, scr, scrC]) (by simp [*, KeepH, St.forget, scr, scrC]) ?_
          all_goals
            refine ⟨by omega, ?_, hq, fun k hk hk3 => ?_⟩
            · simp [*, St.forget, scr, scrC]
            · have h0 := hlow.out k hk hk3
              by_cases hk8 : k = 8
              · simp [hk8, St.forget]
              · simp [hk8, St.forget, h0]
        · have hall : qs.any cf = true := List.any_eq_true.2 ⟨y, List.mem_of_getElem? hy, hcy⟩
          have her : er = 12 := hE1.out hall
          have hcy2 := hcy
          rw [← hcf.out, cflF] at hcy2
          replace hcy2 : Hid ((!ieq 3 3 && (ieq 3 y.kind && (ieq ob y.ob && ieq ed y.en))) = true) := hcy2
          clear hinv hnext hE1 hE2 hall
          subst her
          repeat' first
            | (with_reducible refine gw_bool (fun _ => ?_) (fun _ => ?_))
            | (with_reducible refine condw_bool (fun _ => ?_) (fun _ => ?_))
            | simp [*, By.cs]
          all_goals first
            | (exfalso; have hcy2 := hcy2.out; simp [*] at hcy2; done)
            | skip
          all_goals (exact ⟨_, View.refl _ _, rfl, fun h => by cases h⟩)
      · have f1 : ilt (i : Int) (nq : Int) = false := ilt_f (by omega)
        have hall : qs.any cf = false := by
          have := hinv.out
          rwa [List.take_of_length_le (by omega)] at this
        have her := hE2.out hall
        have f5' : (nq + 1) * 120 ≤ 140737488355328 := by omega
        have f6' : nq + 1 ≤ 9223372036854775807 := by omega
        clear hinv hE1 hE2 hall hcf
        cases hL : ieq er 0
        · skip
          rw [her] at hL
          repeat' first
            | (with_reducible refine gw_bool (fun _ => ?_) (fun _ => ?_))
            | (with_reducible refine condw_bool (fun _ => ?_) (fun _ => ?_))
            | simp [*, By.cs]
          exact ⟨_, View.refl _ _, rfl, fun h => by rw [h] at hL; cases hL⟩
        · have hz : er = 0 := by simpa [ieq] using hL
          rw [hz] at her
          subst hz
          replace her := her.symm
          repeat' first
            | (with_reducible refine gw_bool (fun _ => ?_) (fun _ => ?_))
            | (with_reducible refine condw_bool (fun _ => ?_) (fun _ => ?_))
            | simp [*, By.cs, appendV, srcCells, St.forget, scr, scrC]
          refine ⟨_, (View.forget _ _ 100).trans (View.forget _ _ 3), rfl, fun _ => ⟨?_, ?_⟩⟩
          · simp [*, St.forget, scr]
          · constructor
            all_goals try (simp [*, St.forget, scrC, byC_snoc, By.cs]; done)
            · intro k hk
              have h0 := hlow.out k hk
              have k0 : k ≠ 1000 := by omega
              have k1 : k ≠ 1004 := by omega
              have k5 : k ≠ 1005 := by omega
              clear en e0 e1 e2 e3 e4 e5
              by_cases hk1 : k = 100
              · simp [hk1, St.forget]
              · by_cases hk2 : k = 3
                · simp [hk2, St.forget]
                · simp [*, St.forget, scrC]
  have q1 : ieq kind 1 = false := by simpa [ieq] using k1
  have q2 : ieq kind 2 = false := by simpa [ieq] using k2
  have q3 : ieq kind 3 = false := by simpa [ieq] using k3
  have her : byE S (⟨nm, kind, ob, ed, zr, zx, lks, cl, ct, vt, sat, tr⟩ : By) = 10 := by simp [byE, byE1, byE0, cntF, ieq_nat, hn, hd, q1, q2, q3]
  rw [her]
  repeat' first
    | (with_reducible refine gw_bool (fun _ => ?_) (fun _ => ?_))
    | (with_reducible refine condw_bool (fun _ => ?_) (fun _ => ?_))
    | simp [*, nmE, By.cs]
  exact ⟨_, View.refl _ _, rfl, fun h => by cases h⟩
end Go.Proofs.Ytcbddoopmkhlfaa
