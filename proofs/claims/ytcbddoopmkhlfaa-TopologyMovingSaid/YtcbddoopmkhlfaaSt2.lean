/-
  Stations: the builder's checks of a name and of a bay's links.
-/
import Derived.Test.YtcbddoopmkhlfaaSt1
namespace Go.Proofs.Ytcbddoopmkhlfaa
open Go.Pv Go.RowKit
set_option linter.unusedSimpArgs false
set_option linter.unusedVariables false
set_option maxRecDepth 100000
set_option maxHeartbeats 4000000

def nmE (s : ByteArray) (dup : Bool) : Int := if nameF s = true then (if dup = true then 8 else 0) else 7
theorem bname_ok (a0 a1 a2 a3 a4 : V) (ks : List V) (s : ByteArray) (b : Bool) (hb : findS ks s = some b) : PCall Try.prog 88 [.rp [a0, a1, a2, a3, a4, .rset ks], .str s] (.int .i64 (nmE s b)) := by
  cases h1 : nameF s <;> cases b
  all_goals
    refine pcall_cx C2_ok mixed (fun _ => none) Try.func88 rfl Try.ntmps88 Try.results88 (by simp) (by kernel_rfl) ?_
  all_goals
    repeat' first
      | (with_reducible refine gw_bool (fun _ => ?_) (fun _ => ?_))
      | (with_reducible refine condw_bool (fun _ => ?_) (fun _ => ?_))
      | simp [*, nmE]
def Tbname : List V → Option V
  | [.rp [_, _, _, _, _, .rset ks], .str s] => (findS ks s).map fun b => .int .i64 (nmE s b)
  | _ => none
theorem bname_tab : ∀ vs v, Tbname vs = some v → PCall Try.prog 88 vs v := by
  intro vs v h; unfold Tbname at h; split at h
  · simp only [Option.map_eq_some_iff] at h
    obtain ⟨b, hb, rfl⟩ := h
    exact bname_ok _ _ _ _ _ _ _ _ hb
  · cases h
def Tranges : List V → Option V
  | [.agg cs] => (unBy cs).map fun b => .bool (rngF b)
  | _ => none
theorem ranges_tab : ∀ vs v, Tranges vs = some v → PCall Try.prog 91 vs v := by
  intro vs v h; unfold Tranges at h; split at h
  · simp only [Option.map_eq_some_iff] at h
    obtain ⟨b, hb, rfl⟩ := h
    rw [unBy_inv _ _ hb]
    exact ranges_ok _
  · cases h
/-- The error of one link: nb buses, the bay's kind, the bus of the link before. -/
def lkE (nb kind : Int) (first : Bool) (prev : Int) (l : Lk) : Int :=
  if withinF l.bus 0 (IntKind.i64.wrap (nb - 1)) = true then
    (if (!ieq l.pos 1 && (!ieq l.pos 0 || ieq kind 3)) = true then 16 else if (!first && ieq prev l.bus) = true then 12 else 0)
  else 9
def lksE (nb : Int) (kind : Int) : List Lk → Int
  | [a] => if ieq kind 3 = true then 3 else lkE nb kind true 0 a
  | [a, b] => if ieq (lkE nb kind true 0 a) 0 = true then lkE nb kind false a.bus b else lkE nb kind true 0 a
  | _ => 3
theorem len3 {α : Type} (t : List α) : ilt 2 ((t.length + 1 + 1 + 1 : Nat) : Int) = true := ilt_t (by omega)
theorem len3' {α : Type} (t : List α) : ilt ((t.length + 1 + 1 + 1 : Nat) : Int) 1 = false := ilt_f (by omega)
theorem links_ok (bs : List (List V)) (b : By) (a0 a2 a3 a4 a5 : V) : PCall Try.prog 92 [.rp [a0, .list 1 bs, a2, a3, a4, a5], .agg b.cs] (.int .i64 (lksE bs.length b.kind b.lks)) := by
  obtain ⟨nb, hnb⟩ : ∃ nb : Int, (bs.length : Int) = nb := ⟨_, rfl⟩
  obtain ⟨nm, kind, ob, en, zr, zx, lks, cl, ct, vt, sat, tr⟩ := b
  match lks with
  | [] =>
    refine pcall_cx C2_ok mixed (fun _ => none) Try.func92 rfl Try.ntmps92 Try.results92 (by simp) (by kernel_rfl) ?_
    repeat' first
      | (with_reducible refine gw_bool (fun _ => ?_) (fun _ => ?_))
      | (with_reducible refine condw_bool (fun _ => ?_) (fun _ => ?_))
      | simp [*, By.cs, lksE, Lk.cs]
  | x :: y :: z :: t =>
    have e1 := len3 (List.map Lk.cs t)
    have e2 := len3' (List.map Lk.cs t)
    have hh : lksE bs.length kind (x :: y :: z :: t) = 3 := rfl
    show PCall _ _ _ (.int .i64 (lksE bs.length kind (x :: y :: z :: t)))
    rw [hh]
    obtain ⟨u, hu⟩ : ∃ u, x :: y :: z :: t = u := ⟨_, rfl⟩
    have hl1 : ilt 2 ((u.length : Nat) : Int) = true := by rw [← hu]; exact ilt_t (by simp; omega)
    have hl2 : ilt ((u.length : Nat) : Int) 1 = false := by rw [← hu]; exact ilt_f (by simp; omega)
    rw [hu]
    clear hu e1 e2 hh
    refine pcall_cx C2_ok mixed (fun _ => none) Try.func92 rfl Try.ntmps92 Try.results92 (by simp) (by kernel_rfl) ?_
    repeat' first
      | (with_reducible refine gw_bool (fun _ => ?_) (fun _ => ?_))
      | (with_reducible refine condw_bool (fun _ => ?_) (fun _ => ?_))
      | simp [*, By.cs]
  | [x] =>
    cases k3 : ieq kind 3
    · cases h1 : withinF x.bus 0 (IntKind.i64.wrap (nb - 1)) <;> cases h2 : ieq x.pos 1 <;> cases h3 : ieq x.pos 0
      all_goals
        refine pcall_cx C2_ok mixed (fun _ => none) Try.func92 rfl Try.ntmps92 Try.results92 (by simp) (by kernel_rfl) ?_
      all_goals
        repeat' first
          | (with_reducible refine gw_bool (fun _ => ?_) (fun _ => ?_))
          | (with_reducible refine condw_bool (fun _ => ?_) (fun _ => ?_))
          | (refine lp_unroll (D := (fun _ => none)) C2_ok mixed (by kernel_rfl) ?_)
          | simp [*, By.cs, lksE, lkE, Lk.cs]
    · refine pcall_cx C2_ok mixed (fun _ => none) Try.func92 rfl Try.ntmps92 Try.results92 (by simp) (by kernel_rfl) ?_
      repeat' first
        | (with_reducible refine gw_bool (fun _ => ?_) (fun _ => ?_))
        | (with_reducible refine condw_bool (fun _ => ?_) (fun _ => ?_))
        | (refine lp_unroll (D := (fun _ => none)) C2_ok mixed (by kernel_rfl) ?_)
        | simp [*, By.cs, lksE, lkE, Lk.cs]
  | [x, y] =>
    cases k3 : ieq kind 3 <;> cases wx : withinF x.bus 0 (IntKind.i64.wrap (nb - 1))
    · skip
      refine pcall_cx C2_ok mixed (fun _ => none) Try.func92 rfl Try.ntmps92 Try.results92 (by simp) (by kernel_rfl) ?_
      repeat' first
        | (with_reducible refine gw_bool (fun _ => ?_) (fun _ => ?_))
        | (with_reducible refine condw_bool (fun _ => ?_) (fun _ => ?_))
        | simp [*, By.cs, lksE, lkE, Lk.cs]
      refine lp_go (D := (fun _ => none)) C2_ok mixed (by kernel_rfl) [0, 3, 27, 28] [3, 7] (α := Nat) (fun i e h => i ≤ 0 ∧ e 29 = .int .i64 i) (fun i => 2 - i) 0 ?_ ?_
      · exact ⟨by omega, rfl⟩
      · rintro i e h hk hkh ⟨hi, g⟩
        simp [Keep] at hk
        simp [KeepH] at hkh
        obtain rfl : i = 0 := by omega
        repeat' first
          | (with_reducible refine gw_bool (fun _ => ?_) (fun _ => ?_))
          | (with_reducible refine condw_bool (fun _ => ?_) (fun _ => ?_))
          | simp [*, By.cs, lksE, lkE, Lk.cs]
    · cases px1 : ieq x.pos 1
      · cases px0 : ieq x.pos 0
        · skip
          refine pcall_cx C2_ok mixed (fun _ => none) Try.func92 rfl Try.ntmps92 Try.results92 (by simp) (by kernel_rfl) ?_
          repeat' first
            | (with_reducible refine gw_bool (fun _ => ?_) (fun _ => ?_))
            | (with_reducible refine condw_bool (fun _ => ?_) (fun _ => ?_))
            | simp [*, By.cs, lksE, lkE, Lk.cs]
          refine lp_go (D := (fun _ => none)) C2_ok mixed (by kernel_rfl) [0, 3, 27, 28] [3, 7] (α := Nat) (fun i e h => i ≤ 0 ∧ e 29 = .int .i64 i) (fun i => 2 - i) 0 ?_ ?_
          · exact ⟨by omega, rfl⟩
          · rintro i e h hk hkh ⟨hi, g⟩
            simp [Keep] at hk
            simp [KeepH] at hkh
            obtain rfl : i = 0 := by omega
            repeat' first
              | (with_reducible refine gw_bool (fun _ => ?_) (fun _ => ?_))
              | (with_reducible refine condw_bool (fun _ => ?_) (fun _ => ?_))
              | simp [*, By.cs, lksE, lkE, Lk.cs]
        · cases wy : withinF y.bus 0 (IntKind.i64.wrap (nb - 1))
          · skip
            refine pcall_cx C2_ok mixed (fun _ => none) Try.func92 rfl Try.ntmps92 Try.results92 (by simp) (by kernel_rfl) ?_
            repeat' first
              | (with_reducible refine gw_bool (fun _ => ?_) (fun _ => ?_))
              | (with_reducible refine condw_bool (fun _ => ?_) (fun _ => ?_))
              | simp [*, By.cs, lksE, lkE, Lk.cs]
            refine lp_go (D := (fun _ => none)) C2_ok mixed (by kernel_rfl) [0, 3, 27, 28] [3, 7] (α := Nat) (fun i e h => i ≤ 1 ∧ e 29 = .int .i64 i) (fun i => 2 - i) 0 ?_ ?_
            · exact ⟨by omega, rfl⟩
            · rintro i e h hk hkh ⟨hi, g⟩
              simp [Keep] at hk
              simp [KeepH] at hkh
              rcases (show i = 0 ∨ i = 1 by omega) with rfl | rfl
              · skip
                repeat' first
                  | (with_reducible refine gw_bool (fun _ => ?_) (fun _ => ?_))
                  | (with_reducible refine condw_bool (fun _ => ?_) (fun _ => ?_))
                  | simp [*, By.cs, lksE, lkE, Lk.cs]
                refine nxt_go 1 ((View.forget _ _ 7)) (by omega) (by simp [*, Keep, St.forget, scr, scrC]) (by simp [*, KeepH, St.forget, scr, scrC]) ?_
                refine ⟨by omega, ?_⟩; simp [*, St.forget, scr, scrC]
              · skip
                repeat' first
                  | (with_reducible refine gw_bool (fun _ => ?_) (fun _ => ?_))
                  | (with_reducible refine condw_bool (fun _ => ?_) (fun _ => ?_))
                  | simp [*, By.cs, lksE, lkE, Lk.cs]
          · cases py1 : ieq y.pos 1
            · cases py0 : ieq y.pos 0
              · skip
                refine pcall_cx C2_ok mixed (fun _ => none) Try.func92 rfl Try.ntmps92 Try.results92 (by simp) (by kernel_rfl) ?_
                repeat' first
                  | (with_reducible refine gw_bool (fun _ => ?_) (fun _ => ?_))
                  | (with_reducible refine condw_bool (fun _ => ?_) (fun _ => ?_))
                  | simp [*, By.cs, lksE, lkE, Lk.cs]
                refine lp_go (D := (fun _ => none)) C2_ok mixed (by kernel_rfl) [0, 3, 27, 28] [3, 7] (α := Nat) (fun i e h => i ≤ 1 ∧ e 29 = .int .i64 i) (fun i => 2 - i) 0 ?_ ?_
                · exact ⟨by omega, rfl⟩
                · rintro i e h hk hkh ⟨hi, g⟩
                  simp [Keep] at hk
                  simp [KeepH] at hkh
                  rcases (show i = 0 ∨ i = 1 by omega) with rfl | rfl
                  · skip
                    repeat' first
                      | (with_reducible refine gw_bool (fun _ => ?_) (fun _ => ?_))
                      | (with_reducible refine condw_bool (fun _ => ?_) (fun _ => ?_))
                      | simp [*, By.cs, lksE, lkE, Lk.cs]
                    refine nxt_go 1 ((View.forget _ _ 7)) (by omega) (by simp [*, Keep, St.forget, scr, scrC]) (by simp [*, KeepH, St.forget, scr, scrC]) ?_
                    refine ⟨by omega, ?_⟩; simp [*, St.forget, scr, scrC]
                  · skip
                    repeat' first
                      | (with_reducible refine gw_bool (fun _ => ?_) (fun _ => ?_))
                      | (with_reducible refine condw_bool (fun _ => ?_) (fun _ => ?_))
                      | simp [*, By.cs, lksE, lkE, Lk.cs]
              · cases ee : ieq x.bus y.bus
                · skip
                  refine pcall_cx C2_ok mixed (fun _ => none) Try.func92 rfl Try.ntmps92 Try.results92 (by simp) (by kernel_rfl) ?_
                  repeat' first
                    | (with_reducible refine gw_bool (fun _ => ?_) (fun _ => ?_))
                    | (with_reducible refine condw_bool (fun _ => ?_) (fun _ => ?_))
                    | simp [*, By.cs, lksE, lkE, Lk.cs]
                  refine lp_go (D := (fun _ => none)) C2_ok mixed (by kernel_rfl) [0, 3, 27, 28] [3, 7] (α := Nat) (fun i e h => i ≤ 2 ∧ e 29 = .int .i64 i) (fun i => 2 - i) 0 ?_ ?_
                  · exact ⟨by omega, rfl⟩
                  · rintro i e h hk hkh ⟨hi, g⟩
                    simp [Keep] at hk
                    simp [KeepH] at hkh
                    rcases (show i = 0 ∨ i = 1 ∨ i = 2 by omega) with rfl | rfl | rfl
                    · skip
                      repeat' first
                        | (with_reducible refine gw_bool (fun _ => ?_) (fun _ => ?_))
                        | (with_reducible refine condw_bool (fun _ => ?_) (fun _ => ?_))
                        | simp [*, By.cs, lksE, lkE, Lk.cs]
                      refine nxt_go 1 ((View.forget _ _ 7)) (by omega) (by simp [*, Keep, St.forget, scr, scrC]) (by simp [*, KeepH, St.forget, scr, scrC]) ?_
                      refine ⟨by omega, ?_⟩; simp [*, St.forget, scr, scrC]
                    · skip
                      repeat' first
                        | (with_reducible refine gw_bool (fun _ => ?_) (fun _ => ?_))
                        | (with_reducible refine condw_bool (fun _ => ?_) (fun _ => ?_))
                        | simp [*, By.cs, lksE, lkE, Lk.cs]
                      refine nxt_go 2 ((View.forget _ _ 7)) (by omega) (by simp [*, Keep, St.forget, scr, scrC]) (by simp [*, KeepH, St.forget, scr, scrC]) ?_
                      refine ⟨by omega, ?_⟩; simp [*, St.forget, scr, scrC]
                    · skip
                      repeat' first
                        | (with_reducible refine gw_bool (fun _ => ?_) (fun _ => ?_))
                        | (with_reducible refine condw_bool (fun _ => ?_) (fun _ => ?_))
                        | simp [*, By.cs, lksE, lkE, Lk.cs]
                · skip
                  refine pcall_cx C2_ok mixed (fun _ => none) Try.func92 rfl Try.ntmps92 Try.results92 (by simp) (by kernel_rfl) ?_
                  repeat' first
                    | (with_reducible refine gw_bool (fun _ => ?_) (fun _ => ?_))
                    | (with_reducible refine condw_bool (fun _ => ?_) (fun _ => ?_))
                    | simp [*, By.cs, lksE, lkE, Lk.cs]
                  refine lp_go (D := (fun _ => none)) C2_ok mixed (by kernel_rfl) [0, 3, 27, 28] [3, 7] (α := Nat) (fun i e h => i ≤ 1 ∧ e 29 = .int .i64 i) (fun i => 2 - i) 0 ?_ ?_
                  · exact ⟨by omega, rfl⟩
                  · rintro i e h hk hkh ⟨hi, g⟩
                    simp [Keep] at hk
                    simp [KeepH] at hkh
                    rcases (show i = 0 ∨ i = 1 by omega) with rfl | rfl
                    · skip
                      repeat' first
                        | (with_reducible refine gw_bool (fun _ => ?_) (fun _ => ?_))
                        | (with_reducible refine condw_bool (fun _ => ?_) (fun _ => ?_))
                        | simp [*, By.cs, lksE, lkE, Lk.cs]
                      refine nxt_go 1 ((View.forget _ _ 7)) (by omega) (by simp [*, Keep, St.forget, scr, scrC]) (by simp [*, KeepH, St.forget, scr, scrC]) ?_
                      refine ⟨by omega, ?_⟩; simp [*, St.forget, scr, scrC]
                    · skip
                      repeat' first
                        | (with_reducible refine gw_bool (fun _ => ?_) (fun _ => ?_))
                        | (with_reducible refine condw_bool (fun _ => ?_) (fun _ => ?_))
                        | simp [*, By.cs, lksE, lkE, Lk.cs]
            · cases ee : ieq x.bus y.bus
              · skip
                refine pcall_cx C2_ok mixed (fun _ => none) Try.func92 rfl Try.ntmps92 Try.results92 (by simp) (by kernel_rfl) ?_
                repeat' first
                  | (with_reducible refine gw_bool (fun _ => ?_) (fun _ => ?_))
                  | (with_reducible refine condw_bool (fun _ => ?_) (fun _ => ?_))
                  | simp [*, By.cs, lksE, lkE, Lk.cs]
                refine lp_go (D := (fun _ => none)) C2_ok mixed (by kernel_rfl) [0, 3, 27, 28] [3, 7] (α := Nat) (fun i e h => i ≤ 2 ∧ e 29 = .int .i64 i) (fun i => 2 - i) 0 ?_ ?_
                · exact ⟨by omega, rfl⟩
                · rintro i e h hk hkh ⟨hi, g⟩
                  simp [Keep] at hk
                  simp [KeepH] at hkh
                  rcases (show i = 0 ∨ i = 1 ∨ i = 2 by omega) with rfl | rfl | rfl
                  · skip
                    repeat' first
                      | (with_reducible refine gw_bool (fun _ => ?_) (fun _ => ?_))
                      | (with_reducible refine condw_bool (fun _ => ?_) (fun _ => ?_))
                      | simp [*, By.cs, lksE, lkE, Lk.cs]
                    refine nxt_go 1 ((View.forget _ _ 7)) (by omega) (by simp [*, Keep, St.forget, scr, scrC]) (by simp [*, KeepH, St.forget, scr, scrC]) ?_
                    refine ⟨by omega, ?_⟩; simp [*, St.forget, scr, scrC]
                  · skip
                    repeat' first
                      | (with_reducible refine gw_bool (fun _ => ?_) (fun _ => ?_))
                      | (with_reducible refine condw_bool (fun _ => ?_) (fun _ => ?_))
                      | simp [*, By.cs, lksE, lkE, Lk.cs]
                    refine nxt_go 2 ((View.forget _ _ 7)) (by omega) (by simp [*, Keep, St.forget, scr, scrC]) (by simp [*, KeepH, St.forget, scr, scrC]) ?_
                    refine ⟨by omega, ?_⟩; simp [*, St.forget, scr, scrC]
                  · skip
                    repeat' first
                      | (with_reducible refine gw_bool (fun _ => ?_) (fun _ => ?_))
                      | (with_reducible refine condw_bool (fun _ => ?_) (fun _ => ?_))
                      | simp [*, By.cs, lksE, lkE, Lk.cs]
              · skip
                refine pcall_cx C2_ok mixed (fun _ => none) Try.func92 rfl Try.ntmps92 Try.results92 (by simp) (by kernel_rfl) ?_
                repeat' first
                  | (with_reducible refine gw_bool (fun _ => ?_) (fun _ => ?_))
                  | (with_reducible refine condw_bool (fun _ => ?_) (fun _ => ?_))
                  | simp [*, By.cs, lksE, lkE, Lk.cs]
                refine lp_go (D := (fun _ => none)) C2_ok mixed (by kernel_rfl) [0, 3, 27, 28] [3, 7] (α := Nat) (fun i e h => i ≤ 1 ∧ e 29 = .int .i64 i) (fun i => 2 - i) 0 ?_ ?_
                · exact ⟨by omega, rfl⟩
                · rintro i e h hk hkh ⟨hi, g⟩
                  simp [Keep] at hk
                  simp [KeepH] at hkh
                  rcases (show i = 0 ∨ i = 1 by omega) with rfl | rfl
                  · skip
                    repeat' first
                      | (with_reducible refine gw_bool (fun _ => ?_) (fun _ => ?_))
                      | (with_reducible refine condw_bool (fun _ => ?_) (fun _ => ?_))
                      | simp [*, By.cs, lksE, lkE, Lk.cs]
                    refine nxt_go 1 ((View.forget _ _ 7)) (by omega) (by simp [*, Keep, St.forget, scr, scrC]) (by simp [*, KeepH, St.forget, scr, scrC]) ?_
                    refine ⟨by omega, ?_⟩; simp [*, St.forget, scr, scrC]
                  · skip
                    repeat' first
                      | (with_reducible refine gw_bool (fun _ => ?_) (fun _ => ?_))
                      | (with_reducible refine condw_bool (fun _ => ?_) (fun _ => ?_))
                      | simp [*, By.cs, lksE, lkE, Lk.cs]
      · cases wy : withinF y.bus 0 (IntKind.i64.wrap (nb - 1))
        · skip
          refine pcall_cx C2_ok mixed (fun _ => none) Try.func92 rfl Try.ntmps92 Try.results92 (by simp) (by kernel_rfl) ?_
          repeat' first
            | (with_reducible refine gw_bool (fun _ => ?_) (fun _ => ?_))
            | (with_reducible refine condw_bool (fun _ => ?_) (fun _ => ?_))
            | simp [*, By.cs, lksE, lkE, Lk.cs]
          refine lp_go (D := (fun _ => none)) C2_ok mixed (by kernel_rfl) [0, 3, 27, 28] [3, 7] (α := Nat) (fun i e h => i ≤ 1 ∧ e 29 = .int .i64 i) (fun i => 2 - i) 0 ?_ ?_
          · exact ⟨by omega, rfl⟩
          · rintro i e h hk hkh ⟨hi, g⟩
            simp [Keep] at hk
            simp [KeepH] at hkh
            rcases (show i = 0 ∨ i = 1 by omega) with rfl | rfl
            · skip
              repeat' first
                | (with_reducible refine gw_bool (fun _ => ?_) (fun _ => ?_))
                | (with_reducible refine condw_bool (fun _ => ?_) (fun _ => ?_))
                | simp [*, By.cs, lksE, lkE, Lk.cs]
              refine nxt_go 1 ((View.forget _ _ 7)) (by omega) (by simp [*, Keep, St.forget, scr, scrC]) (by simp [*, KeepH, St.forget, scr, scrC]) ?_
              refine ⟨by omega, ?_⟩; simp [*, St.forget, scr, scrC]
            · skip
              repeat' first
                | (with_reducible refine gw_bool (fun _ => ?_) (fun _ => ?_))
                | (with_reducible refine condw_bool (fun _ => ?_) (fun _ => ?_))
                | simp [*, By.cs, lksE, lkE, Lk.cs]
        · cases py1 : ieq y.pos 1
          · cases py0 : ieq y.pos 0
            · skip
              refine pcall_cx C2_ok mixed (fun _ => none) Try.func92 rfl Try.ntmps92 Try.results92 (by simp) (by kernel_rfl) ?_
              repeat' first
                | (with_reducible refine gw_bool (fun _ => ?_) (fun _ => ?_))
                | (with_reducible refine condw_bool (fun _ => ?_) (fun _ => ?_))
                | simp [*, By.cs, lksE, lkE, Lk.cs]
              refine lp_go (D := (fun _ => none)) C2_ok mixed (by kernel_rfl) [0, 3, 27, 28] [3, 7] (α := Nat) (fun i e h => i ≤ 1 ∧ e 29 = .int .i64 i) (fun i => 2 - i) 0 ?_ ?_
              · exact ⟨by omega, rfl⟩
              · rintro i e h hk hkh ⟨hi, g⟩
                simp [Keep] at hk
                simp [KeepH] at hkh
                rcases (show i = 0 ∨ i = 1 by omega) with rfl | rfl
                · skip
                  repeat' first
                    | (with_reducible refine gw_bool (fun _ => ?_) (fun _ => ?_))
                    | (with_reducible refine condw_bool (fun _ => ?_) (fun _ => ?_))
                    | simp [*, By.cs, lksE, lkE, Lk.cs]
                  refine nxt_go 1 ((View.forget _ _ 7)) (by omega) (by simp [*, Keep, St.forget, scr, scrC]) (by simp [*, KeepH, St.forget, scr, scrC]) ?_
                  refine ⟨by omega, ?_⟩; simp [*, St.forget, scr, scrC]
                · skip
                  repeat' first
                    | (with_reducible refine gw_bool (fun _ => ?_) (fun _ => ?_))
                    | (with_reducible refine condw_bool (fun _ => ?_) (fun _ => ?_))
                    | simp [*, By.cs, lksE, lkE, Lk.cs]
            · cases ee : ieq x.bus y.bus
              · skip
                refine pcall_cx C2_ok mixed (fun _ => none) Try.func92 rfl Try.ntmps92 Try.results92 (by simp) (by kernel_rfl) ?_
                repeat' first
                  | (with_reducible refine gw_bool (fun _ => ?_) (fun _ => ?_))
                  | (with_reducible refine condw_bool (fun _ => ?_) (fun _ => ?_))
                  | simp [*, By.cs, lksE, lkE, Lk.cs]
                refine lp_go (D := (fun _ => none)) C2_ok mixed (by kernel_rfl) [0, 3, 27, 28] [3, 7] (α := Nat) (fun i e h => i ≤ 2 ∧ e 29 = .int .i64 i) (fun i => 2 - i) 0 ?_ ?_
                · exact ⟨by omega, rfl⟩
                · rintro i e h hk hkh ⟨hi, g⟩
                  simp [Keep] at hk
                  simp [KeepH] at hkh
                  rcases (show i = 0 ∨ i = 1 ∨ i = 2 by omega) with rfl | rfl | rfl
                  · skip
                    repeat' first
                      | (with_reducible refine gw_bool (fun _ => ?_) (fun _ => ?_))
                      | (with_reducible refine condw_bool (fun _ => ?_) (fun _ => ?_))
                      | simp [*, By.cs, lksE, lkE, Lk.cs]
                    refine nxt_go 1 ((View.forget _ _ 7)) (by omega) (by simp [*, Keep, St.forget, scr, scrC]) (by simp [*, KeepH, St.forget, scr, scrC]) ?_
                    refine ⟨by omega, ?_⟩; simp [*, St.forget, scr, scrC]
                  · skip
                    repeat' first
                      | (with_reducible refine gw_bool (fun _ => ?_) (fun _ => ?_))
                      | (with_reducible refine condw_bool (fun _ => ?_) (fun _ => ?_))
                      | simp [*, By.cs, lksE, lkE, Lk.cs]
                    refine nxt_go 2 ((View.forget _ _ 7)) (by omega) (by simp [*, Keep, St.forget, scr, scrC]) (by simp [*, KeepH, St.forget, scr, scrC]) ?_
                    refine ⟨by omega, ?_⟩; simp [*, St.forget, scr, scrC]
                  · skip
                    repeat' first
                      | (with_reducible refine gw_bool (fun _ => ?_) (fun _ => ?_))
                      | (with_reducible refine condw_bool (fun _ => ?_) (fun _ => ?_))
                      | simp [*, By.cs, lksE, lkE, Lk.cs]
              · skip
                refine pcall_cx C2_ok mixed (fun _ => none) Try.func92 rfl Try.ntmps92 Try.results92 (by simp) (by kernel_rfl) ?_
                repeat' first
                  | (with_reducible refine gw_bool (fun _ => ?_) (fun _ => ?_))
                  | (with_reducible refine condw_bool (fun _ => ?_) (fun _ => ?_))
                  | simp [*, By.cs, lksE, lkE, Lk.cs]
                refine lp_go (D := (fun _ => none)) C2_ok mixed (by kernel_rfl) [0, 3, 27, 28] [3, 7] (α := Nat) (fun i e h => i ≤ 1 ∧ e 29 = .int .i64 i) (fun i => 2 - i) 0 ?_ ?_
                · exact ⟨by omega, rfl⟩
                · rintro i e h hk hkh ⟨hi, g⟩
                  simp [Keep] at hk
                  simp [KeepH] at hkh
                  rcases (show i = 0 ∨ i = 1 by omega) with rfl | rfl
                  · skip
                    repeat' first
                      | (with_reducible refine gw_bool (fun _ => ?_) (fun _ => ?_))
                      | (with_reducible refine condw_bool (fun _ => ?_) (fun _ => ?_))
                      | simp [*, By.cs, lksE, lkE, Lk.cs]
                    refine nxt_go 1 ((View.forget _ _ 7)) (by omega) (by simp [*, Keep, St.forget, scr, scrC]) (by simp [*, KeepH, St.forget, scr, scrC]) ?_
                    refine ⟨by omega, ?_⟩; simp [*, St.forget, scr, scrC]
                  · skip
                    repeat' first
                      | (with_reducible refine gw_bool (fun _ => ?_) (fun _ => ?_))
                      | (with_reducible refine condw_bool (fun _ => ?_) (fun _ => ?_))
                      | simp [*, By.cs, lksE, lkE, Lk.cs]
          · cases ee : ieq x.bus y.bus
            · skip
              refine pcall_cx C2_ok mixed (fun _ => none) Try.func92 rfl Try.ntmps92 Try.results92 (by simp) (by kernel_rfl) ?_
              repeat' first
                | (with_reducible refine gw_bool (fun _ => ?_) (fun _ => ?_))
                | (with_reducible refine condw_bool (fun _ => ?_) (fun _ => ?_))
                | simp [*, By.cs, lksE, lkE, Lk.cs]
              refine lp_go (D := (fun _ => none)) C2_ok mixed (by kernel_rfl) [0, 3, 27, 28] [3, 7] (α := Nat) (fun i e h => i ≤ 2 ∧ e 29 = .int .i64 i) (fun i => 2 - i) 0 ?_ ?_
              · exact ⟨by omega, rfl⟩
              · rintro i e h hk hkh ⟨hi, g⟩
                simp [Keep] at hk
                simp [KeepH] at hkh
                rcases (show i = 0 ∨ i = 1 ∨ i = 2 by omega) with rfl | rfl | rfl
                · skip
                  repeat' first
                    | (with_reducible refine gw_bool (fun _ => ?_) (fun _ => ?_))
                    | (with_reducible refine condw_bool (fun _ => ?_) (fun _ => ?_))
                    | simp [*, By.cs, lksE, lkE, Lk.cs]
                  refine nxt_go 1 ((View.forget _ _ 7)) (by omega) (by simp [*, Keep, St.forget, scr, scrC]) (by simp [*, KeepH, St.forget, scr, scrC]) ?_
                  refine ⟨by omega, ?_⟩; simp [*, St.forget, scr, scrC]
                · skip
                  repeat' first
                    | (with_reducible refine gw_bool (fun _ => ?_) (fun _ => ?_))
                    | (with_reducible refine condw_bool (fun _ => ?_) (fun _ => ?_))
                    | simp [*, By.cs, lksE, lkE, Lk.cs]
                  refine nxt_go 2 ((View.forget _ _ 7)) (by omega) (by simp [*, Keep, St.forget, scr, scrC]) (by simp [*, KeepH, St.forget, scr, scrC]) ?_
                  refine ⟨by omega, ?_⟩; simp [*, St.forget, scr, scrC]
                · skip
                  repeat' first
                    | (with_reducible refine gw_bool (fun _ => ?_) (fun _ => ?_))
                    | (with_reducible refine condw_bool (fun _ => ?_) (fun _ => ?_))
                    | simp [*, By.cs, lksE, lkE, Lk.cs]
            · skip
              refine pcall_cx C2_ok mixed (fun _ => none) Try.func92 rfl Try.ntmps92 Try.results92 (by simp) (by kernel_rfl) ?_
              repeat' first
                | (with_reducible refine gw_bool (fun _ => ?_) (fun _ => ?_))
                | (with_reducible refine condw_bool (fun _ => ?_) (fun _ => ?_))
                | simp [*, By.cs, lksE, lkE, Lk.cs]
              refine lp_go (D := (fun _ => none)) C2_ok mixed (by kernel_rfl) [0, 3, 27, 28] [3, 7] (α := Nat) (fun i e h => i ≤ 1 ∧ e 29 = .int .i64 i) (fun i => 2 - i) 0 ?_ ?_
              · exact ⟨by omega, rfl⟩
              · rintro i e h hk hkh ⟨hi, g⟩
                simp [Keep] at hk
                simp [KeepH] at hkh
                rcases (show i = 0 ∨ i = 1 by omega) with rfl | rfl
                · skip
                  repeat' first
                    | (with_reducible refine gw_bool (fun _ => ?_) (fun _ => ?_))
                    | (with_reducible refine condw_bool (fun _ => ?_) (fun _ => ?_))
                    | simp [*, By.cs, lksE, lkE, Lk.cs]
                  refine nxt_go 1 ((View.forget _ _ 7)) (by omega) (by simp [*, Keep, St.forget, scr, scrC]) (by simp [*, KeepH, St.forget, scr, scrC]) ?_
                  refine ⟨by omega, ?_⟩; simp [*, St.forget, scr, scrC]
                · skip
                  repeat' first
                    | (with_reducible refine gw_bool (fun _ => ?_) (fun _ => ?_))
                    | (with_reducible refine condw_bool (fun _ => ?_) (fun _ => ?_))
                    | simp [*, By.cs, lksE, lkE, Lk.cs]
    · skip
      refine pcall_cx C2_ok mixed (fun _ => none) Try.func92 rfl Try.ntmps92 Try.results92 (by simp) (by kernel_rfl) ?_
      repeat' first
        | (with_reducible refine gw_bool (fun _ => ?_) (fun _ => ?_))
        | (with_reducible refine condw_bool (fun _ => ?_) (fun _ => ?_))
        | simp [*, By.cs, lksE, lkE, Lk.cs]
      refine lp_go (D := (fun _ => none)) C2_ok mixed (by kernel_rfl) [0, 3, 27, 28] [3, 7] (α := Nat) (fun i e h => i ≤ 0 ∧ e 29 = .int .i64 i) (fun i => 2 - i) 0 ?_ ?_
      · exact ⟨by omega, rfl⟩
      · rintro i e h hk hkh ⟨hi, g⟩
        simp [Keep] at hk
        simp [KeepH] at hkh
        obtain rfl : i = 0 := by omega
        repeat' first
          | (with_reducible refine gw_bool (fun _ => ?_) (fun _ => ?_))
          | (with_reducible refine condw_bool (fun _ => ?_) (fun _ => ?_))
          | simp [*, By.cs, lksE, lkE, Lk.cs]
    · cases px1 : ieq x.pos 1
      · cases px0 : ieq x.pos 0
        · skip
          refine pcall_cx C2_ok mixed (fun _ => none) Try.func92 rfl Try.ntmps92 Try.results92 (by simp) (by kernel_rfl) ?_
          repeat' first
            | (with_reducible refine gw_bool (fun _ => ?_) (fun _ => ?_))
            | (with_reducible refine condw_bool (fun _ => ?_) (fun _ => ?_))
            | simp [*, By.cs, lksE, lkE, Lk.cs]
          refine lp_go (D := (fun _ => none)) C2_ok mixed (by kernel_rfl) [0, 3, 27, 28] [3, 7] (α := Nat) (fun i e h => i ≤ 0 ∧ e 29 = .int .i64 i) (fun i => 2 - i) 0 ?_ ?_
          · exact ⟨by omega, rfl⟩
          · rintro i e h hk hkh ⟨hi, g⟩
            simp [Keep] at hk
            simp [KeepH] at hkh
            obtain rfl : i = 0 := by omega
            repeat' first
              | (with_reducible refine gw_bool (fun _ => ?_) (fun _ => ?_))
              | (with_reducible refine condw_bool (fun _ => ?_) (fun _ => ?_))
              | simp [*, By.cs, lksE, lkE, Lk.cs]
        · skip
          refine pcall_cx C2_ok mixed (fun _ => none) Try.func92 rfl Try.ntmps92 Try.results92 (by simp) (by kernel_rfl) ?_
          repeat' first
            | (with_reducible refine gw_bool (fun _ => ?_) (fun _ => ?_))
            | (with_reducible refine condw_bool (fun _ => ?_) (fun _ => ?_))
            | simp [*, By.cs, lksE, lkE, Lk.cs]
          refine lp_go (D := (fun _ => none)) C2_ok mixed (by kernel_rfl) [0, 3, 27, 28] [3, 7] (α := Nat) (fun i e h => i ≤ 0 ∧ e 29 = .int .i64 i) (fun i => 2 - i) 0 ?_ ?_
          · exact ⟨by omega, rfl⟩
          · rintro i e h hk hkh ⟨hi, g⟩
            simp [Keep] at hk
            simp [KeepH] at hkh
            obtain rfl : i = 0 := by omega
            repeat' first
              | (with_reducible refine gw_bool (fun _ => ?_) (fun _ => ?_))
              | (with_reducible refine condw_bool (fun _ => ?_) (fun _ => ?_))
              | simp [*, By.cs, lksE, lkE, Lk.cs]
      · cases wy : withinF y.bus 0 (IntKind.i64.wrap (nb - 1))
        · skip
          refine pcall_cx C2_ok mixed (fun _ => none) Try.func92 rfl Try.ntmps92 Try.results92 (by simp) (by kernel_rfl) ?_
          repeat' first
            | (with_reducible refine gw_bool (fun _ => ?_) (fun _ => ?_))
            | (with_reducible refine condw_bool (fun _ => ?_) (fun _ => ?_))
            | simp [*, By.cs, lksE, lkE, Lk.cs]
          refine lp_go (D := (fun _ => none)) C2_ok mixed (by kernel_rfl) [0, 3, 27, 28] [3, 7] (α := Nat) (fun i e h => i ≤ 1 ∧ e 29 = .int .i64 i) (fun i => 2 - i) 0 ?_ ?_
          · exact ⟨by omega, rfl⟩
          · rintro i e h hk hkh ⟨hi, g⟩
            simp [Keep] at hk
            simp [KeepH] at hkh
            rcases (show i = 0 ∨ i = 1 by omega) with rfl | rfl
            · skip
              repeat' first
                | (with_reducible refine gw_bool (fun _ => ?_) (fun _ => ?_))
                | (with_reducible refine condw_bool (fun _ => ?_) (fun _ => ?_))
                | simp [*, By.cs, lksE, lkE, Lk.cs]
              refine nxt_go 1 ((View.forget _ _ 7)) (by omega) (by simp [*, Keep, St.forget, scr, scrC]) (by simp [*, KeepH, St.forget, scr, scrC]) ?_
              refine ⟨by omega, ?_⟩; simp [*, St.forget, scr, scrC]
            · skip
              repeat' first
                | (with_reducible refine gw_bool (fun _ => ?_) (fun _ => ?_))
                | (with_reducible refine condw_bool (fun _ => ?_) (fun _ => ?_))
                | simp [*, By.cs, lksE, lkE, Lk.cs]
        · cases py1 : ieq y.pos 1
          · cases py0 : ieq y.pos 0
            · skip
              refine pcall_cx C2_ok mixed (fun _ => none) Try.func92 rfl Try.ntmps92 Try.results92 (by simp) (by kernel_rfl) ?_
              repeat' first
                | (with_reducible refine gw_bool (fun _ => ?_) (fun _ => ?_))
                | (with_reducible refine condw_bool (fun _ => ?_) (fun _ => ?_))
                | simp [*, By.cs, lksE, lkE, Lk.cs]
              refine lp_go (D := (fun _ => none)) C2_ok mixed (by kernel_rfl) [0, 3, 27, 28] [3, 7] (α := Nat) (fun i e h => i ≤ 1 ∧ e 29 = .int .i64 i) (fun i => 2 - i) 0 ?_ ?_
              · exact ⟨by omega, rfl⟩
              · rintro i e h hk hkh ⟨hi, g⟩
                simp [Keep] at hk
                simp [KeepH] at hkh
                rcases (show i = 0 ∨ i = 1 by omega) with rfl | rfl
                · skip
                  repeat' first
                    | (with_reducible refine gw_bool (fun _ => ?_) (fun _ => ?_))
                    | (with_reducible refine condw_bool (fun _ => ?_) (fun _ => ?_))
                    | simp [*, By.cs, lksE, lkE, Lk.cs]
                  refine nxt_go 1 ((View.forget _ _ 7)) (by omega) (by simp [*, Keep, St.forget, scr, scrC]) (by simp [*, KeepH, St.forget, scr, scrC]) ?_
                  refine ⟨by omega, ?_⟩; simp [*, St.forget, scr, scrC]
                · skip
                  repeat' first
                    | (with_reducible refine gw_bool (fun _ => ?_) (fun _ => ?_))
                    | (with_reducible refine condw_bool (fun _ => ?_) (fun _ => ?_))
                    | simp [*, By.cs, lksE, lkE, Lk.cs]
            · skip
              refine pcall_cx C2_ok mixed (fun _ => none) Try.func92 rfl Try.ntmps92 Try.results92 (by simp) (by kernel_rfl) ?_
              repeat' first
                | (with_reducible refine gw_bool (fun _ => ?_) (fun _ => ?_))
                | (with_reducible refine condw_bool (fun _ => ?_) (fun _ => ?_))
                | simp [*, By.cs, lksE, lkE, Lk.cs]
              refine lp_go (D := (fun _ => none)) C2_ok mixed (by kernel_rfl) [0, 3, 27, 28] [3, 7] (α := Nat) (fun i e h => i ≤ 1 ∧ e 29 = .int .i64 i) (fun i => 2 - i) 0 ?_ ?_
              · exact ⟨by omega, rfl⟩
              · rintro i e h hk hkh ⟨hi, g⟩
                simp [Keep] at hk
                simp [KeepH] at hkh
                rcases (show i = 0 ∨ i = 1 by omega) with rfl | rfl
                · skip
                  repeat' first
                    | (with_reducible refine gw_bool (fun _ => ?_) (fun _ => ?_))
                    | (with_reducible refine condw_bool (fun _ => ?_) (fun _ => ?_))
                    | simp [*, By.cs, lksE, lkE, Lk.cs]
                  refine nxt_go 1 ((View.forget _ _ 7)) (by omega) (by simp [*, Keep, St.forget, scr, scrC]) (by simp [*, KeepH, St.forget, scr, scrC]) ?_
                  refine ⟨by omega, ?_⟩; simp [*, St.forget, scr, scrC]
                · skip
                  repeat' first
                    | (with_reducible refine gw_bool (fun _ => ?_) (fun _ => ?_))
                    | (with_reducible refine condw_bool (fun _ => ?_) (fun _ => ?_))
                    | simp [*, By.cs, lksE, lkE, Lk.cs]
          · cases ee : ieq x.bus y.bus
            · skip
              refine pcall_cx C2_ok mixed (fun _ => none) Try.func92 rfl Try.ntmps92 Try.results92 (by simp) (by kernel_rfl) ?_
              repeat' first
                | (with_reducible refine gw_bool (fun _ => ?_) (fun _ => ?_))
                | (with_reducible refine condw_bool (fun _ => ?_) (fun _ => ?_))
                | simp [*, By.cs, lksE, lkE, Lk.cs]
              refine lp_go (D := (fun _ => none)) C2_ok mixed (by kernel_rfl) [0, 3, 27, 28] [3, 7] (α := Nat) (fun i e h => i ≤ 2 ∧ e 29 = .int .i64 i) (fun i => 2 - i) 0 ?_ ?_
              · exact ⟨by omega, rfl⟩
              · rintro i e h hk hkh ⟨hi, g⟩
                simp [Keep] at hk
                simp [KeepH] at hkh
                rcases (show i = 0 ∨ i = 1 ∨ i = 2 by omega) with rfl | rfl | rfl
                · skip
                  repeat' first
                    | (with_reducible refine gw_bool (fun _ => ?_) (fun _ => ?_))
                    | (with_reducible refine condw_bool (fun _ => ?_) (fun _ => ?_))
                    | simp [*, By.cs, lksE, lkE, Lk.cs]
                  refine nxt_go 1 ((View.forget _ _ 7)) (by omega) (by simp [*, Keep, St.forget, scr, scrC]) (by simp [*, KeepH, St.forget, scr, scrC]) ?_
                  refine ⟨by omega, ?_⟩; simp [*, St.forget, scr, scrC]
                · skip
                  repeat' first
                    | (with_reducible refine gw_bool (fun _ => ?_) (fun _ => ?_))
                    | (with_reducible refine condw_bool (fun _ => ?_) (fun _ => ?_))
                    | simp [*, By.cs, lksE, lkE, Lk.cs]
                  refine nxt_go 2 ((View.forget _ _ 7)) (by omega) (by simp [*, Keep, St.forget, scr, scrC]) (by simp [*, KeepH, St.forget, scr, scrC]) ?_
                  refine ⟨by omega, ?_⟩; simp [*, St.forget, scr, scrC]
                · skip
                  repeat' first
                    | (with_reducible refine gw_bool (fun _ => ?_) (fun _ => ?_))
                    | (with_reducible refine condw_bool (fun _ => ?_) (fun _ => ?_))
                    | simp [*, By.cs, lksE, lkE, Lk.cs]
            · skip
              refine pcall_cx C2_ok mixed (fun _ => none) Try.func92 rfl Try.ntmps92 Try.results92 (by simp) (by kernel_rfl) ?_
              repeat' first
                | (with_reducible refine gw_bool (fun _ => ?_) (fun _ => ?_))
                | (with_reducible refine condw_bool (fun _ => ?_) (fun _ => ?_))
                | simp [*, By.cs, lksE, lkE, Lk.cs]
              refine lp_go (D := (fun _ => none)) C2_ok mixed (by kernel_rfl) [0, 3, 27, 28] [3, 7] (α := Nat) (fun i e h => i ≤ 1 ∧ e 29 = .int .i64 i) (fun i => 2 - i) 0 ?_ ?_
              · exact ⟨by omega, rfl⟩
              · rintro i e h hk hkh ⟨hi, g⟩
                simp [Keep] at hk
                simp [KeepH] at hkh
                rcases (show i = 0 ∨ i = 1 by omega) with rfl | rfl
                · skip
                  repeat' first
                    | (with_reducible refine gw_bool (fun _ => ?_) (fun _ => ?_))
                    | (with_reducible refine condw_bool (fun _ => ?_) (fun _ => ?_))
                    | simp [*, By.cs, lksE, lkE, Lk.cs]
                  refine nxt_go 1 ((View.forget _ _ 7)) (by omega) (by simp [*, Keep, St.forget, scr, scrC]) (by simp [*, KeepH, St.forget, scr, scrC]) ?_
                  refine ⟨by omega, ?_⟩; simp [*, St.forget, scr, scrC]
                · skip
                  repeat' first
                    | (with_reducible refine gw_bool (fun _ => ?_) (fun _ => ?_))
                    | (with_reducible refine condw_bool (fun _ => ?_) (fun _ => ?_))
                    | simp [*, By.cs, lksE, lkE, Lk.cs]
def Tlinks : List V → Option V
  | [.rp [_, .list 1 bs, _, _, _, _], .agg cs] => (unBy cs).map fun b => .int .i64 (lksE bs.length b.kind b.lks)
  | _ => none
theorem links_tab : ∀ vs v, Tlinks vs = some v → PCall Try.prog 92 vs v := by
  intro vs v h; unfold Tlinks at h; split at h
  · simp only [Option.map_eq_some_iff] at h
    obtain ⟨b, hb, rfl⟩ := h
    rw [unBy_inv _ _ hb]
    exact links_ok _ _ _ _ _ _ _
  · cases h
def C3 : Tab := add 88 Tbname (add 91 Tranges (add 92 Tlinks (C2)))
theorem C3_at (f : FuncId) (vs : List V) : C3.at' f vs = if f = 88 then Tbname vs else if f = 91 then Tranges vs else if f = 92 then Tlinks vs else C2.at' f vs := rfl
theorem C3_fr (f : FuncId) : C3.fr f = if f = 88 then false else if f = 91 then false else if f = 92 then false else C2.fr f := rfl
theorem C3_gb (f : FuncId) : C3.gb f = C2.gb f := rfl
theorem C3_gv (f : FuncId) (vs : List V) : C3.gv f vs = C2.gv f vs := rfl
attribute [simp] C3_at C3_fr C3_gb C3_gv Tbname Tlinks Tranges
theorem C3_ok : TabOK Try.prog C3 := by
  refine add_ok (add_ok (add_ok (C2_ok) (by kernel_rfl) ?_) (by kernel_rfl) ?_) (by kernel_rfl) ?_
  · exact links_tab
  · exact ranges_tab
  · exact bname_tab
end Go.Proofs.Ytcbddoopmkhlfaa
