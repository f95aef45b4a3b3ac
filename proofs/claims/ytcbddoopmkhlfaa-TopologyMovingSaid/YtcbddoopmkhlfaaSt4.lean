/-
  Stations: the builder takes a line, a source.
-/
import Derived.Test.YtcbddoopmkhlfaaSt3
namespace Go.Proofs.Ytcbddoopmkhlfaa
open Go.Pv Go.RowKit
set_option linter.unusedSimpArgs false
set_option linter.unusedVariables false
set_option maxRecDepth 100000
set_option maxHeartbeats 4000000

def lnE (ns : List ByteArray) (l : Ln) : Int := if nameF l.nm = true then (if dupF ns l.nm = true then 8 else if impF l.r1 l.x1 && impF l.r0 l.x0 then 0 else 2) else 7
def srE (ns : List ByteArray) (l : Sr) : Int := if nameF l.nm = true then (if dupF ns l.nm = true then 8 else if withinF l.emf 1 1000000 && impF l.r1 l.x1 && impF l.r0 l.x0 then 0 else 2) else 7
theorem low_none {h h' : Nat → Option Blk} (en : ∀ k, k < 1000 → h k = none) (hh : ∀ k, k < 1000 → h k = none → h' k = none) : ∀ k, k < 1000 → h' k = none := fun k hk => hh k hk (en k hk)
theorem line_ok (S : BS) (l : Ln) (hl : S.ls.length ≤ 100) : PEff 72 (.agg l.cs) (lnE S.ns l) S { S with ns := S.ns ++ [l.nm], ls := S.ls ++ [l] } := by
  refine peff_of C3_ok mixed (fun _ => none) Try.func72 rfl Try.ntmps72 Try.results72 (by simp) (by kernel_rfl) ?_
  rintro bb h ⟨e0, e1, e2, e3, e4, e5, en⟩
  have f5 : (S.ls.length + 1) * 48 ≤ 140737488355328 := by omega
  have f6 : S.ls.length + 1 ≤ 9223372036854775807 := by omega
  cases hn : nameF l.nm
  · skip
    repeat' first
      | (with_reducible refine gw_bool (fun _ => ?_) (fun _ => ?_))
      | (with_reducible refine condw_bool (fun _ => ?_) (fun _ => ?_))
      | simp [*, nmE, lnE, Ln.cs]
    exact ⟨_, View.refl _ _, rfl, fun h => by cases h⟩
  cases hd : dupF S.ns l.nm
  case true =>
    repeat' first
      | (with_reducible refine gw_bool (fun _ => ?_) (fun _ => ?_))
      | (with_reducible refine condw_bool (fun _ => ?_) (fun _ => ?_))
      | simp [*, nmE, lnE, Ln.cs]
    exact ⟨_, View.refl _ _, rfl, fun h => by cases h⟩
  cases h1 : impF l.r1 l.x1 <;> cases h2 : impF l.r0 l.x0
  all_goals
    repeat' first
      | (with_reducible refine gw_bool (fun _ => ?_) (fun _ => ?_))
      | (with_reducible refine condw_bool (fun _ => ?_) (fun _ => ?_))
      | simp [*, nmE, lnE, Ln.cs, appendV, srcCells, St.forget, scr, scrC]
  · exact ⟨_, View.refl _ _, rfl, fun h => by cases h⟩
  · exact ⟨_, View.refl _ _, rfl, fun h => by cases h⟩
  · exact ⟨_, View.refl _ _, rfl, fun h => by cases h⟩
  · refine ⟨_, (View.forget _ _ 36).trans (View.forget _ _ 3), rfl, fun _ => ⟨?_, ?_⟩⟩
    · simp [St.forget, scr]
    · constructor
      all_goals try (simp [*, St.forget, scrC, lnC_snoc, Ln.cs]; done)
      · intro k hk
        have h0 := en k hk
        have k0 : k ≠ 1000 := by omega
        have k1 : k ≠ 1002 := by omega
        have k5 : k ≠ 1005 := by omega
        clear en e0 e1 e2 e3 e4 e5
        by_cases hk1 : k = 36
        · simp [hk1, St.forget]
        · by_cases hk2 : k = 3
          · simp [hk2, St.forget]
          · simp [*, St.forget, scrC]
theorem source_ok (S : BS) (l : Sr) (hl : S.ss.length ≤ 100) : PEff 74 (.agg l.cs) (srE S.ns l) S { S with ns := S.ns ++ [l.nm], ss := S.ss ++ [l] } := by
  refine peff_of C3_ok mixed (fun _ => none) Try.func74 rfl Try.ntmps74 Try.results74 (by simp) (by kernel_rfl) ?_
  rintro bb h ⟨e0, e1, e2, e3, e4, e5, en⟩
  have f5 : (S.ss.length + 1) * 56 ≤ 140737488355328 := by omega
  have f6 : S.ss.length + 1 ≤ 9223372036854775807 := by omega
  cases hn : nameF l.nm
  · skip
    repeat' first
      | (with_reducible refine gw_bool (fun _ => ?_) (fun _ => ?_))
      | (with_reducible refine condw_bool (fun _ => ?_) (fun _ => ?_))
      | simp [*, nmE, srE, Sr.cs]
    exact ⟨_, View.refl _ _, rfl, fun h => by cases h⟩
  cases hd : dupF S.ns l.nm
  case true =>
    repeat' first
      | (with_reducible refine gw_bool (fun _ => ?_) (fun _ => ?_))
      | (with_reducible refine condw_bool (fun _ => ?_) (fun _ => ?_))
      | simp [*, nmE, srE, Sr.cs]
    exact ⟨_, View.refl _ _, rfl, fun h => by cases h⟩
  cases h3 : withinF l.emf 1 1000000 <;> cases h1 : impF l.r1 l.x1 <;> cases h2 : impF l.r0 l.x0
  all_goals
    repeat' first
      | (with_reducible refine gw_bool (fun _ => ?_) (fun _ => ?_))
      | (with_reducible refine condw_bool (fun _ => ?_) (fun _ => ?_))
      | simp [*, nmE, srE, Sr.cs, appendV, srcCells, St.forget, scr, scrC]
  · exact ⟨_, View.refl _ _, rfl, fun h => by cases h⟩
  · exact ⟨_, View.refl _ _, rfl, fun h => by cases h⟩
  · exact ⟨_, View.refl _ _, rfl, fun h => by cases h⟩
  · exact ⟨_, View.refl _ _, rfl, fun h => by cases h⟩
  · exact ⟨_, View.refl _ _, rfl, fun h => by cases h⟩
  · exact ⟨_, View.refl _ _, rfl, fun h => by cases h⟩
  · exact ⟨_, View.refl _ _, rfl, fun h => by cases h⟩
  · refine ⟨_, (View.forget _ _ 42).trans (View.forget _ _ 3), rfl, fun _ => ⟨?_, ?_⟩⟩
    · simp [St.forget, scr]
    · constructor
      all_goals try (simp [*, St.forget, scrC, srC_snoc, Sr.cs]; done)
      · intro k hk
        have h0 := en k hk
        have k0 : k ≠ 1000 := by omega
        have k1 : k ≠ 1003 := by omega
        have k5 : k ≠ 1005 := by omega
        clear en e0 e1 e2 e3 e4 e5
        by_cases hk1 : k = 42
        · simp [hk1, St.forget]
        · by_cases hk2 : k = 3
          · simp [hk2, St.forget]
          · simp [*, St.forget, scrC]
end Go.Proofs.Ytcbddoopmkhlfaa
