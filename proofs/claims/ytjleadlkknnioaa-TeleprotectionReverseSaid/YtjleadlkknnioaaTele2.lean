/-
  Teleprotection: the document's step, the sanity check, and the first two laws' walks.
-/
import Derived.Test.YtjleadlkknnioaaTele
namespace Go.Proofs.Ytjleadlkknnioaa
open Go.Pv Go.RowKit
set_option linter.unusedSimpArgs false
set_option linter.unusedVariables false
set_option maxRecDepth 100000

def TstT : List V → Option V
  | [.int .i64 s, .int .i64 w, .int .i64 g, .agg [.int .i64 a, .int .i64 b], .agg [.bool x1, .bool x2, .bool x3, .bool x4]] => some (stV (stT s w g ⟨a, b⟩ ⟨x1, x2, x3, x4⟩))
  | _ => none
def TstR : List V → Option V
  | [.int .i64 s, .int .i64 w, .int .i64 g, .agg [.int .i64 a, .int .i64 b], .bool x1, .bool x2, .bool x3, .bool x4] => some (stV' (stT s w g ⟨a, b⟩ ⟨x1, x2, x3, x4⟩))
  | _ => none
theorem stR_ok (s w g a b : Int) (x1 x2 x3 x4 : Bool) : PCall Try.prog 12 [.int .i64 s, .int .i64 w, .int .i64 g, .agg [.int .i64 a, .int .i64 b], .bool x1, .bool x2, .bool x3, .bool x4] (stV' (stT s w g ⟨a, b⟩ ⟨x1, x2, x3, x4⟩)) := by
  cases hv : vaT s w g ⟨a, b⟩
  · refine pcall_cx G2_ok mixed (fun id => if id = 15 then some ⟨[(7, 16)], [4]⟩ else none) Try.func12 rfl Try.ntmps12 Try.results12 (by simp) (by kernel_rfl) ?_
    repeat' first
      | (refine gw_bool (fun _ => ?_) (fun _ => ?_))
      | (refine condw_bool (fun _ => ?_) (fun _ => ?_))
      | simp [*, stT, stV']
  · have hb := va_bounds hv
    simp only at hb
    have w1 : IntKind.i64.wrap (g + 1) = g + 1 := wrap_id (by omega) (by omega)
    have w2 : IntKind.i64.wrap (w + 1) = w + 1 := wrap_id (by omega) (by omega)
    have w3 : IntKind.i64.wrap (a - 1) = a - 1 := wrap_id (by omega) (by omega)
    have w4 : IntKind.i64.wrap (b + 1) = b + 1 := wrap_id (by omega) (by omega)
    have hs : s = 0 ∨ s = 1 ∨ s = 2 ∨ s = 3 := by omega
    have hz : Hid (vaT s w g ⟨a, b⟩ = true) := hv
    have hg : Hid (0 ≤ g ∧ 0 ≤ a) := show _ ∧ _ by omega
    clear hb
    rcases hs with rfl | rfl | rfl | rfl
    · refine pcall_cx G2_ok mixed (fun id => if id = 15 then some ⟨[(7, 16)], [4]⟩ else none) Try.func12 rfl Try.ntmps12 Try.results12 (by simp) (by kernel_rfl) ?_
      repeat' first
        | (refine gw_bool (fun _ => ?_) (fun _ => ?_))
        | (refine condw_bool (fun _ => ?_) (fun _ => ?_))
        | simp [*, stT, stV']
      all_goals (have hg := hg.out; have hz := hz.out; grind [vaT, usT, ilt, ieq])
    · refine pcall_cx G2_ok mixed (fun id => if id = 15 then some ⟨[(7, 16)], [4]⟩ else none) Try.func12 rfl Try.ntmps12 Try.results12 (by simp) (by kernel_rfl) ?_
      repeat' first
        | (refine gw_bool (fun _ => ?_) (fun _ => ?_))
        | (refine condw_bool (fun _ => ?_) (fun _ => ?_))
        | simp [*, stT, stV']
      all_goals (have hg := hg.out; grind [ilt, ieq])
    · refine pcall_cx G2_ok mixed (fun id => if id = 15 then some ⟨[(7, 16)], [4]⟩ else none) Try.func12 rfl Try.ntmps12 Try.results12 (by simp) (by kernel_rfl) ?_
      repeat' first
        | (refine gw_bool (fun _ => ?_) (fun _ => ?_))
        | (refine condw_bool (fun _ => ?_) (fun _ => ?_))
        | simp [*, stT, stV']
      all_goals (have hg := hg.out; grind [ilt, ieq])
    · refine pcall_cx G2_ok mixed (fun id => if id = 15 then some ⟨[(7, 16)], [4]⟩ else none) Try.func12 rfl Try.ntmps12 Try.results12 (by simp) (by kernel_rfl) ?_
      repeat' first
        | (refine gw_bool (fun _ => ?_) (fun _ => ?_))
        | (refine condw_bool (fun _ => ?_) (fun _ => ?_))
        | simp [*, stT, stV']
      all_goals (have hg := hg.out; grind [ilt, ieq])
def G3 : Tab := add 9 TstT (add 12 TstR (G2))
theorem G3_at (f : FuncId) (vs : List V) : G3.at' f vs = if f = 9 then TstT vs else if f = 12 then TstR vs else G2.at' f vs := rfl
theorem G3_fr (f : FuncId) : G3.fr f = if f = 9 then false else if f = 12 then false else G2.fr f := rfl
attribute [simp] G3_at G3_fr TstR TstT
theorem G3_ok : TabOK Try.prog G3 := by
  refine add_ok (add_ok (G2_ok) (by kernel_rfl) ?_) (by kernel_rfl) ?_
  · intro vs v h; unfold TstR at h; split at h
    · cases h; apply stR_ok
    · cases h
  · intro vs v h; unfold TstT at h; split at h
    · cases h; apply stT_ok
    · cases h
theorem known_ok : PCall Try.prog 10 [] (.bool true) := by
  refine pcall_cx G3_ok mixed (fun _ => none) Try.func10 rfl Try.ntmps10 Try.results10 (by simp) (by kernel_rfl) ?_
  repeat' first
    | (refine gw_bool (fun _ => ?_) (fun _ => ?_))
    | (refine condw_bool (fun _ => ?_) (fun _ => ?_))
    | simp [*, stT, vaT, usT, stV, Int.max_def, Int.min_def]
def Ttrue : List V → Option V
  | [] => some (.bool true)
  | _ => none
def G4 : Tab := add 10 Ttrue (G3)
theorem G4_at (f : FuncId) (vs : List V) : G4.at' f vs = if f = 10 then Ttrue vs else G3.at' f vs := rfl
theorem G4_fr (f : FuncId) : G4.fr f = if f = 10 then false else G3.fr f := rfl
attribute [simp] G4_at G4_fr Ttrue
theorem G4_ok : TabOK Try.prog G4 := by
  refine add_ok (G3_ok) (by kernel_rfl) ?_
  · intro vs v h; unfold Ttrue at h; split at h
    · cases h; apply known_ok
    · cases h
theorem examples_ok : PCall Try.prog 3 [] (.bool true) := by
  refine pcall_cx G4_ok mixed (fun _ => none) Try.func3 rfl Try.ntmps3 Try.results3 (by simp) (by kernel_rfl) ?_
  repeat' first
    | (refine gw_bool (fun _ => ?_) (fun _ => ?_))
    | (refine condw_bool (fun _ => ?_) (fun _ => ?_))
    | simp [*, stT, vaT, usT, stV, Int.max_def, Int.min_def]
end Go.Proofs.Ytjleadlkknnioaa
