/-
  Breaker failure: what each function answers, by its text; the examples.
-/
import Derived.Test.YtcbddoopmkhlfaaTd
namespace Go.Proofs.Ytcbddoopmkhlfaa
open Go.Pv Go.RowKit
set_option linter.unusedSimpArgs false
set_option linter.unusedVariables false
set_option maxRecDepth 100000
set_option maxHeartbeats 4000000

def usable (on : Bool) (d : Int) : Bool := on && !ilt d 1 && !ilt 500 d
def Tusable : List V → Option V
  | [.agg [.bool on, .int .i64 _, .int .i64 d]] => some (.bool (usable on d))
  | _ => none
theorem usable_ok (on : Bool) (p d : Int) : PCall Try.prog 42 [.agg [.bool on, .int .i64 p, .int .i64 d]] (.bool (usable on d)) := by
  refine pcall_cx noTab_ok mixed (fun _ => none) Try.func42 rfl Try.ntmps42 Try.results42 (by simp) (by kernel_rfl) ?_
  repeat' first
    | (with_reducible refine gw_bool (fun _ => ?_) (fun _ => ?_))
    | (with_reducible refine condw_bool (fun _ => ?_) (fun _ => ?_))
    | simp [*, usable]
def B1 : Tab := add 42 Tusable (noTab)
theorem B1_at (f : FuncId) (vs : List V) : B1.at' f vs = if f = 42 then Tusable vs else noTab.at' f vs := rfl
theorem B1_fr (f : FuncId) : B1.fr f = if f = 42 then false else noTab.fr f := rfl
theorem B1_gb (f : FuncId) : B1.gb f = noTab.gb f := rfl
theorem B1_gv (f : FuncId) (vs : List V) : B1.gv f vs = noTab.gv f vs := rfl
attribute [simp] B1_at B1_fr B1_gb B1_gv Tusable
theorem B1_ok : TabOK Try.prog B1 := by
  refine add_ok (noTab_ok) (by kernel_rfl) ?_
  · intro vs v h; unfold Tusable at h; split at h
    · cases h; apply usable_ok
    · cases h
def validF (on : Bool) (d n : Int) : Bool := ieq n 0 || (usable on d && ilt 0 n && !ilt (IntKind.i64.wrap (d + 1)) n)
def TvalidF : List V → Option V
  | [.agg [.bool on, .int .i64 _, .int .i64 d], .int .i64 n] => some (.bool (validF on d n))
  | _ => none
theorem validF_ok (on : Bool) (p d n : Int) : PCall Try.prog 16 [.agg [.bool on, .int .i64 p, .int .i64 d], .int .i64 n] (.bool (validF on d n)) := by
  refine pcall_cx B1_ok mixed (fun _ => none) Try.func16 rfl Try.ntmps16 Try.results16 (by simp) (by kernel_rfl) ?_
  repeat' first
    | (with_reducible refine gw_bool (fun _ => ?_) (fun _ => ?_))
    | (with_reducible refine condw_bool (fun _ => ?_) (fun _ => ?_))
    | simp [*, validF]
def B2 : Tab := add 16 TvalidF (B1)
theorem B2_at (f : FuncId) (vs : List V) : B2.at' f vs = if f = 16 then TvalidF vs else B1.at' f vs := rfl
theorem B2_fr (f : FuncId) : B2.fr f = if f = 16 then false else B1.fr f := rfl
theorem B2_gb (f : FuncId) : B2.gb f = B1.gb f := rfl
theorem B2_gv (f : FuncId) (vs : List V) : B2.gv f vs = B1.gv f vs := rfl
attribute [simp] B2_at B2_fr B2_gb B2_gv TvalidF
theorem B2_ok : TabOK Try.prog B2 := by
  refine add_ok (B1_ok) (by kernel_rfl) ?_
  · intro vs v h; unfold TvalidF at h; split at h
    · cases h; apply validF_ok
    · cases h
def stepF (on : Bool) (d n : Int) (c a : Bool) : Int × Bool :=
  if usable on d && validF on d n && c && a then (min (IntKind.i64.wrap (n + 1)) (IntKind.i64.wrap (d + 1)), ilt d (min (IntKind.i64.wrap (n + 1)) (IntKind.i64.wrap (d + 1)))) else (0, false)
def Tstep : List V → Option V
  | [.agg [.bool on, .int .i64 _, .int .i64 d], .int .i64 n, .bool c, .bool a] => some (.tup [.int .i64 (stepF on d n c a).1, .bool (stepF on d n c a).2])
  | _ => none
theorem step_ok (on : Bool) (p d n : Int) (c a : Bool) : PCall Try.prog 14 [.agg [.bool on, .int .i64 p, .int .i64 d], .int .i64 n, .bool c, .bool a] (.tup [.int .i64 (stepF on d n c a).1, .bool (stepF on d n c a).2]) := by
  refine pcall_cx B2_ok mixed (fun _ => none) Try.func14 rfl Try.ntmps14 Try.results14 (by simp) (by kernel_rfl) ?_
  repeat' first
    | (with_reducible refine gw_bool (fun _ => ?_) (fun _ => ?_))
    | (with_reducible refine condw_bool (fun _ => ?_) (fun _ => ?_))
    | simp [*, stepF]
def B3 : Tab := add 14 Tstep (B2)
theorem B3_at (f : FuncId) (vs : List V) : B3.at' f vs = if f = 14 then Tstep vs else B2.at' f vs := rfl
theorem B3_fr (f : FuncId) : B3.fr f = if f = 14 then false else B2.fr f := rfl
theorem B3_gb (f : FuncId) : B3.gb f = B2.gb f := rfl
theorem B3_gv (f : FuncId) (vs : List V) : B3.gv f vs = B2.gv f vs := rfl
attribute [simp] B3_at B3_fr B3_gb B3_gv Tstep
theorem B3_ok : TabOK Try.prog B3 := by
  refine add_ok (B2_ok) (by kernel_rfl) ?_
  · intro vs v h; unfold Tstep at h; split at h
    · cases h; apply step_ok
    · cases h
theorem stepF1 : stepF true 2 0 true true = (1, false) := by decide
theorem stepF2 : stepF true 2 1 true true = (2, false) := by decide
theorem stepF3 : stepF true 2 2 true true = (3, true) := by decide
theorem stepF4 : stepF true 2 3 true true = (3, true) := by decide
theorem stepF5 : stepF true 2 4 true true = (0, false) := by decide
theorem stepF6 : stepF true 2 2 true false = (0, false) := by decide
theorem stepF7 : stepF false 2 0 true true = (0, false) := by decide
theorem validF1 : validF true 2 3 = true := by decide
theorem validF2 : validF true 2 4 = false := by decide
theorem validF3 : validF false 0 0 = true := by decide
theorem known32_ok : PCall Try.prog 15 [] (.bool true) := by
  refine pcall_cx B3_ok mixed (fun _ => none) Try.func15 rfl Try.ntmps15 Try.results15 (by simp) (by kernel_rfl) ?_
  repeat' first
    | (with_reducible refine gw_bool (fun _ => ?_) (fun _ => ?_))
    | (with_reducible refine condw_bool (fun _ => ?_) (fun _ => ?_))
    | simp [*, stepF1, stepF2, stepF3]
def Ttrue : List V → Option V
  | [] => some (.bool true)
  | _ => none
theorem name0_ok : PCall Try.prog 67 [.str ByteArray.empty] (.bool false) := by
  refine pcall_cx B3_ok mixed (fun _ => none) Try.func67 rfl Try.ntmps67 Try.results67 (by simp) (by kernel_rfl) ?_
  repeat' first
    | (with_reducible refine gw_bool (fun _ => ?_) (fun _ => ?_))
    | (with_reducible refine condw_bool (fun _ => ?_) (fun _ => ?_))
    | simp [*]
def Tname0 : List V → Option V
  | [.str s] => bif decide (s.size = 0) then some (.bool false) else none
  | _ => none
theorem name0_tab : ∀ vs v, Tname0 vs = some v → PCall Try.prog 67 vs v := by
  intro vs v h; unfold Tname0 at h; split at h
  · rename_i s
    simp only [cond_eq_ite, decide_eq_true_eq] at h
    split at h
    · rename_i hs
      cases h
      have : s = ByteArray.empty := by
        have h2 : s.data = #[] := Array.eq_empty_of_size_eq_zero hs
        cases s; simp at h2; subst h2; rfl
      subst this; exact name0_ok
    · cases h
  · cases h
def B4 : Tab := add 15 Ttrue (add 67 Tname0 (B3))
theorem B4_at (f : FuncId) (vs : List V) : B4.at' f vs = if f = 15 then Ttrue vs else if f = 67 then Tname0 vs else B3.at' f vs := rfl
theorem B4_fr (f : FuncId) : B4.fr f = if f = 15 then false else if f = 67 then false else B3.fr f := rfl
theorem B4_gb (f : FuncId) : B4.gb f = B3.gb f := rfl
theorem B4_gv (f : FuncId) (vs : List V) : B4.gv f vs = B3.gv f vs := rfl
attribute [simp] B4_at B4_fr B4_gb B4_gv Tname0 Ttrue
theorem B4_ok : TabOK Try.prog B4 := by
  refine add_ok (add_ok (B3_ok) (by kernel_rfl) ?_) (by kernel_rfl) ?_
  · exact name0_tab
  · intro vs v h; unfold Ttrue at h; split at h
    · cases h; apply known32_ok
    · cases h
theorem check0_ok : PCall Try.prog 43 [.agg [.str ByteArray.empty, .nils, .nils, .nils, .nils]] (.int .i64 7) := by
  refine pcall_cx B4_ok mixed (fun _ => none) Try.func43 rfl Try.ntmps43 Try.results43 (by simp) (by kernel_rfl) ?_
  repeat' first
    | (with_reducible refine gw_bool (fun _ => ?_) (fun _ => ?_))
    | (with_reducible refine condw_bool (fun _ => ?_) (fun _ => ?_))
    | simp [*]
def Tcheck0 : List V → Option V
  | [.agg [.str s, .nils, .nils, .nils, .nils]] => bif decide (s.size = 0) then some (.int .i64 7) else none
  | _ => none
theorem check0_tab : ∀ vs v, Tcheck0 vs = some v → PCall Try.prog 43 vs v := by
  intro vs v h; unfold Tcheck0 at h; split at h
  · rename_i s
    simp only [cond_eq_ite, decide_eq_true_eq] at h
    split at h
    · rename_i hs
      cases h
      have : s = ByteArray.empty := by
        have h2 : s.data = #[] := Array.eq_empty_of_size_eq_zero hs
        cases s; simp at h2; subst h2; rfl
      subst this; exact check0_ok
    · cases h
  · cases h
def B5 : Tab := add 43 Tcheck0 (B4)
theorem B5_at (f : FuncId) (vs : List V) : B5.at' f vs = if f = 43 then Tcheck0 vs else B4.at' f vs := rfl
theorem B5_fr (f : FuncId) : B5.fr f = if f = 43 then false else B4.fr f := rfl
theorem B5_gb (f : FuncId) : B5.gb f = B4.gb f := rfl
theorem B5_gv (f : FuncId) (vs : List V) : B5.gv f vs = B4.gv f vs := rfl
attribute [simp] B5_at B5_fr B5_gb B5_gv Tcheck0
theorem B5_ok : TabOK Try.prog B5 := by
  refine add_ok (B4_ok) (by kernel_rfl) ?_
  · exact check0_tab
theorem targets0_ok : PCall Try.prog 17 [.agg [.str ByteArray.empty, .nils, .nils, .nils, .nils], .agg [.nils, .nils], .nils] .nils := by
  refine pcall_cx B5_ok mixed (fun _ => none) Try.func17 rfl Try.ntmps17 Try.results17 (by simp) (by kernel_rfl) ?_
  repeat' first
    | (with_reducible refine gw_bool (fun _ => ?_) (fun _ => ?_))
    | (with_reducible refine condw_bool (fun _ => ?_) (fun _ => ?_))
    | simp [*]
def Ttargets0 : List V → Option V
  | [.agg [.str s, .nils, .nils, .nils, .nils], .agg [.nils, .nils], .nils] => bif decide (s.size = 0) then some .nils else none
  | _ => none
theorem targets0_tab : ∀ vs v, Ttargets0 vs = some v → PCall Try.prog 17 vs v := by
  intro vs v h; unfold Ttargets0 at h; split at h
  · rename_i s
    simp only [cond_eq_ite, decide_eq_true_eq] at h
    split at h
    · rename_i hs
      cases h
      have : s = ByteArray.empty := by
        have h2 : s.data = #[] := Array.eq_empty_of_size_eq_zero hs
        cases s; simp at h2; subst h2; rfl
      subst this; exact targets0_ok
    · cases h
  · cases h
def B6 : Tab := add 17 Ttargets0 (B5)
theorem B6_at (f : FuncId) (vs : List V) : B6.at' f vs = if f = 17 then Ttargets0 vs else B5.at' f vs := rfl
theorem B6_fr (f : FuncId) : B6.fr f = if f = 17 then false else B5.fr f := rfl
theorem B6_gb (f : FuncId) : B6.gb f = B5.gb f := rfl
theorem B6_gv (f : FuncId) (vs : List V) : B6.gv f vs = B5.gv f vs := rfl
attribute [simp] B6_at B6_fr B6_gb B6_gv Ttargets0
theorem B6_ok : TabOK Try.prog B6 := by
  refine add_ok (B5_ok) (by kernel_rfl) ?_
  · exact targets0_tab
theorem bexamples_ok : PCall Try.prog 3 [] (.bool true) := by
  refine pcall_cx B6_ok mixed (fun _ => none) Try.func3 rfl Try.ntmps3 Try.results3 (by simp) (by kernel_rfl) ?_
  have hz : ({ data := #[] } : ByteArray) = ByteArray.empty := rfl
  repeat' first
    | (with_reducible refine gw_bool (fun _ => ?_) (fun _ => ?_))
    | (with_reducible refine condw_bool (fun _ => ?_) (fun _ => ?_))
    | simp [*, stepF4, stepF5, stepF6, stepF7, validF1, validF2, validF3]
end Go.Proofs.Ytcbddoopmkhlfaa
