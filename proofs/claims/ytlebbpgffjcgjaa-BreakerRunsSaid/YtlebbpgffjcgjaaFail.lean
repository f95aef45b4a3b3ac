/-
  Breaker failure: what each function answers, by its text.
-/
import Derived.Test.YtlebbpgffjcgjaaTd
namespace Go.Proofs.Ytlebbpgffjcgjaa
open Go.Pv
set_option linter.unusedSimpArgs false
set_option maxRecDepth 100000

theorem mixed : Try.prog.follows .mixedOrders = true := by kernel_rfl

/-! ### breaker failure -/
def usable (on : Bool) (d : Int) : Bool := on && !ilt d 1 && !ilt 500 d
def Tusable : List V → Option V
  | [.agg [.bool on, .int .i64 _, .int .i64 d]] => some (.bool (usable on d))
  | _ => none
theorem usable_ok (on : Bool) (p d : Int) : PCall Try.prog 27 [.agg [.bool on, .int .i64 p, .int .i64 d]] (.bool (usable on d)) := by
  refine pcall_cx noTab_ok mixed Try.func27 rfl Try.ntmps27 Try.results27 (by simp) (by kernel_rfl) ?_
  repeat' first
    | (refine gw_bool (fun _ => ?_) (fun _ => ?_))
    | (refine condw_bool (fun _ => ?_) (fun _ => ?_))
    | simp [*, td23, td3, td4, usable]
theorem usable_ok' (on : Bool) (p d : Int) : PCall Try.prog 28 [.agg [.bool on, .int .i64 p, .int .i64 d]] (.bool (usable on d)) := by
  refine pcall_cx noTab_ok mixed Try.func28 rfl Try.ntmps28 Try.results28 (by simp) (by kernel_rfl) ?_
  repeat' first
    | (refine gw_bool (fun _ => ?_) (fun _ => ?_))
    | (refine condw_bool (fun _ => ?_) (fun _ => ?_))
    | simp [*, td23, td3, td4, usable]
def G1 : Tab := add 27 Tusable (add 28 Tusable (noTab))
theorem G1_at (f : FuncId) (vs : List V) : G1.at' f vs = if f = 27 then Tusable vs else if f = 28 then Tusable vs else noTab.at' f vs := rfl
theorem G1_fr (f : FuncId) : G1.fr f = if f = 27 then false else if f = 28 then false else noTab.fr f := rfl
theorem G1_ok : TabOK Try.prog G1 := by
  refine add_ok (add_ok (noTab_ok) (by kernel_rfl) ?_) (by kernel_rfl) ?_
  · intro vs v h; unfold Tusable at h; split at h
    · cases h; apply usable_ok'
    · cases h
  · intro vs v h; unfold Tusable at h; split at h
    · cases h; apply usable_ok
    · cases h
def valid (on : Bool) (d n : Int) : Bool := ieq n 0 || (usable on d && ilt 0 n && !ilt (IntKind.i64.wrap (d + 1)) n)
def Tvalid : List V → Option V
  | [.agg [.bool on, .int .i64 _, .int .i64 d], .int .i64 n] => some (.bool (valid on d n))
  | _ => none
theorem valid_ok (on : Bool) (p d n : Int) : PCall Try.prog 17 [.agg [.bool on, .int .i64 p, .int .i64 d], .int .i64 n] (.bool (valid on d n)) := by
  refine pcall_cx G1_ok mixed Try.func17 rfl Try.ntmps17 Try.results17 (by simp) (by kernel_rfl) ?_
  repeat' first
    | (refine gw_bool (fun _ => ?_) (fun _ => ?_))
    | (refine condw_bool (fun _ => ?_) (fun _ => ?_))
    | simp [*, td23, td3, td4, G1_at, G1_fr, Tusable, valid]
theorem valid_ok' (on : Bool) (p d n : Int) : PCall Try.prog 18 [.agg [.bool on, .int .i64 p, .int .i64 d], .int .i64 n] (.bool (valid on d n)) := by
  refine pcall_cx G1_ok mixed Try.func18 rfl Try.ntmps18 Try.results18 (by simp) (by kernel_rfl) ?_
  repeat' first
    | (refine gw_bool (fun _ => ?_) (fun _ => ?_))
    | (refine condw_bool (fun _ => ?_) (fun _ => ?_))
    | simp [*, td23, td3, td4, G1_at, G1_fr, Tusable, valid]
def G2 : Tab := add 17 Tvalid (add 18 Tvalid (G1))
theorem G2_at (f : FuncId) (vs : List V) : G2.at' f vs = if f = 17 then Tvalid vs else if f = 18 then Tvalid vs else G1.at' f vs := rfl
theorem G2_fr (f : FuncId) : G2.fr f = if f = 17 then false else if f = 18 then false else G1.fr f := rfl
theorem G2_ok : TabOK Try.prog G2 := by
  refine add_ok (add_ok (G1_ok) (by kernel_rfl) ?_) (by kernel_rfl) ?_
  · intro vs v h; unfold Tvalid at h; split at h
    · cases h; apply valid_ok'
    · cases h
  · intro vs v h; unfold Tvalid at h; split at h
    · cases h; apply valid_ok
    · cases h
def stepF (on : Bool) (d n : Int) (c a : Bool) : Int × Bool :=
  if usable on d && valid on d n && c && a then (min (IntKind.i64.wrap (n + 1)) (IntKind.i64.wrap (d + 1)), ilt d (min (IntKind.i64.wrap (n + 1)) (IntKind.i64.wrap (d + 1)))) else (0, false)
def Tstep : List V → Option V
  | [.agg [.bool on, .int .i64 _, .int .i64 d], .int .i64 n, .bool c, .bool a] => some (.tup [.int .i64 (stepF on d n c a).1, .bool (stepF on d n c a).2])
  | _ => none
theorem step_ok (on : Bool) (p d n : Int) (c a : Bool) : PCall Try.prog 14 [.agg [.bool on, .int .i64 p, .int .i64 d], .int .i64 n, .bool c, .bool a] (.tup [.int .i64 (stepF on d n c a).1, .bool (stepF on d n c a).2]) := by
  refine pcall_cx G2_ok mixed Try.func14 rfl Try.ntmps14 Try.results14 (by simp) (by kernel_rfl) ?_
  repeat' first
    | (refine gw_bool (fun _ => ?_) (fun _ => ?_))
    | (refine condw_bool (fun _ => ?_) (fun _ => ?_))
    | simp [*, td23, td3, td4, G1_at, G1_fr, G2_at, G2_fr, Tusable, Tvalid, stepF]
theorem step_ok' (on : Bool) (p d n : Int) (c a : Bool) : PCall Try.prog 15 [.agg [.bool on, .int .i64 p, .int .i64 d], .int .i64 n, .bool c, .bool a] (.tup [.int .i64 (stepF on d n c a).1, .bool (stepF on d n c a).2]) := by
  refine pcall_cx G2_ok mixed Try.func15 rfl Try.ntmps15 Try.results15 (by simp) (by kernel_rfl) ?_
  repeat' first
    | (refine gw_bool (fun _ => ?_) (fun _ => ?_))
    | (refine condw_bool (fun _ => ?_) (fun _ => ?_))
    | simp [*, td23, td3, td4, G1_at, G1_fr, G2_at, G2_fr, Tusable, Tvalid, stepF]
def G3 : Tab := add 14 Tstep (add 15 Tstep (G2))
theorem G3_at (f : FuncId) (vs : List V) : G3.at' f vs = if f = 14 then Tstep vs else if f = 15 then Tstep vs else G2.at' f vs := rfl
theorem G3_fr (f : FuncId) : G3.fr f = if f = 14 then false else if f = 15 then false else G2.fr f := rfl
theorem G3_ok : TabOK Try.prog G3 := by
  refine add_ok (add_ok (G2_ok) (by kernel_rfl) ?_) (by kernel_rfl) ?_
  · intro vs v h; unfold Tstep at h; split at h
    · cases h; apply step_ok'
    · cases h
  · intro vs v h; unfold Tstep at h; split at h
    · cases h; apply step_ok
    · cases h
theorem stepF1 : stepF true 2 0 true true = (1, false) := by decide
theorem stepF2 : stepF true 2 1 true true = (2, false) := by decide
theorem stepF3 : stepF true 2 2 true true = (3, true) := by decide
theorem known_ok : PCall Try.prog 16 [] (.bool true) := by
  refine pcall_cx G3_ok mixed Try.func16 rfl Try.ntmps16 Try.results16 (by simp) (by kernel_rfl) ?_
  repeat' first
    | (refine gw_bool (fun _ => ?_) (fun _ => ?_))
    | (refine condw_bool (fun _ => ?_) (fun _ => ?_))
    | simp [*, td23, td3, td4, G3_at, G3_fr, Tstep, stepF1, stepF2, stepF3, ieq]
def Ttrue : List V → Option V
  | [] => some (.bool true)
  | _ => none
def G4 : Tab := add 16 Ttrue (G3)
theorem G4_at (f : FuncId) (vs : List V) : G4.at' f vs = if f = 16 then Ttrue vs else G3.at' f vs := rfl
theorem G4_fr (f : FuncId) : G4.fr f = if f = 16 then false else G3.fr f := rfl
theorem G4_ok : TabOK Try.prog G4 := by
  refine add_ok (G3_ok) (by kernel_rfl) ?_
  · intro vs v h; unfold Ttrue at h; split at h
    · cases h; apply known_ok
    · cases h
def law3 (on : Bool) (d n : Int) (c a : Bool) : Bool := valid on d (stepF on d n c a).1
theorem law3_ok (on : Bool) (p d n : Int) (c a : Bool) : PCall Try.prog 3 [.agg [.bool on, .int .i64 p, .int .i64 d], .int .i64 n, .agg [.bool c, .bool a]] (.bool (law3 on d n c a)) := by
  refine pcall_cx G4_ok mixed Try.func3 rfl Try.ntmps3 Try.results3 (by simp) (by kernel_rfl) ?_
  repeat' first
    | (refine gw_bool (fun _ => ?_) (fun _ => ?_))
    | (refine condw_bool (fun _ => ?_) (fun _ => ?_))
    | simp [*, td23, td25, td3, td4, G1_at, G1_fr, G2_at, G2_fr, G3_at, G3_fr, G4_at, G4_fr, Tusable, Tvalid, Tstep, Ttrue, law3, ieq]
end Go.Proofs.Ytlebbpgffjcgjaa
