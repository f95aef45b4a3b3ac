/-
  The breaker: what each function answers, by its text.
-/
import Derived.Test.YtlebbpgffjcgjaaFail
import Derived.Test.YtlebbpgffjcgjaaTools
namespace Go.Proofs.Ytlebbpgffjcgjaa
open Go.Pv
set_option linter.unusedSimpArgs false
set_option maxRecDepth 100000

structure Br where
  closed : Bool
  closing : Bool
  left : Int
  com : Bool
def Br.v (b : Br) : V := .agg [.bool b.closed, .bool b.closing, .int .i64 b.left, .bool b.com]
def Br.cs (b : Br) : List V := [.bool b.closed, .bool b.closing, .int .i64 b.left, .bool b.com]
def br0 : Br := ⟨false, false, 0, false⟩
def usableB (t : Int) : Bool := !ilt t 1 && !ilt 6 t
def validB (b : Br) (t : Int) : Bool :=
  if !usableB t || ilt b.left 0 || ilt t b.left then false
  else if ieq b.left 0 && b.closing then false
  else if ilt 0 b.left && (b.closed == b.closing) then false
  else b.closed || !b.com
def moveB (b : Br) : Br :=
  if ieq b.left 0 then b
  else if ieq (IntKind.i64.wrap (b.left - 1)) 0 then ⟨b.closing, false, IntKind.i64.wrap (b.left - 1), b.com && b.closing⟩
  else { b with left := IntKind.i64.wrap (b.left - 1) }
def commandB (b : Br) (t : Int) (stuck opn cls : Bool) : Br :=
  if ilt 0 b.left && b.closing && opn then ⟨b.closed, false, 0, b.com⟩
  else if ieq b.left 0 && b.closed && opn then ⟨b.closed, b.closing, if stuck then b.left else t, true⟩
  else if ieq b.left 0 && !b.closed && cls && !opn then ⟨b.closed, true, t, b.com⟩
  else b
def stepB (b : Br) (t : Int) (stuck opn cls : Bool) : Br := if validB b t then commandB (moveB b) t stuck opn cls else br0

def TusableB : List V → Option V
  | [.int .i64 t] => some (.bool (usableB t))
  | _ => none
theorem usableB_ok (t : Int) : PCall Try.prog 29 [.int .i64 t] (.bool (usableB t)) := by
  refine pcall_cx noTab_ok mixed Try.func29 rfl Try.ntmps29 Try.results29 (by simp) (by kernel_rfl) ?_
  repeat' first
    | (refine gw_bool (fun _ => ?_) (fun _ => ?_))
    | (refine condw_bool (fun _ => ?_) (fun _ => ?_))
    | simp [*, td3, td4, usableB]
def B1 : Tab := add 29 TusableB (G4)
theorem B1_at (f : FuncId) (vs : List V) : B1.at' f vs = if f = 29 then TusableB vs else G4.at' f vs := rfl
theorem B1_fr (f : FuncId) : B1.fr f = if f = 29 then false else G4.fr f := rfl
theorem B1_ok : TabOK Try.prog B1 := by
  refine add_ok (G4_ok) (by kernel_rfl) ?_
  · intro vs v h; unfold TusableB at h; split at h
    · cases h; apply usableB_ok
    · cases h
def TnewB : List V → Option V
  | [.bool c] => some (Br.v ⟨c, false, 0, false⟩)
  | _ => none
theorem newB_ok (c : Bool) : PCall Try.prog 22 [.bool c] (Br.v ⟨c, false, 0, false⟩) := by
  refine pcall_cx noTab_ok mixed Try.func22 rfl Try.ntmps22 Try.results22 (by simp) (by kernel_rfl) ?_
  repeat' first
    | (refine gw_bool (fun _ => ?_) (fun _ => ?_))
    | (refine condw_bool (fun _ => ?_) (fun _ => ?_))
    | simp [*, td36, td3, td4, Br.v]
def TvalidB : List V → Option V
  | [.agg [.bool c, .bool g, .int .i64 l, .bool m], .int .i64 t] => some (.bool (validB ⟨c, g, l, m⟩ t))
  | _ => none
theorem validB_ok (c g : Bool) (l : Int) (m : Bool) (t : Int) : PCall Try.prog 23 [.agg [.bool c, .bool g, .int .i64 l, .bool m], .int .i64 t] (.bool (validB ⟨c, g, l, m⟩ t)) := by
  refine pcall_cx B1_ok mixed Try.func23 rfl Try.ntmps23 Try.results23 (by simp) (by kernel_rfl) ?_
  repeat' first
    | (refine gw_bool (fun _ => ?_) (fun _ => ?_))
    | (refine condw_bool (fun _ => ?_) (fun _ => ?_))
    | simp [*, td36, td3, td4, B1_at, B1_fr, TusableB, validB]
  all_goals (cases c <;> cases g <;> cases m <;> simp_all)
theorem validR_ok (c g : Bool) (l : Int) (m : Bool) (t : Int) : PCall Try.prog 24 [.agg [.bool c, .bool g, .int .i64 l, .bool m], .int .i64 t] (.bool (validB ⟨c, g, l, m⟩ t)) := by
  refine pcall_cx B1_ok mixed Try.func24 rfl Try.ntmps24 Try.results24 (by simp) (by kernel_rfl) ?_
  repeat' first
    | (refine gw_bool (fun _ => ?_) (fun _ => ?_))
    | (refine condw_bool (fun _ => ?_) (fun _ => ?_))
    | simp [*, td36, td3, td4, B1_at, B1_fr, TusableB, validB]
  all_goals (cases c <;> cases g <;> cases m <;> simp_all [usableB, ilt, ieq] <;> omega)
theorem moveB_ok (c g : Bool) (l : Int) (m : Bool) : PCall Try.prog 31 [.agg [.bool c, .bool g, .int .i64 l, .bool m]] (Br.v (moveB ⟨c, g, l, m⟩)) := by
  refine pcall_cx noTab_ok mixed Try.func31 rfl Try.ntmps31 Try.results31 (by simp) (by kernel_rfl) ?_
  repeat' first
    | (refine gw_bool (fun _ => ?_) (fun _ => ?_))
    | (refine condw_bool (fun _ => ?_) (fun _ => ?_))
    | simp [*, td36, td3, td4, moveB, Br.v]
theorem commandB_ok (c g : Bool) (l : Int) (m : Bool) (t : Int) (s o k : Bool) : PCall Try.prog 30 [.agg [.bool c, .bool g, .int .i64 l, .bool m], .int .i64 t, .bool s, .bool o, .bool k] (Br.v (commandB ⟨c, g, l, m⟩ t s o k)) := by
  refine pcall_cx noTab_ok mixed Try.func30 rfl Try.ntmps30 Try.results30 (by simp) (by kernel_rfl) ?_
  repeat' first
    | (refine gw_bool (fun _ => ?_) (fun _ => ?_))
    | (refine condw_bool (fun _ => ?_) (fun _ => ?_))
    | simp [*, td36, td3, td4, commandB, Br.v]
end Go.Proofs.Ytlebbpgffjcgjaa
