/-
  Frequency: which orders the statements of one law may take.
-/
import Derived.Test.YtacmchjaldljjaaLaw1
namespace Go.Proofs.Ytacmchjaldljjaa
open Go.Pv Go.RowKit
set_option maxRecDepth 100000

def bodyOf (f : Func) : Code := match f.body with
  | some c => c
  | none => .skip
def loopOf : Code → Code
  | .seq a b => (match loopOf a with
    | .skip => loopOf b
    | c => c)
  | .block _ c => loopOf c
  | .loop c => c
  | _ => .skip
theorem okc3 : okC 123 (fun _ => none) (bodyOf Try.f3) = true := by kernel_rfl
theorem okl3 : okC 123 (fun _ => none) (loopOf (bodyOf Try.f3)) = true := by kernel_rfl
end Go.Proofs.Ytacmchjaldljjaa
