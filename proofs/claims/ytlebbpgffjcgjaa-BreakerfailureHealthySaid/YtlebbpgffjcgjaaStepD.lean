/-
  One step of breaker failure while command and current last.
-/
import Derived.Test.YtlebbpgffjcgjaaFail
import Derived.Test.YtlebbpgffjcgjaaTools
namespace Go.Proofs.Ytlebbpgffjcgjaa
open Go.Pv

theorem stepD {D : Int} {run : Nat} (h1 : 1 ≤ D) (h2 : D ≤ 500) : stepF true D (min run (D + 1)) true true = (min ((run + 1 : Nat) : Int) (D + 1), ilt D ((run + 1 : Nat) : Int)) := by
  have e1 : IntKind.i64.wrap (D + 1) = D + 1 := wrap_id (by omega) (by omega)
  have e2 : IntKind.i64.wrap (min (run : Int) (D + 1) + 1) = min (run : Int) (D + 1) + 1 := wrap_id (by omega) (by omega)
  have hu : usable true D = true := by simp [usable, ilt]; omega
  have hv : valid true D (min run (D + 1)) = true := by simp [valid, hu, e1, ilt, ieq]; omega
  have e3 : min (min (run : Int) (D + 1) + 1) (D + 1) = min ((run + 1 : Nat) : Int) (D + 1) := by omega
  have e4 : ilt D (min ((run + 1 : Nat) : Int) (D + 1)) = ilt D ((run + 1 : Nat) : Int) := by simp only [ilt]; congr 1; apply propext; omega
  simp only [stepF, hu, hv, e1, e2, e3, e4, Bool.and_self, if_true]

theorem stepZ {D n : Int} {c b : Bool} (h : (c && b) = false) : stepF true D n c b = (0, false) := by
  simp only [stepF]
  rw [if_neg]
  cases c <;> cases b <;> simp_all
end Go.Proofs.Ytlebbpgffjcgjaa
