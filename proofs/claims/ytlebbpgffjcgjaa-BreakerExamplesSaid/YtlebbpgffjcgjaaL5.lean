/-
  BreakerExamples: the walk.
-/
import Derived.Test.YtlebbpgffjcgjaaL6
namespace Go.Proofs.Ytlebbpgffjcgjaa
open Go.Pv Go.RowKit
set_option linter.unusedVariables false
set_option linter.unusedSimpArgs false
set_option maxRecDepth 100000

theorem walk5 : PCall Try.prog 5 [] (.bool true) := by
  have h1 : runRows false 2 false [false, true, false, false] [true, false, false, false] = [Br.cs ⟨false, true, 2, false⟩, Br.cs br0, Br.cs br0, Br.cs br0] := by rfl
  have h2 : runRows true 1 true [true, false, false] [false, false, false] = [Br.cs ⟨true, false, 0, true⟩, Br.cs ⟨true, false, 0, true⟩, Br.cs ⟨true, false, 0, true⟩] := by rfl
  have h3 : stepB ⟨false, false, 0, false⟩ 3 false true true = br0 := by rfl
  have h4 : stepB ⟨true, false, 4, false⟩ 3 false false false = br0 := by rfl
  have h5 : stepB ⟨true, false, 1, true⟩ 3 false false true = ⟨false, true, 3, false⟩ := by rfl
  have h6 : runRows true 0 false [] [] = [] := by rfl
  have h7 : validB ⟨false, false, 0, true⟩ 2 = false := by rfl
  refine pcall_cx B5_ok mixed Try.func5 rfl Try.ntmps5 Try.results5 (by simp) (by kernel_rfl) ?_
  repeat' first
    | (refine gw_bool (fun _ => ?_) (fun _ => ?_))
    | (refine condw_bool (fun _ => ?_) (fun _ => ?_))
    | simp [*, td31, td33, td36, td3, td4, B5_at, B5_fr, B4_at, B4_fr, B3_at, B3_fr, B2_at, B2_fr, Ttrue, Trun, TvalidB, TstepB, TnewB, unb, Br.v, Br.cs, br0, eq36, ieq]
end Go.Proofs.Ytlebbpgffjcgjaa
