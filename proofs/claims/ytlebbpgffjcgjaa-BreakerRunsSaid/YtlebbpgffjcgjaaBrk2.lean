/-
  The breaker's step, and the document's: one and the same function.
-/
import Derived.Test.YtlebbpgffjcgjaaBrk
namespace Go.Proofs.Ytlebbpgffjcgjaa
open Go.Pv
set_option linter.unusedSimpArgs false
set_option maxRecDepth 100000

theorem eq36 (c g : Bool) (l : Int) (m : Bool) (c' g' : Bool) (l' : Int) (m' : Bool) : eqV Try.prog 6 36 (.agg [.bool c, .bool g, .int .i64 l, .bool m]) (.agg [.bool c', .bool g', .int .i64 l', .bool m']) = some ((c == c') && ((g == g') && ((l == l') && ((m == m') && true)))) := by kernel_rfl
def TmoveB : List V → Option V
  | [.agg [.bool c, .bool g, .int .i64 l, .bool m]] => some (Br.v (moveB ⟨c, g, l, m⟩))
  | _ => none
def TcommandB : List V → Option V
  | [.agg [.bool c, .bool g, .int .i64 l, .bool m], .int .i64 t, .bool s, .bool o, .bool k] => some (Br.v (commandB ⟨c, g, l, m⟩ t s o k))
  | _ => none
def B2 : Tab := add 22 TnewB (add 23 TvalidB (add 24 TvalidB (add 31 TmoveB (add 30 TcommandB (B1)))))
theorem B2_at (f : FuncId) (vs : List V) : B2.at' f vs = if f = 22 then TnewB vs else if f = 23 then TvalidB vs else if f = 24 then TvalidB vs else if f = 31 then TmoveB vs else if f = 30 then TcommandB vs else B1.at' f vs := rfl
theorem B2_fr (f : FuncId) : B2.fr f = if f = 22 then false else if f = 23 then false else if f = 24 then false else if f = 31 then false else if f = 30 then false else B1.fr f := rfl
theorem B2_ok : TabOK Try.prog B2 := by
  refine add_ok (add_ok (add_ok (add_ok (add_ok (B1_ok) (by kernel_rfl) ?_) (by kernel_rfl) ?_) (by kernel_rfl) ?_) (by kernel_rfl) ?_) (by kernel_rfl) ?_
  · intro vs v h; unfold TcommandB at h; split at h
    · cases h; apply commandB_ok
    · cases h
  · intro vs v h; unfold TmoveB at h; split at h
    · cases h; apply moveB_ok
    · cases h
  · intro vs v h; unfold TvalidB at h; split at h
    · cases h; apply validR_ok
    · cases h
  · intro vs v h; unfold TvalidB at h; split at h
    · cases h; apply validB_ok
    · cases h
  · intro vs v h; unfold TnewB at h; split at h
    · cases h; apply newB_ok
    · cases h
theorem valid_left {b : Br} {t : Int} (h : validB b t = true) : 0 ≤ b.left ∧ b.left ≤ t ∧ 1 ≤ t ∧ t ≤ 6 := by
  unfold validB at h
  split at h
  · cases h
  · rename_i hh
    simp only [usableB, ilt, Bool.or_eq_true, Bool.not_eq_true', Bool.and_eq_false_iff, Bool.not_eq_false', decide_eq_true_eq] at hh
    omega
def TstepB : List V → Option V
  | [.agg [.bool c, .bool g, .int .i64 l, .bool m], .int .i64 t, .bool s, .bool o, .bool k] => some (Br.v (stepB ⟨c, g, l, m⟩ t s o k))
  | _ => none
theorem stepB_ok (c g : Bool) (l : Int) (m : Bool) (t : Int) (s o k : Bool) : PCall Try.prog 20 [.agg [.bool c, .bool g, .int .i64 l, .bool m], .int .i64 t, .bool s, .bool o, .bool k] (Br.v (stepB ⟨c, g, l, m⟩ t s o k)) := by
  refine pcall_cx B2_ok mixed Try.func20 rfl Try.ntmps20 Try.results20 (by simp) (by kernel_rfl) ?_
  repeat' first
    | (refine gw_bool (fun _ => ?_) (fun _ => ?_))
    | (refine condw_bool (fun _ => ?_) (fun _ => ?_))
    | simp [*, td36, td3, td4, B2_at, B2_fr, B1_at, B1_fr, TvalidB, TmoveB, TcommandB, stepB, br0, Br.v]
theorem stepR_ok (c g : Bool) (l : Int) (m : Bool) (t : Int) (s o k : Bool) : PCall Try.prog 25 [.agg [.bool c, .bool g, .int .i64 l, .bool m], .int .i64 t, .bool s, .bool o, .bool k] (Br.v (stepB ⟨c, g, l, m⟩ t s o k)) := by
  refine pcall_cx B2_ok mixed Try.func25 rfl Try.ntmps25 Try.results25 (by simp) (by kernel_rfl) ?_
  cases hv : validB ⟨c, g, l, m⟩ t
  · skip
    repeat' first
      | (refine gw_bool (fun _ => ?_) (fun _ => ?_))
      | (refine condw_bool (fun _ => ?_) (fun _ => ?_))
      | simp [*, td36, td3, td4, B2_at, B2_fr, B1_at, B1_fr, TvalidB, stepB, br0, Br.v, moveB, commandB]
  · have hl := valid_left hv
    simp only at hl
    by_cases h0 : l = 0
    · subst h0
      have f1 : ieq 0 0 = true := by decide
      have f2 : ilt 0 0 = false := by decide
      repeat' first
        | (refine gw_bool (fun _ => ?_) (fun _ => ?_))
        | (refine condw_bool (fun _ => ?_) (fun _ => ?_))
        | simp [*, td36, td3, td4, B2_at, B2_fr, B1_at, B1_fr, TvalidB, stepB, br0, Br.v, moveB, commandB]
    · by_cases h1 : l = 1
      · subst h1
        have f1 : ieq 1 0 = false := by decide
        have f2 : ilt 0 1 = true := by decide
        have f3 : IntKind.i64.wrap (1 - 1) = 0 := by decide
        have f3' : IntKind.i64.wrap 0 = 0 := by decide
        have f4 : ieq 0 0 = true := by decide
        have f5 : ilt 0 0 = false := by decide
        repeat' first
          | (refine gw_bool (fun _ => ?_) (fun _ => ?_))
          | (refine condw_bool (fun _ => ?_) (fun _ => ?_))
          | simp [*, td36, td3, td4, B2_at, B2_fr, B1_at, B1_fr, TvalidB, stepB, br0, Br.v, moveB, commandB]
      · have f1 : ieq l 0 = false := by simp [ieq]; omega
        have f2 : ilt 0 l = true := by simp [ilt]; omega
        have f3 : IntKind.i64.wrap (l - 1) = l - 1 := wrap_id (by omega) (by omega)
        have f4 : ieq (l - 1) 0 = false := by simp [ieq]; omega
        have f5 : ilt 0 (l - 1) = true := by simp [ilt]; omega
        repeat' first
          | (refine gw_bool (fun _ => ?_) (fun _ => ?_))
          | (refine condw_bool (fun _ => ?_) (fun _ => ?_))
          | simp [*, td36, td3, td4, B2_at, B2_fr, B1_at, B1_fr, TvalidB, stepB, br0, Br.v, moveB, commandB]
def B3 : Tab := add 20 TstepB (add 25 TstepB (B2))
theorem B3_at (f : FuncId) (vs : List V) : B3.at' f vs = if f = 20 then TstepB vs else if f = 25 then TstepB vs else B2.at' f vs := rfl
theorem B3_fr (f : FuncId) : B3.fr f = if f = 20 then false else if f = 25 then false else B2.fr f := rfl
theorem B3_ok : TabOK Try.prog B3 := by
  refine add_ok (add_ok (B2_ok) (by kernel_rfl) ?_) (by kernel_rfl) ?_
  · intro vs v h; unfold TstepB at h; split at h
    · cases h; apply stepR_ok
    · cases h
  · intro vs v h; unfold TstepB at h; split at h
    · cases h; apply stepB_ok
    · cases h
end Go.Proofs.Ytlebbpgffjcgjaa
