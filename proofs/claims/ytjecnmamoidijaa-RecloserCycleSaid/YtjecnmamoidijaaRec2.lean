/-
  The recloser: the document's step, the law's own step, the sanity check, the examples, Closings.
-/
import Derived.Test.YtjecnmamoidijaaRec
namespace Go.Proofs.Ytjecnmamoidijaa
open Go.Pv Go.RowKit
set_option linter.unusedSimpArgs false
set_option linter.unusedVariables false
set_option maxRecDepth 100000
set_option maxHeartbeats 4000000

theorem va_bounds {s d r : Int} {x : Rc} (h : vaR s d r x = true) : (1 ≤ s ∧ s ≤ 3 ∧ 1 ≤ d ∧ d ≤ 100 ∧ 1 ≤ r ∧ r ≤ 1000) ∧ 0 ≤ x.p ∧ x.p ≤ 5 ∧ 0 ≤ x.s ∧ x.s ≤ s ∧ 0 ≤ x.n ∧ x.n ≤ 1000 := by
  have hu : usR s d r = true := by grind [vaR]
  have := us_bounds hu
  grind (splits := 30) [vaR, within, ilt, ieq]
theorem stR_ref (s d r p q n : Int) (a b c e : Bool) : PCall Try.prog 13 [.int .i64 s, .int .i64 d, .int .i64 r, .agg [.int .i64 p, .int .i64 q, .int .i64 n], .bool a, .bool b, .bool c, .bool e] (vb (stR s d r ⟨p, q, n⟩ ⟨a, b, c, e⟩)) := by
  cases hv : vaR s d r ⟨p, q, n⟩
  · refine pcall_cx G2_ok mixed (fun _ => none) Try.func13 rfl Try.ntmps13 Try.results13 (by simp) (by kernel_rfl) ?_
    repeat' first
      | (refine gw_bool (fun _ => ?_) (fun _ => ?_))
      | (refine condw_bool (fun _ => ?_) (fun _ => ?_))
      | simp [*, stR, vb, Rc.v, rc0]
  · have hb := va_bounds hv
    simp only at hb
    have hs : p = 0 ∨ p = 1 ∨ p = 2 ∨ p = 3 ∨ p = 4 ∨ p = 5 := by omega
    have w1 : IntKind.i64.wrap (d - 1) = d - 1 := wrap_id (by omega) (by omega)
    have w2 : IntKind.i64.wrap (r - 1) = r - 1 := wrap_id (by omega) (by omega)
    clear hb
    rcases hs with rfl | rfl | rfl | rfl | rfl | rfl
    · refine pcall_cx G2_ok mixed (fun _ => none) Try.func13 rfl Try.ntmps13 Try.results13 (by simp) (by kernel_rfl) ?_
      repeat' first
        | (refine gw_bool (fun _ => ?_) (fun _ => ?_))
        | (refine condw_bool (fun _ => ?_) (fun _ => ?_))
        | simp [*, stR, awR, paR, reR, vb, Rc.v, lk]
    · refine pcall_cx G2_ok mixed (fun _ => none) Try.func13 rfl Try.ntmps13 Try.results13 (by simp) (by kernel_rfl) ?_
      repeat' first
        | (refine gw_bool (fun _ => ?_) (fun _ => ?_))
        | (refine condw_bool (fun _ => ?_) (fun _ => ?_))
        | simp [*, stR, awR, paR, reR, vb, Rc.v, lk]
    · refine pcall_cx G2_ok mixed (fun _ => none) Try.func13 rfl Try.ntmps13 Try.results13 (by simp) (by kernel_rfl) ?_
      repeat' first
        | (refine gw_bool (fun _ => ?_) (fun _ => ?_))
        | (refine condw_bool (fun _ => ?_) (fun _ => ?_))
        | simp [*, stR, awR, paR, reR, vb, Rc.v, lk]
    · refine pcall_cx G2_ok mixed (fun _ => none) Try.func13 rfl Try.ntmps13 Try.results13 (by simp) (by kernel_rfl) ?_
      repeat' first
        | (refine gw_bool (fun _ => ?_) (fun _ => ?_))
        | (refine condw_bool (fun _ => ?_) (fun _ => ?_))
        | simp [*, stR, awR, paR, reR, vb, Rc.v, lk]
    · refine pcall_cx G2_ok mixed (fun _ => none) Try.func13 rfl Try.ntmps13 Try.results13 (by simp) (by kernel_rfl) ?_
      repeat' first
        | (refine gw_bool (fun _ => ?_) (fun _ => ?_))
        | (refine condw_bool (fun _ => ?_) (fun _ => ?_))
        | simp [*, stR, awR, paR, reR, vb, Rc.v, lk]
    · refine pcall_cx G2_ok mixed (fun _ => none) Try.func13 rfl Try.ntmps13 Try.results13 (by simp) (by kernel_rfl) ?_
      repeat' first
        | (refine gw_bool (fun _ => ?_) (fun _ => ?_))
        | (refine condw_bool (fun _ => ?_) (fun _ => ?_))
        | simp [*, stR, awR, paR, reR, vb, Rc.v, lk]
def TstR : List V → Option V
  | [.int .i64 s, .int .i64 d, .int .i64 r, .agg [.int .i64 p, .int .i64 q, .int .i64 n], .agg [.bool a, .bool b, .bool c, .bool e]] => some (vb (stR s d r ⟨p, q, n⟩ ⟨a, b, c, e⟩))
  | _ => none
def TstF : List V → Option V
  | [.int .i64 s, .int .i64 d, .int .i64 r, .agg [.int .i64 p, .int .i64 q, .int .i64 n], .bool a, .bool b, .bool c, .bool e] => some (vb (stR s d r ⟨p, q, n⟩ ⟨a, b, c, e⟩))
  | _ => none
def G3 : Tab := add 11 TstR (add 13 TstF (G2))
theorem G3_at (f : FuncId) (vs : List V) : G3.at' f vs = if f = 11 then TstR vs else if f = 13 then TstF vs else G2.at' f vs := rfl
theorem G3_fr (f : FuncId) : G3.fr f = if f = 11 then false else if f = 13 then false else G2.fr f := rfl
attribute [simp] G3_at G3_fr TstF TstR
theorem G3_ok : TabOK Try.prog G3 := by
  refine add_ok (add_ok (G2_ok) (by kernel_rfl) ?_) (by kernel_rfl) ?_
  · intro vs v h; unfold TstF at h; split at h
    · cases h; apply stR_ref
    · cases h
  · intro vs v h; unfold TstR at h; split at h
    · cases h; apply stR_ok
    · cases h
theorem stS_ok (s d r p q n : Int) (a b c e : Bool) : PCall Try.prog 10 [.agg [.int .i64 s, .int .i64 d, .int .i64 r], .agg [.int .i64 p, .int .i64 q, .int .i64 n], .agg [.bool a, .bool b, .bool c, .bool e]] (vb (stR s d r ⟨p, q, n⟩ ⟨a, b, c, e⟩)) := by
  obtain ⟨y, hy⟩ : ∃ y, stR s d r ⟨p, q, n⟩ ⟨a, b, c, e⟩ = y := ⟨_, rfl⟩
  obtain ⟨⟨p', q', n'⟩, c'⟩ := y
  refine pcall_cx G3_ok mixed (fun _ => none) Try.func10 rfl Try.ntmps10 Try.results10 (by simp) (by kernel_rfl) ?_
  repeat' first
    | (refine gw_bool (fun _ => ?_) (fun _ => ?_))
    | (refine condw_bool (fun _ => ?_) (fun _ => ?_))
    | simp [*, vb, Rc.v]
def TstS : List V → Option V
  | [.agg [.int .i64 s, .int .i64 d, .int .i64 r], .agg [.int .i64 p, .int .i64 q, .int .i64 n], .agg [.bool a, .bool b, .bool c, .bool e]] => some (vb (stR s d r ⟨p, q, n⟩ ⟨a, b, c, e⟩))
  | _ => none
def G4 : Tab := add 10 TstS (G3)
theorem G4_at (f : FuncId) (vs : List V) : G4.at' f vs = if f = 10 then TstS vs else G3.at' f vs := rfl
theorem G4_fr (f : FuncId) : G4.fr f = if f = 10 then false else G3.fr f := rfl
attribute [simp] G4_at G4_fr TstS
theorem G4_ok : TabOK Try.prog G4 := by
  refine add_ok (G3_ok) (by kernel_rfl) ?_
  · intro vs v h; unfold TstS at h; split at h
    · cases h; apply stS_ok
    · cases h
theorem known_ok : PCall Try.prog 12 [] (.bool true) := by
  refine pcall_cx G4_ok mixed (fun _ => none) Try.func12 rfl Try.ntmps12 Try.results12 (by simp) (by kernel_rfl) ?_
  repeat' first
    | (refine gw_bool (fun _ => ?_) (fun _ => ?_))
    | (refine condw_bool (fun _ => ?_) (fun _ => ?_))
    | (refine lp_unroll (D := (fun _ => none)) G4_ok mixed (by kernel_rfl) ?_)
    | simp [*, stR, vaR, usR, within, awR, paR, reR, coR, vb, Rc.v, lk, rc0]
def Ttrue : List V → Option V
  | [] => some (.bool true)
  | _ => none
def G5 : Tab := add 12 Ttrue (G4)
theorem G5_at (f : FuncId) (vs : List V) : G5.at' f vs = if f = 12 then Ttrue vs else G4.at' f vs := rfl
theorem G5_fr (f : FuncId) : G5.fr f = if f = 12 then false else G4.fr f := rfl
attribute [simp] G5_at G5_fr Ttrue
theorem G5_ok : TabOK Try.prog G5 := by
  refine add_ok (G4_ok) (by kernel_rfl) ?_
  · intro vs v h; unfold Ttrue at h; split at h
    · cases h; apply known_ok
    · cases h
theorem examples_ok : PCall Try.prog 3 [] (.bool true) := by
  refine pcall_cx G5_ok mixed (fun _ => none) Try.func3 rfl Try.ntmps3 Try.results3 (by simp) (by kernel_rfl) ?_
  repeat' first
    | (refine gw_bool (fun _ => ?_) (fun _ => ?_))
    | (refine condw_bool (fun _ => ?_) (fun _ => ?_))
    | simp [*, stR, vaR, usR, within, awR, paR, reR, coR, vb, Rc.v, lk, rc0]
theorem va_step {s d r : Int} {x : Rc} {i : Ip} (h : vaR s d r x = true) : vaR s d r (stR s d r x i).1 = true ∧ ((stR s d r x i).2 = true → i.o = true ∧ i.b = false) := by
  have hb := va_bounds h
  have hu : usR s d r = true := by grind [vaR]
  have w1 : IntKind.i64.wrap (d - 1) = d - 1 := wrap_id (by omega) (by omega)
  have w2 : IntKind.i64.wrap (r - 1) = r - 1 := wrap_id (by omega) (by omega)
  have w3 : IntKind.i64.wrap (x.s + 1) = x.s + 1 := wrap_id (by omega) (by omega)
  have w4 : IntKind.i64.wrap (x.n + 1) = x.n + 1 := wrap_id (by omega) (by omega)
  simp only [stR, h, if_true, awR, paR, reR, coR, w1, w2, w3, w4]
  obtain ⟨p, q, n⟩ := x
  obtain ⟨f, sl, o, b⟩ := i
  simp only [vaR, hu, if_true] at h
  have hs : p = 0 ∨ p = 1 ∨ p = 2 ∨ p = 3 ∨ p = 4 ∨ p = 5 := by simp only at hb; omega
  rcases hs with rfl | rfl | rfl | rfl | rfl | rfl <;> simp [within, ilt, ieq] at h hb ⊢ <;> cases sl <;> cases f <;> cases o <;> cases b <;> simp [vaR, hu, within, ilt, ieq, lk, rc0] <;> (try split) <;> (try simp [vaR, hu, within, ilt, ieq, lk, rc0]) <;> omega
theorem steps_ok (s d r p q n : Int) (a b c e : Bool) : PCall Try.prog 4 [.agg [.int .i64 s, .int .i64 d, .int .i64 r], .agg [.int .i64 p, .int .i64 q, .int .i64 n], .agg [.bool a, .bool b, .bool c, .bool e]] (.bool true) := by
  obtain ⟨y, hy⟩ : ∃ y, stR s d r ⟨p, q, n⟩ ⟨a, b, c, e⟩ = y := ⟨_, rfl⟩
  cases hv : vaR s d r ⟨p, q, n⟩
  · have hy2 : y = (rc0, false) := by rw [← hy]; simp [stR, hv]
    subst hy2
    refine pcall_cx G5_ok mixed (fun _ => none) Try.func4 rfl Try.ntmps4 Try.results4 (by simp) (by kernel_rfl) ?_
    repeat' first
      | (refine gw_bool (fun _ => ?_) (fun _ => ?_))
      | (refine condw_bool (fun _ => ?_) (fun _ => ?_))
      | simp [*, vb, Rc.v, rc0]
  · have hq := va_step (i := ⟨a, b, c, e⟩) hv
    rw [hy] at hq
    obtain ⟨⟨p', q', n'⟩, c'⟩ := y
    simp only at hq
    obtain ⟨hq1, hq2⟩ := hq
    cases c'
    · clear hq2
      refine pcall_cx G5_ok mixed (fun _ => none) Try.func4 rfl Try.ntmps4 Try.results4 (by simp) (by kernel_rfl) ?_
      repeat' first
        | (refine gw_bool (fun _ => ?_) (fun _ => ?_))
        | (refine condw_bool (fun _ => ?_) (fun _ => ?_))
        | simp [*, vb, Rc.v]
    · obtain ⟨h3, h4⟩ := hq2 rfl
      subst h3; subst h4
      clear hq2
      refine pcall_cx G5_ok mixed (fun _ => none) Try.func4 rfl Try.ntmps4 Try.results4 (by simp) (by kernel_rfl) ?_
      repeat' first
        | (refine gw_bool (fun _ => ?_) (fun _ => ?_))
        | (refine condw_bool (fun _ => ?_) (fun _ => ?_))
        | simp [*, vb, Rc.v]
end Go.Proofs.Ytjecnmamoidijaa
