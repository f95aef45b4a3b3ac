/-
  The clock: its bound, its class, its stamp, the sanity check.
-/
import Derived.Test.YtjblgljalckihaaClk
namespace Go.Proofs.Ytjblgljalckihaa
open Go.Pv Go.RowKit
set_option linter.unusedSimpArgs false
set_option linter.unusedVariables false
set_option maxRecDepth 100000
set_option maxHeartbeats 4000000

theorem r0_int {w : World} {ro : Nat → Prop} {k : IntKind} {n : Int} {x : Value} (h : R0 w ro (.int k n) x) : x = .int k n := by cases h; rfl
theorem add64_ext (x y c : Int) (hx : 0 ≤ x) (hy : 0 ≤ y) (hc0 : 0 ≤ c) (hc : c ≤ 1) : PExt Try.prog 26 [.int .u64 x, .int .u64 y, .int .u64 c] (.tup [.int .u64 ((x + y + c) % 18446744073709551616), .int .u64 ((x + y + c) / 18446744073709551616)]) := by
  intro w ro args hsz hr
  have hargs : args = #[.int .u64 x, .int .u64 y, .int .u64 c] := by
    apply Array.ext
    · simpa using hsz
    · intro i h1 h2
      have h3 : i = 0 ∨ i = 1 ∨ i = 2 := by simp at h2; omega
      rcases h3 with rfl | rfl | rfl
      · exact r0_int (hr 0 _ _ rfl (Array.getElem?_eq_getElem h1))
      · exact r0_int (hr 1 _ _ rfl (Array.getElem?_eq_getElem h1))
      · exact r0_int (hr 2 _ _ rfl (Array.getElem?_eq_getElem h1))
  subst hargs
  refine ⟨.tuple #[.int .u64 ((x + y + c) % 18446744073709551616), .int .u64 ((x + y + c) / 18446744073709551616)], ?_, ?_⟩
  · rw [run_callFunc_extern (e := add64Entry) Try.func26 (by kernel_rfl) (by kernel_rfl) (by kernel_rfl) (by kernel_rfl), run_add64 x y c hx hy hc0 hc]
    rfl
  · refine .tup _ _ rfl fun j c' x' hc' hx' => ?_
    have h3 : j = 0 ∨ j = 1 := by
      have := (List.getElem?_eq_some_iff.1 hc').1
      simp at this; omega
    rcases h3 with rfl | rfl
    · simp at hc' hx'; subst hc'; subst hx'; exact .int _ _
    · simp at hc' hx'; subst hc'; subst hx'; exact .int _ _
def Tadd64 : List V → Option V
  | [.int .u64 x, .int .u64 y, .int .u64 c] => bif decide (0 ≤ x) && (decide (0 ≤ y) && (decide (0 ≤ c) && decide (c ≤ 1))) then some (.tup [.int .u64 ((x + y + c) % 18446744073709551616), .int .u64 ((x + y + c) / 18446744073709551616)]) else none
  | _ => none
theorem add64_tab : ∀ vs v, Tadd64 vs = some v → extFlat v = true ∧ PExt Try.prog 26 vs v := by
  intro vs v h; unfold Tadd64 at h; split at h
  · simp only [cond_eq_ite, Bool.and_eq_true, decide_eq_true_eq] at h
    split at h
    · rename_i hc; cases h; exact ⟨rfl, add64_ext _ _ _ hc.1 hc.2.1 hc.2.2.1 hc.2.2.2⟩
    · cases h
  · cases h
def G4 : Tab := add 26 Tadd64 (G3)
theorem G4_at (f : FuncId) (vs : List V) : G4.at' f vs = if f = 26 then Tadd64 vs else G3.at' f vs := rfl
theorem G4_fr (f : FuncId) : G4.fr f = if f = 26 then false else G3.fr f := rfl
attribute [simp] G4_at G4_fr Tadd64
theorem G4_ok : TabOK Try.prog G4 := by
  refine addE_ok (G3_ok) ?_
  · exact add64_tab
theorem wu_id {n : Int} (h1 : 0 ≤ n) (h2 : n < 18446744073709551616) : IntKind.u64.wrap n = n := by
  simp only [IntKind.wrap, IntKind.signed, IntKind.bits]; simp; omega
theorem total_ok (e s : Int) (e0 : 0 ≤ e) (e1 : e ≤ 1000000) (s0 : 0 ≤ s) (s1 : s ≤ 1099511627776) : PCall Try.prog 24 [.list 1 [[.int .i64 e], [.int .i64 s], [.int .i64 s], [.int .i64 1]]] (.int .i64 (e + s + s + 1)) := by
  have a1 : IntKind.u64.wrap e = e := wu_id (by omega) (by omega)
  have a2 : IntKind.u64.wrap s = s := wu_id (by omega) (by omega)
  have a3 : IntKind.u64.wrap 1 = 1 := by decide
  have a4 : IntKind.u64.wrap 0 = 0 := by decide
  have b1 : e % 18446744073709551616 = e := by omega
  have b2 : e / 18446744073709551616 = 0 := by omega
  have b3 : (e + s) % 18446744073709551616 = e + s := by omega
  have b4 : (e + s) / 18446744073709551616 = 0 := by omega
  have b5 : (e + s + s) % 18446744073709551616 = e + s + s := by omega
  have b6 : (e + s + s) / 18446744073709551616 = 0 := by omega
  have b7 : (e + s + s + 1) % 18446744073709551616 = e + s + s + 1 := by omega
  have b8 : (e + s + s + 1) / 18446744073709551616 = 0 := by omega
  have c1 : e.fdiv 9223372036854775808 = 0 := by rw [Int.fdiv_eq_ediv_of_nonneg _ (by decide)]; omega
  have c2 : s.fdiv 9223372036854775808 = 0 := by rw [Int.fdiv_eq_ediv_of_nonneg _ (by decide)]; omega
  have c3 : (e + s + s + 1).fdiv 9223372036854775808 = 0 := by rw [Int.fdiv_eq_ediv_of_nonneg _ (by decide)]; omega
  have c4 : (1 : Int).fdiv 9223372036854775808 = 0 := by decide
  have d1 : 0 ≤ e + s := by omega
  have d2 : 0 ≤ e + s + s := by omega
  have w1 : IntKind.i64.wrap (e + s + s + 1) = e + s + s + 1 := wrap_id (by omega) (by omega)
  refine pcall_cx G4_ok mixed (fun _ => none) Try.func24 rfl Try.ntmps24 Try.results24 (by simp) (by kernel_rfl) ?_
  repeat' first
    | (refine gw_bool (fun _ => ?_) (fun _ => ?_))
    | (refine condw_bool (fun _ => ?_) (fun _ => ?_))
    | (refine lp_unroll (D := (fun _ => none)) G4_ok mixed (by kernel_rfl) ?_)
    | simp [*, IntKind.bits]
def Ttotal : List V → Option V
  | [.list 1 [[.int .i64 e], [.int .i64 s], [.int .i64 s'], [.int .i64 1]]] => bif decide (0 ≤ e) && (decide (e ≤ 1000000) && (decide (0 ≤ s) && (decide (s ≤ 1099511627776) && decide (s = s')))) then some (.int .i64 (e + s + s + 1)) else none
  | _ => none
theorem total_tab : ∀ vs v, Ttotal vs = some v → PCall Try.prog 24 vs v := by
  intro vs v h; unfold Ttotal at h; split at h
  · simp only [cond_eq_ite, Bool.and_eq_true, decide_eq_true_eq] at h
    split at h
    · rename_i hc; obtain ⟨h1, h2, h3, h4, rfl⟩ := hc; cases h; exact total_ok _ _ h1 h2 h3 h4
    · cases h
  · cases h
def G5 : Tab := add 24 Ttotal (G4)
theorem G5_at (f : FuncId) (vs : List V) : G5.at' f vs = if f = 24 then Ttotal vs else G4.at' f vs := rfl
theorem G5_fr (f : FuncId) : G5.fr f = if f = 24 then false else G4.fr f := rfl
attribute [simp] G5_at G5_fr Ttotal
theorem G5_ok : TabOK Try.prog G5 := by
  refine add_ok (G4_ok) (by kernel_rfl) ?_
  · exact total_tab
def bdC (c : Ck) : Int × Bool := if c.k then (c.e + c.s + c.s + 1, true) else (0, false)
theorem bound_ok (t r : Int) (k : Bool) (e s : Int) (h : Ck.ok ⟨t, r, k, e, s⟩ = true) : PCall Try.prog 13 [.agg [.int .i64 t, .int .i64 r, .bool k, .int .i64 e, .int .i64 s]] (.tup [.int .i64 (bdC ⟨t, r, k, e, s⟩).1, .bool (bdC ⟨t, r, k, e, s⟩).2]) := by
  obtain ⟨_, _, _, _, h1, h2, h3, h4⟩ := ok_iff.1 h
  simp only at h1 h2 h3 h4
  clear h
  cases k
  · refine pcall_cx G5_ok mixed (fun _ => none) Try.func13 rfl Try.ntmps13 Try.results13 (by simp) (by kernel_rfl) ?_
    repeat' first
      | (refine gw_bool (fun _ => ?_) (fun _ => ?_))
      | (refine condw_bool (fun _ => ?_) (fun _ => ?_))
      | simp [*, bdC]
  · refine pcall_cx G5_ok mixed (fun _ => none) Try.func13 rfl Try.ntmps13 Try.results13 (by simp) (by kernel_rfl) ?_
    repeat' first
      | (refine gw_bool (fun _ => ?_) (fun _ => ?_))
      | (refine condw_bool (fun _ => ?_) (fun _ => ?_))
      | simp [*, bdC]
def Tbound : List V → Option V
  | [.agg [.int .i64 t, .int .i64 r, .bool k, .int .i64 e, .int .i64 s]] => bif Ck.ok ⟨t, r, k, e, s⟩ then some (.tup [.int .i64 (bdC ⟨t, r, k, e, s⟩).1, .bool (bdC ⟨t, r, k, e, s⟩).2]) else none
  | _ => none
theorem bound_tab : ∀ vs v, Tbound vs = some v → PCall Try.prog 13 vs v := by
  intro vs v h; unfold Tbound at h; split at h
  · simp only [cond_eq_ite] at h
    split at h
    · rename_i hc; cases h; exact bound_ok _ _ _ _ _ hc
    · cases h
  · cases h
def G6 : Tab := add 13 Tbound (G5)
theorem G6_at (f : FuncId) (vs : List V) : G6.at' f vs = if f = 13 then Tbound vs else G5.at' f vs := rfl
theorem G6_fr (f : FuncId) : G6.fr f = if f = 13 then false else G5.fr f := rfl
attribute [simp] G6_at G6_fr Tbound
theorem G6_ok : TabOK Try.prog G6 := by
  refine add_ok (G5_ok) (by kernel_rfl) ?_
  · exact bound_tab
def clC (c : Ck) : Int := if !(bdC c).2 || ilt 1000 (bdC c).1 then 2 else if !ilt 4 c.s then 0 else 1
theorem class_ok (t r : Int) (k : Bool) (e s : Int) (h : Ck.ok ⟨t, r, k, e, s⟩ = true) : PCall Try.prog 14 [.agg [.int .i64 t, .int .i64 r, .bool k, .int .i64 e, .int .i64 s]] (.int .i64 (clC ⟨t, r, k, e, s⟩)) := by
  refine pcall_cx G6_ok mixed (fun _ => none) Try.func14 rfl Try.ntmps14 Try.results14 (by simp) (by kernel_rfl) ?_
  repeat' first
    | (refine gw_bool (fun _ => ?_) (fun _ => ?_))
    | (refine condw_bool (fun _ => ?_) (fun _ => ?_))
    | simp [*, clC]
def Tclass : List V → Option V
  | [.agg [.int .i64 t, .int .i64 r, .bool k, .int .i64 e, .int .i64 s]] => bif Ck.ok ⟨t, r, k, e, s⟩ then some (.int .i64 (clC ⟨t, r, k, e, s⟩)) else none
  | _ => none
theorem class_tab : ∀ vs v, Tclass vs = some v → PCall Try.prog 14 vs v := by
  intro vs v h; unfold Tclass at h; split at h
  · simp only [cond_eq_ite] at h
    split at h
    · rename_i hc; cases h; exact class_ok _ _ _ _ _ hc
    · cases h
  · cases h
def G7 : Tab := add 14 Tclass (G6)
theorem G7_at (f : FuncId) (vs : List V) : G7.at' f vs = if f = 14 then Tclass vs else G6.at' f vs := rfl
theorem G7_fr (f : FuncId) : G7.fr f = if f = 14 then false else G6.fr f := rfl
attribute [simp] G7_at G7_fr Tclass
theorem G7_ok : TabOK Try.prog G7 := by
  refine add_ok (G6_ok) (by kernel_rfl) ?_
  · exact class_tab
theorem known_ok : PCall Try.prog 8 [] (.bool true) := by
  refine pcall_cx G7_ok mixed (fun _ => none) Try.func8 rfl Try.ntmps8 Try.results8 (by simp) (by kernel_rfl) ?_
  repeat' first
    | (refine gw_bool (fun _ => ?_) (fun _ => ?_))
    | (refine condw_bool (fun _ => ?_) (fun _ => ?_))
    | simp [*, stC, lim, Ck.v, Ck.ok, clC, bdC, Int.max_def, Int.min_def]
def Ttrue : List V → Option V
  | [] => some (.bool true)
  | _ => none
def G8 : Tab := add 8 Ttrue (G7)
theorem G8_at (f : FuncId) (vs : List V) : G8.at' f vs = if f = 8 then Ttrue vs else G7.at' f vs := rfl
theorem G8_fr (f : FuncId) : G8.fr f = if f = 8 then false else G7.fr f := rfl
attribute [simp] G8_at G8_fr Ttrue
theorem G8_ok : TabOK Try.prog G8 := by
  refine add_ok (G7_ok) (by kernel_rfl) ?_
  · intro vs v h; unfold Ttrue at h; split at h
    · cases h; apply known_ok
    · cases h
theorem runs_ok (t r : Int) (k : Bool) (e s drift by_ : Int) : PCall Try.prog 7 [.agg [.int .i64 t, .int .i64 r, .bool k, .int .i64 e, .int .i64 s], .int .i64 drift, .int .i64 by_] (.bool true) := by
  cases hf : fineC ⟨t, r, k, e, s⟩
  · refine pcall_cx G8_ok mixed (fun _ => none) Try.func7 rfl Try.ntmps7 Try.results7 (by simp) (by kernel_rfl) ?_
    repeat' first
      | (refine gw_bool (fun _ => ?_) (fun _ => ?_))
      | (refine condw_bool (fun _ => ?_) (fun _ => ?_))
      | simp [*]
  · have hok : Ck.ok ⟨t, r, k, e, s⟩ = true := by
      rw [ok_iff]
      simp only [fineC, Bool.and_eq_true, Bool.not_eq_true', ilt_iff'] at hf
      simp only; omega
    obtain ⟨y, hy⟩ : ∃ y, syC ⟨t, r, k, e, s⟩ by_ drift = y := ⟨_, rfl⟩
    obtain ⟨⟨y1, y2, y3, y4, y5⟩, y6⟩ := y
    obtain ⟨z, hz⟩ : ∃ z, stC ⟨t, r, k, e, s⟩ drift = z := ⟨_, rfl⟩
    obtain ⟨z1, z2, z3, z4, z5⟩ := z
    refine pcall_cx G8_ok mixed (fun _ => none) Try.func7 rfl Try.ntmps7 Try.results7 (by simp) (by kernel_rfl) ?_
    repeat' first
      | (refine gw_bool (fun _ => ?_) (fun _ => ?_))
      | (refine condw_bool (fun _ => ?_) (fun _ => ?_))
      | simp [*, vE, Ck.v]
end Go.Proofs.Ytjblgljalckihaa
