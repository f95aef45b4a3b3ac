/-
  Teleprotection: what each function answers, by its text.
-/
import Derived.Test.YtjleadlkknnioaaTd
namespace Go.Proofs.Ytjleadlkknnioaa
open Go.Pv Go.RowKit
set_option linter.unusedSimpArgs false
set_option linter.unusedVariables false
set_option maxRecDepth 100000

structure Te where
  g : Int
  h : Int
structure In where
  z1 : Bool
  z2 : Bool
  rv : Bool
  rc : Bool
def In.cs (x : In) : List V := [.bool x.z1, .bool x.z2, .bool x.rv, .bool x.rc]
def usT (s w g : Int) : Bool :=
  if ilt s 0 || ilt 3 s then false
  else if ieq s 3 then (if ilt w 1 || ilt 50 w then false else if ieq s 0 then ieq g 0 else !ilt g 0 && !ilt 50 g)
  else if !ieq w 0 then false
  else if ieq s 0 then ieq g 0 else !ilt g 0 && !ilt 50 g
theorem usT_ok (s w g : Int) : PCall Try.prog 15 [.int .i64 s, .int .i64 w, .int .i64 g] (.bool (usT s w g)) := by
  refine pcall_cx noTab_ok mixed (fun _ => none) Try.func15 rfl Try.ntmps15 Try.results15 (by simp) (by kernel_rfl) ?_
  repeat' first
    | (refine gw_bool (fun _ => ?_) (fun _ => ?_))
    | (refine condw_bool (fun _ => ?_) (fun _ => ?_))
    | simp [*, usT]
def TusT : List V → Option V
  | [.int .i64 s, .int .i64 w, .int .i64 g] => some (.bool (usT s w g))
  | _ => none
def G1 : Tab := add 15 TusT (noTab)
theorem G1_at (f : FuncId) (vs : List V) : G1.at' f vs = if f = 15 then TusT vs else noTab.at' f vs := rfl
theorem G1_fr (f : FuncId) : G1.fr f = if f = 15 then false else noTab.fr f := rfl
attribute [simp] G1_at G1_fr TusT
theorem G1_ok : TabOK Try.prog G1 := by
  refine add_ok (noTab_ok) (by kernel_rfl) ?_
  · intro vs v h; unfold TusT at h; split at h
    · cases h; apply usT_ok
    · cases h
theorem us_bounds {s w g : Int} (h : usT s w g = true) : 0 ≤ s ∧ s ≤ 3 ∧ 0 ≤ w ∧ w ≤ 50 ∧ 0 ≤ g ∧ g ≤ 50 := by
  grind [usT, ilt, ieq]
def vaT (s w g : Int) (t : Te) : Bool :=
  usT s w g && !ilt t.g 0 && !ilt (if ieq s 0 then 0 else g + 1) t.g && !ilt t.h 0 && !ilt (if ieq s 3 then w + 1 else 0) t.h
theorem vaT_ok (s w g a b : Int) : PCall Try.prog 11 [.int .i64 s, .int .i64 w, .int .i64 g, .agg [.int .i64 a, .int .i64 b]] (.bool (vaT s w g ⟨a, b⟩)) := by
  cases hu : usT s w g
  · refine pcall_cx G1_ok mixed (fun _ => none) Try.func11 rfl Try.ntmps11 Try.results11 (by simp) (by kernel_rfl) ?_
    repeat' first
      | (refine gw_bool (fun _ => ?_) (fun _ => ?_))
      | (refine condw_bool (fun _ => ?_) (fun _ => ?_))
      | simp [*, vaT]
  · obtain ⟨h1, h2, h3, h4, h5, h6⟩ := us_bounds hu
    have w1 : IntKind.i64.wrap (g + 1) = g + 1 := wrap_id (by omega) (by omega)
    have w2 : IntKind.i64.wrap (w + 1) = w + 1 := wrap_id (by omega) (by omega)
    refine pcall_cx G1_ok mixed (fun _ => none) Try.func11 rfl Try.ntmps11 Try.results11 (by simp) (by kernel_rfl) ?_
    repeat' first
      | (refine gw_bool (fun _ => ?_) (fun _ => ?_))
      | (refine condw_bool (fun _ => ?_) (fun _ => ?_))
      | simp [*, vaT]
    all_goals grind [ilt, ieq]
def TvaT : List V → Option V
  | [.int .i64 s, .int .i64 w, .int .i64 g, .agg [.int .i64 a, .int .i64 b]] => some (.bool (vaT s w g ⟨a, b⟩))
  | _ => none
theorem vaR_ok (s w g a b : Int) : PCall Try.prog 13 [.int .i64 s, .int .i64 w, .int .i64 g, .agg [.int .i64 a, .int .i64 b]] (.bool (vaT s w g ⟨a, b⟩)) := by
  by_cases hb : 0 ≤ g ∧ g ≤ 50 ∧ 0 ≤ w ∧ w ≤ 50
  · obtain ⟨h1, h2, h3, h4⟩ := hb
    have w1 : IntKind.i64.wrap (g + 1) = g + 1 := wrap_id (by omega) (by omega)
    have w2 : IntKind.i64.wrap (w + 1) = w + 1 := wrap_id (by omega) (by omega)
    refine pcall_cx noTab_ok mixed (fun _ => none) Try.func13 rfl Try.ntmps13 Try.results13 (by simp) (by kernel_rfl) ?_
    repeat' first
      | (refine gw_bool (fun _ => ?_) (fun _ => ?_))
      | (refine condw_bool (fun _ => ?_) (fun _ => ?_))
      | simp [*]
    all_goals grind [vaT, usT, ilt, ieq]
  · have hz : Hid (¬ (0 ≤ g ∧ g ≤ 50 ∧ 0 ≤ w ∧ w ≤ 50)) := hb
    clear hb
    refine pcall_cx noTab_ok mixed (fun _ => none) Try.func13 rfl Try.ntmps13 Try.results13 (by simp) (by kernel_rfl) ?_
    repeat' first
      | (refine gw_bool (fun _ => ?_) (fun _ => ?_))
      | (refine condw_bool (fun _ => ?_) (fun _ => ?_))
      | simp [*]
    all_goals (have hz := hz.out; grind [vaT, usT, ilt, ieq])
def G2 : Tab := add 11 TvaT (add 13 TvaT (G1))
theorem G2_at (f : FuncId) (vs : List V) : G2.at' f vs = if f = 11 then TvaT vs else if f = 13 then TvaT vs else G1.at' f vs := rfl
theorem G2_fr (f : FuncId) : G2.fr f = if f = 11 then false else if f = 13 then false else G1.fr f := rfl
attribute [simp] G2_at G2_fr TvaT
theorem G2_ok : TabOK Try.prog G2 := by
  refine add_ok (add_ok (G1_ok) (by kernel_rfl) ?_) (by kernel_rfl) ?_
  · intro vs v h; unfold TvaT at h; split at h
    · cases h; apply vaR_ok
    · cases h
  · intro vs v h; unfold TvaT at h; split at h
    · cases h; apply vaT_ok
    · cases h
def stT (s w g : Int) (t : Te) (x : In) : Te × Bool × Bool :=
  if vaT s w g t then
    if ieq s 0 then (t, false, false)
    else
      let g1 : Int := if x.rv then g + 1 else max (t.g - 1) 0
      let gd := ilt 0 g1
      if ieq s 1 then (⟨g1, t.h⟩, x.z1, x.z2 && x.rc)
      else if ieq s 2 then (⟨g1, t.h⟩, x.z2 && !gd, x.z2 && x.rc && !gd)
      else
        let h1 : Int := if x.z2 && !x.rc && !gd then min (t.h + 1) (w + 1) else 0
        (⟨g1, h1⟩, gd, ilt w h1)
  else (⟨0, 0⟩, false, false)
def stV (r : Te × Bool × Bool) : V := .tup [.agg [.int .i64 r.1.g, .int .i64 r.1.h], .agg [.bool r.2.1, .bool r.2.2]]
def stV' (r : Te × Bool × Bool) : V := .tup [.agg [.int .i64 r.1.g, .int .i64 r.1.h], .bool r.2.1, .bool r.2.2]
theorem va_bounds {s w g : Int} {t : Te} (h : vaT s w g t = true) : 0 ≤ s ∧ s ≤ 3 ∧ 0 ≤ w ∧ w ≤ 50 ∧ 0 ≤ g ∧ g ≤ 50 ∧ 0 ≤ t.g ∧ t.g ≤ 51 ∧ 0 ≤ t.h ∧ t.h ≤ 51 := by
  have hu : usT s w g = true := by grind [vaT]
  have := us_bounds hu
  grind [vaT, ilt, ieq]
theorem stT_ok (s w g a b : Int) (x1 x2 x3 x4 : Bool) : PCall Try.prog 9 [.int .i64 s, .int .i64 w, .int .i64 g, .agg [.int .i64 a, .int .i64 b], .agg [.bool x1, .bool x2, .bool x3, .bool x4]] (stV (stT s w g ⟨a, b⟩ ⟨x1, x2, x3, x4⟩)) := by
  cases hv : vaT s w g ⟨a, b⟩
  · refine pcall_cx G2_ok mixed (fun id => if id = 22 then some ⟨[(2, 10), (3, 11)], [1]⟩ else none) Try.func9 rfl Try.ntmps9 Try.results9 (by simp) (by kernel_rfl) ?_
    repeat' first
      | (refine gw_bool (fun _ => ?_) (fun _ => ?_))
      | (refine condw_bool (fun _ => ?_) (fun _ => ?_))
      | simp [*, stT, stV]
  · have hb := va_bounds hv
    simp only at hb
    have w1 : IntKind.i64.wrap (g + 1) = g + 1 := wrap_id (by omega) (by omega)
    have w2 : IntKind.i64.wrap (w + 1) = w + 1 := wrap_id (by omega) (by omega)
    have w3 : IntKind.i64.wrap (a - 1) = a - 1 := wrap_id (by omega) (by omega)
    have w4 : IntKind.i64.wrap (b + 1) = b + 1 := wrap_id (by omega) (by omega)
    have hs : s = 0 ∨ s = 1 ∨ s = 2 ∨ s = 3 := by omega
    clear hb
    rcases hs with rfl | rfl | rfl | rfl
    · refine pcall_cx G2_ok mixed (fun id => if id = 22 then some ⟨[(2, 10), (3, 11)], [1]⟩ else none) Try.func9 rfl Try.ntmps9 Try.results9 (by simp) (by kernel_rfl) ?_
      repeat' first
        | (refine gw_bool (fun _ => ?_) (fun _ => ?_))
        | (refine condw_bool (fun _ => ?_) (fun _ => ?_))
        | simp [*, stT, stV]
    · refine pcall_cx G2_ok mixed (fun id => if id = 22 then some ⟨[(2, 10), (3, 11)], [1]⟩ else none) Try.func9 rfl Try.ntmps9 Try.results9 (by simp) (by kernel_rfl) ?_
      repeat' first
        | (refine gw_bool (fun _ => ?_) (fun _ => ?_))
        | (refine condw_bool (fun _ => ?_) (fun _ => ?_))
        | simp [*, stT, stV]
    · refine pcall_cx G2_ok mixed (fun id => if id = 22 then some ⟨[(2, 10), (3, 11)], [1]⟩ else none) Try.func9 rfl Try.ntmps9 Try.results9 (by simp) (by kernel_rfl) ?_
      repeat' first
        | (refine gw_bool (fun _ => ?_) (fun _ => ?_))
        | (refine condw_bool (fun _ => ?_) (fun _ => ?_))
        | simp [*, stT, stV]
    · refine pcall_cx G2_ok mixed (fun id => if id = 22 then some ⟨[(2, 10), (3, 11)], [1]⟩ else none) Try.func9 rfl Try.ntmps9 Try.results9 (by simp) (by kernel_rfl) ?_
      repeat' first
        | (refine gw_bool (fun _ => ?_) (fun _ => ?_))
        | (refine condw_bool (fun _ => ?_) (fun _ => ?_))
        | simp [*, stT, stV]
end Go.Proofs.Ytjleadlkknnioaa
