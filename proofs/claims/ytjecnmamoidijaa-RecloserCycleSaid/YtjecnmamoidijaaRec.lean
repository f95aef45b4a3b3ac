/-
  The recloser: what each function answers, by its text; the document's functions answer the same.
-/
import Derived.Test.YtjecnmamoidijaaTd
namespace Go.Proofs.Ytjecnmamoidijaa
open Go.Pv Go.RowKit
set_option linter.unusedSimpArgs false
set_option linter.unusedVariables false
set_option maxRecDepth 100000
set_option maxHeartbeats 4000000

structure Rc where
  p : Int
  s : Int
  n : Int
structure Ip where
  f : Bool
  sl : Bool
  o : Bool
  b : Bool
def Rc.v (x : Rc) : V := .agg [.int .i64 x.p, .int .i64 x.s, .int .i64 x.n]
def Ip.cs (x : Ip) : List V := [.bool x.f, .bool x.sl, .bool x.o, .bool x.b]
def lk : Rc := ⟨5, 0, 0⟩
def rc0 : Rc := ⟨0, 0, 0⟩
def usR (s d r : Int) : Bool := !ilt s 1 && !ilt 3 s && !ilt d 1 && !ilt 100 d && !ilt r 1 && !ilt 1000 r
theorem usR_ok (s d r : Int) : PCall Try.prog 24 [.int .i64 s, .int .i64 d, .int .i64 r] (.bool (usR s d r)) := by
  refine pcall_cx noTab_ok mixed (fun _ => none) Try.func24 rfl Try.ntmps24 Try.results24 (by simp) (by kernel_rfl) ?_
  repeat' first
    | (refine gw_bool (fun _ => ?_) (fun _ => ?_))
    | (refine condw_bool (fun _ => ?_) (fun _ => ?_))
    | simp [*, usR]
theorem usR_ref (s d r : Int) : PCall Try.prog 25 [.int .i64 s, .int .i64 d, .int .i64 r] (.bool (usR s d r)) := by
  refine pcall_cx noTab_ok mixed (fun _ => none) Try.func25 rfl Try.ntmps25 Try.results25 (by simp) (by kernel_rfl) ?_
  repeat' first
    | (refine gw_bool (fun _ => ?_) (fun _ => ?_))
    | (refine condw_bool (fun _ => ?_) (fun _ => ?_))
    | simp [*, usR]
def TusR : List V → Option V
  | [.int .i64 s, .int .i64 d, .int .i64 r] => some (.bool (usR s d r))
  | _ => none
theorem locked_ok : PCall Try.prog 19 [] (lk.v) := by
  refine pcall_cx noTab_ok mixed (fun _ => none) Try.func19 rfl Try.ntmps19 Try.results19 (by simp) (by kernel_rfl) ?_
  repeat' first
    | (refine gw_bool (fun _ => ?_) (fun _ => ?_))
    | (refine condw_bool (fun _ => ?_) (fun _ => ?_))
    | simp [*, lk, Rc.v]
def Tlocked : List V → Option V
  | [] => some lk.v
  | _ => none
def G1 : Tab := add 24 TusR (add 25 TusR (add 19 Tlocked (noTab)))
theorem G1_at (f : FuncId) (vs : List V) : G1.at' f vs = if f = 24 then TusR vs else if f = 25 then TusR vs else if f = 19 then Tlocked vs else noTab.at' f vs := rfl
theorem G1_fr (f : FuncId) : G1.fr f = if f = 24 then false else if f = 25 then false else if f = 19 then false else noTab.fr f := rfl
attribute [simp] G1_at G1_fr Tlocked TusR
theorem G1_ok : TabOK Try.prog G1 := by
  refine add_ok (add_ok (add_ok (noTab_ok) (by kernel_rfl) ?_) (by kernel_rfl) ?_) (by kernel_rfl) ?_
  · intro vs v h; unfold Tlocked at h; split at h
    · cases h; apply locked_ok
    · cases h
  · intro vs v h; unfold TusR at h; split at h
    · cases h; apply usR_ref
    · cases h
  · intro vs v h; unfold TusR at h; split at h
    · cases h; apply usR_ok
    · cases h
theorem us_bounds {s d r : Int} (h : usR s d r = true) : 1 ≤ s ∧ s ≤ 3 ∧ 1 ≤ d ∧ d ≤ 100 ∧ 1 ≤ r ∧ r ≤ 1000 := by
  simp [usR, ilt] at h; omega
def within (n lo hi : Int) : Bool := !ilt n lo && !ilt hi n
def vaR (s d r : Int) (x : Rc) : Bool :=
  if usR s d r then
    if ieq x.p 0 then within x.n 0 0 && ieq x.s 0
    else if ieq x.p 1 then within x.n 0 20 && within x.s 1 s
    else if ieq x.p 2 then within x.n 0 (d - 1) && within x.s 1 s
    else if ieq x.p 3 then within x.n 0 20 && within x.s 1 s
    else if ieq x.p 4 then within x.n 0 (r - 1) && within x.s 1 s
    else if ieq x.p 5 then within x.n 0 (r - 1) && ieq x.s 0
    else false
  else false
theorem vaR_ok (s d r p q n : Int) : PCall Try.prog 14 [.int .i64 s, .int .i64 d, .int .i64 r, .agg [.int .i64 p, .int .i64 q, .int .i64 n]] (.bool (vaR s d r ⟨p, q, n⟩)) := by
  cases hu : usR s d r
  · refine pcall_cx G1_ok mixed (fun _ => none) Try.func14 rfl Try.ntmps14 Try.results14 (by simp) (by kernel_rfl) ?_
    repeat' first
      | (refine gw_bool (fun _ => ?_) (fun _ => ?_))
      | (refine condw_bool (fun _ => ?_) (fun _ => ?_))
      | simp [*, vaR]
  · obtain ⟨h1, h2, h3, h4, h5, h6⟩ := us_bounds hu
    have w1 : IntKind.i64.wrap (d - 1) = d - 1 := wrap_id (by omega) (by omega)
    have w2 : IntKind.i64.wrap (r - 1) = r - 1 := wrap_id (by omega) (by omega)
    refine pcall_cx G1_ok mixed (fun _ => none) Try.func14 rfl Try.ntmps14 Try.results14 (by simp) (by kernel_rfl) ?_
    repeat' first
      | (refine gw_bool (fun _ => ?_) (fun _ => ?_))
      | (refine condw_bool (fun _ => ?_) (fun _ => ?_))
      | simp [*, vaR, within]
    all_goals grind [ilt, ieq]
theorem vaR_ref (s d r p q n : Int) : PCall Try.prog 15 [.int .i64 s, .int .i64 d, .int .i64 r, .agg [.int .i64 p, .int .i64 q, .int .i64 n]] (.bool (vaR s d r ⟨p, q, n⟩)) := by
  cases hu : usR s d r
  · refine pcall_cx G1_ok mixed (fun _ => none) Try.func15 rfl Try.ntmps15 Try.results15 (by simp) (by kernel_rfl) ?_
    repeat' first
      | (refine gw_bool (fun _ => ?_) (fun _ => ?_))
      | (refine condw_bool (fun _ => ?_) (fun _ => ?_))
      | simp [*, vaR]
  · obtain ⟨h1, h2, h3, h4, h5, h6⟩ := us_bounds hu
    have w1 : IntKind.i64.wrap (d - 1) = d - 1 := wrap_id (by omega) (by omega)
    have w2 : IntKind.i64.wrap (r - 1) = r - 1 := wrap_id (by omega) (by omega)
    by_cases hp : 0 ≤ p ∧ p ≤ 5
    · have hs : p = 0 ∨ p = 1 ∨ p = 2 ∨ p = 3 ∨ p = 4 ∨ p = 5 := by omega
      clear hp h1 h2 h3 h4 h5 h6
      rcases hs with rfl | rfl | rfl | rfl | rfl | rfl
      · refine pcall_cx G1_ok mixed (fun _ => none) Try.func15 rfl Try.ntmps15 Try.results15 (by simp) (by kernel_rfl) ?_
        repeat' first
          | (refine gw_bool (fun _ => ?_) (fun _ => ?_))
          | (refine condw_bool (fun _ => ?_) (fun _ => ?_))
          | simp [*]
        all_goals grind [vaR, within, ilt, ieq]
      · refine pcall_cx G1_ok mixed (fun _ => none) Try.func15 rfl Try.ntmps15 Try.results15 (by simp) (by kernel_rfl) ?_
        repeat' first
          | (refine gw_bool (fun _ => ?_) (fun _ => ?_))
          | (refine condw_bool (fun _ => ?_) (fun _ => ?_))
          | simp [*]
        all_goals grind [vaR, within, ilt, ieq]
      · refine pcall_cx G1_ok mixed (fun _ => none) Try.func15 rfl Try.ntmps15 Try.results15 (by simp) (by kernel_rfl) ?_
        repeat' first
          | (refine gw_bool (fun _ => ?_) (fun _ => ?_))
          | (refine condw_bool (fun _ => ?_) (fun _ => ?_))
          | simp [*]
        all_goals grind [vaR, within, ilt, ieq]
      · refine pcall_cx G1_ok mixed (fun _ => none) Try.func15 rfl Try.ntmps15 Try.results15 (by simp) (by kernel_rfl) ?_
        repeat' first
          | (refine gw_bool (fun _ => ?_) (fun _ => ?_))
          | (refine condw_bool (fun _ => ?_) (fun _ => ?_))
          | simp [*]
        all_goals grind [vaR, within, ilt, ieq]
      · refine pcall_cx G1_ok mixed (fun _ => none) Try.func15 rfl Try.ntmps15 Try.results15 (by simp) (by kernel_rfl) ?_
        repeat' first
          | (refine gw_bool (fun _ => ?_) (fun _ => ?_))
          | (refine condw_bool (fun _ => ?_) (fun _ => ?_))
          | simp [*]
        all_goals grind [vaR, within, ilt, ieq]
      · refine pcall_cx G1_ok mixed (fun _ => none) Try.func15 rfl Try.ntmps15 Try.results15 (by simp) (by kernel_rfl) ?_
        repeat' first
          | (refine gw_bool (fun _ => ?_) (fun _ => ?_))
          | (refine condw_bool (fun _ => ?_) (fun _ => ?_))
          | simp [*]
        all_goals grind [vaR, within, ilt, ieq]
    · have hf : vaR s d r ⟨p, q, n⟩ = false := by grind [vaR, ieq]
      have hz : Hid (¬ (0 ≤ p ∧ p ≤ 5)) := hp
      clear hp h1 h2 h3 h4 h5 h6
      by_cases hp0 : p < 0
      · have f1 : ilt p 0 = true := ilt_t hp0
        refine pcall_cx G1_ok mixed (fun _ => none) Try.func15 rfl Try.ntmps15 Try.results15 (by simp) (by kernel_rfl) ?_
        repeat' first
          | (refine gw_bool (fun _ => ?_) (fun _ => ?_))
          | (refine condw_bool (fun _ => ?_) (fun _ => ?_))
          | simp [*]
      · have f1 : ilt p 0 = false := ilt_f (by omega)
        have f2 : ilt 5 p = true := by have := hz.out; exact ilt_t (by omega)
        refine pcall_cx G1_ok mixed (fun _ => none) Try.func15 rfl Try.ntmps15 Try.results15 (by simp) (by kernel_rfl) ?_
        repeat' first
          | (refine gw_bool (fun _ => ?_) (fun _ => ?_))
          | (refine condw_bool (fun _ => ?_) (fun _ => ?_))
          | simp [*]
def TvaR : List V → Option V
  | [.int .i64 s, .int .i64 d, .int .i64 r, .agg [.int .i64 p, .int .i64 q, .int .i64 n]] => some (.bool (vaR s d r ⟨p, q, n⟩))
  | _ => none
def awR (x : Rc) (m : Bool) (ph : Int) : Rc := if m then ⟨ph, x.s, 0⟩ else if ieq x.n 20 then lk else ⟨x.p, x.s, IntKind.i64.wrap (x.n + 1)⟩
def paR (d : Int) (x : Rc) (i : Ip) : Rc × Bool := if i.o then (if i.b then (x, false) else if ieq x.n (IntKind.i64.wrap (d - 1)) then (⟨3, x.s, 0⟩, true) else (⟨x.p, x.s, IntKind.i64.wrap (x.n + 1)⟩, false)) else (lk, false)
def coR (r : Int) (x : Rc) (b : Bool) : Rc := if b then x else if ieq x.n (IntKind.i64.wrap (r - 1)) then rc0 else ⟨x.p, x.s, IntKind.i64.wrap (x.n + 1)⟩
def reR (r : Int) (x : Rc) (i : Ip) : Rc := if i.o then lk else coR r x i.b
def vb (y : Rc × Bool) : V := .tup [y.1.v, .bool y.2]
theorem awR_ok (p q n : Int) (m : Bool) (ph : Int) : PCall Try.prog 20 [.agg [.int .i64 p, .int .i64 q, .int .i64 n], .bool m, .int .i64 ph] (awR ⟨p, q, n⟩ m ph).v := by
  refine pcall_cx G1_ok mixed (fun _ => none) Try.func20 rfl Try.ntmps20 Try.results20 (by simp) (by kernel_rfl) ?_
  repeat' first
    | (refine gw_bool (fun _ => ?_) (fun _ => ?_))
    | (refine condw_bool (fun _ => ?_) (fun _ => ?_))
    | simp [*, awR, lk, Rc.v]
theorem paR_ok (d p q n : Int) (a b c e : Bool) : PCall Try.prog 21 [.int .i64 d, .agg [.int .i64 p, .int .i64 q, .int .i64 n], .agg [.bool a, .bool b, .bool c, .bool e]] (vb (paR d ⟨p, q, n⟩ ⟨a, b, c, e⟩)) := by
  refine pcall_cx G1_ok mixed (fun _ => none) Try.func21 rfl Try.ntmps21 Try.results21 (by simp) (by kernel_rfl) ?_
  repeat' first
    | (refine gw_bool (fun _ => ?_) (fun _ => ?_))
    | (refine condw_bool (fun _ => ?_) (fun _ => ?_))
    | simp [*, paR, lk, vb, Rc.v]
theorem reR_ok (d p q n : Int) (a b c e : Bool) : PCall Try.prog 22 [.int .i64 d, .agg [.int .i64 p, .int .i64 q, .int .i64 n], .agg [.bool a, .bool b, .bool c, .bool e]] (reR d ⟨p, q, n⟩ ⟨a, b, c, e⟩).v := by
  refine pcall_cx G1_ok mixed (fun _ => none) Try.func22 rfl Try.ntmps22 Try.results22 (by simp) (by kernel_rfl) ?_
  repeat' first
    | (refine gw_bool (fun _ => ?_) (fun _ => ?_))
    | (refine condw_bool (fun _ => ?_) (fun _ => ?_))
    | simp [*, reR, coR, lk, rc0, Rc.v]
theorem coR_ok (d p q n : Int) (b : Bool) : PCall Try.prog 23 [.agg [.int .i64 p, .int .i64 q, .int .i64 n], .int .i64 d, .bool b] (coR d ⟨p, q, n⟩ b).v := by
  refine pcall_cx G1_ok mixed (fun _ => none) Try.func23 rfl Try.ntmps23 Try.results23 (by simp) (by kernel_rfl) ?_
  repeat' first
    | (refine gw_bool (fun _ => ?_) (fun _ => ?_))
    | (refine condw_bool (fun _ => ?_) (fun _ => ?_))
    | simp [*, coR, rc0, Rc.v]
def TawR : List V → Option V
  | [.agg [.int .i64 p, .int .i64 q, .int .i64 n], .bool m, .int .i64 ph] => some (awR ⟨p, q, n⟩ m ph).v
  | _ => none
def TpaR : List V → Option V
  | [.int .i64 d, .agg [.int .i64 p, .int .i64 q, .int .i64 n], .agg [.bool a, .bool b, .bool c, .bool e]] => some (vb (paR d ⟨p, q, n⟩ ⟨a, b, c, e⟩))
  | _ => none
def TreR : List V → Option V
  | [.int .i64 d, .agg [.int .i64 p, .int .i64 q, .int .i64 n], .agg [.bool a, .bool b, .bool c, .bool e]] => some (reR d ⟨p, q, n⟩ ⟨a, b, c, e⟩).v
  | _ => none
def TcoR : List V → Option V
  | [.agg [.int .i64 p, .int .i64 q, .int .i64 n], .int .i64 d, .bool b] => some (coR d ⟨p, q, n⟩ b).v
  | _ => none
def G2 : Tab := add 14 TvaR (add 15 TvaR (add 20 TawR (add 21 TpaR (add 22 TreR (add 23 TcoR (G1))))))
theorem G2_at (f : FuncId) (vs : List V) : G2.at' f vs = if f = 14 then TvaR vs else if f = 15 then TvaR vs else if f = 20 then TawR vs else if f = 21 then TpaR vs else if f = 22 then TreR vs else if f = 23 then TcoR vs else G1.at' f vs := rfl
theorem G2_fr (f : FuncId) : G2.fr f = if f = 14 then false else if f = 15 then false else if f = 20 then false else if f = 21 then false else if f = 22 then false else if f = 23 then false else G1.fr f := rfl
attribute [simp] G2_at G2_fr TawR TcoR TpaR TreR TvaR
theorem G2_ok : TabOK Try.prog G2 := by
  refine add_ok (add_ok (add_ok (add_ok (add_ok (add_ok (G1_ok) (by kernel_rfl) ?_) (by kernel_rfl) ?_) (by kernel_rfl) ?_) (by kernel_rfl) ?_) (by kernel_rfl) ?_) (by kernel_rfl) ?_
  · intro vs v h; unfold TcoR at h; split at h
    · cases h; apply coR_ok
    · cases h
  · intro vs v h; unfold TreR at h; split at h
    · cases h; apply reR_ok
    · cases h
  · intro vs v h; unfold TpaR at h; split at h
    · cases h; apply paR_ok
    · cases h
  · intro vs v h; unfold TawR at h; split at h
    · cases h; apply awR_ok
    · cases h
  · intro vs v h; unfold TvaR at h; split at h
    · cases h; apply vaR_ref
    · cases h
  · intro vs v h; unfold TvaR at h; split at h
    · cases h; apply vaR_ok
    · cases h
def stR (s d r : Int) (x : Rc) (i : Ip) : Rc × Bool :=
  if vaR s d r x then
    if i.sl then (lk, false)
    else if i.f && (ieq x.p 0 || ieq x.p 4) then (if i.b || ieq x.s s then (lk, false) else (⟨1, IntKind.i64.wrap (x.s + 1), 0⟩, false))
    else if ieq x.p 0 then (if i.o then lk else x, false)
    else if ieq x.p 1 then (awR x i.o 2, false)
    else if ieq x.p 2 then paR d x i
    else if ieq x.p 3 then (awR x (!i.o) 4, false)
    else (reR r x i, false)
  else (rc0, false)
theorem stR_ok (s d r p q n : Int) (a b c e : Bool) : PCall Try.prog 11 [.int .i64 s, .int .i64 d, .int .i64 r, .agg [.int .i64 p, .int .i64 q, .int .i64 n], .agg [.bool a, .bool b, .bool c, .bool e]] (vb (stR s d r ⟨p, q, n⟩ ⟨a, b, c, e⟩)) := by
  cases hv : vaR s d r ⟨p, q, n⟩
  · refine pcall_cx G2_ok mixed (fun _ => none) Try.func11 rfl Try.ntmps11 Try.results11 (by simp) (by kernel_rfl) ?_
    repeat' first
      | (refine gw_bool (fun _ => ?_) (fun _ => ?_))
      | (refine condw_bool (fun _ => ?_) (fun _ => ?_))
      | simp [*, stR, vb, Rc.v, rc0]
  · refine pcall_cx G2_ok mixed (fun _ => none) Try.func11 rfl Try.ntmps11 Try.results11 (by simp) (by kernel_rfl) ?_
    repeat' first
      | (refine gw_bool (fun _ => ?_) (fun _ => ?_))
      | (refine condw_bool (fun _ => ?_) (fun _ => ?_))
      | simp [*, stR, vb, Rc.v, lk]
end Go.Proofs.Ytjecnmamoidijaa
