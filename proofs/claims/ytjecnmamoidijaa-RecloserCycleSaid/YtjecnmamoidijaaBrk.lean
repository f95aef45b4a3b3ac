/-
  The breaker: what each function answers, by its text.
-/
import Derived.Test.YtjecnmamoidijaaLoops
namespace Go.Proofs.Ytjecnmamoidijaa
open Go.Pv Go.RowKit
set_option linter.unusedSimpArgs false
set_option linter.unusedVariables false
set_option maxRecDepth 100000
set_option maxHeartbeats 4000000

structure Br where
  closed : Bool
  closing : Bool
  left : Int
  com : Bool
def Br.v (b : Br) : V := .agg [.bool b.closed, .bool b.closing, .int .i64 b.left, .bool b.com]
def br0 : Br := ⟨false, false, 0, false⟩
def usableB (t : Int) : Bool := !ilt t 1 && !ilt 6 t
def validB (b : Br) (t : Int) : Bool :=
  if !usableB t || ilt b.left 0 || ilt t b.left then false
  else if ieq b.left 0 && b.closing then false
  else if ilt 0 b.left && (b.closed == b.closing) then false
  else b.closed || !b.com
def moveB (b : Br) : Br :=
  if ieq b.left 0 then b
  else if ieq (IntKind.i64.wrap (b.left - 1)) 0 then ⟨b.closing, false, IntKind.i64.wrap (b.left - 1), b.com && b.closing⟩
  else { b with left := IntKind.i64.wrap (b.left - 1) }
def commandB (b : Br) (t : Int) (stuck opn cls : Bool) : Br :=
  if ilt 0 b.left && b.closing && opn then ⟨b.closed, false, 0, b.com⟩
  else if ieq b.left 0 && b.closed && opn then ⟨b.closed, b.closing, if stuck then b.left else t, true⟩
  else if ieq b.left 0 && !b.closed && cls && !opn then ⟨b.closed, true, t, b.com⟩
  else b
def stepB (b : Br) (t : Int) (stuck opn cls : Bool) : Br := if validB b t then commandB (moveB b) t stuck opn cls else br0
def TusableB : List V → Option V
  | [.int .i64 t] => some (.bool (usableB t))
  | _ => none
theorem usableB_ok (t : Int) : PCall Try.prog 29 [.int .i64 t] (.bool (usableB t)) := by
  refine pcall_cx noTab_ok mixed (fun _ => none) Try.func29 rfl Try.ntmps29 Try.results29 (by simp) (by kernel_rfl) ?_
  repeat' first
    | (refine gw_bool (fun _ => ?_) (fun _ => ?_))
    | (refine condw_bool (fun _ => ?_) (fun _ => ?_))
    | simp [*, usableB]
def B1 : Tab := add 29 TusableB (G5)
theorem B1_at (f : FuncId) (vs : List V) : B1.at' f vs = if f = 29 then TusableB vs else G5.at' f vs := rfl
theorem B1_fr (f : FuncId) : B1.fr f = if f = 29 then false else G5.fr f := rfl
attribute [simp] B1_at B1_fr TusableB
theorem B1_ok : TabOK Try.prog B1 := by
  refine add_ok (G5_ok) (by kernel_rfl) ?_
  · intro vs v h; unfold TusableB at h; split at h
    · cases h; apply usableB_ok
    · cases h
def TnewB : List V → Option V
  | [.bool c] => some (Br.v ⟨c, false, 0, false⟩)
  | _ => none
theorem newB_ok (c : Bool) : PCall Try.prog 17 [.bool c] (Br.v ⟨c, false, 0, false⟩) := by
  refine pcall_cx noTab_ok mixed (fun _ => none) Try.func17 rfl Try.ntmps17 Try.results17 (by simp) (by kernel_rfl) ?_
  repeat' first
    | (refine gw_bool (fun _ => ?_) (fun _ => ?_))
    | (refine condw_bool (fun _ => ?_) (fun _ => ?_))
    | simp [*, Br.v]
def TvalidB : List V → Option V
  | [.agg [.bool c, .bool g, .int .i64 l, .bool m], .int .i64 t] => some (.bool (validB ⟨c, g, l, m⟩ t))
  | _ => none
theorem validB_ok (c g : Bool) (l : Int) (m : Bool) (t : Int) : PCall Try.prog 26 [.agg [.bool c, .bool g, .int .i64 l, .bool m], .int .i64 t] (.bool (validB ⟨c, g, l, m⟩ t)) := by
  refine pcall_cx B1_ok mixed (fun _ => none) Try.func26 rfl Try.ntmps26 Try.results26 (by simp) (by kernel_rfl) ?_
  repeat' first
    | (refine gw_bool (fun _ => ?_) (fun _ => ?_))
    | (refine condw_bool (fun _ => ?_) (fun _ => ?_))
    | simp [*, validB]
  all_goals (cases c <;> cases g <;> cases m <;> simp_all)
theorem moveB_ok (c g : Bool) (l : Int) (m : Bool) : PCall Try.prog 28 [.agg [.bool c, .bool g, .int .i64 l, .bool m]] (Br.v (moveB ⟨c, g, l, m⟩)) := by
  refine pcall_cx noTab_ok mixed (fun _ => none) Try.func28 rfl Try.ntmps28 Try.results28 (by simp) (by kernel_rfl) ?_
  repeat' first
    | (refine gw_bool (fun _ => ?_) (fun _ => ?_))
    | (refine condw_bool (fun _ => ?_) (fun _ => ?_))
    | simp [*, moveB, Br.v]
theorem commandB_ok (c g : Bool) (l : Int) (m : Bool) (t : Int) (s o k : Bool) : PCall Try.prog 27 [.agg [.bool c, .bool g, .int .i64 l, .bool m], .int .i64 t, .bool s, .bool o, .bool k] (Br.v (commandB ⟨c, g, l, m⟩ t s o k)) := by
  refine pcall_cx noTab_ok mixed (fun _ => none) Try.func27 rfl Try.ntmps27 Try.results27 (by simp) (by kernel_rfl) ?_
  repeat' first
    | (refine gw_bool (fun _ => ?_) (fun _ => ?_))
    | (refine condw_bool (fun _ => ?_) (fun _ => ?_))
    | simp [*, commandB, Br.v]
def TmoveB : List V → Option V
  | [.agg [.bool c, .bool g, .int .i64 l, .bool m]] => some (Br.v (moveB ⟨c, g, l, m⟩))
  | _ => none
def TcommandB : List V → Option V
  | [.agg [.bool c, .bool g, .int .i64 l, .bool m], .int .i64 t, .bool s, .bool o, .bool k] => some (Br.v (commandB ⟨c, g, l, m⟩ t s o k))
  | _ => none
def B2 : Tab := add 17 TnewB (add 26 TvalidB (add 28 TmoveB (add 27 TcommandB (B1))))
theorem B2_at (f : FuncId) (vs : List V) : B2.at' f vs = if f = 17 then TnewB vs else if f = 26 then TvalidB vs else if f = 28 then TmoveB vs else if f = 27 then TcommandB vs else B1.at' f vs := rfl
theorem B2_fr (f : FuncId) : B2.fr f = if f = 17 then false else if f = 26 then false else if f = 28 then false else if f = 27 then false else B1.fr f := rfl
attribute [simp] B2_at B2_fr TcommandB TmoveB TnewB TvalidB
theorem B2_ok : TabOK Try.prog B2 := by
  refine add_ok (add_ok (add_ok (add_ok (B1_ok) (by kernel_rfl) ?_) (by kernel_rfl) ?_) (by kernel_rfl) ?_) (by kernel_rfl) ?_
  · intro vs v h; unfold TcommandB at h; split at h
    · cases h; apply commandB_ok
    · cases h
  · intro vs v h; unfold TmoveB at h; split at h
    · cases h; apply moveB_ok
    · cases h
  · intro vs v h; unfold TvalidB at h; split at h
    · cases h; apply validB_ok
    · cases h
  · intro vs v h; unfold TnewB at h; split at h
    · cases h; apply newB_ok
    · cases h
def TstepB : List V → Option V
  | [.agg [.bool c, .bool g, .int .i64 l, .bool m], .int .i64 t, .bool s, .bool o, .bool k] => some (Br.v (stepB ⟨c, g, l, m⟩ t s o k))
  | _ => none
theorem stepB_ok (c g : Bool) (l : Int) (m : Bool) (t : Int) (s o k : Bool) : PCall Try.prog 18 [.agg [.bool c, .bool g, .int .i64 l, .bool m], .int .i64 t, .bool s, .bool o, .bool k] (Br.v (stepB ⟨c, g, l, m⟩ t s o k)) := by
  refine pcall_cx B2_ok mixed (fun _ => none) Try.func18 rfl Try.ntmps18 Try.results18 (by simp) (by kernel_rfl) ?_
  repeat' first
    | (refine gw_bool (fun _ => ?_) (fun _ => ?_))
    | (refine condw_bool (fun _ => ?_) (fun _ => ?_))
    | simp [*, stepB, br0, Br.v]
def B3 : Tab := add 18 TstepB (B2)
theorem B3_at (f : FuncId) (vs : List V) : B3.at' f vs = if f = 18 then TstepB vs else B2.at' f vs := rfl
theorem B3_fr (f : FuncId) : B3.fr f = if f = 18 then false else B2.fr f := rfl
attribute [simp] B3_at B3_fr TstepB
theorem B3_ok : TabOK Try.prog B3 := by
  refine add_ok (B2_ok) (by kernel_rfl) ?_
  · intro vs v h; unfold TstepB at h; split at h
    · cases h; apply stepB_ok
    · cases h

structure CS where
  b : Br
  r : Rc
  c : Bool
  n : Int
def cyc (t s d r : Int) : Nat → CS
  | 0 => ⟨⟨true, false, 0, false⟩, rc0, false, 0⟩
  | k + 1 =>
    let x := cyc t s d r k
    let b := stepB x.b t false (decide (k = 0)) x.c
    let y := stR s d r x.r ⟨decide (k = 0), false, !b.closed, false⟩
    ⟨b, y.1, y.2, x.n + if y.2 then 1 else 0⟩
/-- The states of the cycle. -/
def cyF (t D R : Nat) (k : Nat) : CS :=
  if k = 0 then ⟨⟨true, false, 0, false⟩, rc0, false, 0⟩
  else if k ≤ t then ⟨⟨true, false, ((t + 1 - k : Nat) : Int), true⟩, ⟨1, 1, ((k - 1 : Nat) : Int)⟩, false, 0⟩
  else if k ≤ t + D then ⟨⟨false, false, 0, false⟩, ⟨2, 1, ((k - 1 - t : Nat) : Int)⟩, false, 0⟩
  else if k = t + D + 1 then ⟨⟨false, false, 0, false⟩, ⟨3, 1, 0⟩, true, 1⟩
  else if k ≤ 2 * t + D + 1 then ⟨⟨false, true, ((2 * t + D + 2 - k : Nat) : Int), false⟩, ⟨3, 1, ((k - 1 - t - D : Nat) : Int)⟩, false, 1⟩
  else if k ≤ 2 * t + D + 1 + R then ⟨⟨true, false, 0, false⟩, ⟨4, 1, ((k - 2 - 2 * t - D : Nat) : Int)⟩, false, 1⟩
  else ⟨⟨true, false, 0, false⟩, rc0, false, 1⟩
theorem stepB_eq {b : Br} {t : Int} {o c : Bool} (ht : 1 ≤ t) (ht6 : t ≤ 6) (h0 : 0 ≤ b.left) (h1 : b.left ≤ t) (h2 : b.left = 0 → b.closing = false) (h3 : 0 < b.left → b.closed ≠ b.closing) (h4 : b.com = true → b.closed = true) :
    stepB b t false o c = (let m : Br := if b.left = 0 then b else if b.left = 1 then ⟨b.closing, false, 0, b.com && b.closing⟩ else { b with left := b.left - 1 }
      if 0 < m.left ∧ m.closing = true ∧ o = true then ⟨m.closed, false, 0, m.com⟩ else if m.left = 0 ∧ m.closed = true ∧ o = true then ⟨m.closed, m.closing, t, true⟩ else if m.left = 0 ∧ m.closed = false ∧ c = true ∧ o = false then ⟨m.closed, true, t, m.com⟩ else m) := by
  have hv : validB b t = true := by
    obtain ⟨c1, c2, c3, c4⟩ := b
    cases c1 <;> cases c2 <;> cases c4 <;> simp_all [validB, usableB, ilt, ieq] <;> omega
  have w1 : IntKind.i64.wrap (b.left - 1) = b.left - 1 := wrap_id (by omega) (by omega)
  have e1 : moveB b = if b.left = 0 then b else if b.left = 1 then ⟨b.closing, false, 0, b.com && b.closing⟩ else { b with left := b.left - 1 } := by
    simp only [moveB, w1, ieq]
    by_cases a1 : b.left = 0
    · simp [a1]
    · by_cases a2 : b.left = 1
      · simp [a2]
      · simp [a1, a2, show b.left - 1 ≠ 0 by omega]
  simp only [stepB, hv, if_true, e1, commandB, ieq, ilt]
  generalize (if b.left = 0 then b else if b.left = 1 then (⟨b.closing, false, 0, b.com && b.closing⟩ : Br) else { b with left := b.left - 1 }) = m
  obtain ⟨m1, m2, m3, m4⟩ := m
  cases m1 <;> cases m2 <;> cases o <;> cases c <;> simp
theorem va_ex {s : Int} {D R : Nat} (hu : usR s D R = true) (p q n : Int) (a1 : p = 0 → q = 0 ∧ n = 0) (a2 : ¬ p = 0 → q = 1 ∧ 1 ≤ p ∧ p ≤ 4 ∧ 0 ≤ n) (a3 : p = 1 → n ≤ 20) (a4 : p = 2 → n ≤ D - 1) (a5 : p = 3 → n ≤ 20) (a6 : p = 4 → n ≤ R - 1) : vaR s D R ⟨p, q, n⟩ = true := by
  have hb := us_bounds hu
  simp only [vaR, hu, if_true, within, ilt, ieq]
  have hp : p = 0 ∨ p = 1 ∨ p = 2 ∨ p = 3 ∨ p = 4 := by omega
  rcases hp with rfl | rfl | rfl | rfl | rfl <;> simp at a1 a2 a3 a4 a5 a6 ⊢ <;> omega
theorem cs_eq {a b : Br} {x y : Rc} {c d : Bool} {m n : Int} (h1 : a = b) (h2 : x = y) (h3 : c = d) (h4 : m = n) : (⟨a, x, c, m⟩ : CS) = ⟨b, y, d, n⟩ := by subst h1; subst h2; subst h3; subst h4; rfl
theorem rc_eq {p q n p' q' n' : Int} (h1 : p = p') (h2 : q = q') (h3 : n = n') : (⟨p, q, n⟩ : Rc) = ⟨p', q', n'⟩ := by subst h1; subst h2; subst h3; rfl
theorem br_eq {a b c d : Bool} {m n : Int} {x y : Bool} (h1 : a = b) (h2 : c = d) (h3 : m = n) (h4 : x = y) : (⟨a, c, m, x⟩ : Br) = ⟨b, d, n, y⟩ := by subst h1; subst h2; subst h3; subst h4; rfl
theorem cyc_eq {t D R : Nat} {s : Int} (hu : usR s D R = true) (ht : 1 ≤ t) (ht6 : t ≤ 6) : ∀ k, cyc t s D R k = cyF t D R k
  | 0 => rfl
  | k + 1 => by
    obtain ⟨h1, h2, h3, h4, h5, h6⟩ := us_bounds hu
    have key : ∀ (x : CS) (b : Br) (y : Rc) (c : Bool), cyF t D R k = x → stepB x.b t false (decide (k = 0)) x.c = b → stR s D R x.r ⟨decide (k = 0), false, !b.closed, false⟩ = (y, c) → cyc t s D R (k + 1) = ⟨b, y, c, x.n + if c then 1 else 0⟩ := by
      intro x b y c e1 e2 e3
      simp only [cyc, cyc_eq hu ht ht6 k, e1, e2, e3]
    have sb : ∀ (a b : Bool) (l : Int) (m o c : Bool), 0 ≤ l → l ≤ t → (l = 0 → b = false) → (0 < l → a ≠ b) → (m = true → a = true) → stepB ⟨a, b, l, m⟩ t false o c = (let m : Br := if l = 0 then ⟨a, b, l, m⟩ else if l = 1 then ⟨b, false, 0, m && b⟩ else ⟨a, b, l - 1, m⟩
      if 0 < m.left ∧ m.closing = true ∧ o = true then ⟨m.closed, false, 0, m.com⟩ else if m.left = 0 ∧ m.closed = true ∧ o = true then ⟨m.closed, m.closing, t, true⟩ else if m.left = 0 ∧ m.closed = false ∧ c = true ∧ o = false then ⟨m.closed, true, t, m.com⟩ else m) :=
      fun a b l m o c q1 q2 q3 q4 q5 => stepB_eq (by omega) (by omega) q1 q2 q3 q4 q5
    by_cases c0 : k = 0
    · subst c0
      refine (key _ ⟨true, false, t, true⟩ ⟨1, 1, 0⟩ false rfl ?_ ?_).trans ?_
      · rw [show cyF t D R 0 = ⟨⟨true, false, 0, false⟩, rc0, false, 0⟩ from rfl, sb _ _ _ _ _ _ (by omega) (by omega) (by simp) (by simp) (by simp)]; simp
      · rw [show cyF t D R 0 = ⟨⟨true, false, 0, false⟩, rc0, false, 0⟩ from rfl, rc0, st_eq (va_ex hu 0 0 0 (by omega) (by omega) (by omega) (by omega) (by omega) (by omega))]; simp; omega
      · simp [cyF, show (1 ≤ t) from ht]
    by_cases c1 : k < t
    · have e0 : cyF t D R k = ⟨⟨true, false, ((t + 1 - k : Nat) : Int), true⟩, ⟨1, 1, ((k - 1 : Nat) : Int)⟩, false, 0⟩ := by simp [cyF, c0, show k ≤ t by omega]
      refine (key _ ⟨true, false, ((t - k : Nat) : Int), true⟩ ⟨1, 1, (k : Int)⟩ false e0 ?_ ?_).trans ?_
      · rw [sb _ _ _ _ _ _ (by omega) (by omega) (by simp) (by simp) (by simp)]
        simp only [c0, decide_false, show ¬ (((t + 1 - k : Nat) : Int) = 0) by omega, show ¬ (((t + 1 - k : Nat) : Int) = 1) by omega, if_false]
        simp; omega
      · rw [st_eq (va_ex hu 1 1 _ (by omega) (by omega) (by omega) (by omega) (by omega) (by omega))]
        simp [c0, show ¬ (((k - 1 : Nat) : Int) = 20) by omega]; omega
      · conv => rhs; rw [cyF, if_neg (by omega), if_pos (by omega)]
        exact cs_eq (br_eq rfl rfl (by omega) rfl) (rc_eq rfl rfl (by omega)) rfl rfl
    by_cases c2 : k = t
    · have e0 : cyF t D R k = ⟨⟨true, false, 1, true⟩, ⟨1, 1, ((k - 1 : Nat) : Int)⟩, false, 0⟩ := by simp [cyF, c0, show k ≤ t by omega]; omega
      refine (key _ ⟨false, false, 0, false⟩ ⟨2, 1, 0⟩ false e0 ?_ ?_).trans ?_
      · rw [sb _ _ _ _ _ _ (by omega) (by omega) (by simp) (by simp) (by simp)]; simp [c0]
      · rw [st_eq (va_ex hu 1 1 _ (by omega) (by omega) (by omega) (by omega) (by omega) (by omega))]; simp [c0]
      · conv => rhs; rw [cyF, if_neg (by omega), if_neg (by omega), if_pos (by omega)]
        exact cs_eq rfl (rc_eq rfl rfl (by omega)) rfl rfl
    by_cases c3 : k < t + D
    · have e0 : cyF t D R k = ⟨⟨false, false, 0, false⟩, ⟨2, 1, ((k - 1 - t : Nat) : Int)⟩, false, 0⟩ := by simp [cyF, c0, show ¬ k ≤ t by omega, show k ≤ t + D by omega]
      refine (key _ ⟨false, false, 0, false⟩ ⟨2, 1, ((k - t : Nat) : Int)⟩ false e0 ?_ ?_).trans ?_
      · rw [sb _ _ _ _ _ _ (by omega) (by omega) (by simp) (by simp) (by simp)]; simp [c0]
      · rw [st_eq (va_ex hu 2 1 _ (by omega) (by omega) (by omega) (by omega) (by omega) (by omega))]
        simp [c0, show ¬ (((k - 1 - t : Nat) : Int) = D - 1) by omega]; omega
      · conv => rhs; rw [cyF, if_neg (by omega), if_neg (by omega), if_pos (by omega)]
        exact cs_eq rfl (rc_eq rfl rfl (by omega)) rfl rfl
    by_cases c4 : k = t + D
    · have e0 : cyF t D R k = ⟨⟨false, false, 0, false⟩, ⟨2, 1, ((k - 1 - t : Nat) : Int)⟩, false, 0⟩ := by simp [cyF, c0, show ¬ k ≤ t by omega, show k ≤ t + D by omega]
      refine (key _ ⟨false, false, 0, false⟩ ⟨3, 1, 0⟩ true e0 ?_ ?_).trans ?_
      · rw [sb _ _ _ _ _ _ (by omega) (by omega) (by simp) (by simp) (by simp)]; simp [c0]
      · rw [st_eq (va_ex hu 2 1 _ (by omega) (by omega) (by omega) (by omega) (by omega) (by omega))]
        simp [c0, show (((k - 1 - t : Nat) : Int) = D - 1) by omega]
      · conv => rhs; rw [cyF, if_neg (by omega), if_neg (by omega), if_neg (by omega), if_pos (by omega)]
        rfl
    by_cases c5 : k = t + D + 1
    · have e0 : cyF t D R k = ⟨⟨false, false, 0, false⟩, ⟨3, 1, 0⟩, true, 1⟩ := by rw [cyF, if_neg (by omega), if_neg (by omega), if_neg (by omega), if_pos (by omega)]
      refine (key _ ⟨false, true, t, false⟩ ⟨3, 1, 1⟩ false e0 ?_ ?_).trans ?_
      · rw [sb _ _ _ _ _ _ (by omega) (by omega) (by simp) (by simp) (by simp)]; simp [c0]
      · rw [st_eq (va_ex hu 3 1 _ (by omega) (by omega) (by omega) (by omega) (by omega) (by omega))]; simp [c0]
      · conv => rhs; rw [cyF, if_neg (by omega), if_neg (by omega), if_neg (by omega), if_neg (by omega), if_pos (by omega)]
        exact cs_eq (br_eq rfl rfl (by omega) rfl) (rc_eq rfl rfl (by omega)) rfl rfl
    by_cases c6 : k < 2 * t + D + 1
    · have e0 : cyF t D R k = ⟨⟨false, true, ((2 * t + D + 2 - k : Nat) : Int), false⟩, ⟨3, 1, ((k - 1 - t - D : Nat) : Int)⟩, false, 1⟩ := by rw [cyF, if_neg (by omega), if_neg (by omega), if_neg (by omega), if_neg (by omega), if_pos (by omega)]
      refine (key _ ⟨false, true, ((2 * t + D + 1 - k : Nat) : Int), false⟩ ⟨3, 1, ((k - t - D : Nat) : Int)⟩ false e0 ?_ ?_).trans ?_
      · rw [sb _ _ _ _ _ _ (by omega) (by omega) (by omega) (by simp) (by simp)]
        simp only [c0, decide_false, show ¬ (((2 * t + D + 2 - k : Nat) : Int) = 0) by omega, show ¬ (((2 * t + D + 2 - k : Nat) : Int) = 1) by omega, if_false]
        simp; omega
      · rw [st_eq (va_ex hu 3 1 _ (by omega) (by omega) (by omega) (by omega) (by omega) (by omega))]
        simp [c0, show ¬ (((k - 1 - t - D : Nat) : Int) = 20) by omega]; omega
      · conv => rhs; rw [cyF, if_neg (by omega), if_neg (by omega), if_neg (by omega), if_neg (by omega), if_pos (by omega)]
        exact cs_eq (br_eq rfl rfl (by omega) rfl) (rc_eq rfl rfl (by omega)) rfl rfl
    by_cases c7 : k = 2 * t + D + 1
    · have e0 : cyF t D R k = ⟨⟨false, true, 1, false⟩, ⟨3, 1, ((k - 1 - t - D : Nat) : Int)⟩, false, 1⟩ := by
        rw [cyF, if_neg (by omega), if_neg (by omega), if_neg (by omega), if_neg (by omega), if_pos (by omega)]
        exact cs_eq (br_eq rfl rfl (by omega) rfl) rfl rfl rfl
      refine (key _ ⟨true, false, 0, false⟩ ⟨4, 1, 0⟩ false e0 ?_ ?_).trans ?_
      · rw [sb _ _ _ _ _ _ (by omega) (by omega) (by omega) (by simp) (by simp)]; simp [c0]
      · rw [st_eq (va_ex hu 3 1 _ (by omega) (by omega) (by omega) (by omega) (by omega) (by omega))]; simp [c0]
      · conv => rhs; rw [cyF, if_neg (by omega), if_neg (by omega), if_neg (by omega), if_neg (by omega), if_neg (by omega), if_pos (by omega)]
        exact cs_eq rfl (rc_eq rfl rfl (by omega)) rfl rfl
    by_cases c8 : k < 2 * t + D + 1 + R
    · have e0 : cyF t D R k = ⟨⟨true, false, 0, false⟩, ⟨4, 1, ((k - 2 - 2 * t - D : Nat) : Int)⟩, false, 1⟩ := by rw [cyF, if_neg (by omega), if_neg (by omega), if_neg (by omega), if_neg (by omega), if_neg (by omega), if_pos (by omega)]
      refine (key _ ⟨true, false, 0, false⟩ ⟨4, 1, ((k - 1 - 2 * t - D : Nat) : Int)⟩ false e0 ?_ ?_).trans ?_
      · rw [sb _ _ _ _ _ _ (by omega) (by omega) (by simp) (by simp) (by simp)]; simp [c0]
      · rw [st_eq (va_ex hu 4 1 _ (by omega) (by omega) (by omega) (by omega) (by omega) (by omega))]
        simp [c0, show ¬ (((k - 2 - 2 * t - D : Nat) : Int) = R - 1) by omega]; omega
      · conv => rhs; rw [cyF, if_neg (by omega), if_neg (by omega), if_neg (by omega), if_neg (by omega), if_neg (by omega), if_pos (by omega)]
        exact cs_eq rfl (rc_eq rfl rfl (by omega)) rfl rfl
    by_cases c9 : k = 2 * t + D + 1 + R
    · have e0 : cyF t D R k = ⟨⟨true, false, 0, false⟩, ⟨4, 1, ((k - 2 - 2 * t - D : Nat) : Int)⟩, false, 1⟩ := by rw [cyF, if_neg (by omega), if_neg (by omega), if_neg (by omega), if_neg (by omega), if_neg (by omega), if_pos (by omega)]
      refine (key _ ⟨true, false, 0, false⟩ rc0 false e0 ?_ ?_).trans ?_
      · rw [sb _ _ _ _ _ _ (by omega) (by omega) (by simp) (by simp) (by simp)]; simp [c0]
      · rw [st_eq (va_ex hu 4 1 _ (by omega) (by omega) (by omega) (by omega) (by omega) (by omega))]
        simp [c0, show (((k - 2 - 2 * t - D : Nat) : Int) = R - 1) by omega]
      · conv => rhs; rw [cyF, if_neg (by omega), if_neg (by omega), if_neg (by omega), if_neg (by omega), if_neg (by omega), if_neg (by omega)]
        rfl
    have e0 : cyF t D R k = ⟨⟨true, false, 0, false⟩, rc0, false, 1⟩ := by rw [cyF, if_neg (by omega), if_neg (by omega), if_neg (by omega), if_neg (by omega), if_neg (by omega), if_neg (by omega)]
    refine (key _ ⟨true, false, 0, false⟩ rc0 false e0 ?_ ?_).trans ?_
    · rw [sb _ _ _ _ _ _ (by omega) (by omega) (by simp) (by simp) (by simp)]; simp [c0]
    · rw [rc0, st_eq (va_ex hu 0 0 0 (by omega) (by omega) (by omega) (by omega) (by omega) (by omega))]; simp [c0]
    · conv => rhs; rw [cyF, if_neg (by omega), if_neg (by omega), if_neg (by omega), if_neg (by omega), if_neg (by omega), if_neg (by omega)]
      rfl
theorem cycle_ok (s d r T : Int) : PCall Try.prog 9 [.agg [.int .i64 s, .int .i64 d, .int .i64 r], .int .i64 T] (.bool true) := by
  cases hv : vaR s d r ⟨0, 0, 0⟩
  · refine pcall_cx B3_ok mixed (fun _ => none) Try.func9 rfl Try.ntmps9 Try.results9 (by simp) (by kernel_rfl) ?_
    repeat' first
      | (refine gw_bool (fun _ => ?_) (fun _ => ?_))
      | (refine condw_bool (fun _ => ?_) (fun _ => ?_))
      | simp [*]
  · have hu : usR s d r = true := by grind [vaR]
    by_cases hT : 1 ≤ T ∧ T ≤ 6
    · obtain ⟨h1, h2, h3, h4, h5, h6⟩ := us_bounds hu
      obtain ⟨t, rfl⟩ := Int.eq_ofNat_of_zero_le (show 0 ≤ T by omega)
      obtain ⟨D, rfl⟩ := Int.eq_ofNat_of_zero_le (show 0 ≤ d by omega)
      obtain ⟨R, rfl⟩ := Int.eq_ofNat_of_zero_le (show 0 ≤ r by omega)
      have b1 : ilt (t : Int) 1 = false := ilt_f (by omega)
      have b2 : ilt 6 (t : Int) = false := ilt_f (by omega)
      obtain ⟨n, hn⟩ : ∃ n, 2 * t + D + R + 5 = n := ⟨_, rfl⟩
      have w1 : IntKind.i64.wrap (2 * (t : Int)) = 2 * (t : Int) := wrap_id (by omega) (by omega)
      have w2 : IntKind.i64.wrap (2 * (t : Int) + (D : Int)) = 2 * (t : Int) + (D : Int) := wrap_id (by omega) (by omega)
      have w3 : IntKind.i64.wrap (2 * (t : Int) + (D : Int) + (R : Int)) = 2 * (t : Int) + (D : Int) + (R : Int) := wrap_id (by omega) (by omega)
      have w4 : IntKind.i64.wrap (2 * (t : Int) + (D : Int) + (R : Int) + 5) = (n : Int) := by rw [wrap_id (by omega) (by omega)]; omega
      have hn2 : n ≤ 2000 := by omega
      have hce : Hid (∀ k, cyc t s D R k = cyF t D R k) := cyc_eq hu (by omega) (by omega)
      have hend : Hid (cyF t D R n = ⟨⟨true, false, 0, false⟩, rc0, false, 1⟩) := show _ = _ by rw [cyF, if_neg (by omega), if_neg (by omega), if_neg (by omega), if_neg (by omega), if_neg (by omega), if_neg (by omega)]
      have hcnt : Hid (∀ k, 0 ≤ (cyF t D R k).n ∧ (cyF t D R k).n ≤ 1) := show ∀ k, _ by intro k; unfold cyF; grind
      clear hT h1 h2 h3 h4 h5 h6 hu
      refine pcall_cx B3_ok mixed (fun _ => none) Try.func9 rfl Try.ntmps9 Try.results9 (by simp) (by kernel_rfl) ?_
      repeat' first
        | (refine gw_bool (fun _ => ?_) (fun _ => ?_))
        | (refine condw_bool (fun _ => ?_) (fun _ => ?_))
        | simp [*, Br.v]
      refine lp_go (D := (fun _ => none)) B3_ok mixed (by kernel_rfl) [1, 2, 5, 6, 10] [2] (α := Nat × CS) (fun x e h => x.1 ≤ n ∧ e 11 = .int .i64 x.1 ∧ e 7 = .bool (decide (x.1 = 0)) ∧ e 8 = .bool x.2.c ∧ e 9 = .int .i64 x.2.n ∧ h 5 = some ⟨40, [.bool x.2.b.closed, .bool x.2.b.closing, .int .i64 x.2.b.left, .bool x.2.b.com]⟩ ∧ h 6 = some ⟨25, [.int .i64 x.2.r.p, .int .i64 x.2.r.s, .int .i64 x.2.r.n]⟩ ∧ Hid (cyc t s D R x.1 = x.2)) (fun x => n - x.1) (0, ⟨⟨true, false, 0, false⟩, rc0, false, 0⟩) ?_ ?_
      · exact ⟨by simp, rfl, rfl, rfl, rfl, rfl, rfl, show _ = _ from rfl⟩
      · rintro ⟨i, ⟨⟨c1, c2, c3, c4⟩, ⟨p, q, m⟩, cl, k⟩⟩ e h hk hkh ⟨hi, g11, g7, g8, g9, q5, q6, hinv⟩
        simp [Keep] at hk
        simp [KeepH] at hkh
        simp only at hi g11 g7 g8 g9 q5 q6 hinv
        by_cases hlt : i < n
        · have f1 : ilt (i : Int) (n : Int) = true := ilt_t (by omega)
          have w5 : IntKind.i64.wrap ((i : Int) + 1) = ((i + 1 : Nat) : Int) := wrap_succ (by omega)
          have f2 : ieq (i : Int) 0 = decide (i = 0) := by
            by_cases hi0 : i = 0
            · simp [hi0]
            · simp [hi0, ieq]
          obtain ⟨b', hb'⟩ : ∃ b, stepB ⟨c1, c2, c3, c4⟩ t false (decide (i = 0)) cl = b := ⟨_, rfl⟩
          obtain ⟨y, hr⟩ : ∃ y, stR s D R ⟨p, q, m⟩ ⟨decide (i = 0), false, !b'.closed, false⟩ = y := ⟨_, rfl⟩
          have hz : Hid (cyc t s D R (i + 1) = ⟨b', y.1, y.2, k + if y.2 then 1 else 0⟩) := show _ = _ by
            simp only [cyc, hinv.out, hb', hr]
          have hc := hcnt.out i
          rw [← hce.out, hinv.out] at hc
          simp only at hc
          have w6 : IntKind.i64.wrap (k + 1) = k + 1 := wrap_id (by omega) (by omega)
          obtain ⟨d1, d2, d3, d4⟩ := b'
          obtain ⟨⟨p', q', m'⟩, c'⟩ := y
          simp only at hr
          clear hinv hc
          have hn0 : (decide (i + 1 = 0)) = false := by simp
          cases c'
          · simp only [Bool.false_eq_true, if_false, Int.add_zero] at hz
            repeat' first
              | (refine gw_bool (fun _ => ?_) (fun _ => ?_))
              | (refine condw_bool (fun _ => ?_) (fun _ => ?_))
              | simp [*, vb, Rc.v, Br.v]
            refine nxt_go (i + 1, ⟨⟨d1, d2, d3, d4⟩, ⟨p', q', m'⟩, false, k⟩) (View.refl _ _) (by simp only; omega) (by simp [*, Keep, St.forget, scr, scrC]) (by simp [*, KeepH, St.forget, scr, scrC]) ?_
            refine ⟨by simp only; omega, ?_, ?_, ?_, ?_, ?_, ?_, hz⟩
            all_goals simp [*, St.forget, scr, scrC]
          · simp only [if_true] at hz
            repeat' first
              | (refine gw_bool (fun _ => ?_) (fun _ => ?_))
              | (refine condw_bool (fun _ => ?_) (fun _ => ?_))
              | simp [*, vb, Rc.v, Br.v]
            refine nxt_go (i + 1, ⟨⟨d1, d2, d3, d4⟩, ⟨p', q', m'⟩, true, k + 1⟩) (View.refl _ _) (by simp only; omega) (by simp [*, Keep, St.forget, scr, scrC]) (by simp [*, KeepH, St.forget, scr, scrC]) ?_
            refine ⟨by simp only; omega, ?_, ?_, ?_, ?_, ?_, ?_, hz⟩
            all_goals simp [*, St.forget, scr, scrC]
        · have f1 : ilt (i : Int) (n : Int) = false := ilt_f (by omega)
          have e1 : i = n := by omega
          have hz := hinv.out
          rw [hce.out, e1, hend.out] at hz
          simp only [rc0, CS.mk.injEq, Br.mk.injEq, Rc.mk.injEq] at hz
          obtain ⟨⟨z1, z2, z3, z4⟩, ⟨z5, z6, z7⟩, z8, z9⟩ := hz
          subst z1 z2 z3 z4 z5 z6 z7 z8 z9
          clear hinv
          repeat' first
            | (refine gw_bool (fun _ => ?_) (fun _ => ?_))
            | (refine condw_bool (fun _ => ?_) (fun _ => ?_))
            | simp [*, Br.v]
    · have hz : Hid (¬ (1 ≤ T ∧ T ≤ 6)) := hT
      clear hT
      refine pcall_cx B3_ok mixed (fun _ => none) Try.func9 rfl Try.ntmps9 Try.results9 (by simp) (by kernel_rfl) ?_
      repeat' first
        | (refine gw_bool (fun _ => ?_) (fun _ => ?_))
        | (refine condw_bool (fun _ => ?_) (fun _ => ?_))
        | simp [*]
      all_goals (exfalso; have hz := hz.out; simp only [ilt_iff', ilt_iff] at *; omega)
end Go.Proofs.Ytjecnmamoidijaa
