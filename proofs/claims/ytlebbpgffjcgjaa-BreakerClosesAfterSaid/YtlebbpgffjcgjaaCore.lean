/-
  The breaker: what each function answers, by its text; Run; the sanity check.
-/
import Derived.Test.YtlebbpgffjcgjaaTd
namespace Go.Proofs.Ytlebbpgffjcgjaa
open Go.Pv Go.RowKit
set_option linter.unusedSimpArgs false
set_option linter.unusedVariables false
set_option maxRecDepth 100000
set_option maxHeartbeats 4000000

structure Br where
  closed : Bool
  closing : Bool
  left : Int
  com : Bool
def Br.v (b : Br) : V := .agg [.bool b.closed, .bool b.closing, .int .i64 b.left, .bool b.com]
def br0 : Br := ⟨false, false, 0, false⟩
def usableB (t : Int) : Bool := !ilt t 1 && !ilt 6 t
def validB (b : Br) (t : Int) : Bool :=
  if !usableB t || ilt b.left 0 || ilt t b.left then false
  else if ieq b.left 0 && b.closing then false
  else if ilt 0 b.left && (b.closed == b.closing) then false
  else b.closed || !b.com
def moveB (b : Br) : Br :=
  if ieq b.left 0 then b
  else if ieq (IntKind.i64.wrap (b.left - 1)) 0 then ⟨b.closing, false, IntKind.i64.wrap (b.left - 1), b.com && b.closing⟩
  else { b with left := IntKind.i64.wrap (b.left - 1) }
def commandB (b : Br) (t : Int) (stuck opn cls : Bool) : Br :=
  if ilt 0 b.left && b.closing && opn then ⟨b.closed, false, 0, b.com⟩
  else if ieq b.left 0 && b.closed && opn then ⟨b.closed, b.closing, if stuck then b.left else t, true⟩
  else if ieq b.left 0 && !b.closed && cls && !opn then ⟨b.closed, true, t, b.com⟩
  else b
def stepB (b : Br) (t : Int) (stuck opn cls : Bool) : Br := if validB b t then commandB (moveB b) t stuck opn cls else br0
def TusableB : List V → Option V
  | [.int .i64 t] => some (.bool (usableB t))
  | _ => none
theorem usableB_ok (t : Int) : PCall Try.prog 29 [.int .i64 t] (.bool (usableB t)) := by
  refine pcall_cx noTab_ok mixed (fun _ => none) Try.func29 rfl Try.ntmps29 Try.results29 (by simp) (by kernel_rfl) ?_
  repeat' first
    | (refine gw_bool (fun _ => ?_) (fun _ => ?_))
    | (refine condw_bool (fun _ => ?_) (fun _ => ?_))
    | simp [*, usableB]
def B1 : Tab := add 29 TusableB (noTab)
theorem B1_at (f : FuncId) (vs : List V) : B1.at' f vs = if f = 29 then TusableB vs else noTab.at' f vs := rfl
theorem B1_fr (f : FuncId) : B1.fr f = if f = 29 then false else noTab.fr f := rfl
attribute [simp] B1_at B1_fr TusableB
theorem B1_ok : TabOK Try.prog B1 := by
  refine add_ok (noTab_ok) (by kernel_rfl) ?_
  · intro vs v h; unfold TusableB at h; split at h
    · cases h; apply usableB_ok
    · cases h
def TnewB : List V → Option V
  | [.bool c] => some (Br.v ⟨c, false, 0, false⟩)
  | _ => none
theorem newB_ok (c : Bool) : PCall Try.prog 22 [.bool c] (Br.v ⟨c, false, 0, false⟩) := by
  refine pcall_cx noTab_ok mixed (fun _ => none) Try.func22 rfl Try.ntmps22 Try.results22 (by simp) (by kernel_rfl) ?_
  repeat' first
    | (refine gw_bool (fun _ => ?_) (fun _ => ?_))
    | (refine condw_bool (fun _ => ?_) (fun _ => ?_))
    | simp [*, Br.v]
def TvalidB : List V → Option V
  | [.agg [.bool c, .bool g, .int .i64 l, .bool m], .int .i64 t] => some (.bool (validB ⟨c, g, l, m⟩ t))
  | _ => none
theorem validB_ok (c g : Bool) (l : Int) (m : Bool) (t : Int) : PCall Try.prog 23 [.agg [.bool c, .bool g, .int .i64 l, .bool m], .int .i64 t] (.bool (validB ⟨c, g, l, m⟩ t)) := by
  refine pcall_cx B1_ok mixed (fun _ => none) Try.func23 rfl Try.ntmps23 Try.results23 (by simp) (by kernel_rfl) ?_
  repeat' first
    | (refine gw_bool (fun _ => ?_) (fun _ => ?_))
    | (refine condw_bool (fun _ => ?_) (fun _ => ?_))
    | simp [*, validB]
  all_goals (cases c <;> cases g <;> cases m <;> simp_all)
theorem moveB_ok (c g : Bool) (l : Int) (m : Bool) : PCall Try.prog 31 [.agg [.bool c, .bool g, .int .i64 l, .bool m]] (Br.v (moveB ⟨c, g, l, m⟩)) := by
  refine pcall_cx noTab_ok mixed (fun _ => none) Try.func31 rfl Try.ntmps31 Try.results31 (by simp) (by kernel_rfl) ?_
  repeat' first
    | (refine gw_bool (fun _ => ?_) (fun _ => ?_))
    | (refine condw_bool (fun _ => ?_) (fun _ => ?_))
    | simp [*, moveB, Br.v]
theorem commandB_ok (c g : Bool) (l : Int) (m : Bool) (t : Int) (s o k : Bool) : PCall Try.prog 30 [.agg [.bool c, .bool g, .int .i64 l, .bool m], .int .i64 t, .bool s, .bool o, .bool k] (Br.v (commandB ⟨c, g, l, m⟩ t s o k)) := by
  refine pcall_cx noTab_ok mixed (fun _ => none) Try.func30 rfl Try.ntmps30 Try.results30 (by simp) (by kernel_rfl) ?_
  repeat' first
    | (refine gw_bool (fun _ => ?_) (fun _ => ?_))
    | (refine condw_bool (fun _ => ?_) (fun _ => ?_))
    | simp [*, commandB, Br.v]
def TmoveB : List V → Option V
  | [.agg [.bool c, .bool g, .int .i64 l, .bool m]] => some (Br.v (moveB ⟨c, g, l, m⟩))
  | _ => none
def TcommandB : List V → Option V
  | [.agg [.bool c, .bool g, .int .i64 l, .bool m], .int .i64 t, .bool s, .bool o, .bool k] => some (Br.v (commandB ⟨c, g, l, m⟩ t s o k))
  | _ => none
def B2 : Tab := add 22 TnewB (add 23 TvalidB (add 31 TmoveB (add 30 TcommandB (B1))))
theorem B2_at (f : FuncId) (vs : List V) : B2.at' f vs = if f = 22 then TnewB vs else if f = 23 then TvalidB vs else if f = 31 then TmoveB vs else if f = 30 then TcommandB vs else B1.at' f vs := rfl
theorem B2_fr (f : FuncId) : B2.fr f = if f = 22 then false else if f = 23 then false else if f = 31 then false else if f = 30 then false else B1.fr f := rfl
attribute [simp] B2_at B2_fr TcommandB TmoveB TnewB TvalidB
theorem B2_ok : TabOK Try.prog B2 := by
  refine add_ok (add_ok (add_ok (add_ok (B1_ok) (by kernel_rfl) ?_) (by kernel_rfl) ?_) (by kernel_rfl) ?_) (by kernel_rfl) ?_
  · intro vs v h; unfold TcommandB at h; split at h
    · cases h; apply commandB_ok
    · cases h
  · intro vs v h; unfold TmoveB at h; split at h
    · cases h; apply moveB_ok
    · cases h
  · intro vs v h; unfold TvalidB at h; split at h
    · cases h; apply validB_ok
    · cases h
  · intro vs v h; unfold TnewB at h; split at h
    · cases h; apply newB_ok
    · cases h
def TstepB : List V → Option V
  | [.agg [.bool c, .bool g, .int .i64 l, .bool m], .int .i64 t, .bool s, .bool o, .bool k] => some (Br.v (stepB ⟨c, g, l, m⟩ t s o k))
  | _ => none
theorem stepB_ok (c g : Bool) (l : Int) (m : Bool) (t : Int) (s o k : Bool) : PCall Try.prog 20 [.agg [.bool c, .bool g, .int .i64 l, .bool m], .int .i64 t, .bool s, .bool o, .bool k] (Br.v (stepB ⟨c, g, l, m⟩ t s o k)) := by
  refine pcall_cx B2_ok mixed (fun _ => none) Try.func20 rfl Try.ntmps20 Try.results20 (by simp) (by kernel_rfl) ?_
  repeat' first
    | (refine gw_bool (fun _ => ?_) (fun _ => ?_))
    | (refine condw_bool (fun _ => ?_) (fun _ => ?_))
    | simp [*, stepB, br0, Br.v]
def B3 : Tab := add 20 TstepB (B2)
theorem B3_at (f : FuncId) (vs : List V) : B3.at' f vs = if f = 20 then TstepB vs else B2.at' f vs := rfl
theorem B3_fr (f : FuncId) : B3.fr f = if f = 20 then false else B2.fr f := rfl
attribute [simp] B3_at B3_fr TstepB
theorem B3_ok : TabOK Try.prog B3 := by
  refine add_ok (B2_ok) (by kernel_rfl) ?_
  · intro vs v h; unfold TstepB at h; split at h
    · cases h; apply stepB_ok
    · cases h

theorem stepB_eq {b : Br} {t : Int} {o c : Bool} (ht : 1 ≤ t) (ht6 : t ≤ 6) (h0 : 0 ≤ b.left) (h1 : b.left ≤ t) (h2 : b.left = 0 → b.closing = false) (h3 : 0 < b.left → b.closed ≠ b.closing) (h4 : b.com = true → b.closed = true) :
    stepB b t false o c = (let m : Br := if b.left = 0 then b else if b.left = 1 then ⟨b.closing, false, 0, b.com && b.closing⟩ else { b with left := b.left - 1 }
      if 0 < m.left ∧ m.closing = true ∧ o = true then ⟨m.closed, false, 0, m.com⟩ else if m.left = 0 ∧ m.closed = true ∧ o = true then ⟨m.closed, m.closing, t, true⟩ else if m.left = 0 ∧ m.closed = false ∧ c = true ∧ o = false then ⟨m.closed, true, t, m.com⟩ else m) := by
  have hv : validB b t = true := by
    obtain ⟨c1, c2, c3, c4⟩ := b
    cases c1 <;> cases c2 <;> cases c4 <;> simp_all [validB, usableB, ilt, ieq] <;> omega
  have w1 : IntKind.i64.wrap (b.left - 1) = b.left - 1 := wrap_id (by omega) (by omega)
  have e1 : moveB b = if b.left = 0 then b else if b.left = 1 then ⟨b.closing, false, 0, b.com && b.closing⟩ else { b with left := b.left - 1 } := by
    simp only [moveB, w1, ieq]
    by_cases a1 : b.left = 0
    · simp [a1]
    · by_cases a2 : b.left = 1
      · simp [a2]
      · simp [a1, a2, show b.left - 1 ≠ 0 by omega]
  simp only [stepB, hv, if_true, e1, commandB, ieq, ilt]
  generalize (if b.left = 0 then b else if b.left = 1 then (⟨b.closing, false, 0, b.com && b.closing⟩ : Br) else { b with left := b.left - 1 }) = m
  obtain ⟨m1, m2, m3, m4⟩ := m
  cases m1 <;> cases m2 <;> cases o <;> cases c <;> simp

def Br.cs (b : Br) : List V := [.bool b.closed, .bool b.closing, .int .i64 b.left, .bool b.com]
/-- The state behind k steps. -/
def stt (c : Bool) (t : Int) (s : Bool) (os cs : List Bool) : Nat → Br
  | 0 => ⟨c, false, 0, false⟩
  | k + 1 => stepB (stt c t s os cs k) t s (os.getD k false) (cs.getD k false)
def runL (c : Bool) (t : Int) (s : Bool) (os cs : List Bool) (n i : Nat) : List Br := (List.range n).map (fun j => if j < i then stt c t s os cs (j + 1) else br0)
def runA (c : Bool) (t : Int) (s : Bool) (os cs : List Bool) : List Br := if usableB t && (os.length == cs.length) then (List.range os.length).map (fun j => stt c t s os cs (j + 1)) else []
theorem runL_len {c : Bool} {t : Int} {s : Bool} {os cs : List Bool} {n i : Nat} : (runL c t s os cs n i).length = n := by simp [runL]
theorem runL_set {c : Bool} {t : Int} {s : Bool} {os cs : List Bool} {n i : Nat} (h : i < n) : (runL c t s os cs n i).set i (stt c t s os cs (i + 1)) = runL c t s os cs n (i + 1) := by
  apply List.ext_getElem (by simp [runL])
  intro j h1 h2
  simp only [runL, List.getElem_set, List.getElem_map, List.getElem_range]
  by_cases e : i = j
  · subst e; simp
  · simp only [e, if_false]
    by_cases e2 : j < i
    · simp [e2, show j < i + 1 by omega]
    · simp [e2, show ¬ j < i + 1 by omega]
theorem run_ok (c : Bool) (t : Int) (s : Bool) (os cs : List Bool) (hl : os.length ≤ 1000) : PFresh Try.prog 19 [.bool c, .int .i64 t, .bool s, .list 1 (os.map bl), .list 1 (cs.map bl)] (.list 4 ((runA c t s os cs).map Br.cs)) := by
  by_cases hok : usableB t = true ∧ os.length = cs.length
  · obtain ⟨hu, hlen⟩ := hok
    obtain ⟨n, hos⟩ : ∃ n, os.length = n := ⟨_, rfl⟩
    have hcs : cs.length = n := by omega
    have hrr : runA c t s os cs = runL c t s os cs n n := by
      simp only [runA, hu, hos, hcs, beq_self_eq_true, Bool.and_self, if_true, runL]
      exact List.map_congr_left fun j hj => (if_pos (List.mem_range.1 hj)).symm
    rw [hrr]
    clear hrr hlen
    rw [hos] at hl
    have k1 : (24 : Int) * (n : Int) ≤ 281474976710656 := by omega
    have k2 : (n : Int) ≤ 9223372036854775807 := by omega
    refine pfresh_cx B3_ok mixed (fun _ => none) Try.func19 rfl Try.ntmps19 Try.results19 (by simp) (by kernel_rfl) ?_
    repeat' first
      | (refine gw_bool (fun _ => ?_) (fun _ => ?_))
      | (refine condw_bool (fun _ => ?_) (fun _ => ?_))
      | simp [*, Br.v]
    refine lp_go (D := (fun _ => none)) B3_ok mixed (by kernel_rfl) [1, 2, 3, 4, 11, 12, 30] [] (α := Nat) (fun i e h => i ≤ n ∧ e 31 = .int .i64 i ∧ h 12 = some ⟨36, (stt c t s os cs i).cs⟩ ∧ ∃ R, h 26 = some ⟨36, R⟩ ∧ Hid (R = ((runL c t s os cs n i).map Br.cs).flatten)) (fun i => n - i) 0 ?_ ?_
    · refine ⟨by omega, rfl, rfl, _, rfl, show _ = _ from ?_⟩
      have : runL c t s os cs n 0 = List.replicate n br0 := by simp [runL, List.map_const']
      rw [this]
      simp [br0, Br.cs]
    · rintro i e h hk hkh ⟨hi, g31, q12, R, q26, hR⟩
      simp [Keep] at hk
      simp [KeepH] at hkh
      have fl : R.length = n * 4 := by rw [hR.out, flat_len (sz := 4) (fun _ => rfl), runL_len]
      have fp : R.any ownC = false := by rw [hR.out]; exact flat_pure (fun _ => rfl) _
      by_cases hlt : i < n
      · obtain ⟨a, ha, ha'⟩ := at_ex (show i < os.length by omega)
        obtain ⟨b, hb, hb'⟩ := at_ex (show i < cs.length by omega)
        have w1 : IntKind.i64.wrap ((i : Int) + 1) = ((i + 1 : Nat) : Int) := wrap_succ (by omega)
        have f1 : ilt (i : Int) (n : Int) = true := ilt_t (by omega)
        have f2 : stepB (stt c t s os cs i) t s a b = stt c t s os cs (i + 1) := by simp [stt, ha, hb]
        have f4 : ¬ ((n : Int) ≤ (i : Int)) := by omega
        have f5 : i * 4 + 4 ≤ n * 4 := by omega
        repeat' first
          | (refine gw_bool (fun _ => ?_) (fun _ => ?_))
          | (refine condw_bool (fun _ => ?_) (fun _ => ?_))
          | simp [*, Br.v, bl, Br.cs]
        refine nxt_go (i + 1) (View.refl _ _) (by omega) (by simp [*, Keep, St.forget, scr, scrC]) (by simp [*, KeepH, St.forget, scr, scrC]) ?_
        refine ⟨by omega, ?_, ?_, setsV R (i * 4) (stt c t s os cs (i + 1)).cs, ?_, ?_⟩
        · simp [*]
        · simp [*, Br.cs]
        · simp [*, Br.cs]
        · show _ = _
          rw [hR.out]
          refine (flat_set (enc := Br.cs) (sz := 4) (fun _ => rfl) _ i (stt c t s os cs (i + 1)) (by rw [runL_len]; exact hlt)).trans ?_
          rw [runL_set hlt]
      · have f1 : ilt (i : Int) (n : Int) = false := ilt_f (by omega)
        have f2 : i = n := by omega
        have f5 : chunks 4 n R = (runL c t s os cs n n).map Br.cs := by
          rw [hR.out, f2]
          have := flat_chunks (enc := Br.cs) (sz := 4) (fun _ => rfl) (runL c t s os cs n n)
          rwa [runL_len] at this
        have f6 : ((runL c t s os cs n n).map Br.cs).all (fun c => c.all flatC) = true := rows_flat (fun _ => rfl) _
        repeat' first
          | (refine gw_bool (fun _ => ?_) (fun _ => ?_))
          | (refine condw_bool (fun _ => ?_) (fun _ => ?_))
          | simp [*]
  · have hrr : runA c t s os cs = [] := by simp [runA]; intro h1 h2; exact absurd ⟨h1, h2⟩ hok
    rw [hrr]
    apply PFresh.nils
    cases hu : usableB t
    · refine pfresh_cx B3_ok mixed (fun _ => none) Try.func19 rfl Try.ntmps19 Try.results19 (by simp) (by kernel_rfl) ?_
      repeat' first
        | (refine gw_bool (fun _ => ?_) (fun _ => ?_))
        | (refine condw_bool (fun _ => ?_) (fun _ => ?_))
        | simp [*]
    · have k0 : ieq (os.length : Int) (cs.length : Int) = false := by
        refine ieq_f fun h => hok ⟨hu, by omega⟩
      clear hok
      refine pfresh_cx B3_ok mixed (fun _ => none) Try.func19 rfl Try.ntmps19 Try.results19 (by simp) (by kernel_rfl) ?_
      repeat' first
        | (refine gw_bool (fun _ => ?_) (fun _ => ?_))
        | (refine condw_bool (fun _ => ?_) (fun _ => ?_))
        | simp [*]
def Trun : List V → Option V
  | [.bool c, .int .i64 t, .bool s, .list 1 xs, .list 1 ys] => (match decL unB xs, decL unB ys with
    | some os, some cs => bif decide (os.length ≤ 1000) then some (.list 4 ((runA c t s os cs).map Br.cs)) else none
    | _, _ => none)
  | _ => none
theorem run_tab : ∀ vs v, Trun vs = some v → PFresh Try.prog 19 vs v := by
  intro vs v h
  unfold Trun at h
  split at h
  · split at h
    · rename_i os cs h1 h2
      rw [decL_inv unB_inv _ _ h1, decL_inv unB_inv _ _ h2]
      simp only [cond_eq_ite, decide_eq_true_eq] at h
      split at h
      · cases h; exact run_ok _ _ _ _ _ (by assumption)
      · cases h
    · cases h
  · cases h
def B4 : Tab := addF 19 Trun (B3)
theorem B4_at (f : FuncId) (vs : List V) : B4.at' f vs = if f = 19 then Trun vs else B3.at' f vs := rfl
theorem B4_fr (f : FuncId) : B4.fr f = if f = 19 then true else B3.fr f := rfl
attribute [simp] B4_at B4_fr Trun
theorem B4_ok : TabOK Try.prog B4 := by
  refine addF_ok (B3_ok) (by kernel_rfl) ?_
  · exact run_tab
theorem dec_b (l : List Bool) : decL unB (l.map bl) = some l := decL_map unB_bl _
theorem known_ok : PCall Try.prog 21 [] (.bool true) := by
  have e : runA true 2 false [true, false, false] [false, false, false] = [⟨true, false, 2, true⟩, ⟨true, false, 1, true⟩, ⟨false, false, 0, false⟩] := by kernel_rfl
  refine pcall_cx B4_ok mixed (fun _ => none) Try.func21 rfl Try.ntmps21 Try.results21 (by simp) (by kernel_rfl) ?_
  repeat' first
    | (refine gw_bool (fun _ => ?_) (fun _ => ?_))
    | (refine condw_bool (fun _ => ?_) (fun _ => ?_))
    | simp [*, decL, unB, Br.cs]
def Ttrue : List V → Option V
  | [] => some (.bool true)
  | _ => none
def B5 : Tab := add 21 Ttrue (B4)
theorem B5_at (f : FuncId) (vs : List V) : B5.at' f vs = if f = 21 then Ttrue vs else B4.at' f vs := rfl
theorem B5_fr (f : FuncId) : B5.fr f = if f = 21 then false else B4.fr f := rfl
attribute [simp] B5_at B5_fr Ttrue
theorem B5_ok : TabOK Try.prog B5 := by
  refine add_ok (B4_ok) (by kernel_rfl) ?_
  · intro vs v h; unfold Ttrue at h; split at h
    · cases h; apply known_ok
    · cases h
end Go.Proofs.Ytlebbpgffjcgjaa
