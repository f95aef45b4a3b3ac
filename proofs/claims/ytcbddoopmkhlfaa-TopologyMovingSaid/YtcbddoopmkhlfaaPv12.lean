/-
  Part 12: the equations by which a pure run is reckoned.
-/
import Derived.Test.YtcbddoopmkhlfaaPv11
namespace Go.Pv
open Go.RowKit
set_option linter.unusedSimpArgs false
set_option linter.unusedVariables false

section
variable {P : Program} {Γ : Tab} {n : Nat} {ops : Array Oper} {K : St → Prop} {st : St}

/-- A run in the order of the text; that each destination lies in the frame is looked at once for the whole region. -/
def stepG (P : Program) (Γ : Tab) (ops : Array Oper) (o : Oper) (st : St) : Option St := match wantV ops st o.guard with
  | some true => stepOp P Γ st o.dst o.op
  | some false => some (st.put o.dst .undef)
  | none => none
def evG (P : Program) (Γ : Tab) (ops : Array Oper) : List Oper → St → Option St
  | [], st => some st
  | o :: rest, st => (stepG P Γ ops o st).bind (evG P Γ ops rest)
theorem evG_eq : ∀ (l : List Oper) (st : St), l.all (fun o => fits n o.dst) = true → evL P Γ n ops l st = evG P Γ ops l st
  | [], _, _ => rfl
  | o :: l, st, h => by
    simp only [List.all_cons, Bool.and_eq_true] at h
    simp only [evL, evG, stepO, h.1, cond_true]
    have : evL P Γ n ops l = evG P Γ ops l := funext fun s => evG_eq l s h.2
    rw [this]; rfl
def eg (P : Program) (Γ : Tab) (ops : Array Oper) (l : List Oper) (K : St → Prop) (st : St) : Prop := ∃ st', evG P Γ ops l st = some st' ∧ K st'
theorem ew_of_eg {l : List Oper} (h : l.all (fun o => fits n o.dst) = true) (hh : eg P Γ ops l K st) : ew P Γ n ops l K st := by
  obtain ⟨s, h1, h2⟩ := hh
  exact ⟨s, by rw [evG_eq l st h]; exact h1, h2⟩
theorem eg_nil : eg P Γ ops [] K st ↔ K st := by simp [eg, evG]
/-- One operation. -/
def sw (P : Program) (Γ : Tab) (st : St) (dst : Option Tmp) (op : Op) (K : St → Prop) : Prop := ∃ st', stepOp P Γ st dst op = some st' ∧ K st'
/-- Holds simp off from what it speaks of. -/
structure Tok (A B : Prop) : Type where
/-- A guard. -/
def gw (w : Option Bool) (A B : Prop) (_ : Tok A B) : Prop := match w with
  | some true => A
  | some false => B
  | none => False
theorem eg_cons {o : Oper} {rest : List Oper} :
    eg P Γ ops (o :: rest) K st ↔ gw (wantV ops st o.guard) (sw P Γ st o.dst o.op (eg P Γ ops rest K)) (eg P Γ ops rest K (st.put o.dst .undef)) ⟨⟩ := by
  simp only [eg, evG, sw, stepG, Option.bind_eq_some_iff]
  cases hw : wantV ops st o.guard with
  | none => simp [gw]
  | some b =>
    cases b
    · simp only [gw, Option.some.injEq]
      constructor
      · rintro ⟨s, ⟨s1, h1, h2⟩, h3⟩; subst h1; exact ⟨s, h2, h3⟩
      · rintro ⟨s, h2, h3⟩; exact ⟨s, ⟨_, rfl, h2⟩, h3⟩
    · simp only [gw]
      constructor
      · rintro ⟨s, ⟨s1, h1, h2⟩, h3⟩; exact ⟨s1, h1, s, h2, h3⟩
      · rintro ⟨s1, h1, s, h2, h3⟩; exact ⟨s, ⟨s1, h1, h2⟩, h3⟩
theorem eg_plain {dst : Option Tmp} {op : Op} {ty : TypeId} {pos : String} {aft : Array Edge} {rest : List Oper} :
    eg P Γ ops (⟨dst, op, ty, pos, aft, none⟩ :: rest) K st ↔ sw P Γ st dst op (eg P Γ ops rest K) := by
  rw [eg_cons]; rfl
def wantOf (v : V) (want : Bool) : Option Bool := match v with
  | .bool b => some (b == want)
  | .undef => some false
  | _ => none
theorem wantOf_t {b : Bool} : wantOf (.bool b) true = some b := by cases b <;> rfl
theorem wantOf_f {b : Bool} : wantOf (.bool b) false = some (!b) := by cases b <;> rfl
theorem wantOf_undef {want : Bool} : wantOf .undef want = some false := rfl
/-- The temporary that a guard looks at. -/
def gtmp (ops : Array Oper) (j : Nat) : Option Tmp := (ops[j]?).bind (·.dst)
def gwant (d : Option Tmp) (st : St) (want : Bool) : Option Bool := match d with
  | some d => wantOf (st.env d) want
  | none => some false
theorem eg_guard {dst : Option Tmp} {op : Op} {ty : TypeId} {pos : String} {aft : Array Edge} {rest : List Oper} {j : Nat} {want : Bool} :
    eg P Γ ops (⟨dst, op, ty, pos, aft, some (j, want)⟩ :: rest) K st ↔ gw (gwant (gtmp ops j) st want) (sw P Γ st dst op (eg P Γ ops rest K)) (eg P Γ ops rest K (st.put dst .undef)) ⟨⟩ := by
  rw [eg_cons]
  have : wantV ops st (some (j, want)) = gwant (gtmp ops j) st want := by
    unfold wantV gwant gtmp wantOf
    generalize hq : (ops[j]?).bind (fun o => o.dst) = q
    cases q with
    | none => simp only [hq]
    | some d =>
      simp only [hq]
      cases st.env d <;> rfl
  rw [this]
theorem gtmp_zero {o : Oper} {l : List Oper} : gtmp (o :: l).toArray 0 = o.dst := by simp [gtmp]
theorem gtmp_succ {o : Oper} {l : List Oper} {j : Nat} : gtmp (o :: l).toArray (j + 1) = gtmp l.toArray j := by simp [gtmp]
theorem gwant_some {e : Nat → V} {h : Nat → Option Blk} {d : Tmp} {want : Bool} : gwant (some d) ⟨e, h⟩ want = wantOf (e d) want := rfl
theorem gw_true {A B : Prop} {t : Tok A B} : gw (some true) A B t ↔ A := Iff.rfl
theorem gw_false {A B : Prop} {t : Tok A B} : gw (some false) A B t ↔ B := Iff.rfl
theorem gw_not {A B : Prop} {t : Tok A B} {b : Bool} : gw (some (!b)) A B t ↔ gw (some b) B A ⟨⟩ := by cases b <;> exact Iff.rfl
theorem gw_bool {A B : Prop} {t : Tok A B} {b : Bool} (h1 : b = true → A) (h2 : b = false → B) : gw (some b) A B t := by cases b; exact h2 rfl; exact h1 rfl

/-- A value is put. -/
def pw (m : Option V) (st : St) (dst : Option Tmp) (K : St → Prop) : Prop := ∃ v, m = some v ∧ K (st.put dst v)
theorem pw_some {v : V} {e : Nat → V} {h : Nat → Option Blk} {d : Tmp} : pw (some v) ⟨e, h⟩ (some d) K ↔ K ⟨upd e d v, h⟩ := by simp [pw, St.put]
theorem pw_cond {c : Bool} {m : Option V} {dst : Option Tmp} : pw (bif c then m else none) st dst K ↔ c = true ∧ pw m st dst K := by cases c <;> simp [pw]
theorem pw_ite {c : Prop} [Decidable c] {m : Option V} {dst : Option Tmp} : pw (if c then m else none) st dst K ↔ c ∧ pw m st dst K := by by_cases h : c <;> simp [pw, h]
theorem pw_map {α : Type} {f : α → V} {m : Option α} {dst : Option Tmp} : pw (m.map f) st dst K ↔ ∃ x, m = some x ∧ pw (some (f x)) st dst K := by
  simp only [pw, Option.map_eq_some_iff, Option.some.injEq]
  constructor
  · rintro ⟨v, ⟨x, h1, rfl⟩, h2⟩; exact ⟨x, h1, _, rfl, h2⟩
  · rintro ⟨x, h1, v, rfl, h2⟩; exact ⟨_, ⟨x, h1, rfl⟩, h2⟩
theorem put_mk {e : Nat → V} {h : Nat → Option Blk} {d : Tmp} {v : V} : (⟨e, h⟩ : St).put (some d) v = ⟨upd e d v, h⟩ := rfl
theorem sw_01 {dst : Option Tmp} {op : Op} (hk : (decide (kind op ≤ 1)) = true) : sw P Γ st dst op K ↔ pw (ev01 P Γ st.heap (ev st) op) st dst K := by
  have hk' : kind op ≤ 1 := by simpa using hk
  unfold sw stepOp pw
  rcases (show kind op = 0 ∨ kind op = 1 by omega) with h | h <;> simp only [h, Option.map_eq_some_iff] <;>
  · constructor
    · rintro ⟨s, ⟨v, h1, rfl⟩, h2⟩; exact ⟨v, h1, h2⟩
    · rintro ⟨v, h1, h2⟩; exact ⟨_, ⟨v, h1, rfl⟩, h2⟩
/-- A block is made. -/
def aw (m : Option (V × Blk)) (e : Nat → V) (h : Nat → Option Blk) (d : Nat) (K : St → Prop) : Prop := h d = none ∧ ∃ p, m = some p ∧ K ⟨upd e d p.1, upd h d (some p.2)⟩
theorem sw_2 {d : Tmp} {op : Op} {e : Nat → V} {h : Nat → Option Blk} (hk : (decide (kind op = 2)) = true) : sw P Γ ⟨e, h⟩ (some d) op K ↔ aw (ev2 P (ev ⟨e, h⟩) d op) e h d K := by
  have hk' : kind op = 2 := by simpa using hk
  unfold sw stepOp aw
  simp only [hk']
  cases hd : h d with
  | none =>
    simp only [Option.map_eq_some_iff, true_and]
    constructor
    · rintro ⟨s, ⟨v, h1, rfl⟩, h2⟩; exact ⟨v, h1, h2⟩
    · rintro ⟨v, h1, h2⟩; exact ⟨_, ⟨v, h1, rfl⟩, h2⟩
  | some b => simp
theorem aw_some {v : V} {b : Blk} {e : Nat → V} {h : Nat → Option Blk} {d : Nat} : aw (some (v, b)) e h d K ↔ h d = none ∧ K ⟨upd e d v, upd h d (some b)⟩ := by simp [aw]
theorem aw_cond {c : Bool} {m : Option (V × Blk)} {e : Nat → V} {h : Nat → Option Blk} {d : Nat} : aw (bif c then m else none) e h d K ↔ c = true ∧ aw m e h d K := by cases c <;> simp [aw]
/-- A block is written. -/
def tw (m : Option (Nat → Option Blk)) (e : Nat → V) (K : St → Prop) : Prop := ∃ h, m = some h ∧ K ⟨e, h⟩
theorem sw_store {t : TypeId} {x y : Operand} {e : Nat → V} {h : Nat → Option Blk} : sw P Γ ⟨e, h⟩ none (.store t x y) K ↔ tw (storeV P h t (ev ⟨e, h⟩ x) (ev ⟨e, h⟩ y)) e K := by
  unfold sw stepOp tw
  simp only [kind, ev3, Option.map_map, Option.map_eq_some_iff]
  constructor
  · rintro ⟨s, ⟨v, h1, rfl⟩, h2⟩; exact ⟨v, h1, h2⟩
  · rintro ⟨v, h1, h2⟩; exact ⟨_, ⟨v, h1, rfl⟩, h2⟩
theorem sw_mapUpdate {t : TypeId} {x y z : Operand} {e : Nat → V} {h : Nat → Option Blk} : sw P Γ ⟨e, h⟩ none (.mapUpdate t x y z) K ↔ tw (mupdV P h t (ev ⟨e, h⟩ x) (ev ⟨e, h⟩ y) (ev ⟨e, h⟩ z)) e K := by
  unfold sw stepOp tw
  simp only [kind, ev3, Option.map_map, Option.map_eq_some_iff]
  constructor
  · rintro ⟨s, ⟨v, h1, rfl⟩, h2⟩; exact ⟨v, h1, h2⟩
  · rintro ⟨v, h1, h2⟩; exact ⟨_, ⟨v, h1, rfl⟩, h2⟩
theorem sw_insert {t : TypeId} {x y z : Operand} {e : Nat → V} {h : Nat → Option Blk} : sw P Γ ⟨e, h⟩ none (.insert t x y z) K ↔ tw (mupdV P h t (ev ⟨e, h⟩ x) (ev ⟨e, h⟩ y) (ev ⟨e, h⟩ z)) e K := by
  unfold sw stepOp tw
  simp only [kind, ev3, Option.map_map, Option.map_eq_some_iff]
  constructor
  · rintro ⟨s, ⟨v, h1, rfl⟩, h2⟩; exact ⟨v, h1, h2⟩
  · rintro ⟨v, h1, h2⟩; exact ⟨_, ⟨v, h1, rfl⟩, h2⟩
/-- A new map. -/
theorem sw_makeMap {e : Nat → V} {h : Nat → Option Blk} {d : Tmp} {t : TypeId} : sw P Γ ⟨e, h⟩ (some d) (.makeMap t none) K ↔ h d = none ∧ K ⟨upd e d (.mp d), upd h d (some ⟨t, []⟩)⟩ := by
  unfold sw stepOp
  simp only [kind, ev3]
  cases hd : h d with
  | none => simp [St.put]
  | some b => simp
theorem tw_some {e : Nat → V} {h : Nat → Option Blk} : tw (some h) e K ↔ K ⟨e, h⟩ := by simp [tw]
theorem tw_cond {c : Bool} {m : Option (Nat → Option Blk)} {e : Nat → V} : tw (bif c then m else none) e K ↔ c = true ∧ tw m e K := by cases c <;> simp [tw]
/-- append. -/
def bw (m : Option (V × St)) (d : Tmp) (K : St → Prop) : Prop := ∃ p, m = some p ∧ K (p.2.put (some d) p.1)
theorem sw_append {t t' : TypeId} {x y : Operand} {d : Tmp} (ht : (t == t') = true) : sw P Γ st (some d) (.call ⟨.builtin .append, #[x, y], #[t, t']⟩) K ↔ bw (appendV P st d t (ev st x) (ev st y)) d K := by
  have ht' : t = t' := by simpa using ht
  subst ht'
  unfold sw stepOp bw
  simp only [kind, kindC, ev3, decide_true, cond_true, Option.map_eq_some_iff]
  constructor
  · rintro ⟨s, ⟨v, h1, rfl⟩, h2⟩; exact ⟨v, h1, h2⟩
  · rintro ⟨v, h1, h2⟩; exact ⟨_, ⟨v, h1, rfl⟩, h2⟩
theorem bw_some {v : V} {e : Nat → V} {h : Nat → Option Blk} {d : Tmp} : bw (some (v, ⟨e, h⟩)) d K ↔ K ⟨upd e d v, h⟩ := by simp [bw, St.put]
theorem bw_cond {c : Bool} {m : Option (V × St)} {d : Tmp} : bw (bif c then m else none) d K ↔ c = true ∧ bw m d K := by cases c <;> simp [bw]

/-! ### a region that draws, with stores into blocks that are known -/
def egA (P : Program) (Γ : Tab) (ops : Array Oper) (ks : Ann) (j : Nat) (l : List Oper) (K : St → Prop) (st : St) : Prop := ∃ st', evA P Γ ops ks j l st = some st' ∧ K st'
theorem egA_nil {ks : Ann} {j : Nat} : egA P Γ ops ks j [] K st ↔ K st := by simp [egA, evA]
/-- One operation of such a region. -/
def swA (P : Program) (Γ : Tab) (ks : Ann) (j : Nat) (st : St) (dst : Option Tmp) (op : Op) (K : St → Prop) : Prop := ∃ st', (match lk ks j with
    | some K => (match op, dst with
      | .store t a u, none => (match ev st a with
        | .ptr K' _ => bif K' == K then (storeV P st.heap t (ev st a) (ev st u)).map (fun h => { st with heap := h }) else none
        | _ => none)
      | _, _ => none)
    | none => bif decide (kind op ≤ 1) then (ev01 P Γ (msk ks j st.heap) (ev st) op).map (st.put dst) else bif decide (kind op = 2) then stepOp P Γ st dst op else none) = some st' ∧ K st'
theorem egA_cons {ks : Ann} {j : Nat} {o : Oper} {rest : List Oper} :
    egA P Γ ops ks j (o :: rest) K st ↔ gw (wantV ops st o.guard) (swA P Γ ks j st o.dst o.op (egA P Γ ops ks (j + 1) rest K)) (egA P Γ ops ks (j + 1) rest K (st.put o.dst .undef)) ⟨⟩ := by
  simp only [egA, evA, swA, stepA, Option.bind_eq_some_iff]
  cases hw : wantV ops st o.guard with
  | none => simp [gw]
  | some b =>
    cases b
    · simp only [gw, Option.some.injEq]
      constructor
      · rintro ⟨s, ⟨s1, h1, h2⟩, h3⟩; subst h1; exact ⟨s, h2, h3⟩
      · rintro ⟨s, h2, h3⟩; exact ⟨s, ⟨_, rfl, h2⟩, h3⟩
    · simp only [gw]
      constructor
      · rintro ⟨s, ⟨s1, h1, h2⟩, h3⟩; exact ⟨s1, h1, s, h2, h3⟩
      · rintro ⟨s1, h1, s, h2, h3⟩; exact ⟨s, ⟨s1, h1, h2⟩, h3⟩
theorem egA_plain {ks : Ann} {j : Nat} {dst : Option Tmp} {op : Op} {ty : TypeId} {pos : String} {aft : Array Edge} {rest : List Oper} :
    egA P Γ ops ks j (⟨dst, op, ty, pos, aft, none⟩ :: rest) K st ↔ swA P Γ ks j st dst op (egA P Γ ops ks (j + 1) rest K) := by
  rw [egA_cons]; rfl
theorem egA_guard {ks : Ann} {i : Nat} {dst : Option Tmp} {op : Op} {ty : TypeId} {pos : String} {aft : Array Edge} {rest : List Oper} {j : Nat} {want : Bool} :
    egA P Γ ops ks i (⟨dst, op, ty, pos, aft, some (j, want)⟩ :: rest) K st ↔ gw (gwant (gtmp ops j) st want) (swA P Γ ks i st dst op (egA P Γ ops ks (i + 1) rest K)) (egA P Γ ops ks (i + 1) rest K (st.put dst .undef)) ⟨⟩ := by
  rw [egA_cons]
  have : wantV ops st (some (j, want)) = gwant (gtmp ops j) st want := by
    unfold wantV gwant gtmp wantOf
    generalize hq : (ops[j]?).bind (fun o => o.dst) = q
    cases q with
    | none => simp only [hq]
    | some d =>
      simp only [hq]
      cases st.env d <;> rfl
  rw [this]
/-- By where it goes: a store into a known block; else, by what it is. -/
def swB (P : Program) (Γ : Tab) (ks : Ann) (j : Nat) (k : Option Nat) (st : St) (dst : Option Tmp) (op : Op) (K : St → Prop) : Prop := match k with
  | some k => ∃ t a u off h, op = .store t a u ∧ dst = none ∧ ev st a = .ptr k off ∧ storeV P st.heap t (ev st a) (ev st u) = some h ∧ K ⟨st.env, h⟩
  | none => (kind op ≤ 1 ∧ sw P Γ ⟨st.env, msk ks j st.heap⟩ dst op (fun s => K ⟨s.env, st.heap⟩)) ∨ (kind op = 2 ∧ sw P Γ st dst op K)
theorem swA_B {ks : Ann} {j : Nat} {dst : Option Tmp} {op : Op} : swA P Γ ks j st dst op K ↔ swB P Γ ks j (lk ks j) st dst op K := by
  unfold swA swB
  cases hl : lk ks j with
  | some k =>
    simp only
    constructor
    · rintro ⟨s, h1, h2⟩
      split at h1
      · rename_i t a u
        split at h1
        · rename_i k' off ha
          simp only [cond_eq_ite, beq_iff_eq] at h1
          split at h1
          · rename_i hk; subst hk
            simp only [Option.map_eq_some_iff] at h1
            obtain ⟨h, h3, rfl⟩ := h1
            exact ⟨t, a, u, off, h, rfl, rfl, ha, h3, h2⟩
          · cases h1
        · cases h1
      · cases h1
    · rintro ⟨t, a, u, off, h, rfl, rfl, ha, h3, h2⟩
      refine ⟨_, ?_, h2⟩
      rw [ha] at h3
      simp only [ha, beq_self_eq_true, cond_true, h3, Option.map_some]
  | none =>
    simp only
    by_cases hk : kind op ≤ 1
    · simp only [hk, decide_true, cond_true, true_and, show ¬ kind op = 2 by omega, false_and, or_false]
      rw [sw_01 (by simpa using hk)]
      have he : ev (⟨st.env, msk ks j st.heap⟩ : St) = ev st := by funext x; cases x <;> rfl
      simp only [pw, he, Option.map_eq_some_iff]
      constructor
      · rintro ⟨s, ⟨v, h1, rfl⟩, h2⟩; exact ⟨v, h1, by cases dst <;> exact h2⟩
      · rintro ⟨v, h1, h2⟩; exact ⟨_, ⟨v, h1, rfl⟩, by cases dst <;> exact h2⟩
    · simp only [hk, decide_false, cond_false, false_and, false_or]
      by_cases h2 : kind op = 2
      · simp only [h2, decide_true, cond_true, true_and]; rfl
      · simp [h2]
def ptrIs (v : V) (k : Nat) : Bool := match v with
  | .ptr k' _ => k' == k
  | _ => false
theorem swB_store {ks : Ann} {j k : Nat} {e : Nat → V} {h : Nat → Option Blk} {t : TypeId} {x y : Operand} :
    swB P Γ ks j (some k) ⟨e, h⟩ none (.store t x y) K ↔ ptrIs (ev ⟨e, h⟩ x) k = true ∧ tw (storeV P h t (ev ⟨e, h⟩ x) (ev ⟨e, h⟩ y)) e K := by
  unfold swB tw ptrIs
  constructor
  · rintro ⟨t', a, u, off, h', h1, _, h3, h4, h5⟩
    cases h1
    exact ⟨by simp [h3], h', h4, h5⟩
  · rintro ⟨h1, h', h2, h3⟩
    split at h1
    · rename_i k' off hk
      simp only [beq_iff_eq] at h1; subst h1
      exact ⟨t, x, y, off, h', rfl, rfl, hk, h2, h3⟩
    · cases h1
theorem swB_01 {ks : Ann} {j : Nat} {e : Nat → V} {h : Nat → Option Blk} {dst : Option Tmp} {op : Op} (hk : Nat.ble (kind op) 1 = true) : swB P Γ ks j none ⟨e, h⟩ dst op K ↔ sw P Γ ⟨e, msk ks j h⟩ dst op (fun s => K ⟨s.env, h⟩) := by
  have hk' : kind op ≤ 1 := Nat.le_of_ble_eq_true hk
  simp [swB, hk', show ¬ kind op = 2 by omega]
theorem swB_2 {ks : Ann} {j : Nat} {e : Nat → V} {h : Nat → Option Blk} {dst : Option Tmp} {op : Op} (hk : Nat.beq (kind op) 2 = true) : swB P Γ ks j none ⟨e, h⟩ dst op K ↔ sw P Γ ⟨e, h⟩ dst op K := by
  have hk' : kind op = 2 := Nat.eq_of_beq_eq_true hk
  simp [swB, hk']
theorem mask_at {ks : List (Nat × Nat)} {ms : List Nat} {h : Nat → Option Blk} {k : Nat} : mask ⟨ks, ms⟩ h k = if keyedL ks k = true then none else h k := rfl
theorem msk_at {ks : List (Nat × Nat)} {ms : List Nat} {j : Nat} {h : Nat → Option Blk} : msk ⟨ks, ms⟩ j h = if hasL ms j = true then mask ⟨ks, ms⟩ h else h := rfl
theorem lk_at {ks : List (Nat × Nat)} {ms : List Nat} {j : Nat} : lk ⟨ks, ms⟩ j = lkL ks j := rfl
/-- A region that draws: the list says which stores go where. -/
def dgo (P : Program) (Γ : Tab) (l : List Oper) (A : Option Ann) (K : St → Prop) (st : St) : Prop := match A with
  | none => eg P Γ l.toArray l K st
  | some A => egA P Γ l.toArray A 0 l K st
theorem dgo_none {l : List Oper} : dgo P Γ l none K st ↔ eg P Γ l.toArray l K st := Iff.rfl
theorem dgo_some {l : List Oper} {A : Ann} : dgo P Γ l (some A) K st ↔ egA P Γ l.toArray A 0 l K st := Iff.rfl
attribute [simp] egA_nil egA_plain egA_guard swA_B swB_store swB_01 swB_2 mask_at msk_at lk_at dgo_none dgo_some lkL keyedL hasL ptrIs kind kindC

/-! ### each operation by itself -/
section
variable {e : Nat → V} {h : Nat → Option Blk} {d : Tmp}
theorem sw_move {x : Operand} : sw P Γ ⟨e, h⟩ (some d) (.move x) K ↔ K ⟨upd e d (ev ⟨e, h⟩ x), h⟩ := by rw [sw_01 rfl]; exact pw_some
theorem sw_assign {x : Operand} : sw P Γ ⟨e, h⟩ (some d) (.assign x) K ↔ K ⟨upd e d (ev ⟨e, h⟩ x), h⟩ := by rw [sw_01 rfl]; exact pw_some
def pick (c : V) (x y : V) : Option V := match c with
  | .bool b => some (bif b then x else y)
  | _ => none
theorem pick_t {x y : V} : pick (.bool true) x y = some x := rfl
theorem pick_f {x y : V} : pick (.bool false) x y = some y := rfl
theorem pick_b {b x y : Bool} : pick (.bool b) (.bool x) (.bool y) = some (.bool (bif b then x else y)) := by cases b <;> rfl
theorem pick_i {b : Bool} {k : IntKind} {x y : Int} : pick (.bool b) (.int k x) (.int k y) = some (.int k (bif b then x else y)) := by cases b <;> rfl
theorem sw_pick {c x y : Operand} : sw P Γ ⟨e, h⟩ (some d) (.pick c x y) K ↔ pw (pick (ev ⟨e, h⟩ c) (ev ⟨e, h⟩ x) (ev ⟨e, h⟩ y)) ⟨e, h⟩ (some d) K := by rw [sw_01 rfl]; rfl
theorem sw_build {t : TypeId} {l : List (Nat × Operand)} : sw P Γ ⟨e, h⟩ (some d) (.build t l.toArray) K ↔ pw (buildV P t (l.map fun p => (p.1, ev ⟨e, h⟩ p.2))) ⟨e, h⟩ (some d) K := by rw [sw_01 rfl]; rfl
theorem sw_load {t : TypeId} {x : Operand} : sw P Γ ⟨e, h⟩ (some d) (.load t x) K ↔ pw (loadV P h t (ev ⟨e, h⟩ x)) ⟨e, h⟩ (some d) K := by rw [sw_01 rfl]; rfl
theorem sw_mkf {fn : Fn} {fs cs : List Operand} : sw P Γ ⟨e, h⟩ (some d) (.makeFunc fn fs.toArray cs.toArray) K ↔ pw (mkfV fn (fs.map (ev ⟨e, h⟩)) (cs.map (ev ⟨e, h⟩))) ⟨e, h⟩ (some d) K := by rw [sw_01 rfl]; rfl
theorem sw_lookup {t : TypeId} {x k : Operand} : sw P Γ ⟨e, h⟩ (some d) (.lookup t x k false) K ↔ pw (lookV P h t (ev ⟨e, h⟩ x) (ev ⟨e, h⟩ k)) ⟨e, h⟩ (some d) K := by rw [sw_01 rfl]; rfl
theorem sw_bin {op : BinOp} {t ty : TypeId} {x y : Operand} : sw P Γ ⟨e, h⟩ (some d) (.binOp op t x y ty) K ↔ pw (bin P op t (ev ⟨e, h⟩ x) (ev ⟨e, h⟩ y)) ⟨e, h⟩ (some d) K := by rw [sw_01 rfl]; rfl
theorem sw_un {op : UnOp} {t : TypeId} {x : Operand} : sw P Γ ⟨e, h⟩ (some d) (.unOp op t x) K ↔ pw (un op (ev ⟨e, h⟩ x)) ⟨e, h⟩ (some d) K := by rw [sw_01 rfl]; rfl
theorem sw_toArr {t : TypeId} {x : Operand} : sw P Γ ⟨e, h⟩ (some d) (.sliceToArrayPointer t x) K ↔ pw (toArrV P t (ev ⟨e, h⟩ x)) ⟨e, h⟩ (some d) K := by rw [sw_01 rfl]; rfl
theorem sw_convert {s t : TypeId} {x : Operand} : sw P Γ ⟨e, h⟩ (some d) (.convert s t x) K ↔ pw (convertV P s t (ev ⟨e, h⟩ x)) ⟨e, h⟩ (some d) K := by rw [sw_01 rfl]; rfl
theorem sw_fieldAddr {s : TypeId} {x : Operand} {f : Nat} : sw P Γ ⟨e, h⟩ (some d) (.fieldAddr s x f) K ↔ pw (fieldAddrV P s (ev ⟨e, h⟩ x) f) ⟨e, h⟩ (some d) K := by rw [sw_01 rfl]; rfl
theorem sw_field {s : TypeId} {x : Operand} {f : Nat} : sw P Γ ⟨e, h⟩ (some d) (.field s x f) K ↔ pw (fieldV P s (ev ⟨e, h⟩ x) f) ⟨e, h⟩ (some d) K := by rw [sw_01 rfl]; rfl
theorem sw_indexAddr {t : TypeId} {x i : Operand} : sw P Γ ⟨e, h⟩ (some d) (.indexAddr t x i) K ↔ pw (indexAddrV P t (ev ⟨e, h⟩ x) (ev ⟨e, h⟩ i)) ⟨e, h⟩ (some d) K := by rw [sw_01 rfl]; rfl
theorem sw_index {t : TypeId} {x i : Operand} : sw P Γ ⟨e, h⟩ (some d) (.index t x i) K ↔ pw (indexV P t (ev ⟨e, h⟩ x) (ev ⟨e, h⟩ i)) ⟨e, h⟩ (some d) K := by rw [sw_01 rfl]; rfl
theorem sw_extract {x : Operand} {i : Nat} : sw P Γ ⟨e, h⟩ (some d) (.extract x i) K ↔ pw (extractV (ev ⟨e, h⟩ x) i) ⟨e, h⟩ (some d) K := by rw [sw_01 rfl]; rfl
theorem sw_nilCheck {x : Operand} : sw P Γ ⟨e, h⟩ (some d) (.nilCheck x) K ↔ pw (nilCheckV (ev ⟨e, h⟩ x)) ⟨e, h⟩ (some d) K := by rw [sw_01 rfl]; rfl
theorem sw_slice {t : TypeId} {x : Operand} {lo hi : Option Operand} : sw P Γ ⟨e, h⟩ (some d) (.slice t x lo hi none) K ↔ pw (sliceV P h t (ev ⟨e, h⟩ x) (lo.map (ev ⟨e, h⟩)) (hi.map (ev ⟨e, h⟩))) ⟨e, h⟩ (some d) K := by rw [sw_01 rfl]; rfl
theorem sw_call {f : FuncId} {l : List Operand} {ts : Array TypeId} : sw P Γ ⟨e, h⟩ (some d) (.call ⟨.value (.func f), l.toArray, ts⟩) K ↔ pw (callV Γ h f (l.map (ev ⟨e, h⟩))) ⟨e, h⟩ (some d) K := by rw [sw_01 rfl]; rfl
theorem sw_len {x : Operand} {t : TypeId} : sw P Γ ⟨e, h⟩ (some d) (.call ⟨.builtin .len, #[x], #[t]⟩) K ↔ pw (lenV P t (ev ⟨e, h⟩ x)) ⟨e, h⟩ (some d) K := by rw [sw_01 rfl]; rfl
theorem sw_min {x y : Operand} {ts : Array TypeId} : sw P Γ ⟨e, h⟩ (some d) (.call ⟨.builtin .min, #[x, y], ts⟩) K ↔ pw (minV (ev ⟨e, h⟩ x) [ev ⟨e, h⟩ y]) ⟨e, h⟩ (some d) K := by rw [sw_01 rfl]; rfl
theorem sw_max {x y : Operand} {ts : Array TypeId} : sw P Γ ⟨e, h⟩ (some d) (.call ⟨.builtin .max, #[x, y], ts⟩) K ↔ pw (maxV (ev ⟨e, h⟩ x) [ev ⟨e, h⟩ y]) ⟨e, h⟩ (some d) K := by rw [sw_01 rfl]; rfl
theorem sw_box {t : TypeId} {x : Operand} : sw P Γ ⟨e, h⟩ (some d) (.box t x) K ↔ aw ((boxV t (ev ⟨e, h⟩ x)).map fun b => (.ptr d 0, b)) e h d K := by rw [sw_2 rfl]; rfl
theorem sw_alloc {t : TypeId} : sw P Γ ⟨e, h⟩ (some d) (.alloc t) K ↔ aw ((allocV P t).map fun b => (.ptr d 0, b)) e h d K := by rw [sw_2 rfl]; rfl
theorem sw_makeSlice {t : TypeId} {l c : Operand} : sw P Γ ⟨e, h⟩ (some d) (.makeSlice t l c) K ↔ aw ((makeV P t (ev ⟨e, h⟩ l) (ev ⟨e, h⟩ c)).map fun p => (.sl d 0 p.1 p.2.2, p.2.1)) e h d K := by rw [sw_2 rfl]; rfl
theorem sw_buildSlice {t : TypeId} {len : Nat} {l : List (Nat × Operand)} : sw P Γ ⟨e, h⟩ (some d) (.buildSlice t len l.toArray) K ↔ aw ((buildSliceV P t len (l.map fun p => (p.1, ev ⟨e, h⟩ p.2))).map fun p => (.sl d 0 len p.2, p.1)) e h d K := by rw [sw_2 rfl]; rfl
end

theorem ev_tmp {e : Nat → V} {h : Nat → Option Blk} {t : Tmp} : ev ⟨e, h⟩ (.tmp t) = norm (e t) := rfl
theorem norm_undef : norm .undef = .undef := rfl
theorem norm_junk : norm .junk = .junk := rfl
theorem norm_bool (b : Bool) : norm (.bool b) = .bool b := rfl
theorem norm_int (k : IntKind) (i : Int) : norm (.int k i) = .int k i := rfl
theorem norm_str (s : ByteArray) : norm (.str s) = .str s := rfl
theorem norm_nils : norm .nils = .nils := rfl
theorem norm_list (sz : Nat) (xs : List (List V)) : norm (.list sz xs) = .list sz xs := rfl
theorem norm_sl (k o l s : Nat) : norm (.sl k o l s) = .sl k o l s := rfl
theorem norm_ptr (k o : Nat) : norm (.ptr k o) = .ptr k o := rfl
theorem norm_rp (cs : List V) : norm (.rp cs) = .rp cs := rfl
theorem norm_agg (cs : List V) : norm (.agg cs) = .agg cs := rfl
theorem norm_tup (cs : List V) : norm (.tup cs) = .tup cs := rfl
theorem norm_val (x : Value) : norm (.val x) = .val x := rfl
theorem norm_vrp (a : Addr) (cs : List V) : norm (.vrp a cs) = .rp cs := rfl
theorem norm_mp (k : Nat) : norm (.mp k) = .mp k := rfl
theorem norm_rset (k : List V) : norm (.rset k) = .rset k := rfl
theorem norm_as (x : Value) (sz : Nat) (xs : List (List V)) : norm (.as x sz xs) = .list sz xs := rfl
theorem norm_vptr (b k o : Nat) : norm (.vptr b k o) = .ptr k o := rfl
attribute [simp] norm_undef norm_junk norm_bool norm_int norm_str norm_nils norm_list norm_sl norm_ptr norm_rp norm_agg norm_tup norm_val norm_vrp norm_vptr
theorem ev_const {v : Value} : ev st (.const v) = cv v := rfl

theorem cw_reg (hΓ : TabOK P Γ) {Q : Exit → St → Prop} {id : Nat} {l : List Oper} (hf : l.all (fun o => fits n o.dst) = true) (h : eg P Γ l.toArray l (Q .normal) st) : CW P n (.region id l.toArray false) Q st :=
  cw_region hΓ (ew_of_eg hf h)
theorem cw_drw (hΓ : TabOK P Γ) (hm : P.follows .mixedOrders = true) {Q : Exit → St → Prop} {id : Nat} {l : List Oper} (hf : l.all (fun o => fits n o.dst) = true) (hB : drawB l.toArray = true) (h : eg P Γ l.toArray l (Q .normal) st) : CW P n (.region id l.toArray true) Q st :=
  cw_draw hΓ hm hB (ew_of_eg hf h)
theorem cw_cond' {Q : Exit → St → Prop} {c : Operand} {x y : Code} {b : Bool} (hc : ev st c = .bool b) (h : (b = true → CW P n x Q st) ∧ (b = false → CW P n y Q st)) : CW P n (.cond c x y) Q st := cw_cond hc h.1 h.2
theorem fin_ret {rs : List ResultVar} {post : V → Prop} {us vs : List V} (h1 : resL P st rs = some us) (h2 : lendAs st.heap us = some vs) (h3 : post (one vs)) : Fin P rs post .ret st := ⟨.inr rfl, us, vs, h1, h2, h3⟩

theorem ilt_nat (a b : Nat) : ilt (@OfNat.ofNat Int a instOfNat) (@OfNat.ofNat Int b instOfNat) = Nat.blt a b := by
  have h : (Nat.blt a b = true) ↔ a < b := by simp [Nat.blt]; omega
  rw [Bool.eq_iff_iff, h]
  simp only [ilt, decide_eq_true_eq]
  exact Int.ofNat_lt
theorem ieq_nat (a b : Nat) : ieq (@OfNat.ofNat Int a instOfNat) (@OfNat.ofNat Int b instOfNat) = Nat.beq a b := by
  have h : (Nat.beq a b = true) ↔ a = b := ⟨Nat.eq_of_beq_eq_true, fun h => by subst h; exact Nat.beq_refl a⟩
  rw [Bool.eq_iff_iff, h]
  simp only [ieq, beq_iff_eq]
  exact Int.ofNat_inj
theorem upd_eq {α : Type} (e : Nat → α) (d t : Nat) (v : α) : upd e d v t = if t = d then v else e t := rfl
attribute [simp] eg_nil eg_plain eg_guard gtmp_zero gtmp_succ gwant_some wantOf_t wantOf_f wantOf_undef gw_true gw_false gw_not pw_some pw_cond pw_ite put_mk aw_some aw_cond tw_some tw_cond bw_some bw_cond
attribute [simp] sw_mkf mkfV valsL sw_lookup sw_mapUpdate sw_insert findN_nodes lookV mupdV lend0 lend0L norm_mp norm_rset norm_as
attribute [simp] sw_move sw_assign sw_pick sw_build sw_load sw_bin sw_un sw_toArr sw_convert sw_fieldAddr sw_field sw_indexAddr sw_index sw_extract sw_nilCheck sw_slice sw_call sw_len sw_min sw_max sw_box sw_alloc sw_makeSlice sw_buildSlice sw_store sw_append pick_t pick_f pick_b pick_i
attribute [simp] ilt_nat ieq_nat Nat.blt Nat.beq Nat.ble
attribute [simp] ev_tmp ev_const cv cv1 ini upd_eq boxV cellsV allocV makeV buildSliceV fillV setsV buildV placeAt fieldAddrV fieldV partV loadV storeV oneV bin binI un lenV minV maxV indexAddrV indexV extractV toArrV convertV nilCheckV sliceV bndV
attribute [simp] callV lendAs lendA lendL lendC chunks ownA ownC flatT flatA flatC resL resV one

/-! ### regions in the order of the text, in which calls may give memory -/
def gcall : Op → Option (FuncId × List Operand)
  | .call ⟨.value (.func f), args, _⟩ => some (f, args.toList)
  | _ => none
def gvw (m : Option (V × List (Nat × Blk))) (d : Tmp) (e : Nat → V) (h : Nat → Option Blk) (K : St → Prop) : Prop := match m with
  | some p => freeK (10000 * (d + 1)) p.2 h ∧ K ⟨upd e d (shT (10000 * (d + 1)) p.1), putK (10000 * (d + 1)) p.2 h⟩
  | none => False
def swX (P : Program) (Γ : Tab) (st : St) (dst : Option Tmp) (op : Op) (K : St → Prop) : Prop := match gcall op, dst with
  | some (f, xs), some d => gw (some (Γ.gb f)) (gvw (giveV Γ st.heap f (xs.map (ev st))) d st.env st.heap K) (sw P Γ st dst op K) ⟨⟩
  | _, _ => sw P Γ st dst op K
def egX (P : Program) (Γ : Tab) (ops : Array Oper) : List Oper → (St → Prop) → St → Prop
  | [], K, st => K st
  | o :: rest, K, st => gw (wantV ops st o.guard) (swX P Γ st o.dst o.op (egX P Γ ops rest K)) (egX P Γ ops rest K (st.put o.dst .undef)) ⟨⟩
theorem gcall_some {op : Op} {f : FuncId} {xs : List Operand} (h : gcall op = some (f, xs)) : ∃ ts, op = .call ⟨.value (.func f), xs.toArray, ts⟩ := by
  unfold gcall at h
  split at h
  · rename_i f' args ts
    simp only [Option.some.injEq, Prod.mk.injEq] at h
    obtain ⟨rfl, rfl⟩ := h
    exact ⟨ts, by simp⟩
  · cases h
theorem swX_sound (hΓ : TabOK P Γ) {w0 : Base} {ro : Nat → Prop} {lam : Lam} {a : Act} {w : World} (hs : Sim w0 n ro lam st a w) {o : Oper} (hn : fits n o.dst = true) (h : swX P Γ st o.dst o.op K)
    {next : Act → World → Prop} {Q : Exit → Act → World → Prop} (hK : ∀ st' a' ro' lam' w', K st' → Ext w0 ro ro' → Sim w0 n ro' lam' st' a' w' → next a' w') : o.wp P a w next Q := by
  have plain : sw P Γ st o.dst o.op K → o.wp P a w next Q := fun ⟨st', h1, h2⟩ => stepOp_sound hΓ hs h1 hn fun a' ro' lam' w' e hs' => hK st' a' ro' lam' w' h2 e hs'
  unfold swX at h
  split at h
  · rename_i f xs d hg hd
    cases hb : Γ.gb f with
    | false => rw [hb] at h; exact plain h
    | true =>
      rw [hb] at h
      replace h : gvw (giveV Γ st.heap f (xs.map (ev st))) d st.env st.heap K := h
      unfold gvw at h
      split at h
      · rename_i p hp
        obtain ⟨u, bl⟩ := p
        obtain ⟨ts, hop⟩ := gcall_some hg
        obtain ⟨h1, h2⟩ := args_sound hs xs.toArray
        simp only [List.toList_toArray] at h1 h2
        obtain ⟨hc, hcalls⟩ := giveV_sound hΓ hs hb hp h1 h2 h.1
        unfold Oper.wp execOp
        simp only [hop]
        have hrun : ((do let d ← resolve a.eval { callee := .value (.func f), args := xs.toArray, argTypes := ts } o.type; invoke d.target d.args) : Sem Next).run P w = .ok (.enter f (xs.toArray.map a.eval)) w := by
          simp [resolve, Act.eval, Deferred.ofValue, invoke, callFunc_run hc]
        simp only [hrun, Oper.upon]
        refine hcalls.mono fun e w' hh => ?_
        obtain ⟨rv, ro', lam', rfl, hext, hs', hr⟩ := hh
        have := hs'.put (d := some d) (by rw [← hd]; exact hn) hr
        rw [hd]
        exact hK _ _ _ _ _ h.2 hext this
      · exact h.elim
  · exact plain h
theorem egX_list (hΓ : TabOK P Γ) {Q : Exit → Act → World → Prop} {w0 : Base} : ∀ (l : List Oper) (st : St) (ro : Nat → Prop) (lam : Lam) (a : Act) (w : World), l.all (fun o => fits n o.dst) = true → egX P Γ ops l K st → Sim w0 n ro lam st a w →
    (∀ st' a' ro' lam' w', K st' → Ext w0 ro ro' → Sim w0 n ro' lam' st' a' w' → Q .normal a' w') → wpList P ops Q l a w
  | [], st, ro, lam, a, w, _, h, hs, hK => hK _ _ _ _ _ h (Ext.refl _ _) hs
  | o :: l, st, ro, lam, a, w, hf, h, hs, hK => by
    simp only [List.all_cons, Bool.and_eq_true] at hf
    show if Region.wanted o (yielded ops a.tmps) then o.wp P a w (wpList P ops Q l) Q ∨ (o.asks P a w ∧ LetsOut Q) else wpList P ops Q l (a.put o.dst Go.undef) w
    simp only [egX] at h
    cases hw : wantV ops st o.guard with
    | none => rw [hw] at h; exact h.elim
    | some b =>
      rw [hw] at h
      rw [wantV_sound hs hw]
      cases b with
      | true =>
        rw [if_pos rfl]
        exact .inl (swX_sound hΓ hs hf.1 h fun st' a' ro' lam' w' k e hs' => egX_list hΓ l st' ro' lam' a' w' hf.2 k hs' fun st2 a2 ro2 lam2 w2 k2 e2 hs2 => hK st2 a2 ro2 lam2 w2 k2 (e.trans e2) hs2)
      | false =>
        rw [if_neg (by simp)]
        exact egX_list hΓ l _ ro lam _ w hf.2 h (hs.put hf.1 (.pure _ _ .undef)) hK
theorem cw_regX (hΓ : TabOK P Γ) {Q : Exit → St → Prop} {id : Nat} {l : List Oper} (hf : l.all (fun o => fits n o.dst) = true) (h : egX P Γ l.toArray l (Q .normal) st) : CW P n (.region id l.toArray false) Q st := by
  intro w0 ro lam a w hs
  exact wp_region_list (egX_list hΓ _ st ro lam a w (by simpa using hf) (by simpa using h) hs fun st' a' ro' lam' w' k e hs' => ⟨st', ro', lam', k, e, hs'⟩)
theorem egX_nil : egX P Γ ops [] K st ↔ K st := Iff.rfl
theorem egX_plain {dst : Option Tmp} {op : Op} {ty : TypeId} {pos : String} {aft : Array Edge} {rest : List Oper} :
    egX P Γ ops (⟨dst, op, ty, pos, aft, none⟩ :: rest) K st ↔ swX P Γ st dst op (egX P Γ ops rest K) := Iff.rfl
theorem egX_guard {dst : Option Tmp} {op : Op} {ty : TypeId} {pos : String} {aft : Array Edge} {rest : List Oper} {j : Nat} {want : Bool} :
    egX P Γ ops (⟨dst, op, ty, pos, aft, some (j, want)⟩ :: rest) K st ↔ gw (gwant (gtmp ops j) st want) (swX P Γ st dst op (egX P Γ ops rest K)) (egX P Γ ops rest K (st.put dst .undef)) ⟨⟩ := by
  have : wantV ops st (some (j, want)) = gwant (gtmp ops j) st want := by
    unfold wantV gwant gtmp wantOf
    generalize hq : (ops[j]?).bind (fun o => o.dst) = q
    cases q with
    | none => simp only [hq]
    | some d =>
      simp only [hq]
      cases st.env d <;> rfl
  show gw (wantV ops st (some (j, want))) _ _ _ ↔ _
  rw [this]
section
variable {e : Nat → V} {h : Nat → Option Blk} {d : Tmp} {dst : Option Tmp}
theorem swX_call {f : FuncId} {l : List Operand} {ts : Array TypeId} : swX P Γ ⟨e, h⟩ (some d) (.call ⟨.value (.func f), l.toArray, ts⟩) K ↔ gw (some (Γ.gb f)) (gvw (giveV Γ h f (l.map (ev ⟨e, h⟩))) d e h K) (sw P Γ ⟨e, h⟩ (some d) (.call ⟨.value (.func f), l.toArray, ts⟩) K) ⟨⟩ := Iff.rfl
theorem swX_builtin {b : Builtin} {l : Array Operand} {ts : Array TypeId} : swX P Γ st dst (.call ⟨.builtin b, l, ts⟩) K ↔ sw P Γ st dst (.call ⟨.builtin b, l, ts⟩) K := by unfold swX; cases dst <;> exact Iff.rfl
theorem swX_move {x : Operand} : swX P Γ st dst (.move x) K ↔ sw P Γ st dst (.move x) K := by unfold swX; cases dst <;> exact Iff.rfl
theorem swX_assign {x : Operand} : swX P Γ st dst (.assign x) K ↔ sw P Γ st dst (.assign x) K := by unfold swX; cases dst <;> exact Iff.rfl
theorem swX_pick {x y z : Operand} : swX P Γ st dst (.pick x y z) K ↔ sw P Γ st dst (.pick x y z) K := by unfold swX; cases dst <;> exact Iff.rfl
theorem swX_build {t : TypeId} {l : Array (Nat × Operand)} : swX P Γ st dst (.build t l) K ↔ sw P Γ st dst (.build t l) K := by unfold swX; cases dst <;> exact Iff.rfl
theorem swX_load {t : TypeId} {x : Operand} : swX P Γ st dst (.load t x) K ↔ sw P Γ st dst (.load t x) K := by unfold swX; cases dst <;> exact Iff.rfl
theorem swX_mkf {fn : Fn} {fs cs : Array Operand} : swX P Γ st dst (.makeFunc fn fs cs) K ↔ sw P Γ st dst (.makeFunc fn fs cs) K := by unfold swX; cases dst <;> exact Iff.rfl
theorem swX_lookup {t : TypeId} {x k : Operand} {ok : Bool} : swX P Γ st dst (.lookup t x k ok) K ↔ sw P Γ st dst (.lookup t x k ok) K := by unfold swX; cases dst <;> exact Iff.rfl
theorem swX_bin {op : BinOp} {t ty : TypeId} {x y : Operand} : swX P Γ st dst (.binOp op t x y ty) K ↔ sw P Γ st dst (.binOp op t x y ty) K := by unfold swX; cases dst <;> exact Iff.rfl
theorem swX_un {op : UnOp} {t : TypeId} {x : Operand} : swX P Γ st dst (.unOp op t x) K ↔ sw P Γ st dst (.unOp op t x) K := by unfold swX; cases dst <;> exact Iff.rfl
theorem swX_toArr {t : TypeId} {x : Operand} : swX P Γ st dst (.sliceToArrayPointer t x) K ↔ sw P Γ st dst (.sliceToArrayPointer t x) K := by unfold swX; cases dst <;> exact Iff.rfl
theorem swX_convert {s t : TypeId} {x : Operand} : swX P Γ st dst (.convert s t x) K ↔ sw P Γ st dst (.convert s t x) K := by unfold swX; cases dst <;> exact Iff.rfl
theorem swX_fieldAddr {s : TypeId} {x : Operand} {f : Nat} : swX P Γ st dst (.fieldAddr s x f) K ↔ sw P Γ st dst (.fieldAddr s x f) K := by unfold swX; cases dst <;> exact Iff.rfl
theorem swX_field {s : TypeId} {x : Operand} {f : Nat} : swX P Γ st dst (.field s x f) K ↔ sw P Γ st dst (.field s x f) K := by unfold swX; cases dst <;> exact Iff.rfl
theorem swX_indexAddr {t : TypeId} {x i : Operand} : swX P Γ st dst (.indexAddr t x i) K ↔ sw P Γ st dst (.indexAddr t x i) K := by unfold swX; cases dst <;> exact Iff.rfl
theorem swX_index {t : TypeId} {x i : Operand} : swX P Γ st dst (.index t x i) K ↔ sw P Γ st dst (.index t x i) K := by unfold swX; cases dst <;> exact Iff.rfl
theorem swX_extract {x : Operand} {i : Nat} : swX P Γ st dst (.extract x i) K ↔ sw P Γ st dst (.extract x i) K := by unfold swX; cases dst <;> exact Iff.rfl
theorem swX_nilCheck {x : Operand} : swX P Γ st dst (.nilCheck x) K ↔ sw P Γ st dst (.nilCheck x) K := by unfold swX; cases dst <;> exact Iff.rfl
theorem swX_slice {t : TypeId} {x : Operand} {lo hi mx : Option Operand} : swX P Γ st dst (.slice t x lo hi mx) K ↔ sw P Γ st dst (.slice t x lo hi mx) K := by unfold swX; cases dst <;> exact Iff.rfl
theorem swX_box {t : TypeId} {x : Operand} : swX P Γ st dst (.box t x) K ↔ sw P Γ st dst (.box t x) K := by unfold swX; cases dst <;> exact Iff.rfl
theorem swX_alloc {t : TypeId} : swX P Γ st dst (.alloc t) K ↔ sw P Γ st dst (.alloc t) K := by unfold swX; cases dst <;> exact Iff.rfl
theorem swX_makeSlice {t : TypeId} {l c : Operand} : swX P Γ st dst (.makeSlice t l c) K ↔ sw P Γ st dst (.makeSlice t l c) K := by unfold swX; cases dst <;> exact Iff.rfl
theorem swX_buildSlice {t : TypeId} {len : Nat} {l : Array (Nat × Operand)} : swX P Γ st dst (.buildSlice t len l) K ↔ sw P Γ st dst (.buildSlice t len l) K := by unfold swX; cases dst <;> exact Iff.rfl
theorem swX_store {t : TypeId} {x y : Operand} : swX P Γ st dst (.store t x y) K ↔ sw P Γ st dst (.store t x y) K := by unfold swX; cases dst <;> exact Iff.rfl
theorem swX_mapUpdate {t : TypeId} {x y z : Operand} : swX P Γ st dst (.mapUpdate t x y z) K ↔ sw P Γ st dst (.mapUpdate t x y z) K := by unfold swX; cases dst <;> exact Iff.rfl
theorem swX_insert {t : TypeId} {x y z : Operand} : swX P Γ st dst (.insert t x y z) K ↔ sw P Γ st dst (.insert t x y z) K := by unfold swX; cases dst <;> exact Iff.rfl
theorem swX_makeMap {t : TypeId} {r : Option Operand} : swX P Γ st dst (.makeMap t r) K ↔ sw P Γ st dst (.makeMap t r) K := by unfold swX; cases dst <;> exact Iff.rfl
theorem gvw_some {p : V × List (Nat × Blk)} : gvw (some p) d e h K ↔ freeK (10000 * (d + 1)) p.2 h ∧ K ⟨upd e d (shT (10000 * (d + 1)) p.1), putK (10000 * (d + 1)) p.2 h⟩ := Iff.rfl
end
attribute [simp] swX_insert egX_nil egX_plain egX_guard swX_call swX_builtin swX_move swX_assign swX_pick swX_build swX_load swX_mkf swX_lookup swX_bin swX_un swX_toArr swX_convert swX_fieldAddr swX_field swX_indexAddr swX_index swX_extract swX_nilCheck swX_slice swX_box swX_alloc swX_makeSlice swX_buildSlice swX_store swX_mapUpdate swX_makeMap sw_makeMap gvw_some giveV freeK putK shC shA shT
end
end Go.Pv
