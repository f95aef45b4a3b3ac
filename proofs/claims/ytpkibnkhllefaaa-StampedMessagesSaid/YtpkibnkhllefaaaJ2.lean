/-
  Part 10: a region that draws its order: one pure run in the order of the text serves every order.
  Part 11: statements, loops, whole functions.
  Part 12: the equations by which a pure run is reckoned.
  Part 13: a whole body, reckoned by simp.
-/
import Derived.Test.YtpkibnkhllefaaaJ1
import Derived.Scope
section
namespace Go.Pv
open Go.RowKit
set_option linter.unusedSimpArgs false

section
variable {w0 : Base} {n : Nat} {ro : Nat → Prop} {lam : Lam} {st : St} {a : Act} {w : World} {P : Program} {Γ : Tab}

theorem ev01_congr (h : Nat → Option Blk) {ρ ρ' : Operand → V} (op : Op) (hρ : ∀ x ∈ op.operands, ρ x = ρ' x) : ev01 P Γ h ρ op = ev01 P Γ h ρ' op := by
  cases op <;> simp only [Op.operands, List.mem_toArray] at hρ <;> simp only [ev01]
  case move x => rw [hρ x (by simp)]
  case assign x => rw [hρ x (by simp)]
  case pick c x y => rw [hρ c (by simp), hρ x (by simp), hρ y (by simp)]
  case build t ps =>
    congr 1
    apply List.map_congr_left
    intro p hp
    rw [hρ p.2 (by simp only [List.mem_map]; exact ⟨p, hp, rfl⟩)]
  case load t x => rw [hρ x (by simp)]
  case makeInterface t x => rw [hρ x (by simp)]
  case typeAssert x xt t ok => rw [hρ x (by simp)]
  case makeFunc fn fs cs =>
    have e1 : fs.toList.map ρ = fs.toList.map ρ' := List.map_congr_left fun x hx => hρ x (by simp only [Array.mem_append]; exact .inl (by simpa using hx))
    have e2 : cs.toList.map ρ = cs.toList.map ρ' := List.map_congr_left fun x hx => hρ x (by simp only [Array.mem_append]; exact .inr (by simpa using hx))
    rw [e1, e2]
  case lookup t x k ok => cases ok <;> simp only [ev01] <;> rw [hρ x (by simp), hρ k (by simp)]
  case binOp o t x y ty => rw [hρ x (by simp), hρ y (by simp)]
  case unOp o t x => rw [hρ x (by simp)]
  case convert s t x => rw [hρ x (by simp)]
  case sliceToArrayPointer t x => rw [hρ x (by simp)]
  case fieldAddr s x f => rw [hρ x (by simp)]
  case field s x f => rw [hρ x (by simp)]
  case indexAddr t x i => rw [hρ x (by simp), hρ i (by simp)]
  case index t x i => rw [hρ x (by simp), hρ i (by simp)]
  case extract x i => rw [hρ x (by simp)]
  case nilCheck x => rw [hρ x (by simp)]
  case slice t x lo hi mx =>
    cases mx with
    | some m =>
      cases hi with
      | none => simp only [ev01]
      | some hi =>
        simp only [ev01]
        have h1 : ρ x = ρ' x := hρ x (by simp)
        have h2 : lo.map ρ = lo.map ρ' := by cases lo with | none => rfl | some y => simp [hρ y (by simp)]
        rw [h1, h2, hρ hi (by simp), hρ m (by simp)]
    | none =>
      simp only [ev01]
      have h1 : ρ x = ρ' x := hρ x (by simp)
      have h2 : lo.map ρ = lo.map ρ' := by cases lo with | none => rfl | some y => simp [hρ y (by simp)]
      have h3 : hi.map ρ = hi.map ρ' := by cases hi with | none => rfl | some y => simp [hρ y (by simp)]
      rw [h1, h2, h3]
  case call c =>
    have : c.args.toList.map ρ = c.args.toList.map ρ' := List.map_congr_left fun x hx => hρ x (by simp only [Call.operands, Array.mem_append]; exact .inr (by simpa using hx))
    rw [this]
    obtain ⟨callee, args, ts⟩ := c
    cases callee with
    | value f =>
      cases f with
      | tmp t =>
        have h1 : ρ (.tmp t) = ρ' (.tmp t) := hρ _ (by simp [Call.operands])
        simp only [callO, h1]
      | _ => rfl
    | invoke r m =>
      have h1 : ρ r = ρ' r := hρ _ (by simp [Call.operands])
      simp only [callO, h1]
    | _ => rfl

theorem ev2_congr (d : Nat) {ρ ρ' : Operand → V} (op : Op) (hρ : ∀ x ∈ op.operands, ρ x = ρ' x) : ev2 P ρ d op = ev2 P ρ' d op := by
  cases op <;> simp only [Op.operands, List.mem_toArray] at hρ <;> simp only [ev2]
  case box t x => rw [hρ x (by simp)]
  case makeSlice t l c => rw [hρ l (by simp), hρ c (by simp)]
  case buildSlice t len ps =>
    congr 2
    apply List.map_congr_left
    intro p hp
    rw [hρ p.2 (by simp only [List.mem_map]; exact ⟨p, hp, rfl⟩)]

theorem ev01_kind0 (h h' : Nat → Option Blk) (ρ : Operand → V) (op : Op) (hk : kind op = 0) : ev01 P Γ h ρ op = ev01 P Γ h' ρ op := by
  cases op <;> simp only [kind] at hk <;> (try simp only [ev01]) <;> (try cases hk)
  case call c =>
    obtain ⟨callee, args, ts⟩ := c
    cases callee with
    | value f => cases f <;> simp [kindC] at hk
    | builtin b => cases b <;> simp [kindC] at hk <;> simp only [callO, callK]
    | invoke r m => simp [kindC] at hk

theorem upd_of_some {h : Nat → Option Blk} {d k : Nat} {b : Option Blk} {blk : Blk} (hd : h d = none) (hk : h k = some blk) : upd h d b k = some blk := by
  rw [upd_ne]; exact hk
  rintro rfl; rw [hd] at hk; cases hk

theorem lend0_heap {h : Nat → Option Blk} {d : Nat} {b : Option Blk} (hd : h d = none) {v u : V} (e : lend0 h v = some u) : lend0 (upd h d b) v = some u := by
  cases v with
  | sl key off len sz =>
    simp only [lend0] at e ⊢
    split at e
    · rename_i blk hk; rw [upd_of_some hd hk]; exact e
    · cases e
  | mp key =>
    simp only [lend0] at e ⊢
    split at e
    · rename_i blk hk; rw [upd_of_some hd hk]; exact e
    · cases e
  | _ => exact e
theorem lend0L_heap {h : Nat → Option Blk} {d : Nat} {b : Option Blk} (hd : h d = none) : ∀ (vs us : List V), lend0L h vs = some us → lend0L (upd h d b) vs = some us
  | [], us, e => e
  | v :: vs, us, e => by
    unfold lend0L at e ⊢
    split at e
    · rename_i u us' h1 h2
      rw [lend0_heap hd h1, lend0L_heap hd vs us' h2]; exact e
    · cases e
theorem lendC_heap {h : Nat → Option Blk} {d : Nat} {b : Option Blk} (hd : h d = none) {v u : V} (e : lendC h v = some u) : lendC (upd h d b) v = some u := by
  cases v with
  | sl key off len sz =>
    simp only [lendC] at e ⊢
    split at e
    · rename_i blk hk
      rw [upd_of_some hd hk]
      simp only [cond_eq_ite] at e ⊢
      split at e
      · rename_i hc; simp only [hc, if_true]; exact e
      · rename_i hc
        simp only [hc, Bool.false_eq_true, if_false]
        split at e
        · rename_i hle
          simp only [Option.map_eq_some_iff] at e
          obtain ⟨cs, hcs, rfl⟩ := e
          simp only [hle, if_true, lend0L_heap hd _ _ hcs, Option.map_some]
        · cases e
    · cases e
  | mp key =>
    simp only [lendC] at e ⊢
    split at e
    · rename_i blk hk; rw [upd_of_some hd hk]; exact e
    · cases e
  | ptr key off =>
    simp only [lendC] at e ⊢
    split at e
    · rename_i blk hk
      rw [upd_of_some hd hk]
      simp only [cond_eq_ite] at e ⊢
      split at e
      · rename_i ho
        simp only [Option.map_eq_some_iff] at e
        obtain ⟨cs, hcs, rfl⟩ := e
        simp only [ho, if_true, lend0L_heap hd _ _ hcs, Option.map_some]
      · rename_i ho
        simp only [ho, if_false]; exact e
    · cases e
  | _ => exact e
theorem lendL_heap {h : Nat → Option Blk} {d : Nat} {b : Option Blk} (hd : h d = none) : ∀ (vs us : List V), lendL h vs = some us → lendL (upd h d b) vs = some us
  | [], us, e => e
  | v :: vs, us, e => by
    unfold lendL at e ⊢
    split at e
    · rename_i u us' h1 h2
      rw [lendC_heap hd h1, lendL_heap hd vs us' h2]; exact e
    · cases e
theorem lendA_heap {h : Nat → Option Blk} {d : Nat} {b : Option Blk} (hd : h d = none) {v u : V} (e : lendA h v = some u) : lendA (upd h d b) v = some u := by
  cases v with
  | agg cs =>
    simp only [lendA, Option.map_eq_some_iff] at e ⊢
    obtain ⟨us, h1, h2⟩ := e
    exact ⟨us, lendL_heap hd cs us h1, h2⟩
  | _ => simp only [lendA] at e ⊢; exact lendC_heap hd e
theorem lendAs_heap {h : Nat → Option Blk} {d : Nat} {b : Option Blk} (hd : h d = none) : ∀ (vs us : List V), lendAs h vs = some us → lendAs (upd h d b) vs = some us
  | [], us, e => e
  | v :: vs, us, e => by
    unfold lendAs at e ⊢
    split at e
    · rename_i u us' h1 h2
      rw [lendA_heap hd h1, lendAs_heap hd vs us' h2]; exact e
    · cases e
theorem ev01_heap {h : Nat → Option Blk} {d : Nat} {b : Option Blk} (hd : h d = none) {ρ : Operand → V} {op : Op} {v : V} (e : ev01 P Γ h ρ op = some v) : ev01 P Γ (upd h d b) ρ op = some v := by
  cases op with
  | load t x =>
    simp only [ev01, loadV] at e ⊢
    split at e
    · split at e
      · split at e
        · rename_i blk hk; rw [upd_of_some hd hk]; exact e
        · cases e
      · exact e
      · exact e
      · cases e
    · cases e
  | lookup t x k ok =>
    cases ok with
    | true => exact e
    | false =>
      simp only [ev01, lookV, cond_eq_ite] at e ⊢
      split at e
      · rename_i hm
        rw [if_pos hm]
        split at e
        · rename_i h1 h2
          split at e
          · rename_i blk hk
            simp only [upd_of_some hd hk]; exact e
          · cases e
        · exact e
        · cases e
      · rename_i hm
        rw [if_neg hm]
        split at e
        · rename_i hm2
          rw [if_pos hm2]
          split at e
          · rename_i h1 h2
            split at e
            · rename_i blk hk
              simp only [upd_of_some hd hk]; exact e
            · cases e
          · exact e
          · exact e
          · cases e
        · cases e
  | slice t x lo hi mx =>
    cases mx with
    | some m => cases hi with
      | none => simp [ev01] at e
      | some hi => exact e
    | none =>
      simp only [ev01, sliceV] at e ⊢
      split at e
      · rename_i dd hdd
        split at e
        · exact e
        · split at e
          · split at e
            · rename_i h1 h2 hk
              rw [h1, h2, upd_of_some hd hk]
              exact e
            · cases e
          · cases e
      · cases e
  | call c =>
    obtain ⟨callee, args, ts⟩ := c
    simp only [ev01] at e ⊢
    cases callee with
    | value f =>
      cases f with
      | tmp t =>
        simp only [callO] at e ⊢
        split at e
        · rename_i hclo
          simp only [callV] at e ⊢
          split at e
          · rename_i vs hvs
            rw [lendAs_heap hd _ _ hvs]
            exact e
          · cases e
        · cases e
      | func f =>
        simp only [callO, callK, callV] at e ⊢
        split at e
        · rename_i vs hvs
          rw [lendAs_heap hd _ _ hvs]
          exact e
        · cases e
      | _ => simp [callO, callK] at e
    | builtin bb => cases bb <;> first | exact e | simp [callO, callK] at e
    | invoke r m =>
      simp only [callO] at e ⊢
      split at e
      · split at e
        · simp only [callV] at e ⊢
          split at e
          · rename_i vs hvs
            rw [lendAs_heap hd _ _ hvs]
            exact e
          · cases e
        · cases e
      · cases e
  | _ => first | exact e | (simp [ev01] at e)

theorem upd_comm {α : Type} (e : Nat → α) {c d : Nat} (u v : α) (h : c ≠ d) : upd (upd e c u) d v = upd (upd e d v) c u := by
  funext t
  by_cases h1 : t = c
  · subst h1; simp [upd, h]
  · by_cases h2 : t = d
    · subst h2; simp [upd, h1]
    · simp [upd, h1, h2]
theorem ev_put {st : St} {d : Option Tmp} {v : V} {x : Operand} (h : ∀ k, d = some k → x ≠ .tmp k) : ev (st.put d v) x = ev st x := by
  cases d with
  | none => rfl
  | some d =>
    cases x with
    | tmp t => simp only [ev, St.put]; rw [upd_ne _ _ (fun e => h d rfl (by rw [e]))]
    | _ => rfl
theorem put_comm (st : St) {x y : Option Tmp} (v u : V) (h : ∀ d, x = some d → y ≠ some d) : (st.put x v).put y u = (st.put y u).put x v := by
  cases x with
  | none => rfl
  | some d =>
    cases y with
    | none => rfl
    | some e =>
      have hne : d ≠ e := fun he => h d rfl (he ▸ rfl)
      simp only [St.put]
      rw [upd_comm _ _ _ hne]

/-- Two operations of which the first in the text may also come second. -/
def movB (x : Oper) : Bool := match x.guard, x.op, x.dst with
  | none, .move (.tmp _), some _ => true
  | _, _, _ => false
def appB (y : Oper) : Bool := match y.guard, y.op, y.dst with
  | none, .call c, some _ => (match c.callee with
    | .builtin .append => true
    | _ => false)
  | _, _, _ => false
def commM (ops : Array Oper) (x y : Oper) : Bool := x.apart ops y && (movB x && appB y)
def commB (ops : Array Oper) (x y : Oper) : Bool := commM ops x y ||
  x.apart ops y && ((decide (kind x.op ≤ 1) && decide (kind y.op ≤ 2)) || (decide (kind x.op = 2) && (decide (kind y.op = 0) || decide (kind y.op = 2))))

theorem want_put {ops : Array Oper} {o : Oper} {d : Option Tmp} {v : V} {st : St} (h : ∀ k, d = some k → k ∉ o.looksAt ops) : wantV ops (st.put d v) o.guard = wantV ops st o.guard := by
  unfold wantV
  cases hg : o.guard with
  | none => rfl
  | some p =>
    obtain ⟨j, want⟩ := p
    simp only
    cases hd : (ops[j]?).bind (·.dst) with
    | none => rfl
    | some g =>
      have hne : ∀ k, d = some k → g ≠ k := fun k hk e => h k hk (by simp [Oper.looksAt, hg, hd, e])
      have : (st.put d v).env g = st.env g := by
        cases d with
        | none => rfl
        | some k => simp only [St.put]; exact upd_ne _ _ (hne k rfl)
      simp only [this]
theorem evs_put {ops : Array Oper} {o : Oper} {d : Option Tmp} {v : V} {st : St} (h : ∀ k, d = some k → k ∉ o.looksAt ops) : ∀ x ∈ o.op.operands, ev (st.put d v) x = ev st x := by
  intro x hx
  refine ev_put fun k hk e => h k hk ?_
  simp only [Oper.looksAt, List.mem_append, List.mem_filterMap]
  exact .inl ⟨x, by simpa using hx, by rw [e]⟩

/-- What one operation did: it put a value, or it made a block. -/
theorem stepO_cases {ops : Array Oper} {o : Oper} {st s1 : St} (hk : kind o.op ≤ 2) (h : stepO P Γ n ops o st = some s1) :
    fits n o.dst = true ∧ ((∃ v, s1 = st.put o.dst v ∧ ((wantV ops st o.guard = some false ∧ v = .undef) ∨ (wantV ops st o.guard = some true ∧ kind o.op ≤ 1 ∧ ev01 P Γ st.heap (ev st) o.op = some v))) ∨
      (∃ d v blk, o.dst = some d ∧ wantV ops st o.guard = some true ∧ kind o.op = 2 ∧ st.heap d = none ∧ ev2 P (ev st) d o.op = some (v, blk) ∧ s1 = { env := upd st.env d v, heap := upd st.heap d (some blk) })) := by
  unfold stepO at h
  simp only [cond_eq_ite] at h
  split at h
  · rename_i hf
    refine ⟨hf, ?_⟩
    split at h
    · rename_i hw
      unfold stepOp at h
      split at h
      · rename_i hk0
        simp only [Option.map_eq_some_iff] at h
        obtain ⟨v, hv, rfl⟩ := h
        exact .inl ⟨v, rfl, .inr ⟨hw, by omega, hv⟩⟩
      · rename_i hk0
        simp only [Option.map_eq_some_iff] at h
        obtain ⟨v, hv, rfl⟩ := h
        exact .inl ⟨v, rfl, .inr ⟨hw, by omega, hv⟩⟩
      · rename_i hk0
        split at h
        · rename_i d hd
          split at h
          · rename_i hfr
            simp only [Option.map_eq_some_iff] at h
            obtain ⟨p, hp, rfl⟩ := h
            exact .inr ⟨d, p.1, p.2, hd, hw, hk0, hfr, hp, rfl⟩
          · cases h
        · cases h
      · rename_i k0 k1 k2; exact absurd (show kind o.op = 0 ∨ kind o.op = 1 ∨ kind o.op = 2 by omega) (fun h => h.elim k0 (fun h => h.elim k1 k2))
    · rename_i hw
      simp only [Option.some.injEq] at h
      exact .inl ⟨.undef, h.symm, .inl ⟨hw, rfl⟩⟩
    · cases h
  · cases h

theorem stepO_put {ops : Array Oper} {o : Oper} {st : St} {v : V} (hf : fits n o.dst = true) (h : (wantV ops st o.guard = some false ∧ v = .undef) ∨ (wantV ops st o.guard = some true ∧ kind o.op ≤ 1 ∧ ev01 P Γ st.heap (ev st) o.op = some v)) :
    stepO P Γ n ops o st = some (st.put o.dst v) := by
  unfold stepO
  simp only [hf, cond_true]
  rcases h with ⟨hw, rfl⟩ | ⟨hw, hk, hv⟩
  · simp only [hw]
  · simp only [hw]
    unfold stepOp
    rcases (show kind o.op = 0 ∨ kind o.op = 1 by omega) with h0 | h0 <;> simp only [h0, hv, Option.map_some]
theorem stepO_new {ops : Array Oper} {o : Oper} {st : St} {d : Nat} {v : V} {blk : Blk} (hf : fits n o.dst = true) (hd : o.dst = some d) (hw : wantV ops st o.guard = some true) (hk : kind o.op = 2) (hfr : st.heap d = none) (hv : ev2 P (ev st) d o.op = some (v, blk)) :
    stepO P Γ n ops o st = some { env := upd st.env d v, heap := upd st.heap d (some blk) } := by
  unfold stepO
  simp only [hf, cond_true, hw]
  unfold stepOp
  simp only [hk, hd, hfr, hv, Option.map_some]

theorem appendV_env {h : Nat → Option Blk} {d : Nat} {t : TypeId} {b x u : V} {e : Nat → V} {st' : St} (hh : appendV P ⟨e, h⟩ d t b x = some (u, st')) :
    ∃ (g : V → V), (∀ v, norm (g v) = g (norm v)) ∧ (∀ e', appendV P ⟨e', h⟩ d t b x = some (u, ⟨fun k => g (e' k), st'.heap⟩)) := by
  have hn : ∀ key v, norm (scr key v) = scr key (norm v) := fun key v => by
    cases v with
    | sl k o l z => simp only [scr, norm]; cases (k == key) <;> rfl
    | ptr k o => simp only [scr, norm]; cases (k == key) <;> rfl
    | vptr b k o => simp only [scr, norm]; cases (k == key) <;> rfl
    | mp k => simp only [scr, norm]; cases (k == key) <;> rfl
    | agg cs => simp only [scr, norm]; cases (cs.any (usesC key)) <;> rfl
    | tup cs => simp only [scr, norm]; cases (cs.any (usesA key)) <;> rfl
    | _ => rfl
  unfold appendV at hh
  split at hh
  · rename_i dd hdd
    split at hh
    · rename_i el s hslc
      split at hh
      · rename_i de m news hde hsrc
        split at hh
        · rename_i z hz
          simp only [cond_eq_ite] at hh
          split at hh
          · rename_i hc1
            split at hh
            · split at hh
              · rename_i hm
                simp only [Option.some.injEq, Prod.mk.injEq] at hh
                obtain ⟨rfl, rfl⟩ := hh
                refine ⟨id, fun _ => rfl, fun e' => ?_⟩
                simp only [appendV, hdd, hslc, hde, hsrc, hz, cond_eq_ite, hc1, hm, if_true, id]
              · rename_i hm
                split at hh
                · rename_i hd0
                  split at hh
                  · rename_i hc2
                    simp only [Option.some.injEq, Prod.mk.injEq] at hh
                    obtain ⟨rfl, rfl⟩ := hh
                    refine ⟨id, fun _ => rfl, fun e' => ?_⟩
                    have hd0' : h d = none := hd0
                    simp only [appendV, hdd, hslc, hde, hsrc, hz, cond_eq_ite, hc1, hm, hd0', hc2, if_true, id]
                    simp
                  · cases hh
                · cases hh
            · rename_i key len sz
              split at hh
              · rename_i blk hk
                split at hh
                · rename_i hc2
                  simp only [Option.some.injEq, Prod.mk.injEq] at hh
                  obtain ⟨rfl, rfl⟩ := hh
                  refine ⟨scr key, hn key, fun e' => ?_⟩
                  have hk' : h key = some blk := hk
                  simp only [appendV, hdd, hslc, hde, hsrc, hz, cond_eq_ite, hc1, hk', hc2, if_true]
                  rfl
                · cases hh
              · cases hh
            · cases hh
          · cases hh
        · cases hh
      · cases hh
    · cases hh
  · cases hh
theorem comm_mov {ops : Array Oper} {x y : Oper} {st s1 s2 : St} (hc : commM ops x y = true) (h1 : stepO P Γ n ops x st = some s1) (h2 : stepO P Γ n ops y s1 = some s2) :
    ∃ t1, stepO P Γ n ops y st = some t1 ∧ stepO P Γ n ops x t1 = some s2 := by
  simp only [commM, Bool.and_eq_true] at hc
  obtain ⟨hap, hm, ha⟩ := hc
  obtain ⟨a1, a2, a3⟩ := Oper.apart_spec hap
  unfold movB at hm
  split at hm
  · rename_i hg t d hgx hox hdx
    unfold appB at ha
    split at ha
    · rename_i c d' hgy hoy hdy
      obtain ⟨callee, args, ts⟩ := c
      simp only at ha
      split at ha
      · have hne : d ≠ d' := fun e => a2 d hdx (by rw [hdy, e])
        unfold stepO at h1 h2
        simp only [cond_eq_ite, hgx, hgy, wantV] at h1 h2
        split at h1
        · rename_i hfx
          split at h2
          · rename_i hfy
            simp only [stepOp, hox, kind, ev01, hdx, Option.map_some, Option.some.injEq] at h1
            subst h1
            simp only [stepOp, hoy, kind, kindC, hdy, Option.map_eq_some_iff] at h2
            obtain ⟨⟨u, s'⟩, h2, rfl⟩ := h2
            have hev : ∀ z ∈ args.toList, ev (st.put (some d) (ev st (.tmp t))) z = ev st z := fun z hz => by
              have := evs_put (v := ev st (.tmp t)) (st := st) a1 z (by rw [hoy]; simp only [Op.operands, Call.operands, Array.mem_append]; exact .inr (by simpa using hz))
              rw [hdx] at this; exact this
            simp only [ev3] at h2
            split at h2
            · rename_i b z ty ty' dd hcal hargs hts hdd
              simp only [cond_eq_ite, decide_eq_true_eq] at h2
              cases hdd
              split at h2
              · rename_i hty
                subst hty
                rw [hev b (by rw [hargs]; simp), hev z (by rw [hargs]; simp)] at h2
                obtain ⟨g, hgn, hall⟩ := appendV_env (e := (st.put (some d) (ev st (.tmp t))).env) (h := st.heap) h2
                have hs' : s' = ⟨fun k => g ((st.put (some d) (ev st (.tmp t))).env k), s'.heap⟩ := by
                  have := hall (st.put (some d) (ev st (.tmp t))).env
                  rw [show (⟨(st.put (some d) (ev st (.tmp t))).env, st.heap⟩ : St) = st.put (some d) (ev st (.tmp t)) from rfl, h2] at this
                  simp only [Option.some.injEq, Prod.mk.injEq, true_and] at this
                  exact this
                refine ⟨(⟨fun k => g (st.env k), s'.heap⟩ : St).put (some d') u, ?_, ?_⟩
                · unfold stepO
                  have hfy' : fits n (some d') = true := hdy ▸ hfy
                  have := hall st.env
                  rw [show (⟨st.env, st.heap⟩ : St) = st from rfl] at this
                  simp only [cond_eq_ite, hfy', if_true, hgy, wantV, stepOp, hoy, kind, kindC, hdy, ev3, hargs, hts, decide_true, this]
                  rfl
                · unfold stepO
                  have hfx' : fits n (some d) = true := hdx ▸ hfx
                  simp only [cond_eq_ite, hfx', if_true, hgx, wantV, stepOp, hox, kind, ev01, hdx, Option.map_some, Option.some.injEq]
                  have htd : t ≠ d' := fun e => a3 d' hdy (by simp [Oper.looksAt, hox, Op.operands, e])
                  rw [hs']
                  simp only [St.put, ev]
                  rw [upd_ne _ _ htd, upd_comm _ _ _ (Ne.symm hne)]
                  congr 1
                  congr 1
                  funext k
                  by_cases ek : k = d
                  · subst ek; rw [upd_same, upd_same, hgn]
                  · rw [upd_ne _ _ ek, upd_ne _ _ ek]
              · cases h2
            · rename_i hcal _ _
              cases hcal
            · cases h2
          · cases h2
        · cases h1
      · cases ha
    · cases ha
  · cases hm
theorem comm_sound {ops : Array Oper} {x y : Oper} {st s1 s2 : St} (hc : commB ops x y = true) (h1 : stepO P Γ n ops x st = some s1) (h2 : stepO P Γ n ops y s1 = some s2) :
    ∃ t1, stepO P Γ n ops y st = some t1 ∧ stepO P Γ n ops x t1 = some s2 := by
  unfold commB at hc
  rw [Bool.or_eq_true] at hc
  rcases hc with hc | hc
  · exact comm_mov hc h1 h2
  simp only [Bool.and_eq_true, Bool.or_eq_true, decide_eq_true_eq] at hc
  obtain ⟨hap, hk⟩ := hc
  obtain ⟨a1, a2, a3⟩ := Oper.apart_spec hap
  have hkx : kind x.op ≤ 2 := by omega
  have hky : kind y.op ≤ 2 := by omega
  obtain ⟨fx, cx⟩ := stepO_cases hkx h1
  obtain ⟨fy, cy⟩ := stepO_cases hky h2
  rcases cx with ⟨v, rfl, hv⟩ | ⟨d, v, blk, hd, hw, hk2, hfr, hv, rfl⟩
  · -- x puts a value
    have hwy : wantV ops (st.put x.dst v) y.guard = wantV ops st y.guard := want_put a1
    have hey := evs_put (v := v) (st := st) a1
    have hheap : (st.put x.dst v).heap = st.heap := by cases x.dst <;> rfl
    rcases cy with ⟨u, rfl, hu⟩ | ⟨d, u, blk, hd, hw, hk2, hfr, hu, rfl⟩
    · refine ⟨st.put y.dst u, stepO_put fy ?_, ?_⟩
      · rw [hwy, hheap, ev01_congr _ _ hey] at hu; exact hu
      · have hwx : wantV ops (st.put y.dst u) x.guard = wantV ops st x.guard := want_put a3
        have hex := evs_put (v := u) (st := st) a3
        have hheap' : (st.put y.dst u).heap = st.heap := by cases y.dst <;> rfl
        rw [put_comm st v u a2]
        refine stepO_put fx ?_
        rw [hwx, hheap', ev01_congr _ _ hex]
        exact hv
    · rw [hwy] at hw
      rw [hheap] at hfr
      rw [ev2_congr _ _ hey] at hu
      refine ⟨{ env := upd st.env d u, heap := upd st.heap d (some blk) }, stepO_new fy hd hw hk2 hfr hu, ?_⟩
      have he : ({ env := upd st.env d u, heap := upd st.heap d (some blk) } : St) = { (st.put y.dst u) with heap := upd st.heap d (some blk) } := by rw [hd]; rfl
      have hwx : wantV ops (st.put y.dst u) x.guard = wantV ops st x.guard := want_put a3
      have hwx' : wantV ops { env := upd st.env d u, heap := upd st.heap d (some blk) } x.guard = wantV ops st x.guard := by rw [← hwx, hd]; rfl
      have hex : ∀ z ∈ x.op.operands, ev { env := upd st.env d u, heap := upd st.heap d (some blk) } z = ev st z := fun z hz => by
        rw [← evs_put (v := u) (st := st) a3 z hz, hd]; cases z <;> rfl
      have hfin : ({ env := upd (st.put x.dst v).env d u, heap := upd (st.put x.dst v).heap d (some blk) } : St) = ({ env := upd st.env d u, heap := upd st.heap d (some blk) } : St).put x.dst v := by
        cases hx : x.dst with
        | none => rfl
        | some e =>
          have hne : e ≠ d := fun he => a2 e hx (by rw [hd, he])
          simp only [St.put]
          rw [upd_comm _ _ _ hne]
      rw [hfin]
      refine stepO_put fx ?_
      rw [hwx']
      rcases hv with h | ⟨q1, q2, q3⟩
      · exact .inl h
      · exact .inr ⟨q1, q2, by rw [ev01_congr _ _ hex]; exact ev01_heap hfr q3⟩
  · -- x makes a block
    have hky' : kind y.op = 0 ∨ kind y.op = 2 := by omega
    have hwy : wantV ops { env := upd st.env d v, heap := upd st.heap d (some blk) } y.guard = wantV ops st y.guard := by
      rw [← want_put (v := v) (st := st) a1, hd]; rfl
    have hey : ∀ z ∈ y.op.operands, ev { env := upd st.env d v, heap := upd st.heap d (some blk) } z = ev st z := fun z hz => by
      rw [← evs_put (v := v) (st := st) a1 z hz, hd]; cases z <;> rfl
    rcases cy with ⟨u, rfl, hu⟩ | ⟨d', u, blk', hd', hw', hk2', hfr', hu, rfl⟩
    · have hu' : (wantV ops st y.guard = some false ∧ u = .undef) ∨ (wantV ops st y.guard = some true ∧ kind y.op ≤ 1 ∧ ev01 P Γ st.heap (ev st) y.op = some u) := by
        rw [hwy, ev01_congr _ _ hey] at hu
        rcases hu with h | ⟨q1, q2, q3⟩
        · exact .inl h
        · refine .inr ⟨q1, q2, ?_⟩
          rw [ev01_kind0 st.heap (upd st.heap d (some blk)) _ _ (by omega)]; exact q3
      refine ⟨st.put y.dst u, stepO_put fy hu', ?_⟩
      have hwx : wantV ops (st.put y.dst u) x.guard = wantV ops st x.guard := want_put a3
      have hex := evs_put (v := u) (st := st) a3
      have hheap' : (st.put y.dst u).heap = st.heap := by cases y.dst <;> rfl
      have hfin : ({ env := upd st.env d v, heap := upd st.heap d (some blk) } : St).put y.dst u = { env := upd (st.put y.dst u).env d v, heap := upd (st.put y.dst u).heap d (some blk) } := by
        cases hy : y.dst with
        | none => rfl
        | some e =>
          have hne : d ≠ e := fun he => a2 d hd (by rw [hy, he])
          simp only [St.put]
          rw [upd_comm _ _ _ hne]
      rw [hfin]
      exact stepO_new fx hd (by rw [hwx]; exact hw) hk2 (by rw [hheap']; exact hfr) (by rw [ev2_congr _ _ hex]; exact hv)
    · have hne : d ≠ d' := fun he => a2 d hd (by rw [hd', he])
      rw [hwy] at hw'
      simp only [upd_ne _ _ (Ne.symm hne)] at hfr'
      rw [ev2_congr _ _ hey] at hu
      refine ⟨_, stepO_new fy hd' hw' hk2' hfr' hu, ?_⟩
      have hwx : wantV ops { env := upd st.env d' u, heap := upd st.heap d' (some blk') } x.guard = wantV ops st x.guard := by
        rw [← want_put (v := u) (st := st) a3, hd']; rfl
      have hex : ∀ z ∈ x.op.operands, ev { env := upd st.env d' u, heap := upd st.heap d' (some blk') } z = ev st z := fun z hz => by
        rw [← evs_put (v := u) (st := st) a3 z hz, hd']; cases z <;> rfl
      have hnew := stepO_new (Γ := Γ) (n := n) (st := { env := upd st.env d' u, heap := upd st.heap d' (some blk') }) fx hd (by rw [hwx]; exact hw) hk2 (by simp only [upd_ne _ _ hne]; exact hfr) (by rw [ev2_congr _ _ hex]; exact hv)
      rw [hnew, upd_comm _ _ _ hne, upd_comm _ _ _ hne]

/-! ### every order -/
def cOp (P : Program) (Γ : Tab) (n : Nat) (ops : Array Oper) (i : Nat) (K : St → Prop) (st : St) : Prop := match ops[i]? with
  | none => K st
  | some o => ∃ st', stepO P Γ n ops o st = some st' ∧ K st'
def cAny (P : Program) (Γ : Tab) (n : Nat) (ops : Array Oper) (K : St → Prop) : Nat → Array Bool → St → Prop
  | 0, listed, st => Region.ready .any ops listed = [] ∧ K st
  | fuel + 1, listed, st => (Region.ready .any ops listed = [] → K st) ∧ ∀ i ∈ Region.ready .any ops listed, cOp P Γ n ops i (cAny P Γ n ops K fuel (listed.setIfInBounds i true)) st

theorem wpAny_of_cAny (hΓ : TabOK P Γ) {ops : Array Oper} {K : St → Prop} {Q : Exit → Act → World → Prop} {ro0 : Nat → Prop} (hQ : ∀ a' ro' lam' w' st', Ext w0 ro0 ro' → Sim w0 n ro' lam' st' a' w' → K st' → Q .normal a' w') :
    ∀ (fuel : Nat) (listed : Array Bool) (st : St) (ro : Nat → Prop) (lam : Lam) (a : Act) (w : World), Ext w0 ro0 ro → Sim w0 n ro lam st a w → cAny P Γ n ops K fuel listed st → wpAny P .any ops Q fuel listed a w
  | 0, listed, st, ro, lam, a, w, hext, hs, h => ⟨h.1, hQ _ _ _ _ _ hext hs h.2⟩
  | fuel + 1, listed, st, ro, lam, a, w, hext, hs, h => by
    refine ⟨fun h0 => hQ _ _ _ _ _ hext hs (h.1 h0), fun i hi => ?_⟩
    have h1 := h.2 i hi
    unfold cOp at h1
    unfold wpOp
    split
    · rename_i ho
      simp only [ho] at h1
      exact wpAny_of_cAny hΓ hQ fuel _ st ro lam a w hext hs h1
    · rename_i o ho
      simp only [ho] at h1
      obtain ⟨st', h2, h3⟩ := h1
      exact stepO_sound hΓ hs h2 fun a' ro' lam' w' hext' hs' => wpAny_of_cAny hΓ hQ fuel _ st' ro' lam' a' w' (hext.trans hext') hs' h3

/-- Does j wait for i, perhaps through others? -/
def depF (ops : Array Oper) (i : Nat) : Nat → Nat → Bool
  | 0, _ => false
  | f + 1, j => match ops[j]? with
    | some oj => oj.after.any (fun e => Region.binds .any e && (e.on == i || depF ops i f e.on))
    | none => false
def Clo (ops : Array Oper) (listed : Array Bool) : Prop := ∀ j oj, ops[j]? = some oj → listed.getD j false = true → ∀ e ∈ oj.after, Region.binds .any e = true → listed.getD e.on false = true
theorem getD_set_true {listed : Array Bool} {i k : Nat} (h : listed.getD k false = true) : (listed.setIfInBounds i true).getD k false = true := by
  rw [Array.getD_eq_getD_getElem?] at h ⊢
  rw [Array.getElem?_setIfInBounds]
  split
  · rename_i e; subst e
    split
    · rfl
    · rename_i hn; rw [Array.getElem?_eq_none (by omega)] at h; cases h
  · exact h
theorem Clo.set {ops : Array Oper} {listed : Array Bool} {i : Nat} (h : Clo ops listed) (hr : i ∈ Region.ready .any ops listed) : Clo ops (listed.setIfInBounds i true) := by
  intro j oj hj hl e he hb
  by_cases hji : j = i
  · subst hji
    obtain ⟨_, o, ho, hall⟩ := mem_ready.1 hr
    rw [ho] at hj; cases hj
    exact getD_set_true (hall e he hb)
  · refine getD_set_true (h j oj hj ?_ e he hb)
    rw [Array.getD_eq_getD_getElem?] at hl ⊢
    rwa [Array.getElem?_setIfInBounds, if_neg (Ne.symm hji)] at hl
theorem un_of {listed : Array Bool} {i : Nat} (h : listed.getD i true = false) : listed.getD i false = false := by
  rw [Array.getD_eq_getD_getElem?] at h ⊢
  cases hh : listed[i]? with
  | none => rfl
  | some b => rw [hh] at h; simpa using h
theorem dep_un {ops : Array Oper} {listed : Array Bool} {i : Nat} (hc : Clo ops listed) (hi : listed.getD i true = false) : ∀ (f j : Nat), depF ops i f j = true → listed.getD j false = false
  | 0, j, h => by cases h
  | f + 1, j, h => by
    unfold depF at h
    split at h
    · rename_i oj hj
      obtain ⟨e, he, hb⟩ := Array.any_eq_true'.1 h
      simp only [Bool.and_eq_true, Bool.or_eq_true, beq_iff_eq] at hb
      cases hl : listed.getD j false with
      | false => rfl
      | true =>
        have h1 := hc j oj hj hl e he hb.1
        rcases hb.2 with h2 | h2
        · rw [h2, un_of hi] at h1; cases h1
        · rw [dep_un hc hi f e.on h2] at h1; cases h1
    · cases h
theorem dep_ready {ops : Array Oper} {listed : Array Bool} {i j : Nat} (hc : Clo ops listed) (hi : listed.getD i true = false) (hr : j ∈ Region.ready .any ops listed) (f : Nat) : depF ops i f j = false := by
  cases hd : depF ops i f j with
  | false => rfl
  | true =>
    cases f with
    | zero => cases hd
    | succ f =>
      unfold depF at hd
      split at hd
      · rename_i oj hj
        obtain ⟨e, he, hb⟩ := Array.any_eq_true'.1 hd
        simp only [Bool.and_eq_true, Bool.or_eq_true, beq_iff_eq] at hb
        obtain ⟨_, o, ho, hall⟩ := mem_ready.1 hr
        rw [ho] at hj; cases hj
        have h1 := hall e he hb.1
        rcases hb.2 with h2 | h2
        · rw [h2, un_of hi] at h1; cases h1
        · rw [dep_un hc hi f e.on h2] at h1; cases h1
      · cases hd
def freeB (ops : Array Oper) (listed : Array Bool) (i : Nat) : Bool :=
  match ops[i]? with
  | none => false
  | some oi => (List.range ops.size).all fun j => j == i || listed.getD j true || match ops[j]? with
      | some oj => oj.after.any (fun e => Region.binds .any e && e.on == i) || (commB ops oi oj || depF ops i 16 j)
      | none => true
theorem freeB_spec {ops : Array Oper} {i : Nat} {oi : Oper} {listed : Array Bool} (hi : ops[i]? = some oi) (h : freeB ops listed i = true) (j : Nat) (oj : Oper)
    (hj : ops[j]? = some oj) (hne : j ≠ i) (hun : listed.getD j true = false) (hno : ∀ e ∈ oj.after, Region.binds .any e = true → e.on ≠ i) (hdep : ∀ f, depF ops i f j = false) : commB ops oi oj = true := by
  simp only [freeB, hi, List.all_eq_true, List.mem_range] at h
  have h1 := h j (Array.getElem?_eq_some_iff.1 hj).1
  simp only [hj, Bool.or_eq_true, beq_iff_eq, hne, false_or, hun, Bool.false_eq_true, hdep, or_false] at h1
  rcases h1 with h1 | h1
  · obtain ⟨e, he, hb⟩ := Array.any_eq_true'.1 h1
    simp only [Bool.and_eq_true, beq_iff_eq] at hb
    exact absurd hb.2 (hno e he hb.1)
  · exact h1

theorem cAny_first {ops : Array Oper} {K : St → Prop} {i : Nat} {oi : Oper} (hi : ops[i]? = some oi) : ∀ (fuel : Nat) (listed : Array Bool) (st s1 : St),
    (∀ j oj, ops[j]? = some oj → j ≠ i → listed.getD j true = false → (∀ e ∈ oj.after, Region.binds .any e = true → e.on ≠ i) → (∀ f, depF ops i f j = false) → commB ops oi oj = true) → Clo ops listed →
    i ∈ Region.ready .any ops listed → stepO P Γ n ops oi st = some s1 → cAny P Γ n ops K fuel (listed.setIfInBounds i true) s1 → cAny P Γ n ops K (fuel + 1) listed st := by
  intro fuel
  induction fuel with
  | zero =>
    intro listed st s1 _ _ hr hy H
    refine ⟨fun h => (by rw [h] at hr; cases hr), fun j hj => ?_⟩
    by_cases hji : j = i
    · subst hji; unfold cOp; simp only [hi]; exact ⟨s1, hy, H⟩
    · have := ready_mono hj hji
      rw [H.1] at this
      cases this
  | succ fuel ih =>
    intro listed st s1 hfree hclo hr hy H
    refine ⟨fun h => (by rw [h] at hr; cases hr), fun j hj => ?_⟩
    by_cases hji : j = i
    · subst hji; unfold cOp; simp only [hi]; exact ⟨s1, hy, H⟩
    · have h1 := H.2 j (ready_mono hj hji)
      obtain ⟨hjun, oj, hoj, hall⟩ := mem_ready.1 hj
      have hnot : ∀ e ∈ oj.after, Region.binds .any e = true → e.on ≠ i := fun e he hb heq => by
        have h1 := hall e he hb
        have h0 := (mem_ready.1 hr).1
        rw [heq] at h1
        rcases Nat.lt_or_ge i listed.size with h' | h'
        · simp [h'] at h0 h1; rw [h0] at h1; cases h1
        · simp [Array.getElem?_eq_none h'] at h1
      unfold cOp at h1 ⊢
      simp only [hoj] at h1 ⊢
      obtain ⟨s2, h2, h3⟩ := h1
      obtain ⟨t1, k1, k2⟩ := comm_sound (hfree j oj hoj hji hjun hnot (dep_ready hclo (mem_ready.1 hr).1 hj)) hy h2
      refine ⟨t1, k1, ?_⟩
      have hfree' : ∀ k ok, ops[k]? = some ok → k ≠ i → (listed.setIfInBounds j true).getD k true = false →
          (∀ e ∈ ok.after, Region.binds .any e = true → e.on ≠ i) → (∀ f, depF ops i f k = false) → commB ops oi ok = true := fun k ok hk hki hun hno hdp => by
        refine hfree k ok hk hki ?_ hno hdp
        by_cases hjk : j = k
        · subst hjk; exact hjun
        · rw [getD_set_ne true hjk] at hun; exact hun
      refine ih (listed.setIfInBounds j true) t1 s2 hfree' (hclo.set hj) (ready_mono hr (Ne.symm hji)) k2 ?_
      rw [Array.setIfInBounds_comm _ _ hji]
      exact h3

def lexFromB (ops : Array Oper) : Nat → Nat → Array Bool → Bool
  | 0, _, listed => (Region.ready .any ops listed).isEmpty
  | fuel + 1, k, listed => (Region.ready .any ops listed).contains k && freeB ops listed k && lexFromB ops fuel (k + 1) (listed.setIfInBounds k true)
def drawB (ops : Array Oper) : Bool := lexFromB ops ops.size 0 (Array.replicate ops.size false)

theorem cAny_lex {ops : Array Oper} {K : St → Prop} : ∀ (l : List Oper) (k : Nat) (listed : Array Bool) (st st' : St), (∀ j, l[j]? = ops[k + j]?) → Clo ops listed →
    lexFromB ops l.length k listed = true → evL P Γ n ops l st = some st' → K st' → cAny P Γ n ops K l.length listed st
  | [], _, _, _, _, _, _, hB, h, hK => ⟨by simpa [lexFromB] using hB, by simp only [evL, Option.some.injEq] at h; subst h; exact hK⟩
  | o :: l, k, listed, st, st', hl, hclo, hB, h, hK => by
    have h0 : ops[k]? = some o := by simpa using (hl 0).symm
    simp only [List.length_cons, lexFromB, Bool.and_eq_true] at hB
    obtain ⟨⟨hr, hf⟩, hB'⟩ := hB
    simp only [evL, Option.bind_eq_some_iff] at h
    obtain ⟨s1, h1, h2⟩ := h
    exact cAny_first h0 l.length listed st s1 (freeB_spec h0 hf) hclo (by simpa using hr) h1
      (cAny_lex l (k + 1) _ s1 st' (fun j => by have := hl (j + 1); simpa [Nat.add_assoc, Nat.add_comm 1 j] using this) (hclo.set (by simpa using hr)) hB' h2 hK)

theorem region_draw (hΓ : TabOK P Γ) (hm : P.follows .mixedOrders = true) {id : Nat} {ops : Array Oper} {st st' : St} (hB : drawB ops = true) (h : evL P Γ n ops ops.toList st = some st') (hs : Sim w0 n ro lam st a w)
    {Q : Exit → Act → World → Prop} (hQ : ∀ a' ro' lam' w', Ext w0 ro ro' → Sim w0 n ro' lam' st' a' w' → Q .normal a' w') : (Code.region id ops true).wp P Q a w := by
  have hs' : Sim w0 n ro lam st a { w with drawn := w.drawn + 1 } := hs.world ((Below.refl _ _).drew)
  refine wp_region_any hm (wpAny_of_cAny hΓ (K := fun s => s = st') (fun a' ro' lam' w' s hext hs hk => by subst hk; exact hQ a' ro' lam' w' hext hs) _ _ st ro lam a _ (Ext.refl _ _) hs' ?_)
  have := cAny_lex (P := P) (Γ := Γ) (n := n) (K := fun s => s = st') ops.toList 0 (Array.replicate ops.size false) st st' (by simp) (fun j oj hj hl => by rw [Array.getD_eq_getD_getElem?, Array.getElem?_replicate] at hl; split at hl <;> cases hl) (by simpa [drawB] using hB) h rfl
  simpa using this

/-! ### regions that draw, with stores into blocks that are known -/
/-- Which blocks the stores go to; which reads do not look into these. -/
structure Ann where
  ks : List (Nat × Nat)
  ms : List Nat
def lkL : List (Nat × Nat) → Nat → Option Nat
  | [], _ => none
  | (j, k) :: ks, i => if i = j then some k else lkL ks i
def keyedL : List (Nat × Nat) → Nat → Bool
  | [], _ => false
  | (_, k') :: ks, k => k == k' || keyedL ks k
def hasL : List Nat → Nat → Bool
  | [], _ => false
  | j :: js, i => i == j || hasL js i
def lk (A : Ann) (i : Nat) : Option Nat := lkL A.ks i
def keyed (A : Ann) (k : Nat) : Bool := keyedL A.ks k
def mask (ks : Ann) (h : Nat → Option Blk) : Nat → Option Blk := fun k => if keyed ks k = true then none else h k
/-- The memory as the operation at a place sees it. -/
def msk (A : Ann) (j : Nat) (h : Nat → Option Blk) : Nat → Option Blk := if hasL A.ms j = true then mask A h else h
theorem lk_keyedL : ∀ {ks : List (Nat × Nat)} {j k : Nat}, lkL ks j = some k → keyedL ks k = true
  | (j', k') :: ks, j, k, h => by
    simp only [lkL] at h
    split at h
    · cases h; simp [keyedL]
    · simp [keyedL, lk_keyedL h]
theorem lk_keyed {ks : Ann} {j k : Nat} (h : lk ks j = some k) : keyed ks k = true := lk_keyedL h
theorem mask_upd_in {ks : Ann} {h : Nat → Option Blk} {k : Nat} {b : Option Blk} (hk : keyed ks k = true) : mask ks (upd h k b) = mask ks h := by
  funext t; unfold mask upd
  by_cases e : t = k
  · subst e; simp [hk]
  · simp [e]
theorem mask_upd_out {ks : Ann} {h : Nat → Option Blk} {k : Nat} {b : Option Blk} (hk : keyed ks k = false) : mask ks (upd h k b) = upd (mask ks h) k b := by
  funext t; unfold mask upd
  by_cases e : t = k
  · subst e; simp [hk]
  · simp [e]
theorem ev01_unmask {ks : Ann} {h : Nat → Option Blk} {ρ : Operand → V} {op : Op} {v : V} (e : ev01 P Γ (mask ks h) ρ op = some v) : ev01 P Γ h ρ op = some v := by
  obtain ⟨ks, ms⟩ := ks
  induction ks with
  | nil => have h0 : mask ⟨[], ms⟩ h = h := by funext t; simp [mask, keyed, keyedL]
           rwa [h0] at e
  | cons p ks ih =>
    obtain ⟨j, k⟩ := p
    apply ih
    have h1 : mask ⟨(j, k) :: ks, ms⟩ h k = none := by simp [mask, keyed, keyedL]
    have h2 := ev01_heap (b := mask ⟨ks, ms⟩ h k) h1 e
    have h3 : upd (mask ⟨(j, k) :: ks, ms⟩ h) k (mask ⟨ks, ms⟩ h k) = mask ⟨ks, ms⟩ h := by
      funext t; unfold upd
      by_cases e' : t = k
      · subst e'; simp
      · have e2 : keyed ⟨(j, k) :: ks, ms⟩ t = keyed ⟨ks, ms⟩ t := by simp [keyed, keyedL, e']
        rw [if_neg e']
        unfold mask
        rw [e2]
    rwa [h3] at h2
theorem ev01_unmsk {ks : Ann} {j : Nat} {h : Nat → Option Blk} {ρ : Operand → V} {op : Op} {v : V} (e : ev01 P Γ (msk ks j h) ρ op = some v) : ev01 P Γ h ρ op = some v := by
  unfold msk at e
  split at e
  · exact ev01_unmask e
  · exact e
def stepA (P : Program) (Γ : Tab) (ops : Array Oper) (ks : Ann) (j : Nat) (o : Oper) (st : St) : Option St := match wantV ops st o.guard with
  | some false => some (st.put o.dst .undef)
  | some true => (match lk ks j with
    | some K => (match o.op, o.dst with
      | .store t a u, none => (match ev st a with
        | .ptr K' _ => bif K' == K then (storeV P st.heap t (ev st a) (ev st u)).map (fun h => { st with heap := h }) else none
        | _ => none)
      | _, _ => none)
    | none => bif decide (kind o.op ≤ 1) then (ev01 P Γ (msk ks j st.heap) (ev st) o.op).map (st.put o.dst) else bif decide (kind o.op = 2) then stepOp P Γ st o.dst o.op else none)
  | none => none
structure Eff where
  d : Option Tmp
  v : V
  k : Option Nat
  b : Option Blk
def Eff.ap (e : Eff) (st : St) : St := { env := (st.put e.d e.v).env, heap := match e.k with
  | some k => upd st.heap k e.b
  | none => st.heap }
inductive Cd (P : Program) (Γ : Tab) (ops : Array Oper) (ks : Ann) (j : Nat) (o : Oper) (st : St) : Eff → Prop
  | off (hw : wantV ops st o.guard = some false) : Cd P Γ ops ks j o st ⟨o.dst, .undef, none, none⟩
  | put (v : V) (hw : wantV ops st o.guard = some true) (hl : lk ks j = none) (hk : kind o.op ≤ 1) (hv : ev01 P Γ (msk ks j st.heap) (ev st) o.op = some v) : Cd P Γ ops ks j o st ⟨o.dst, v, none, none⟩
  | new (d : Nat) (v : V) (blk : Blk) (hw : wantV ops st o.guard = some true) (hl : lk ks j = none) (hd : o.dst = some d) (hk : kind o.op = 2) (hfr : st.heap d = none) (hv : ev2 P (ev st) d o.op = some (v, blk)) :
      Cd P Γ ops ks j o st ⟨o.dst, v, some d, some blk⟩
  | sto (K : Nat) (t : TypeId) (a u : Operand) (off : Nat) (b0 b : Blk) (hw : wantV ops st o.guard = some true) (hl : lk ks j = some K) (ho : o.op = .store t a u) (hd : o.dst = none) (ha : ev st a = .ptr K off) (h0 : st.heap K = some b0)
      (hs : storeV P (fun _ => some b0) t (.ptr K off) (ev st u) = some (upd (fun _ => some b0) K (some b))) : Cd P Γ ops ks j o st ⟨none, .undef, some K, some b⟩
theorem storeV_at {h : Nat → Option Blk} {t : TypeId} {K off : Nat} {u : V} {h' : Nat → Option Blk} (e : storeV P h t (.ptr K off) u = some h') :
    ∃ b0 b, h K = some b0 ∧ h' = upd h K (some b) ∧ ∀ g : Nat → Option Blk, g K = some b0 → storeV P g t (.ptr K off) u = some (upd g K (some b)) := by
  unfold storeV at e
  split at e
  · rename_i d key off' h1 h2
    cases h2
    split at e
    · rename_i blk vs hb hv
      simp only [cond_eq_ite] at e
      split at e
      · rename_i hc
        cases e
        refine ⟨blk, _, hb, rfl, fun g hg => ?_⟩
        unfold storeV
        simp only [h1, hg, hv, hc, cond_true]
      · cases e
    · cases e
  · cases e
theorem stepA_cases {ops : Array Oper} {ks : Ann} {j : Nat} {o : Oper} {st s1 : St} (h : stepA P Γ ops ks j o st = some s1) : ∃ e, Cd P Γ ops ks j o st e ∧ s1 = e.ap st := by
  unfold stepA at h
  split at h
  · rename_i hw
    cases h
    exact ⟨_, .off hw, by unfold Eff.ap; cases o.dst <;> rfl⟩
  · rename_i hw
    split at h
    · rename_i K hl
      split at h
      · rename_i t a u ho hd
        split at h
        · rename_i K' off ha
          simp only [cond_eq_ite, beq_iff_eq] at h
          split at h
          · rename_i hK
            subst hK
            rw [ha] at h
            simp only [Option.map_eq_some_iff] at h
            obtain ⟨h', h1, rfl⟩ := h
            obtain ⟨b0, b, e1, e2, e3⟩ := storeV_at h1
            exact ⟨_, .sto K' t a u off b0 b hw hl ho hd ha e1 (e3 _ rfl), by subst e2; rfl⟩
          · cases h
        · cases h
      · cases h
    · rename_i hl
      simp only [cond_eq_ite, decide_eq_true_eq] at h
      split at h
      · rename_i hk
        simp only [Option.map_eq_some_iff] at h
        obtain ⟨v, hv, rfl⟩ := h
        exact ⟨_, .put v hw hl hk hv, by unfold Eff.ap; cases o.dst <;> rfl⟩
      · split at h
        · rename_i hk
          unfold stepOp at h
          simp only [hk] at h
          split at h
          · rename_i d hd
            split at h
            · rename_i hfr
              simp only [Option.map_eq_some_iff] at h
              obtain ⟨p, hp, rfl⟩ := h
              exact ⟨_, .new d p.1 p.2 hw hl hd hk hfr hp, by unfold Eff.ap; rw [hd]; rfl⟩
            · cases h
          · cases h
        · cases h
  · cases h
theorem stepA_of {ops : Array Oper} {ks : Ann} {j : Nat} {o : Oper} {st : St} {e : Eff} (h : Cd P Γ ops ks j o st e) : stepA P Γ ops ks j o st = some (e.ap st) := by
  cases h with
  | off hw => unfold stepA; simp only [hw]; unfold Eff.ap; cases o.dst <;> rfl
  | put v hw hl hk hv => unfold stepA; simp only [hw, hl, hk, decide_true, cond_true, hv, Option.map_some]; unfold Eff.ap; cases o.dst <;> rfl
  | new d v blk hw hl hd hk hfr hv =>
    unfold stepA stepOp
    have : ¬ kind o.op ≤ 1 := by omega
    simp only [hw, hl, hk, decide_true, cond_true, show ¬ (2 ≤ 1) by omega, decide_false, cond_false, hd, hfr, hv, Option.map_some]
    rfl
  | sto K t a u off b0 b hw hl ho hd ha h0 hs =>
    obtain ⟨c0, c, e1, e2, e3⟩ := storeV_at hs
    cases e1
    have e4 := e3 st.heap h0
    have e5 : c = b := by have := congrFun e2 K; simpa [upd] using this.symm
    subst e5
    unfold stepA
    simp only [hw, hl, ho, hd, ha, beq_self_eq_true, cond_true, e4, Option.map_some]
    rfl
theorem stepO_of_stepA {ops : Array Oper} {ks : Ann} {j : Nat} {o : Oper} {st s1 : St} (hf : fits n o.dst = true) (h : stepA P Γ ops ks j o st = some s1) : stepO P Γ n ops o st = some s1 := by
  obtain ⟨e, hc, rfl⟩ := stepA_cases h
  cases hc with
  | off hw => rw [stepO_put hf (.inl ⟨hw, rfl⟩)]; unfold Eff.ap; cases o.dst <;> rfl
  | put v hw hl hk hv => rw [stepO_put hf (.inr ⟨hw, hk, ev01_unmsk hv⟩)]; unfold Eff.ap; cases o.dst <;> rfl
  | new d v blk hw hl hd hk hfr hv => rw [stepO_new hf hd hw hk hfr hv]; unfold Eff.ap; rw [hd]; rfl
  | sto K t a u off b0 b hw hl ho hd ha h0 hs =>
    obtain ⟨c0, c, e1, e2, e3⟩ := storeV_at hs
    cases e1
    have e4 := e3 st.heap h0
    have e5 : c = b := by have := congrFun e2 K; simpa [upd] using this.symm
    subst e5
    unfold stepO
    simp only [hf, cond_true, hw]
    unfold stepOp
    simp only [ho, kind, ev3, hd, ha, e4, Option.map_some]
    rfl
/-- What an operation does is the same where other temporaries and other blocks have turned. -/
theorem Cd.turn {ops : Array Oper} {ks : Ann} {j : Nat} {o : Oper} {st st' : St} {e : Eff} (h : Cd P Γ ops ks j o st e) (hw : wantV ops st' o.guard = wantV ops st o.guard) (he : ∀ x ∈ o.op.operands, ev st' x = ev st x)
    (hp : kind o.op ≤ 1 → lk ks j = none → ∀ v, ev01 P Γ (msk ks j st.heap) (ev st') o.op = some v → ev01 P Γ (msk ks j st'.heap) (ev st') o.op = some v)
    (hn : ∀ d, o.dst = some d → kind o.op = 2 → lk ks j = none → st.heap d = none → st'.heap d = none) (hs : ∀ K, lk ks j = some K → wantV ops st o.guard = some true → st'.heap K = st.heap K) : Cd P Γ ops ks j o st' e := by
  cases h with
  | off h => exact .off (by rw [hw]; exact h)
  | put v h hl hk hv => exact .put v (by rw [hw]; exact h) hl hk (hp hk hl v (by rw [ev01_congr _ _ he]; exact hv))
  | new d v blk h hl hd hk hfr hv => exact .new d v blk (by rw [hw]; exact h) hl hd hk (hn d hd hk hl hfr) (by rw [ev2_congr _ _ he]; exact hv)
  | sto K t a u off b0 b h hl ho hd ha h0 hs' =>
    have ha' : ev st' a = ev st a := he a (by rw [ho]; simp [Op.operands])
    have hu' : ev st' u = ev st u := he u (by rw [ho]; simp [Op.operands])
    exact .sto K t a u off b0 b (by rw [hw]; exact h) hl ho hd (by rw [ha']; exact ha) (by rw [hs K hl h]; exact h0) (by rw [hu']; exact hs')
def commA (ops : Array Oper) (ks : Ann) (i : Nat) (x : Oper) (j : Nat) (y : Oper) : Bool :=
  x.apart ops y && (match lk ks i, lk ks j with
    | some K, some K' => !(K == K')
    | some K, none => decide (kind y.op = 0) || (decide (kind y.op = 1) && hasL ks.ms j) || (decide (kind y.op = 2) && !(y.dst == some K))
    | none, some K' => decide (kind x.op = 0) || (decide (kind x.op = 1) && hasL ks.ms i) || (decide (kind x.op = 2) && !(x.dst == some K'))
    | none, none => decide (kind x.op ≤ 1) || (decide (kind y.op = 0) || decide (kind y.op = 2) || (hasL ks.ms j && match x.dst with
      | some d => keyed ks d
      | none => true)))
theorem Eff.dst {ops : Array Oper} {ks : Ann} {j : Nat} {o : Oper} {st : St} {e : Eff} (h : Cd P Γ ops ks j o st e) : e.d = o.dst := by
  cases h with
  | sto K t a u off b0 b hw hl ho hd ha h0 hs => exact hd.symm
  | _ => rfl
theorem ap_want {ops : Array Oper} {e : Eff} {st : St} {g : Oper} (h : ∀ k, e.d = some k → k ∉ g.looksAt ops) : wantV ops (e.ap st) g.guard = wantV ops st g.guard := by
  have : wantV ops (e.ap st) g.guard = wantV ops (st.put e.d e.v) g.guard := rfl
  rw [this]; exact want_put h
theorem ap_ev {ops : Array Oper} {e : Eff} {st : St} {g : Oper} (h : ∀ k, e.d = some k → k ∉ g.looksAt ops) : ∀ x ∈ g.op.operands, ev (e.ap st) x = ev st x := by
  intro x hx
  rw [← evs_put (v := e.v) (st := st) h x hx]
  cases x <;> rfl
theorem ap_comm {e f : Eff} {st : St} (hd : ∀ d, e.d = some d → f.d ≠ some d) (hk : ∀ k, e.k = some k → f.k ≠ some k) : f.ap (e.ap st) = e.ap (f.ap st) := by
  have h1 : ((e.ap st).put f.d f.v).env = ((f.ap st).put e.d e.v).env := by
    have := congrArg St.env (put_comm st e.v f.v hd)
    cases hfd : f.d <;> cases hed : e.d <;> simp only [St.put, Eff.ap, hfd, hed] at this ⊢ <;> exact this
  have h2 : (f.ap (e.ap st)).heap = (e.ap (f.ap st)).heap := by
    cases hfk : f.k with
    | none => cases hek : e.k <;> simp [Eff.ap, hfk, hek]
    | some k =>
      cases hek : e.k with
      | none => simp [Eff.ap, hfk, hek]
      | some k' =>
        have hne : k' ≠ k := fun h => hk k' hek (by rw [hfk, h])
        simp only [Eff.ap, hfk, hek]
        rw [upd_comm _ _ _ hne]
  have h3 : ∀ s : St, s = ⟨s.env, s.heap⟩ := fun _ => rfl
  rw [h3 (f.ap (e.ap st)), h3 (e.ap (f.ap st)), h2]
  exact congrArg (fun q => (⟨q, (e.ap (f.ap st)).heap⟩ : St)) h1
theorem comm_soundA {ops : Array Oper} {ks : Ann} {i j : Nat} {x y : Oper} {st s1 s2 : St} (hc : commA ops ks i x j y = true) (h1 : stepA P Γ ops ks i x st = some s1) (h2 : stepA P Γ ops ks j y s1 = some s2) :
    ∃ t1, stepA P Γ ops ks j y st = some t1 ∧ stepA P Γ ops ks i x t1 = some s2 := by
  simp only [commA, Bool.and_eq_true] at hc
  obtain ⟨hap, hk⟩ := hc
  obtain ⟨a1, a2, a3⟩ := Oper.apart_spec hap
  obtain ⟨e, ce, rfl⟩ := stepA_cases h1
  obtain ⟨f, cf, rfl⟩ := stepA_cases h2
  have ed := Eff.dst ce
  have fd := Eff.dst cf
  have hwy : wantV ops (e.ap st) y.guard = wantV ops st y.guard := ap_want (by rw [ed]; exact a1)
  have hey : ∀ z ∈ y.op.operands, ev (e.ap st) z = ev st z := ap_ev (by rw [ed]; exact a1)
  have hwx : wantV ops (f.ap st) x.guard = wantV ops st x.guard := ap_want (by rw [fd]; exact a3)
  have hex : ∀ z ∈ x.op.operands, ev (f.ap st) z = ev st z := ap_ev (by rw [fd]; exact a3)
  -- y from the first state
  have cf' : Cd P Γ ops ks j y st f := by
    refine cf.turn hwy.symm (fun z hz => (hey z hz).symm) ?_ ?_ ?_
    · intro hky hlj v hv
      cases ce with
      | off => exact hv
      | put => exact hv
      | new d u blk hw hl hd hk2 hfr hu =>
        simp only [Eff.ap] at hv
        rcases (show kind y.op = 0 ∨ kind y.op = 1 by omega) with h0 | h0
        · rw [ev01_kind0 _ (msk ks j (upd st.heap d (some blk))) _ _ h0]; exact hv
        · have hkd : hasL ks.ms j = true ∧ keyed ks d = true := by
            rw [hl, hlj] at hk; simpa [hk2, h0, hd] using hk
          simp only [msk, hkd.1, if_true] at hv ⊢
          rw [mask_upd_in hkd.2] at hv; exact hv
      | sto K t a u off b0 b hw hl ho hd ha h0 hs =>
        simp only [Eff.ap] at hv
        rcases (show kind y.op = 0 ∨ kind y.op = 1 by omega) with h0 | h0
        · rw [ev01_kind0 _ (msk ks j (upd st.heap K (some b))) _ _ h0]; exact hv
        · have hm : hasL ks.ms j = true := by
            rw [hl, hlj] at hk; simpa [h0] using hk
          simp only [msk, hm, if_true] at hv ⊢
          rw [mask_upd_in (lk_keyed hl)] at hv; exact hv
    · intro d hd hky hl hn
      cases ce with
      | off => exact hn
      | put => exact hn
      | new d' u blk hw hl' hd' hk2 hfr hu =>
        have hne : d ≠ d' := fun h => a2 d' hd' (by rw [hd, h])
        simpa [Eff.ap, upd_ne _ _ hne] using hn
      | sto K t a u off b0 b hw hl' ho hd' ha h0 hs =>
        rw [hl, hl'] at hk
        have hne : d ≠ K := by
          rintro rfl
          simp [hky, hd] at hk
        simpa [Eff.ap, upd_ne _ _ hne] using hn
    · intro K hl hw'
      cases ce with
      | off => rfl
      | put => rfl
      | new d' u blk hw hl' hd' hk2 hfr hu =>
        rw [hl, hl'] at hk
        have hne : K ≠ d' := by
          rintro rfl
          simp [hk2, hd'] at hk
        simp [Eff.ap, upd_ne _ _ hne]
      | sto K' t a u off b0 b hw hl' ho hd' ha h0 hs =>
        rw [hl, hl'] at hk
        have hne : K ≠ K' := by
          rintro rfl
          simp at hk
        simp [Eff.ap, upd_ne _ _ hne]
  have ce' : Cd P Γ ops ks i x (f.ap st) e := by
    refine ce.turn hwx hex ?_ ?_ ?_
    · intro hkx hli v hv
      cases cf' with
      | off => exact hv
      | put => exact hv
      | new d u blk hw hl hd hk2 hfr hu =>
        simp only [Eff.ap]
        unfold msk at hv ⊢
        split
        · rename_i hm
          rw [if_pos hm] at hv
          cases hkd : keyed ks d with
          | true => rw [mask_upd_in hkd]; exact hv
          | false => rw [mask_upd_out hkd]; exact ev01_heap (by simp [mask, hkd, hfr]) hv
        · rename_i hm
          rw [if_neg hm] at hv
          exact ev01_heap hfr hv
      | sto K t a u off b0 b hw hl ho hd ha h0 hs =>
        simp only [Eff.ap]
        rcases (show kind x.op = 0 ∨ kind x.op = 1 by omega) with h0 | h0
        · rw [ev01_kind0 _ (msk ks i st.heap) _ _ h0]; exact hv
        · have hm : hasL ks.ms i = true := by
            rw [hl, hli] at hk; simpa [h0] using hk
          simp only [msk, hm, if_true] at hv ⊢
          rw [mask_upd_in (lk_keyed hl)]; exact hv
    · intro d hd hkx hl hn
      cases cf' with
      | off => exact hn
      | put => exact hn
      | new d' u blk hw hl' hd' hk2 hfr hu =>
        have hne : d ≠ d' := fun h => a2 d hd (by rw [hd', h])
        simpa [Eff.ap, upd_ne _ _ hne] using hn
      | sto K t a u off b0 b hw hl' ho hd' ha h0 hs =>
        rw [hl, hl'] at hk
        have hne : d ≠ K := by
          rintro rfl
          simp [hkx, hd] at hk
        simpa [Eff.ap, upd_ne _ _ hne] using hn
    · intro K hl hw'
      cases cf' with
      | off => rfl
      | put => rfl
      | new d' u blk hw hl' hd' hk2 hfr hu =>
        rw [hl, hl'] at hk
        have hne : K ≠ d' := by
          rintro rfl
          simp [hk2, hd'] at hk
        simp [Eff.ap, upd_ne _ _ hne]
      | sto K' t a u off b0 b hw hl' ho hd' ha h0 hs =>
        rw [hl, hl'] at hk
        have hne : K ≠ K' := by
          rintro rfl
          simp at hk
        simp [Eff.ap, upd_ne _ _ hne]
  refine ⟨f.ap st, stepA_of cf', ?_⟩
  rw [stepA_of ce']
  have hcomm : f.ap (e.ap st) = e.ap (f.ap st) := by
    refine ap_comm (by rw [ed, fd]; exact a2) fun k hek hfk => ?_
    cases ce with
    | off => cases hek
    | put => cases hek
    | new d u blk hw hl hd hk2 hfr hu =>
      cases hek
      cases cf' with
      | off => cases hfk
      | put => cases hfk
      | new d' u' blk' hw' hl' hd' hk' => cases hfk; exact a2 _ hd hd'
      | sto K t a u' off b0 b hw' hl' ho hd' => cases hfk; rw [hl, hl'] at hk; simp [hk2, hd] at hk
    | sto K t a u off b0 b hw hl ho hd ha h0 hs =>
      cases hek
      cases cf' with
      | off => cases hfk
      | put => cases hfk
      | new d' u' blk' hw' hl' hd' hk2' => cases hfk; rw [hl, hl'] at hk; simp [hk2', hd'] at hk
      | sto K' t' a' u' off' b0' b' hw' hl' ho' hd' => cases hfk; rw [hl, hl'] at hk; simp at hk
  rw [hcomm]

def cOpA (P : Program) (Γ : Tab) (ops : Array Oper) (ks : Ann) (i : Nat) (K : St → Prop) (st : St) : Prop := match ops[i]? with
  | none => K st
  | some o => ∃ st', stepA P Γ ops ks i o st = some st' ∧ K st'
def cAnyA (P : Program) (Γ : Tab) (ops : Array Oper) (ks : Ann) (K : St → Prop) : Nat → Array Bool → St → Prop
  | 0, listed, st => Region.ready .any ops listed = [] ∧ K st
  | fuel + 1, listed, st => (Region.ready .any ops listed = [] → K st) ∧ ∀ i ∈ Region.ready .any ops listed, cOpA P Γ ops ks i (cAnyA P Γ ops ks K fuel (listed.setIfInBounds i true)) st
theorem cAny_of_A {ops : Array Oper} {ks : Ann} {K : St → Prop} (hf : ops.toList.all (fun o => fits n o.dst) = true) : ∀ (fuel : Nat) (listed : Array Bool) (st : St), cAnyA P Γ ops ks K fuel listed st → cAny P Γ n ops K fuel listed st
  | 0, listed, st, h => h
  | fuel + 1, listed, st, h => by
    refine ⟨h.1, fun i hi => ?_⟩
    have h1 := h.2 i hi
    unfold cOpA at h1
    unfold cOp
    split
    · rename_i ho; simp only [ho] at h1; exact cAny_of_A hf fuel _ st h1
    · rename_i o ho
      simp only [ho] at h1
      obtain ⟨st', h2, h3⟩ := h1
      have hfo : fits n o.dst = true := by
        refine List.all_eq_true.1 hf o ?_
        have := List.mem_of_getElem? (l := ops.toList) (i := i) (by simpa using ho)
        exact this
      exact ⟨st', stepO_of_stepA hfo h2, cAny_of_A hf fuel _ st' h3⟩
def freeA (ops : Array Oper) (ks : Ann) (listed : Array Bool) (i : Nat) : Bool :=
  match ops[i]? with
  | none => false
  | some oi => (List.range ops.size).all fun j => j == i || listed.getD j true || match ops[j]? with
      | some oj => oj.after.any (fun e => Region.binds .any e && e.on == i) || commA ops ks i oi j oj
      | none => true
theorem freeA_spec {ops : Array Oper} {ks : Ann} {i : Nat} {oi : Oper} {listed : Array Bool} (hi : ops[i]? = some oi) (h : freeA ops ks listed i = true) (j : Nat) (oj : Oper)
    (hj : ops[j]? = some oj) (hne : j ≠ i) (hun : listed.getD j true = false) (hno : ∀ e ∈ oj.after, Region.binds .any e = true → e.on ≠ i) : commA ops ks i oi j oj = true := by
  simp only [freeA, hi, List.all_eq_true, List.mem_range] at h
  have h1 := h j (Array.getElem?_eq_some_iff.1 hj).1
  simp only [hj, Bool.or_eq_true, beq_iff_eq, hne, false_or, hun, Bool.false_eq_true] at h1
  rcases h1 with h1 | h1
  · obtain ⟨e, he, hb⟩ := Array.any_eq_true'.1 h1
    simp only [Bool.and_eq_true, beq_iff_eq] at hb
    exact absurd hb.2 (hno e he hb.1)
  · exact h1
theorem cAny_firstA {ops : Array Oper} {ks : Ann} {K : St → Prop} {i : Nat} {oi : Oper} (hi : ops[i]? = some oi) : ∀ (fuel : Nat) (listed : Array Bool) (st s1 : St),
    (∀ j oj, ops[j]? = some oj → j ≠ i → listed.getD j true = false → (∀ e ∈ oj.after, Region.binds .any e = true → e.on ≠ i) → commA ops ks i oi j oj = true) →
    i ∈ Region.ready .any ops listed → stepA P Γ ops ks i oi st = some s1 → cAnyA P Γ ops ks K fuel (listed.setIfInBounds i true) s1 → cAnyA P Γ ops ks K (fuel + 1) listed st := by
  intro fuel
  induction fuel with
  | zero =>
    intro listed st s1 _ hr hy H
    refine ⟨fun h => (by rw [h] at hr; cases hr), fun j hj => ?_⟩
    by_cases hji : j = i
    · subst hji; unfold cOpA; simp only [hi]; exact ⟨s1, hy, H⟩
    · have := ready_mono hj hji
      rw [H.1] at this
      cases this
  | succ fuel ih =>
    intro listed st s1 hfree hr hy H
    refine ⟨fun h => (by rw [h] at hr; cases hr), fun j hj => ?_⟩
    by_cases hji : j = i
    · subst hji; unfold cOpA; simp only [hi]; exact ⟨s1, hy, H⟩
    · have h1 := H.2 j (ready_mono hj hji)
      obtain ⟨hjun, oj, hoj, hall⟩ := mem_ready.1 hj
      have hnot : ∀ e ∈ oj.after, Region.binds .any e = true → e.on ≠ i := fun e he hb heq => by
        have h1 := hall e he hb
        have h0 := (mem_ready.1 hr).1
        rw [heq] at h1
        rcases Nat.lt_or_ge i listed.size with h' | h'
        · simp [h'] at h0 h1; rw [h0] at h1; cases h1
        · simp [Array.getElem?_eq_none h'] at h1
      unfold cOpA at h1 ⊢
      simp only [hoj] at h1 ⊢
      obtain ⟨s2, h2, h3⟩ := h1
      obtain ⟨t1, k1, k2⟩ := comm_soundA (hfree j oj hoj hji hjun hnot) hy h2
      refine ⟨t1, k1, ?_⟩
      have hfree' : ∀ k ok, ops[k]? = some ok → k ≠ i → (listed.setIfInBounds j true).getD k true = false →
          (∀ e ∈ ok.after, Region.binds .any e = true → e.on ≠ i) → commA ops ks i oi k ok = true := fun k ok hk hki hun hno => by
        refine hfree k ok hk hki ?_ hno
        by_cases hjk : j = k
        · subst hjk; exact hjun
        · rw [getD_set_ne true hjk] at hun; exact hun
      refine ih (listed.setIfInBounds j true) t1 s2 hfree' (ready_mono hr (Ne.symm hji)) k2 ?_
      rw [Array.setIfInBounds_comm _ _ hji]
      exact h3
def lexFromA (ops : Array Oper) (ks : Ann) : Nat → Nat → Array Bool → Bool
  | 0, _, listed => (Region.ready .any ops listed).isEmpty
  | fuel + 1, k, listed => (Region.ready .any ops listed).contains k && freeA ops ks listed k && lexFromA ops ks fuel (k + 1) (listed.setIfInBounds k true)
def drawA (ops : Array Oper) (ks : Ann) : Bool := lexFromA ops ks ops.size 0 (Array.replicate ops.size false)
def evA (P : Program) (Γ : Tab) (ops : Array Oper) (ks : Ann) : Nat → List Oper → St → Option St
  | _, [], st => some st
  | j, o :: rest, st => (stepA P Γ ops ks j o st).bind (evA P Γ ops ks (j + 1) rest)
theorem cAny_lexA {ops : Array Oper} {ks : Ann} {K : St → Prop} : ∀ (l : List Oper) (k : Nat) (listed : Array Bool) (st st' : St), (∀ j, l[j]? = ops[k + j]?) →
    lexFromA ops ks l.length k listed = true → evA P Γ ops ks k l st = some st' → K st' → cAnyA P Γ ops ks K l.length listed st
  | [], _, _, _, _, _, hB, h, hK => ⟨by simpa [lexFromA] using hB, by simp only [evA, Option.some.injEq] at h; subst h; exact hK⟩
  | o :: l, k, listed, st, st', hl, hB, h, hK => by
    have h0 : ops[k]? = some o := by simpa using (hl 0).symm
    simp only [List.length_cons, lexFromA, Bool.and_eq_true] at hB
    obtain ⟨⟨hr, hf⟩, hB'⟩ := hB
    simp only [evA, Option.bind_eq_some_iff] at h
    obtain ⟨s1, h1, h2⟩ := h
    exact cAny_firstA h0 l.length listed st s1 (freeA_spec h0 hf) (by simpa using hr) h1
      (cAny_lexA l (k + 1) _ s1 st' (fun j => by have := hl (j + 1); simpa [Nat.add_assoc, Nat.add_comm 1 j] using this) hB' h2 hK)
theorem region_drawA (hΓ : TabOK P Γ) (hm : P.follows .mixedOrders = true) {id : Nat} {ops : Array Oper} {ks : Ann} {st st' : St} (hf : ops.toList.all (fun o => fits n o.dst) = true) (hB : drawA ops ks = true) (h : evA P Γ ops ks 0 ops.toList st = some st') (hs : Sim w0 n ro lam st a w)
    {Q : Exit → Act → World → Prop} (hQ : ∀ a' ro' lam' w', Ext w0 ro ro' → Sim w0 n ro' lam' st' a' w' → Q .normal a' w') : (Code.region id ops true).wp P Q a w := by
  have hs' : Sim w0 n ro lam st a { w with drawn := w.drawn + 1 } := hs.world ((Below.refl _ _).drew)
  refine wp_region_any hm (wpAny_of_cAny hΓ (K := fun s => s = st') (fun a' ro' lam' w' s hext hs hk => by subst hk; exact hQ a' ro' lam' w' hext hs) _ _ st ro lam a _ (Ext.refl _ _) hs' ?_)
  have := cAny_lexA (P := P) (Γ := Γ) (K := fun s => s = st') ops.toList 0 (Array.replicate ops.size false) st st' (by simp) (by simpa [drawA] using hB) h rfl
  exact cAny_of_A hf _ _ _ (by simpa using this)
end
end Go.Pv
end
section
namespace Go.Pv
open Go.RowKit
set_option linter.unusedSimpArgs false
set_option linter.unusedVariables false

/-- A statement, from a pure state: it ends in one of the pure states that Q lets. -/
def CW (P : Program) (n : Nat) (c : Code) (Q : Exit → St → Prop) (st : St) : Prop :=
  ∀ (w0 : Base) (ro : Nat → Prop) (lam : Lam) (a : Act) (w : World), Sim w0 n ro lam st a w →
    c.wp P (fun e a' w' => ∃ st' ro' lam', Q e st' ∧ Ext w0 ro ro' ∧ Sim w0 n ro' lam' st' a' w') a w

section
variable {P : Program} {Γ : Tab} {n : Nat} {Q : Exit → St → Prop} {st : St}

theorem CW.mono {c : Code} {Q' : Exit → St → Prop} (h : CW P n c Q st) (hq : ∀ e s, Q e s → Q' e s) : CW P n c Q' st :=
  fun w0 ro lam a w hs => wp_mono (h w0 ro lam a w hs) fun _ _ _ ⟨st', ro', lam', h1, h2, h3⟩ => ⟨st', ro', lam', hq _ _ h1, h2, h3⟩

theorem cw_skip (h : Q .normal st) : CW P n .skip Q st := fun w0 ro lam a w hs => wp_skip ⟨st, ro, lam, h, Ext.refl _ _, hs⟩
theorem cw_exit {id : Nat} (h : Q (.exit id) st) : CW P n (.exit id) Q st := fun w0 ro lam a w hs => wp_exit ⟨st, ro, lam, h, Ext.refl _ _, hs⟩
theorem cw_ret (h : Q .ret st) : CW P n .ret Q st := fun w0 ro lam a w hs => wp_ret ⟨st, ro, lam, h, Ext.refl _ _, hs⟩

/-- What follows a statement that ends as usual. -/
def Nx (P : Program) (n : Nat) (c : Code) (Q : Exit → St → Prop) : Exit → St → Prop
  | .normal, st => CW P n c Q st
  | e, st => Q e st
theorem cw_seq {x y : Code} (h : CW P n x (Nx P n y Q) st) : CW P n (.seq x y) Q st := by
  intro w0 ro lam a w hs
  refine wp_seq (wp_mono (h w0 ro lam a w hs) fun e a' w' hh => ?_)
  obtain ⟨st', ro', lam', h1, h2, h3⟩ := hh
  cases e with
  | normal =>
    refine wp_mono (h1 w0 ro' lam' a' w' h3) fun e a'' w'' hh => ?_
    obtain ⟨st'', ro'', lam'', k1, k2, k3⟩ := hh
    exact ⟨st'', ro'', lam'', k1, h2.trans k2, k3⟩
  | _ => exact ⟨st', ro', lam', h1, h2, h3⟩
theorem nx_normal {c : Code} (h : CW P n c Q st) : Nx P n c Q .normal st := h
theorem nx_exit {c : Code} {id : Nat} (h : Q (.exit id) st) : Nx P n c Q (.exit id) st := h
theorem nx_ret {c : Code} (h : Q .ret st) : Nx P n c Q .ret st := h

theorem cw_cond {c : Operand} {x y : Code} {b : Bool} (hc : ev st c = .bool b) (ht : b = true → CW P n x Q st) (hf : b = false → CW P n y Q st) : CW P n (.cond c x y) Q st := by
  intro w0 ro lam a w hs
  have he := hs.ev c
  rw [hc] at he
  exact wp_cond_split he.bool_inv (fun h => ht h w0 ro lam a w hs) (fun h => hf h w0 ro lam a w hs)

/-- What follows a block. -/
def Bk (id : Nat) (Q : Exit → St → Prop) : Exit → St → Prop
  | .exit id', st => if id' = id then Q .normal st else Q (.exit id') st
  | e, st => Q e st
theorem cw_block {id : Nat} {c : Code} (h : CW P n c (Bk id Q) st) : CW P n (.block id c) Q st := by
  intro w0 ro lam a w hs
  refine wp_block (wp_mono (h w0 ro lam a w hs) fun e a' w' hh => ?_)
  obtain ⟨st', ro', lam', h1, h2, h3⟩ := hh
  cases e with
  | exit id' =>
    simp only [Bk] at h1
    simp only [Exit.inBlock]
    split at h1
    · rename_i hi; rw [if_pos hi]; exact ⟨st', ro', lam', h1, h2, h3⟩
    · rename_i hi; rw [if_neg hi]; exact ⟨st', ro', lam', h1, h2, h3⟩
  | _ => exact ⟨st', ro', lam', h1, h2, h3⟩
theorem cw_label {l : Nat} (h : Q .normal st) : CW P n (.label l) Q st := fun w0 ro lam a w hs => wp_label ⟨st, ro, lam, h, Ext.refl _ _, hs⟩
/-- A scope that no goto leaves. -/
def Ng (Q : Exit → St → Prop) : Exit → St → Prop
  | .goto _, _ => False
  | e, s => Q e s
theorem cw_scope {c : Code} (h : CW P n c (Ng Q) st) : CW P n (.scope c) Q st := by
  intro w0 ro lam a w hs
  refine wp_scope_straight (wp_mono (h w0 ro lam a w hs) fun e a' w' hh => ?_)
  obtain ⟨st', ro', lam', h1, h2, h3⟩ := hh
  cases e with
  | goto l => exact h1.elim
  | _ => exact ⟨st', ro', lam', h1, h2, h3⟩
theorem bk_normal {id : Nat} (h : Q .normal st) : Bk id Q .normal st := h
theorem bk_ret {id : Nat} (h : Q .ret st) : Bk id Q .ret st := h
theorem bk_here {id : Nat} (h : Q .normal st) : Bk id Q (.exit id) st := by simp only [Bk, if_true]; exact h
theorem bk_far {id id' : Nat} (hne : (id' == id) = false) (h : Q (.exit id') st) : Bk id Q (.exit id') st := by
  have : id' ≠ id := by simpa using hne
  simp only [Bk, this, if_false]; exact h

/-- A change of view: what is so in every memory that the one state describes is so of the other. -/
def View (n : Nat) (st st' : St) : Prop := ∀ (w0 : Base) (ro : Nat → Prop) (lam : Lam) (a : Act) (w : World), Sim w0 n ro lam st a w → ∃ ro' lam', Ext w0 ro ro' ∧ Sim w0 n ro' lam' st' a w
theorem View.refl (n : Nat) (st : St) : View n st st := fun _ ro lam _ _ hs => ⟨ro, lam, Ext.refl _ _, hs⟩
theorem View.trans {s1 s2 s3 : St} (h : View n s1 s2) (k : View n s2 s3) : View n s1 s3 := fun w0 ro lam a w hs => by
  obtain ⟨ro1, lam1, e1, h1⟩ := h w0 ro lam a w hs
  obtain ⟨ro2, lam2, e2, h2⟩ := k w0 ro1 lam1 a w h1
  exact ⟨ro2, lam2, e1.trans e2, h2⟩
theorem View.forget (n : Nat) (st : St) (key : Nat) : View n st (st.forget key) := fun _ ro _ _ _ hs => ⟨ro, _, Ext.refl _ _, hs.forget key⟩
theorem View.nilOwn (n : Nat) {st : St} {t key : Nat} (sz : Nat) (ty : TypeId) (ht : st.env t = .nils) (hk : st.heap key = none) :
    View n st { env := upd st.env t (.sl key 0 0 sz), heap := upd st.heap key (some ⟨ty, []⟩) } := fun _ ro _ _ _ hs => ⟨ro, _, Ext.refl _ _, hs.nilOwn ht hk⟩
theorem View.env (n : Nat) {st : St} {e : Nat → V} (he : ∀ t, e t = st.env t ∨ e t = .junk) : View n st { st with env := e } := fun w0 ro lam a w hs => by
  refine ⟨ro, lam, Ext.refl _ _, ⟨hs.below, hs.dfr, hs.size, hs.rolt, fun t => ?_, hs.heap, hs.dead, hs.own, hs.inj, hs.maps⟩⟩
  rcases he t with h | h
  · simp only [h]; exact hs.env t
  · simp only [h]; exact .pure _ _ (.junk _)
theorem cw_view {c : Code} {st' : St} (hv : View n st st') (h : CW P n c Q st') : CW P n c Q st := fun w0 ro lam a w hs => by
  obtain ⟨ro1, lam1, e1, h1⟩ := hv w0 ro lam a w hs
  refine wp_mono (h w0 ro1 lam1 a w h1) fun e a' w' hh => ?_
  obtain ⟨st'', ro'', lam'', k1, k2, k3⟩ := hh
  exact ⟨st'', ro'', lam'', k1, e1.trans k2, k3⟩

/-- A loop: an invariant of the pure states at its head, and a measure. -/
theorem cw_loop {c : Code} (I : St → Prop) (μ : St → Nat) (h0 : I st)
    (round : ∀ s, I s → CW P n c (fun e s' => match e with
      | .normal => ∃ s'', View n s' s'' ∧ I s'' ∧ μ s'' < μ s
      | e => Q e s') s) : CW P n (.loop c) Q st := by
  intro w0 ro lam a w hs
  -- by induction on the measure of the pure state
  have key : ∀ (k : Nat) (s : St) (ro1 : Nat → Prop) (lam1 : Lam) (a1 : Act) (w1 : World), μ s = k → I s → Ext w0 ro ro1 → Sim w0 n ro1 lam1 s a1 w1 → ∀ (b : Frame) (kk : List Item) (cs : List Frame),
      ∃ e a' w', (∃ st' ro' lam', Q e st' ∧ Ext w0 ro ro' ∧ Sim w0 n ro' lam' st' a' w') ∧ Arrives P (lone (b.at a1 (.code c :: .inLoop c :: kk)) cs w1) b kk cs e a' w' := by
    intro k
    induction k using Nat.strongRecOn with
    | _ k ih =>
      intro s ro1 lam1 a1 w1 hk hI hext hs1 b kk cs
      obtain ⟨e, a2, w2, ⟨s2, ro2, lam2, hq, hext2, hs2⟩, harr⟩ := round s hI w0 ro1 lam1 a1 w1 hs1 b (.inLoop c :: kk) cs
      cases e with
      | normal =>
        obtain ⟨s3, hv, hI3, hlt⟩ := hq
        obtain ⟨ro3, lam3, hext3, hs3⟩ := hv w0 ro2 lam2 a2 w2 hs2
        obtain ⟨e', a', w', hq', harr'⟩ := ih (μ s3) (hk ▸ hlt) s3 ro3 lam3 a2 w2 rfl hI3 ((hext.trans hext2).trans hext3) hs3 b kk cs
        exact ⟨e', a', w', hq', .of_steps (Steps.trans harr (.one step_inLoop)) harr'⟩
      | exit id => exact ⟨_, a2, w2, ⟨s2, ro2, lam2, hq, hext.trans hext2, hs2⟩, .pass (x := .inLoop c) rfl (fun _ _ => .inl (by simp)) harr⟩
      | goto l => exact ⟨_, a2, w2, ⟨s2, ro2, lam2, hq, hext.trans hext2, hs2⟩, .pass (x := .inLoop c) rfl (fun _ _ => .inl (by simp)) harr⟩
      | ret => exact ⟨_, a2, w2, ⟨s2, ro2, lam2, hq, hext.trans hext2, hs2⟩, .pass (x := .inLoop c) rfl (fun _ _ => .inl (by simp)) harr⟩
      | panic ch => exact ⟨_, a2, w2, ⟨s2, ro2, lam2, hq, hext.trans hext2, hs2⟩, .pass (x := .inLoop c) rfl (fun _ _ => .inl (by simp)) harr⟩
      | outgrown => exact ⟨_, a2, w2, ⟨s2, ro2, lam2, hq, hext.trans hext2, hs2⟩, .pass (x := .inLoop c) rfl (fun _ _ => .inl (by simp)) harr⟩
  intro b kk cs
  obtain ⟨e, a', w', hq, harr⟩ := key _ st ro lam a w rfl h0 (Ext.refl _ _) hs b kk cs
  exact ⟨e, a', w', hq, .of_steps (.one step_loop) harr⟩

/-- A loop at its head. -/
def LH (P : Program) (n : Nat) (c : Code) (Q : Exit → St → Prop) (st : St) : Prop :=
  ∀ (w0 : Base) (ro : Nat → Prop) (lam : Lam) (a : Act) (w : World), Sim w0 n ro lam st a w → ∀ (b : Frame) (kk : List Item) (cs : List Frame),
    ∃ e a' w', (∃ st' ro' lam', Q e st' ∧ Ext w0 ro ro' ∧ Sim w0 n ro' lam' st' a' w') ∧ Arrives P (lone (b.at a (.code c :: .inLoop c :: kk)) cs w) b kk cs e a' w'
theorem LH.cw {c : Code} (h : LH P n c Q st) : CW P n (.loop c) Q st := fun w0 ro lam a w hs b kk cs =>
  let ⟨e, a', w', hq, harr⟩ := h w0 ro lam a w hs b kk cs
  ⟨e, a', w', hq, .of_steps (.one step_loop) harr⟩
theorem LH.view {c : Code} {s' : St} (hv : View n st s') (h : LH P n c Q s') : LH P n c Q st := fun w0 ro lam a w hs b kk cs => by
  obtain ⟨ro1, lam1, e1, h1⟩ := hv w0 ro lam a w hs
  obtain ⟨e, a', w', ⟨st', ro', lam', hq, hext, hs'⟩, harr⟩ := h w0 ro1 lam1 a w h1 b kk cs
  exact ⟨e, a', w', ⟨st', ro', lam', hq, e1.trans hext, hs'⟩, harr⟩
/-- What follows a round: the loop once more. -/
def Lu (P : Program) (n : Nat) (c : Code) (Q : Exit → St → Prop) : Exit → St → Prop
  | .normal, s => LH P n c Q s
  | e, s => Q e s
theorem LH.unroll {c : Code} (h : CW P n c (Lu P n c Q) st) : LH P n c Q st := fun w0 ro lam a w hs b kk cs => by
  obtain ⟨e, a2, w2, ⟨s2, ro2, lam2, hq, hext2, hs2⟩, harr⟩ := h w0 ro lam a w hs b (.inLoop c :: kk) cs
  cases e with
  | normal =>
    obtain ⟨e', a', w', ⟨s3, ro3, lam3, hq', hext3, hs3⟩, harr'⟩ := hq w0 ro2 lam2 a2 w2 hs2 b kk cs
    exact ⟨e', a', w', ⟨s3, ro3, lam3, hq', hext2.trans hext3, hs3⟩, .of_steps (Steps.trans harr (.one step_inLoop)) harr'⟩
  | exit id => exact ⟨_, a2, w2, ⟨s2, ro2, lam2, hq, hext2, hs2⟩, .pass (x := .inLoop c) rfl (fun _ _ => .inl (by simp)) harr⟩
  | goto l => exact ⟨_, a2, w2, ⟨s2, ro2, lam2, hq, hext2, hs2⟩, .pass (x := .inLoop c) rfl (fun _ _ => .inl (by simp)) harr⟩
  | ret => exact ⟨_, a2, w2, ⟨s2, ro2, lam2, hq, hext2, hs2⟩, .pass (x := .inLoop c) rfl (fun _ _ => .inl (by simp)) harr⟩
  | panic ch => exact ⟨_, a2, w2, ⟨s2, ro2, lam2, hq, hext2, hs2⟩, .pass (x := .inLoop c) rfl (fun _ _ => .inl (by simp)) harr⟩
  | outgrown => exact ⟨_, a2, w2, ⟨s2, ro2, lam2, hq, hext2, hs2⟩, .pass (x := .inLoop c) rfl (fun _ _ => .inl (by simp)) harr⟩
/-- What a round must come to: the invariant at another point, with a smaller measure, behind a change of view. -/
structure TokI {α : Type} (I : α → St → Prop) (μ : α → Nat) : Type where
def Nxt {α : Type} (n : Nat) (I : α → St → Prop) (μ : α → Nat) (x : α) (_ : TokI I μ) (s' : St) : Prop := ∃ y s'', View n s' s'' ∧ I y s'' ∧ μ y < μ x
def Ln {α : Type} (n : Nat) (I : α → St → Prop) (μ : α → Nat) (Q : Exit → St → Prop) (x : α) (t : TokI I μ) : Exit → St → Prop
  | .normal, s' => Nxt n I μ x t s'
  | e, s' => Q e s'
theorem LH.inv {c : Code} {α : Type} (I : α → St → Prop) (μ : α → Nat) (round : ∀ x s, I x s → CW P n c (Ln n I μ Q x ⟨⟩) s) : ∀ (k : Nat) (x : α) (s : St), μ x = k → I x s → LH P n c Q s := by
  intro k
  induction k using Nat.strongRecOn with
  | _ k ih =>
    intro x s hk hI
    refine LH.unroll ((round x s hI).mono fun e s' hh => ?_)
    cases e with
    | normal =>
      obtain ⟨y, s'', hv, hy, hlt⟩ := hh
      exact LH.view hv (ih (μ y) (hk ▸ hlt) y s'' rfl hy)
    | _ => exact hh

/-! ### regions -/
def ew (P : Program) (Γ : Tab) (n : Nat) (ops : Array Oper) (l : List Oper) (K : St → Prop) (st : St) : Prop := ∃ st', evL P Γ n ops l st = some st' ∧ K st'
theorem cw_region (hΓ : TabOK P Γ) {id : Nat} {l : List Oper} (h : ew P Γ n l.toArray l (Q .normal) st) : CW P n (.region id l.toArray false) Q st := by
  obtain ⟨st', h1, h2⟩ := h
  intro w0 ro lam a w hs
  exact wp_region_list (evL_sound hΓ _ st st' ro lam a w (by simpa using h1) hs fun a' ro' lam' w' hext hs' => ⟨st', ro', lam', h2, hext, hs'⟩)
theorem cw_draw (hΓ : TabOK P Γ) (hm : P.follows .mixedOrders = true) {id : Nat} {l : List Oper} (hB : drawB l.toArray = true) (h : ew P Γ n l.toArray l (Q .normal) st) : CW P n (.region id l.toArray true) Q st := by
  obtain ⟨st', h1, h2⟩ := h
  intro w0 ro lam a w hs
  exact region_draw hΓ hm hB (by simpa using h1) hs fun a' ro' lam' w' hext hs' => ⟨st', ro', lam', h2, hext, hs'⟩

theorem cw_drawA (hΓ : TabOK P Γ) (hm : P.follows .mixedOrders = true) {id : Nat} {l : List Oper} {ks : Ann} (hf : l.all (fun o => fits n o.dst) = true) (hB : drawA l.toArray ks = true) (h : ∃ st', evA P Γ l.toArray ks 0 l st = some st' ∧ Q .normal st') : CW P n (.region id l.toArray true) Q st := by
  obtain ⟨st', h1, h2⟩ := h
  intro w0 ro lam a w hs
  exact region_drawA hΓ hm (by simpa using hf) hB (by simpa using h1) hs fun a' ro' lam' w' hext hs' => ⟨st', ro', lam', h2, hext, hs'⟩

/-! ### functions -/
def resV (P : Program) (st : St) : ResultVar → Option V
  | .tmp t => some (st.env t)
  | .cell x t => loadV P st.heap t (st.env x)
def resL (P : Program) (st : St) : List ResultVar → Option (List V)
  | [] => some []
  | r :: rs => match resV P st r, resL P st rs with
    | some v, some vs => some (v :: vs)
    | _, _ => none
def one (vs : List V) : V := match vs with
  | [v] => v
  | vs => .tup vs
/-- The function ends, and its results are as v says. -/
def Fin (P : Program) (rs : List ResultVar) (post : V → Prop) (e : Exit) (st : St) : Prop :=
  (e = .normal ∨ e = .ret) ∧ ∃ us vs, resL P st rs = some us ∧ lendAs st.heap us = some vs ∧ post (one vs)

def ini : Nat → List V → Nat → V
  | _, [] => fun _ => .undef
  | k, v :: vs => upd (ini (k + 1) vs) k v
theorem ini_at : ∀ (vs : List V) (k t : Nat), ini k vs t = if t < k then .undef else (vs[t - k]?).getD .undef
  | [], k, t => by simp [ini]
  | v :: vs, k, t => by
    unfold ini
    by_cases h : t = k
    · subst h; simp [upd]
    · rw [upd_ne _ _ h, ini_at vs (k + 1) t]
      by_cases h1 : t < k
      · simp [h1, show t < k + 1 from by omega]
      · obtain ⟨j, hj⟩ : ∃ j, t - k = j + 1 := ⟨t - k - 1, by omega⟩
        simp only [h1, show ¬ t < k + 1 from by omega, if_false, hj, List.getElem?_cons_succ]
        rw [show t - (k + 1) = j from by omega]

def resS (tmps : Array Value) : ResultVar → Sem Value
  | .tmp t => pure (tmps.getD t Go.undef)
  | .cell x t => do loadVar t (← asAddr (tmps.getD x Go.undef))

theorem res_sound {w0 : Base} {ro : Nat → Prop} {lam : Lam} {a : Act} {w : World} (hs : Sim w0 n ro lam st a w) {r : ResultVar} {v : V} (h : resV P st r = some v) :
    ∃ z, (resS a.tmps r).run P w = .ok z w ∧ R w ro lam v z := by
  cases r with
  | tmp t => simp only [resV, Option.some.injEq] at h; subst h; exact ⟨_, rfl, hs.env t⟩
  | cell x t =>
    simp only [resV] at h
    obtain ⟨z, hz, hr⟩ := loadV_sound hs h (hs.env x)
    refine ⟨z, ?_, hr⟩
    have hx := hs.env x
    have hptr : ∃ ad, a.tmps.getD x Go.undef = .pointer (some ad) := by
      unfold loadV at h
      split at h
      · split at h
        · rename_i key off heq; rw [heq] at hx; obtain ⟨b, m, _, e⟩ := hx.ptr_inv; exact ⟨_, e⟩
        · rename_i cs heq; rw [heq] at hx; obtain ⟨ad, g, e, _⟩ := hx.rp_inv; exact ⟨_, e⟩
        · rename_i cs heq; rw [heq] at hx; obtain ⟨ad, g, e, _⟩ := hx.vrp_rp.2.rp_inv; exact ⟨_, e⟩
        · cases h
      · cases h
    obtain ⟨ad, had⟩ := hptr
    simp only [resS]
    rw [had] at hz ⊢
    simpa [Instr.loadAt, Instr.sureAddr, asAddr] using hz

theorem resL_sound {w0 : Base} {ro : Nat → Prop} {lam : Lam} {a : Act} {w : World} (hs : Sim w0 n ro lam st a w) : ∀ (rs : List ResultVar) (vs : List V), resL P st rs = some vs →
    ∃ zs : List Value, (rs.mapM (resS a.tmps)).run P w = .ok zs w ∧ RA w ro lam vs zs.toArray
  | [], vs, h => by simp only [resL, Option.some.injEq] at h; subst h; exact ⟨[], by simp, rfl, by simp⟩
  | r :: rs, vs, h => by
    unfold resL at h
    split at h
    · rename_i v vs' h1 h2
      simp only [Option.some.injEq] at h; subst h
      obtain ⟨z, hz, hr⟩ := res_sound hs h1
      obtain ⟨zs, hzs, hra⟩ := resL_sound hs rs vs' h2
      refine ⟨z :: zs, ?_, by simpa using hra.1, fun j c x hc hx => ?_⟩
      · simp only [List.mapM_cons, Sem.run_bind, hz, Result.andThen_ok, hzs, Sem.run_pure]
      · cases j with
        | zero => simp at hc hx; subst hc; subst hx; exact hr
        | succ j => exact hra.2 j c x (by simpa using hc) (by simpa using hx)
    · cases h

theorem results_run (fn : Func) (tmps : Array Value) (w : World) {zs : List Value} (h : (fn.results.toList.mapM (resS tmps)).run P w = .ok zs w) :
    (results fn tmps).run P w = .ok (if h : zs.toArray.size = 1 then zs.toArray[0] else .tuple zs.toArray) w := by
  have e : results fn tmps = (do let vs ← fn.results.mapM (resS tmps); pure (if h : vs.size = 1 then vs[0] else .tuple vs)) := by
    unfold results
    congr 1
  rw [e, Array.mapM_eq_mapM_toList]
  simp only [Sem.run_bind, map_eq_pure_bind, bind_assoc, pure_bind, h, Result.andThen_ok, Sem.run_pure]

theorem lendAs_RA {w0 : Base} {ro : Nat → Prop} {lam : Lam} {a : Act} {w : World} (hs : Sim w0 n ro lam st a w) {us vs : List V} {zs : List Value} (h : lendAs st.heap us = some vs) (hr : RA w ro lam us zs.toArray) :
    vs.length = zs.length ∧ ∀ (j : Nat) (c : V) (x : Value), vs[j]? = some c → zs[j]? = some x → R0 w (roOwn ro lam) c x := by
  obtain ⟨h1, h2⟩ := lendAs_at _ us vs h
  have hl : zs.length = us.length := by simpa using hr.1
  refine ⟨by omega, fun j c x hc hx => ?_⟩
  obtain ⟨u, hu, huc⟩ := h2 j c hc
  exact lendA_sound hs huc (hr.2 j u x hu (by simpa using hx))

theorem sim_ini {w : World} {ro : Nat → Prop} {args : Array Value} {vs : List V} (hro : ∀ b, ro b → b < w.heap.size) (hsz : args.size = vs.length) (hn : vs.length ≤ n) (hr : ∀ (j : Nat) (c : V) (x : Value), vs[j]? = some c → args[j]? = some x → R0 w ro c x) :
    Sim (.of w) n ro (fun _ => none) ⟨ini 0 vs, fun _ => none⟩ { tmps := args ++ Array.replicate (n - args.size) Go.undef, defers := [] } w := by
  refine ⟨Base.Keeps.refl _ _ _, rfl, by simp; omega, hro, fun t => ?_, fun key blk hk => (by cases hk), fun _ _ => rfl, fun key b m h => (by cases h), fun k1 k2 b m1 m2 h => (by cases h), fun key b h => (by cases h)⟩
  simp only [ini_at, Nat.not_lt_zero, if_false, Nat.sub_zero]
  by_cases ht : t < args.size
  · have h1 : vs[t]? = some (vs[t]'(by omega)) := List.getElem?_eq_getElem (by omega)
    have h2 : args[t]? = some args[t] := Array.getElem?_eq_getElem ht
    have h3 : (args ++ Array.replicate (n - args.size) Go.undef).getD t Go.undef = args[t] := by
      rw [Array.getD_eq_getD_getElem?, Array.getElem?_append_left ht, h2]; rfl
    rw [h3, h1]
    exact .pure _ _ (hr t _ _ h1 h2)
  · have h1 : vs[t]? = none := List.getElem?_eq_none (by omega)
    have h3 : (args ++ Array.replicate (n - args.size) Go.undef).getD t Go.undef = Go.undef := by
      rw [Array.getD_eq_getD_getElem?, Array.getElem?_append_right (by omega), Array.getElem?_replicate]
      split <;> rfl
    rw [h3, h1]
    exact .pure _ _ .undef
/-- A function's contract out of its body. -/
theorem pcall_of {f : FuncId} {fn : Func} {c : Code} {vs : List V} {v : V} (hf : P.funcs[f]? = some fn) (hb : fn.body = some c) (hn : vs.length ≤ fn.ntmps)
    (h : CW P fn.ntmps c (Fin P fn.results.toList (fun u => u = v)) ⟨ini 0 vs, fun _ => none⟩) : PCall P f vs v := by
  intro w ro args hro hsz hr
  refine calls_of_wp hf hb ?_
  have hs := sim_ini (n := fn.ntmps) hro hsz hn hr
  refine wp_mono (h (.of w) ro _ _ w hs) fun e a' w' hh => ?_
  obtain ⟨st', ro', lam', ⟨he, us, ws, h1, h2, h3⟩, hext, hs'⟩ := hh
  obtain ⟨zs, hz, hra⟩ := resL_sound hs' _ us h1
  obtain ⟨hlen, hat⟩ := lendAs_RA hs' h2 hra
  have hrun := results_run fn a'.tmps w' hz
  have hfin : a'.defers = [] ∧ ∃ v', (results fn a'.tmps).run P w' = .ok v' w' ∧
      (fun e w' => ∃ rv ro', e = Ending.returned rv ∧ Below w.heap.size w w' ∧ (∀ b, ro b → ro' b) ∧ (∀ b, ro' b → ro b ∨ w.heap.size ≤ b) ∧ (∀ b, ro' b → b < w'.heap.size) ∧ R0 w' ro' v rv) (.returned v') w' := by
    refine ⟨hs'.dfr, _, hrun, _, roOwn ro' lam', rfl, hs'.below.below, fun b hb => .inl (hext.1 b hb), fun b hb => ?_, fun b hb => ?_, ?_⟩
    · rcases hb with hb | ⟨key, hb⟩
      · exact (hext.2 b hb).imp id (fun h => h.resolve_left (fun h => h))
      · exact .inr ((hs'.ob hb).1.resolve_left (fun h => h))
    · rcases hb with hb | ⟨key, hb⟩
      · exact hs'.rolt b hb
      · exact (hs'.ob hb).2.1
    · subst h3
      by_cases hone : zs.length = 1
      · obtain ⟨x, rfl⟩ := List.length_eq_one_iff.1 hone
        obtain ⟨y, rfl⟩ := List.length_eq_one_iff.1 (hlen.trans hone)
        simp only [List.size_toArray, List.length_cons, List.length_nil, dite_true, one]
        exact hat 0 y x rfl rfl
      · have : one ws = .tup ws := by
          unfold one
          split
          · rename_i y; rw [← hlen] at hone; simp at hone
          · rfl
        rw [this, dif_neg (by simpa using hone)]
        exact .tup _ _ (by simpa using hlen.symm) fun j c x hc hx => hat j c x hc (by simpa using hx)
  rcases he with rfl | rfl
  · exact hfin
  · exact hfin

/-- The function ends; its results lie in memory of its own. -/
def FinF (P : Program) (rs : List ResultVar) (post : V → Prop) (e : Exit) (st : St) : Prop :=
  (e = .normal ∨ e = .ret) ∧ ∃ us vs, resL P st rs = some us ∧ lendAs st.heap us = some vs ∧ frAs us vs = true ∧ post (one vs)
theorem pfresh_of {f : FuncId} {fn : Func} {c : Code} {vs : List V} {v : V} (hf : P.funcs[f]? = some fn) (hb : fn.body = some c) (hn : vs.length ≤ fn.ntmps)
    (h : CW P fn.ntmps c (FinF P fn.results.toList (fun u => u = v)) ⟨ini 0 vs, fun _ => none⟩) : PFresh P f vs v := by
  intro w ro args hro hsz hr
  refine calls_of_wp hf hb ?_
  have hs := sim_ini (n := fn.ntmps) hro hsz hn hr
  refine wp_mono (h (.of w) ro _ _ w hs) fun e a' w' hh => ?_
  obtain ⟨st', ro', lam', ⟨he, us, ws, h1, h2, hfr, h3⟩, hext, hs'⟩ := hh
  obtain ⟨zs, hz, hra⟩ := resL_sound hs' _ us h1
  obtain ⟨hlen, _⟩ := lendAs_RA hs' h2 hra
  have hat := frAs_at hs' us ws h2 hfr zs (by simpa using hra.1) (fun j c x hc hx => hra.2 j c x hc (by simpa using hx))
  have hrun := results_run fn a'.tmps w' hz
  have hmono : ∀ {c : V} {x : Value}, R0 w' (ownP lam') c x → R0 w' (fun b => w.heap.size ≤ b ∧ b < w'.heap.size) c x := fun h => h.mono (fun _ _ => rfl) fun b hb => by
    obtain ⟨key, m, hl⟩ := hb
    exact ⟨(hs'.own key b m hl).1.resolve_left (fun h => h), (hs'.own key b m hl).2.1⟩
  have hfin : a'.defers = [] ∧ ∃ v', (results fn a'.tmps).run P w' = .ok v' w' ∧
      (fun e w' => ∃ rv, e = Ending.returned rv ∧ Below w.heap.size w w' ∧ R0 w' (fun b => w.heap.size ≤ b ∧ b < w'.heap.size) v rv) (.returned v') w' := by
    refine ⟨hs'.dfr, _, hrun, _, rfl, hs'.below.below, ?_⟩
    subst h3
    by_cases hone : zs.length = 1
    · obtain ⟨x, rfl⟩ := List.length_eq_one_iff.1 hone
      obtain ⟨y, rfl⟩ := List.length_eq_one_iff.1 (hlen.trans hone)
      simp only [List.size_toArray, List.length_cons, List.length_nil, dite_true, one]
      exact hmono (hat 0 y x rfl rfl)
    · have : one ws = .tup ws := by
        unfold one
        split
        · rename_i y; rw [← hlen] at hone; simp at hone
        · rfl
      rw [this, dif_neg (by simpa using hone)]
      exact .tup _ _ (by simpa using hlen.symm) fun j c x hc hx => hmono (hat j c x hc (by simpa using hx))
  rcases he with rfl | rfl
  · exact hfin
  · exact hfin
end

/-! ### gifts -/
def shC (c : Nat) : V → V
  | .sl k o l s => .sl (c + k) o l s
  | .ptr k o => .ptr (c + k) o
  | .mp k => .mp (c + k)
  | .vptr .. | .agg _ | .tup _ => .junk
  | v => v
def shA (c : Nat) : V → V
  | .agg cs => .agg (cs.map (shC c))
  | v => shC c v
def shT (c : Nat) : V → V
  | .tup vs => .tup (vs.map (shA c))
  | v => shA c v
section
variable {P : Program} {Γ : Tab} {n : Nat} {w0 : Base} {ro : Nat → Prop} {lam : Lam} {st : St} {a : Act} {w : World}
theorem R_shC {c : Nat} {lam' lamN : Lam} (hl : ∀ k y, lam' k = some y → lamN (c + k) = some y) {v : V} {x : Value} (h : R w ro lam' v x) : R w ro lamN (shC c v) x := by
  cases v with
  | sl k o l s =>
    rcases h.sl_inv with ⟨hv, rfl, rfl, rfl⟩ | ⟨b, m, cap, h1, h2, h3, h4, rfl⟩
    · exact .slv _ _ (hl _ _ hv)
    · exact .sl _ _ _ _ b m cap (hl _ _ h1) h2 h3 h4
  | ptr k o => obtain ⟨b, m, h1, rfl⟩ := h.ptr_inv; exact .ptr _ _ b m (hl _ _ h1)
  | mp k => obtain ⟨b, h1, rfl⟩ := h.mp_inv; exact .mp _ b (hl _ _ h1)
  | vptr _ _ _ => exact .pure _ _ (.junk _)
  | agg _ => exact .pure _ _ (.junk _)
  | tup _ => exact .pure _ _ (.junk _)
  | _ => exact .pure _ _ (h.pureC rfl)
theorem R_shA {c : Nat} {lam' lamN : Lam} (hl : ∀ k y, lam' k = some y → lamN (c + k) = some y) {v : V} {x : Value} (h : R w ro lam' v x) : R w ro lamN (shA c v) x := by
  cases v with
  | agg cs =>
    obtain ⟨arr, rfl, h1, h2⟩ := h.agg_inv
    refine .agg _ _ (by simpa using h1) fun j v y hv hy => ?_
    simp only [List.getElem?_map, Option.map_eq_some_iff] at hv
    obtain ⟨v', hv', rfl⟩ := hv
    exact R_shC hl (h2 j v' y hv' hy)
  | _ => exact R_shC hl h
theorem R_shT {c : Nat} {lam' lamN : Lam} (hl : ∀ k y, lam' k = some y → lamN (c + k) = some y) {v : V} {x : Value} (h : R w ro lam' v x) : R w ro lamN (shT c v) x := by
  cases v with
  | tup cs =>
    obtain ⟨arr, rfl, h1, h2⟩ := h.tup_inv
    refine .tup _ _ (by simpa using h1) fun j v y hv hy => ?_
    simp only [List.getElem?_map, Option.map_eq_some_iff] at hv
    obtain ⟨v', hv', rfl⟩ := hv
    exact R_shA hl (h2 j v' y hv' hy)
  | agg cs => exact R_shA hl h
  | _ => exact R_shC hl h
def freeK (c : Nat) : List (Nat × Blk) → (Nat → Option Blk) → Prop
  | [], _ => True
  | (k, _) :: bl, h => h (c + k) = none ∧ freeK c bl h
def putK (c : Nat) : List (Nat × Blk) → (Nat → Option Blk) → Nat → Option Blk
  | [], h => h
  | (k, b) :: bl, h => upd (putK c bl h) (c + k) (some ⟨b.ty, b.cells.map (shC c)⟩)
theorem putK_in {c : Nat} {h : Nat → Option Blk} : ∀ (bl : List (Nat × Blk)) (k : Nat) (b : Blk), blkOf bl k = some b → putK c bl h (c + k) = some ⟨b.ty, b.cells.map (shC c)⟩
  | [], k, b, e => by cases e
  | (k', b') :: bl, k, b, e => by
    simp only [blkOf] at e
    simp only [putK]
    by_cases hk : k = k'
    · subst hk; rw [if_pos rfl] at e; cases e; rw [upd_same]
    · rw [if_neg hk] at e
      rw [upd_ne _ _ (by omega)]
      exact putK_in bl k b e
theorem putK_out {c : Nat} {h : Nat → Option Blk} : ∀ (bl : List (Nat × Blk)) (key : Nat), (∀ k, key = c + k → blkOf bl k = none) → putK c bl h key = h key
  | [], key, _ => rfl
  | (k', b') :: bl, key, hn => by
    simp only [putK]
    have h1 : key ≠ c + k' := fun e => by have := hn k' e; simp [blkOf] at this
    rw [upd_ne _ _ h1]
    refine putK_out bl key fun k e => ?_
    have := hn k e
    simp only [blkOf] at this
    split at this
    · cases this
    · exact this
theorem freeK_at {c : Nat} {h : Nat → Option Blk} : ∀ (bl : List (Nat × Blk)) (k : Nat) (b : Blk), freeK c bl h → blkOf bl k = some b → h (c + k) = none
  | [], k, b, _, e => by cases e
  | (k', b') :: bl, k, b, hf, e => by
    simp only [blkOf] at e
    by_cases hk : k = k'
    · subst hk; exact hf.1
    · rw [if_neg hk] at e; exact freeK_at bl k b hf.2 e
open Classical in
noncomputable def lamG (c : Nat) (bl : List (Nat × Blk)) (lam lam' : Lam) : Lam := fun key => if ∃ k b, key = c + k ∧ blkOf bl k = some b then lam' (key - c) else lam key
theorem lamG_in {c : Nat} {bl : List (Nat × Blk)} {lam' : Lam} {k : Nat} {b : Blk} (h : blkOf bl k = some b) : lamG c bl lam lam' (c + k) = lam' k := by
  unfold lamG
  rw [if_pos ⟨k, b, rfl, h⟩, show c + k - c = k by omega]
theorem lamG_out {c : Nat} {bl : List (Nat × Blk)} {lam' : Lam} {key : Nat} (h : ∀ k, key = c + k → blkOf bl k = none) : lamG c bl lam lam' key = lam key := by
  unfold lamG
  rw [if_neg]
  rintro ⟨k, b, e, hb⟩
  rw [h k e] at hb; cases hb
theorem Sim.give (hs : Sim w0 n ro lam st a w) {w' : World} {ro' : Nat → Prop} {lam' : Lam} {bl : List (Nat × Blk)} {c : Nat} (hb : Below w.heap.size w w') (h1 : ∀ b, ro b → ro' b) (h2 : ∀ b, ro' b → ro b ∨ w.heap.size ≤ b) (hh : HS w' ro' lam' (blkOf bl)) (ho : ∀ b, ownB lam' b → w.heap.size ≤ b) (hf : freeK c bl st.heap) :
    Sim w0 n ro' (lamG c bl lam lam') ⟨st.env, putK c bl st.heap⟩ a w' ∧ ∀ v x, R w' ro' lam' v x → R w' ro' (lamG c bl lam lam') (shT c v) x := by
  have hs' := hs.world hb
  have hA : ∀ k y, lam k = some y → lamG c bl lam lam' k = some y := fun k y hk => by
    rw [lamG_out]; exact hk
    intro k' e
    cases hbk : blkOf bl k' with
    | none => rfl
    | some b =>
      have h3 := freeK_at bl k' b hf hbk
      rw [← e] at h3
      rw [hs.dead k h3] at hk; cases hk
  have hB : ∀ k y, lam' k = some y → lamG c bl lam lam' (c + k) = some y := fun k y hk => by
    cases hbk : blkOf bl k with
    | none => rw [hh.dead k hbk] at hk; cases hk
    | some b => rw [lamG_in hbk]; exact hk
  have hC : ∀ key y, lamG c bl lam lam' key = some y → lam key = some y ∨ ∃ k, key = c + k ∧ lam' k = some y := fun key y hk => by
    by_cases hx : ∃ k b, key = c + k ∧ blkOf bl k = some b
    · obtain ⟨k, b, rfl, hbk⟩ := hx
      rw [lamG_in hbk] at hk; exact .inr ⟨k, rfl, hk⟩
    · rw [lamG_out] at hk
      · exact .inl hk
      · intro k e
        cases hbk : blkOf bl k with
        | none => rfl
        | some b => exact (hx ⟨k, b, e, hbk⟩).elim
  have hm : ∀ {v x}, R w' ro lam v x → R w' ro' (lamG c bl lam lam') v x := fun hr => hr.mono (fun _ _ => rfl) h1 hA
  have hold : ∀ key b, lamB lam key b → b < w.heap.size := fun key b hl => (hs.ob hl).2.1
  have hnew : ∀ key b, lamB lam' key b → w.heap.size ≤ b := fun key b hl => ho b ⟨key, hl⟩
  refine ⟨⟨hs'.below, hs'.dfr, hs'.size, hh.rolt, fun t => hm (hs'.env t), fun key blk hk => ?_, fun key hk => ?_, fun key b m hl => ?_, fun k1 k2 b m1 m2 e1 e2 => ?_, fun key b hl => ?_⟩, fun v x hr => R_shT hB hr⟩
  · by_cases hx : ∃ k b, key = c + k ∧ blkOf bl k = some b
    · obtain ⟨k, b, rfl, hbk⟩ := hx
      simp only [putK_in bl k b hbk, Option.some.injEq] at hk
      subst hk
      rcases hh.heap k b hbk with ⟨hv, hc⟩ | ⟨b', o, hl, hw, hso⟩ | ⟨b', m, arr, hl, hw, hsz, hle, hr⟩
      · exact .inl ⟨hB _ _ hv, by simp [hc]⟩
      · refine .inr (.inl ⟨b', o, hB _ _ hl, hw, ?_⟩)
        obtain ⟨ents, clk, rfl, hz, hr⟩ := hso
        refine ⟨ents, clk, rfl, by simpa using hz, fun j kk e hk he => ?_⟩
        simp only [List.getElem?_map, Option.map_eq_some_iff] at hk
        obtain ⟨k0, hk0, rfl⟩ := hk
        obtain ⟨g1, g2⟩ := hr j k0 e hk0 he
        exact ⟨g1, by cases k0 <;> first | exact g2 | trivial⟩
      · refine .inr (.inr ⟨b', m, arr, hB _ _ hl, hw, hsz, by simpa using hle, fun j cc x hc hx => ?_⟩)
        simp only [List.getElem?_map, Option.map_eq_some_iff] at hc
        obtain ⟨c0, hc0, rfl⟩ := hc
        exact R_shC hB (hr j c0 x hc0 hx)
    · have hno : ∀ k, key = c + k → blkOf bl k = none := fun k e => by
        cases hbk : blkOf bl k with
        | none => rfl
        | some b => exact (hx ⟨k, b, e, hbk⟩).elim
      rw [show (⟨st.env, putK c bl st.heap⟩ : St).heap key = putK c bl st.heap key from rfl, putK_out bl key hno] at hk
      rcases hs'.heap key blk hk with ⟨hv, hc⟩ | ⟨b', o, hl, hw, hso⟩ | ⟨b', m, arr, hl, hw, hsz, hle, hr⟩
      · exact .inl ⟨hA _ _ hv, hc⟩
      · exact .inr (.inl ⟨b', o, hA _ _ hl, hw, hso⟩)
      · exact .inr (.inr ⟨b', m, arr, hA _ _ hl, hw, hsz, hle, fun j cc x hc hx => hm (hr j cc x hc hx)⟩)
  · have hno : ∀ k, key = c + k → blkOf bl k = none := fun k e => by
      cases hbk : blkOf bl k with
      | none => rfl
      | some b =>
        subst e
        rw [show (⟨st.env, putK c bl st.heap⟩ : St).heap (c + k) = putK c bl st.heap (c + k) from rfl, putK_in bl k b hbk] at hk
        cases hk
    rw [show (⟨st.env, putK c bl st.heap⟩ : St).heap key = putK c bl st.heap key from rfl, putK_out bl key hno] at hk
    rw [lamG_out hno]
    exact hs.dead key hk
  · rcases hC _ _ hl with h | ⟨k, rfl, h⟩
    · obtain ⟨o1, o2, o3⟩ := hs.own key b m h
      exact ⟨o1, Nat.lt_of_lt_of_le o2 hb.size, fun hr => (h2 b hr).elim o3 (fun h => by omega)⟩
    · obtain ⟨o1, o2, o3⟩ := hh.own k b m h
      exact ⟨.inr (Nat.le_trans hs.below.size (hnew k b (.inl ⟨m, h⟩))), o2, o3⟩
  · rcases hC _ _ e1 with f1 | ⟨k1', rfl, f1⟩ <;> rcases hC _ _ e2 with f2 | ⟨k2', rfl, f2⟩
    · exact hs.inj _ _ _ _ _ f1 f2
    · have g1 := hold _ _ (.inl ⟨_, f1⟩)
      have g2 := hnew _ _ (.inl ⟨_, f2⟩)
      omega
    · have g1 := hold _ _ (.inl ⟨_, f2⟩)
      have g2 := hnew _ _ (.inl ⟨_, f1⟩)
      omega
    · rw [hh.inj _ _ _ _ _ f1 f2]
  · rcases hC _ _ hl with h | ⟨k, rfl, h⟩
    · obtain ⟨⟨o1, o2, o3⟩, o4⟩ := hs.maps key b h
      refine ⟨⟨o1, Nat.lt_of_lt_of_le o2 hb.size, fun hr => (h2 b hr).elim o3 (fun h => by omega)⟩, fun key' hk' => ?_⟩
      rcases hC _ _ hk' with h' | ⟨k', rfl, h'⟩
      · exact o4 _ h'
      · have g2 := hnew _ _ (.inr h')
        omega
    · obtain ⟨⟨o1, o2, o3⟩, o4⟩ := hh.maps k b h
      have g2 := hnew _ _ (.inr h)
      refine ⟨⟨.inr (Nat.le_trans hs.below.size g2), o2, o3⟩, fun key' hk' => ?_⟩
      rcases hC _ _ hk' with h' | ⟨k', rfl, h'⟩
      · have g1 := hold _ _ (.inr h')
        omega
      · rw [o4 _ h']

def giveV (Γ : Tab) (h : Nat → Option Blk) (f : FuncId) (xs : List V) : Option (V × List (Nat × Blk)) := match lendAs h xs with
  | some vs => bif xs.all (fun x => !ownA x) then Γ.gv f vs else none
  | none => none
theorem lendA_pure {h : Nat → Option Blk} {c : V} (hc : ownA c = false) : lendA h c = some c := by
  cases c with
  | agg cs =>
    have : ∀ l : List V, l.any ownC = false → lendL h l = some l := by
      intro l
      induction l with
      | nil => intro _; rfl
      | cons y ys ih =>
        intro hy
        simp only [List.any_cons, Bool.or_eq_false_iff] at hy
        simp only [lendL, ih hy.2]
        cases y <;> simp [ownC] at hy <;> rfl
    simp only [lendA, this cs hc, Option.map_some]
  | sl _ _ _ _ => simp [ownA, ownC] at hc
  | ptr _ _ => simp [ownA, ownC] at hc
  | vptr _ _ _ => simp [ownA, ownC] at hc
  | mp _ => simp [ownA, ownC] at hc
  | tup _ => simp [ownA, ownC] at hc
  | _ => rfl
theorem giveV_sound (hΓ : TabOK P Γ) (hs : Sim w0 n ro lam st a w) {f : FuncId} {xs : List V} {u : V} {bl : List (Nat × Blk)} {args : Array Value} (hg : Γ.gb f = true) (h : giveV Γ st.heap f xs = some (u, bl)) (hl : args.size = xs.length)
    (hr : ∀ (j : Nat) (c : V) (x : Value), xs[j]? = some c → args[j]? = some x → R w ro lam c x) {c : Nat} (hf : freeK c bl st.heap) :
    callable P f = true ∧ Calls P f args w fun e w' => ∃ rv ro' lam', e = .returned rv ∧ Ext w0 ro ro' ∧ Sim w0 n ro' lam' ⟨st.env, putK c bl st.heap⟩ a w' ∧ R w' ro' lam' (shT c u) rv := by
  unfold giveV at h
  split at h
  · rename_i vs hvs
    simp only [cond_eq_ite] at h
    split at h
    · rename_i hpure
      obtain ⟨hc, hp⟩ := hΓ.2 f vs u bl hg h
      obtain ⟨i1, i2⟩ := lendAs_at _ xs vs hvs
      refine ⟨hc, (hp w ro args hs.rolt (by rw [hl, i1]) fun j c x hc hx => ?_).mono fun e w' hh => ?_⟩
      · obtain ⟨v, hv, hvc⟩ := i2 j c hc
        have hpu : ownA v = false := by simpa using all_at hpure hv
        rw [lendA_pure hpu] at hvc
        simp only [Option.some.injEq] at hvc
        subst hvc
        exact (hr j v x hv hx).pureA hpu
      · obtain ⟨rv, ro', lam', rfl, hb, k1, k2, hh, ho, hrv⟩ := hh
        obtain ⟨g1, g2⟩ := hs.give hb k1 k2 hh ho hf
        exact ⟨rv, ro', _, rfl, ⟨k1, fun b hb' => (k2 b hb').imp id (fun h => .inr (Nat.le_trans hs.below.size h))⟩, g1, g2 _ _ hrv⟩
    · cases h
  · cases h
end
end Go.Pv
end
section
namespace Go.Pv
open Go.RowKit
set_option linter.unusedSimpArgs false
set_option linter.unusedVariables false

section
variable {P : Program} {Γ : Tab} {n : Nat} {ops : Array Oper} {K : St → Prop} {st : St}

/-- A run in the order of the text; that each destination lies in the frame is looked at once for the whole region. -/
def stepG (P : Program) (Γ : Tab) (ops : Array Oper) (o : Oper) (st : St) : Option St := match wantV ops st o.guard with
  | some true => stepOp P Γ st o.dst o.op
  | some false => some (st.put o.dst .undef)
  | none => none
def evG (P : Program) (Γ : Tab) (ops : Array Oper) : List Oper → St → Option St
  | [], st => some st
  | o :: rest, st => (stepG P Γ ops o st).bind (evG P Γ ops rest)
theorem evG_eq : ∀ (l : List Oper) (st : St), l.all (fun o => fits n o.dst) = true → evL P Γ n ops l st = evG P Γ ops l st
  | [], _, _ => rfl
  | o :: l, st, h => by
    simp only [List.all_cons, Bool.and_eq_true] at h
    simp only [evL, evG, stepO, h.1, cond_true]
    have : evL P Γ n ops l = evG P Γ ops l := funext fun s => evG_eq l s h.2
    rw [this]; rfl
def eg (P : Program) (Γ : Tab) (ops : Array Oper) (l : List Oper) (K : St → Prop) (st : St) : Prop := ∃ st', evG P Γ ops l st = some st' ∧ K st'
theorem ew_of_eg {l : List Oper} (h : l.all (fun o => fits n o.dst) = true) (hh : eg P Γ ops l K st) : ew P Γ n ops l K st := by
  obtain ⟨s, h1, h2⟩ := hh
  exact ⟨s, by rw [evG_eq l st h]; exact h1, h2⟩
theorem eg_nil : eg P Γ ops [] K st ↔ K st := by simp [eg, evG]
/-- One operation. -/
def sw (P : Program) (Γ : Tab) (st : St) (dst : Option Tmp) (op : Op) (K : St → Prop) : Prop := ∃ st', stepOp P Γ st dst op = some st' ∧ K st'
/-- Holds simp off from what it speaks of. -/
structure Tok (A B : Prop) : Type where
/-- A guard. -/
def gw (w : Option Bool) (A B : Prop) (_ : Tok A B) : Prop := match w with
  | some true => A
  | some false => B
  | none => False
theorem eg_cons {o : Oper} {rest : List Oper} :
    eg P Γ ops (o :: rest) K st ↔ gw (wantV ops st o.guard) (sw P Γ st o.dst o.op (eg P Γ ops rest K)) (eg P Γ ops rest K (st.put o.dst .undef)) ⟨⟩ := by
  simp only [eg, evG, sw, stepG, Option.bind_eq_some_iff]
  cases hw : wantV ops st o.guard with
  | none => simp [gw]
  | some b =>
    cases b
    · simp only [gw, Option.some.injEq]
      constructor
      · rintro ⟨s, ⟨s1, h1, h2⟩, h3⟩; subst h1; exact ⟨s, h2, h3⟩
      · rintro ⟨s, h2, h3⟩; exact ⟨s, ⟨_, rfl, h2⟩, h3⟩
    · simp only [gw]
      constructor
      · rintro ⟨s, ⟨s1, h1, h2⟩, h3⟩; exact ⟨s1, h1, s, h2, h3⟩
      · rintro ⟨s1, h1, s, h2, h3⟩; exact ⟨s, ⟨s1, h1, h2⟩, h3⟩
theorem eg_plain {dst : Option Tmp} {op : Op} {ty : TypeId} {pos : String} {aft : Array Edge} {rest : List Oper} :
    eg P Γ ops (⟨dst, op, ty, pos, aft, none⟩ :: rest) K st ↔ sw P Γ st dst op (eg P Γ ops rest K) := by
  rw [eg_cons]; rfl
def wantOf (v : V) (want : Bool) : Option Bool := match v with
  | .bool b => some (b == want)
  | .undef => some false
  | _ => none
theorem wantOf_t {b : Bool} : wantOf (.bool b) true = some b := by cases b <;> rfl
theorem wantOf_f {b : Bool} : wantOf (.bool b) false = some (!b) := by cases b <;> rfl
theorem wantOf_undef {want : Bool} : wantOf .undef want = some false := rfl
/-- The temporary that a guard looks at. -/
def gtmp (ops : Array Oper) (j : Nat) : Option Tmp := (ops[j]?).bind (·.dst)
def gwant (d : Option Tmp) (st : St) (want : Bool) : Option Bool := match d with
  | some d => wantOf (st.env d) want
  | none => some false
theorem eg_guard {dst : Option Tmp} {op : Op} {ty : TypeId} {pos : String} {aft : Array Edge} {rest : List Oper} {j : Nat} {want : Bool} :
    eg P Γ ops (⟨dst, op, ty, pos, aft, some (j, want)⟩ :: rest) K st ↔ gw (gwant (gtmp ops j) st want) (sw P Γ st dst op (eg P Γ ops rest K)) (eg P Γ ops rest K (st.put dst .undef)) ⟨⟩ := by
  rw [eg_cons]
  have : wantV ops st (some (j, want)) = gwant (gtmp ops j) st want := by
    unfold wantV gwant gtmp wantOf
    generalize hq : (ops[j]?).bind (fun o => o.dst) = q
    cases q with
    | none => simp only [hq]
    | some d =>
      simp only [hq]
      cases st.env d <;> rfl
  rw [this]
theorem gtmp_zero {o : Oper} {l : List Oper} : gtmp (o :: l).toArray 0 = o.dst := by simp [gtmp]
theorem gtmp_succ {o : Oper} {l : List Oper} {j : Nat} : gtmp (o :: l).toArray (j + 1) = gtmp l.toArray j := by simp [gtmp]
theorem gwant_some {e : Nat → V} {h : Nat → Option Blk} {d : Tmp} {want : Bool} : gwant (some d) ⟨e, h⟩ want = wantOf (e d) want := rfl
theorem gw_true {A B : Prop} {t : Tok A B} : gw (some true) A B t ↔ A := Iff.rfl
theorem gw_false {A B : Prop} {t : Tok A B} : gw (some false) A B t ↔ B := Iff.rfl
theorem gw_not {A B : Prop} {t : Tok A B} {b : Bool} : gw (some (!b)) A B t ↔ gw (some b) B A ⟨⟩ := by cases b <;> exact Iff.rfl
theorem gw_bool {A B : Prop} {t : Tok A B} {b : Bool} (h1 : b = true → A) (h2 : b = false → B) : gw (some b) A B t := by cases b; exact h2 rfl; exact h1 rfl

/-- A value is put. -/
def pw (m : Option V) (st : St) (dst : Option Tmp) (K : St → Prop) : Prop := ∃ v, m = some v ∧ K (st.put dst v)
theorem pw_some {v : V} {e : Nat → V} {h : Nat → Option Blk} {d : Tmp} : pw (some v) ⟨e, h⟩ (some d) K ↔ K ⟨upd e d v, h⟩ := by simp [pw, St.put]
theorem pw_cond {c : Bool} {m : Option V} {dst : Option Tmp} : pw (bif c then m else none) st dst K ↔ c = true ∧ pw m st dst K := by cases c <;> simp [pw]
theorem pw_ite {c : Prop} [Decidable c] {m : Option V} {dst : Option Tmp} : pw (if c then m else none) st dst K ↔ c ∧ pw m st dst K := by by_cases h : c <;> simp [pw, h]
theorem pw_map {α : Type} {f : α → V} {m : Option α} {dst : Option Tmp} : pw (m.map f) st dst K ↔ ∃ x, m = some x ∧ pw (some (f x)) st dst K := by
  simp only [pw, Option.map_eq_some_iff, Option.some.injEq]
  constructor
  · rintro ⟨v, ⟨x, h1, rfl⟩, h2⟩; exact ⟨x, h1, _, rfl, h2⟩
  · rintro ⟨x, h1, v, rfl, h2⟩; exact ⟨_, ⟨x, h1, rfl⟩, h2⟩
theorem put_mk {e : Nat → V} {h : Nat → Option Blk} {d : Tmp} {v : V} : (⟨e, h⟩ : St).put (some d) v = ⟨upd e d v, h⟩ := rfl
theorem sw_01 {dst : Option Tmp} {op : Op} (hk : (decide (kind op ≤ 1)) = true) : sw P Γ st dst op K ↔ pw (ev01 P Γ st.heap (ev st) op) st dst K := by
  have hk' : kind op ≤ 1 := by simpa using hk
  unfold sw stepOp pw
  rcases (show kind op = 0 ∨ kind op = 1 by omega) with h | h <;> simp only [h, Option.map_eq_some_iff] <;>
  · constructor
    · rintro ⟨s, ⟨v, h1, rfl⟩, h2⟩; exact ⟨v, h1, h2⟩
    · rintro ⟨v, h1, h2⟩; exact ⟨_, ⟨v, h1, rfl⟩, h2⟩
/-- A block is made. -/
def aw (m : Option (V × Blk)) (e : Nat → V) (h : Nat → Option Blk) (d : Nat) (K : St → Prop) : Prop := h d = none ∧ ∃ p, m = some p ∧ K ⟨upd e d p.1, upd h d (some p.2)⟩
theorem sw_2 {d : Tmp} {op : Op} {e : Nat → V} {h : Nat → Option Blk} (hk : (decide (kind op = 2)) = true) : sw P Γ ⟨e, h⟩ (some d) op K ↔ aw (ev2 P (ev ⟨e, h⟩) d op) e h d K := by
  have hk' : kind op = 2 := by simpa using hk
  unfold sw stepOp aw
  simp only [hk']
  cases hd : h d with
  | none =>
    simp only [Option.map_eq_some_iff, true_and]
    constructor
    · rintro ⟨s, ⟨v, h1, rfl⟩, h2⟩; exact ⟨v, h1, h2⟩
    · rintro ⟨v, h1, h2⟩; exact ⟨_, ⟨v, h1, rfl⟩, h2⟩
  | some b => simp
theorem aw_some {v : V} {b : Blk} {e : Nat → V} {h : Nat → Option Blk} {d : Nat} : aw (some (v, b)) e h d K ↔ h d = none ∧ K ⟨upd e d v, upd h d (some b)⟩ := by simp [aw]
theorem aw_cond {c : Bool} {m : Option (V × Blk)} {e : Nat → V} {h : Nat → Option Blk} {d : Nat} : aw (bif c then m else none) e h d K ↔ c = true ∧ aw m e h d K := by cases c <;> simp [aw]
/-- A block is written. -/
def tw (m : Option (Nat → Option Blk)) (e : Nat → V) (K : St → Prop) : Prop := ∃ h, m = some h ∧ K ⟨e, h⟩
theorem sw_store {t : TypeId} {x y : Operand} {e : Nat → V} {h : Nat → Option Blk} : sw P Γ ⟨e, h⟩ none (.store t x y) K ↔ tw (storeV P h t (ev ⟨e, h⟩ x) (ev ⟨e, h⟩ y)) e K := by
  unfold sw stepOp tw
  simp only [kind, ev3, Option.map_map, Option.map_eq_some_iff]
  constructor
  · rintro ⟨s, ⟨v, h1, rfl⟩, h2⟩; exact ⟨v, h1, h2⟩
  · rintro ⟨v, h1, h2⟩; exact ⟨_, ⟨v, h1, rfl⟩, h2⟩
theorem sw_mapUpdate {t : TypeId} {x y z : Operand} {e : Nat → V} {h : Nat → Option Blk} : sw P Γ ⟨e, h⟩ none (.mapUpdate t x y z) K ↔ tw (mupdV P h t (ev ⟨e, h⟩ x) (ev ⟨e, h⟩ y) (ev ⟨e, h⟩ z)) e K := by
  unfold sw stepOp tw
  simp only [kind, ev3, Option.map_map, Option.map_eq_some_iff]
  constructor
  · rintro ⟨s, ⟨v, h1, rfl⟩, h2⟩; exact ⟨v, h1, h2⟩
  · rintro ⟨v, h1, h2⟩; exact ⟨_, ⟨v, h1, rfl⟩, h2⟩
theorem sw_insert {t : TypeId} {x y z : Operand} {e : Nat → V} {h : Nat → Option Blk} : sw P Γ ⟨e, h⟩ none (.insert t x y z) K ↔ tw (mupdV P h t (ev ⟨e, h⟩ x) (ev ⟨e, h⟩ y) (ev ⟨e, h⟩ z)) e K := by
  unfold sw stepOp tw
  simp only [kind, ev3, Option.map_map, Option.map_eq_some_iff]
  constructor
  · rintro ⟨s, ⟨v, h1, rfl⟩, h2⟩; exact ⟨v, h1, h2⟩
  · rintro ⟨v, h1, h2⟩; exact ⟨_, ⟨v, h1, rfl⟩, h2⟩
/-- A new map. -/
theorem sw_makeMap {e : Nat → V} {h : Nat → Option Blk} {d : Tmp} {t : TypeId} : sw P Γ ⟨e, h⟩ (some d) (.makeMap t none) K ↔ h d = none ∧ K ⟨upd e d (.mp d), upd h d (some ⟨t, []⟩)⟩ := by
  unfold sw stepOp
  simp only [kind, ev3]
  cases hd : h d with
  | none => simp [St.put]
  | some b => simp
theorem tw_some {e : Nat → V} {h : Nat → Option Blk} : tw (some h) e K ↔ K ⟨e, h⟩ := by simp [tw]
theorem tw_cond {c : Bool} {m : Option (Nat → Option Blk)} {e : Nat → V} : tw (bif c then m else none) e K ↔ c = true ∧ tw m e K := by cases c <;> simp [tw]
/-- append. -/
def bw (m : Option (V × St)) (d : Tmp) (K : St → Prop) : Prop := ∃ p, m = some p ∧ K (p.2.put (some d) p.1)
theorem sw_append {t t' : TypeId} {x y : Operand} {d : Tmp} (ht : (t == t') = true) : sw P Γ st (some d) (.call ⟨.builtin .append, #[x, y], #[t, t']⟩) K ↔ bw (appendV P st d t (ev st x) (ev st y)) d K := by
  have ht' : t = t' := by simpa using ht
  subst ht'
  unfold sw stepOp bw
  simp only [kind, kindC, ev3, decide_true, cond_true, Option.map_eq_some_iff]
  constructor
  · rintro ⟨s, ⟨v, h1, rfl⟩, h2⟩; exact ⟨v, h1, h2⟩
  · rintro ⟨v, h1, h2⟩; exact ⟨_, ⟨v, h1, rfl⟩, h2⟩
theorem sw_copy {t t' : TypeId} {x y : Operand} {d : Tmp} (ht : (t == t') = true) : sw P Γ st (some d) (.call ⟨.builtin .copy, #[x, y], #[t, t']⟩) K ↔ bw (copyV P st t (ev st x) (ev st y)) d K := by
  have ht' : t = t' := by simpa using ht
  subst ht'
  unfold sw stepOp bw
  simp only [kind, kindC, ev3, decide_true, cond_true, Option.map_eq_some_iff]
  constructor
  · rintro ⟨s, ⟨v, h1, rfl⟩, h2⟩; exact ⟨v, h1, h2⟩
  · rintro ⟨v, h1, h2⟩; exact ⟨_, ⟨v, h1, rfl⟩, h2⟩
theorem bw_some {v : V} {e : Nat → V} {h : Nat → Option Blk} {d : Tmp} : bw (some (v, ⟨e, h⟩)) d K ↔ K ⟨upd e d v, h⟩ := by simp [bw, St.put]
theorem bw_cond {c : Bool} {m : Option (V × St)} {d : Tmp} : bw (bif c then m else none) d K ↔ c = true ∧ bw m d K := by cases c <;> simp [bw]

/-! ### a region that draws, with stores into blocks that are known -/
def egA (P : Program) (Γ : Tab) (ops : Array Oper) (ks : Ann) (j : Nat) (l : List Oper) (K : St → Prop) (st : St) : Prop := ∃ st', evA P Γ ops ks j l st = some st' ∧ K st'
theorem egA_nil {ks : Ann} {j : Nat} : egA P Γ ops ks j [] K st ↔ K st := by simp [egA, evA]
/-- One operation of such a region. -/
def swA (P : Program) (Γ : Tab) (ks : Ann) (j : Nat) (st : St) (dst : Option Tmp) (op : Op) (K : St → Prop) : Prop := ∃ st', (match lk ks j with
    | some K => (match op, dst with
      | .store t a u, none => (match ev st a with
        | .ptr K' _ => bif K' == K then (storeV P st.heap t (ev st a) (ev st u)).map (fun h => { st with heap := h }) else none
        | _ => none)
      | _, _ => none)
    | none => bif decide (kind op ≤ 1) then (ev01 P Γ (msk ks j st.heap) (ev st) op).map (st.put dst) else bif decide (kind op = 2) then stepOp P Γ st dst op else none) = some st' ∧ K st'
theorem egA_cons {ks : Ann} {j : Nat} {o : Oper} {rest : List Oper} :
    egA P Γ ops ks j (o :: rest) K st ↔ gw (wantV ops st o.guard) (swA P Γ ks j st o.dst o.op (egA P Γ ops ks (j + 1) rest K)) (egA P Γ ops ks (j + 1) rest K (st.put o.dst .undef)) ⟨⟩ := by
  simp only [egA, evA, swA, stepA, Option.bind_eq_some_iff]
  cases hw : wantV ops st o.guard with
  | none => simp [gw]
  | some b =>
    cases b
    · simp only [gw, Option.some.injEq]
      constructor
      · rintro ⟨s, ⟨s1, h1, h2⟩, h3⟩; subst h1; exact ⟨s, h2, h3⟩
      · rintro ⟨s, h2, h3⟩; exact ⟨s, ⟨_, rfl, h2⟩, h3⟩
    · simp only [gw]
      constructor
      · rintro ⟨s, ⟨s1, h1, h2⟩, h3⟩; exact ⟨s1, h1, s, h2, h3⟩
      · rintro ⟨s1, h1, s, h2, h3⟩; exact ⟨s, ⟨s1, h1, h2⟩, h3⟩
theorem egA_plain {ks : Ann} {j : Nat} {dst : Option Tmp} {op : Op} {ty : TypeId} {pos : String} {aft : Array Edge} {rest : List Oper} :
    egA P Γ ops ks j (⟨dst, op, ty, pos, aft, none⟩ :: rest) K st ↔ swA P Γ ks j st dst op (egA P Γ ops ks (j + 1) rest K) := by
  rw [egA_cons]; rfl
theorem egA_guard {ks : Ann} {i : Nat} {dst : Option Tmp} {op : Op} {ty : TypeId} {pos : String} {aft : Array Edge} {rest : List Oper} {j : Nat} {want : Bool} :
    egA P Γ ops ks i (⟨dst, op, ty, pos, aft, some (j, want)⟩ :: rest) K st ↔ gw (gwant (gtmp ops j) st want) (swA P Γ ks i st dst op (egA P Γ ops ks (i + 1) rest K)) (egA P Γ ops ks (i + 1) rest K (st.put dst .undef)) ⟨⟩ := by
  rw [egA_cons]
  have : wantV ops st (some (j, want)) = gwant (gtmp ops j) st want := by
    unfold wantV gwant gtmp wantOf
    generalize hq : (ops[j]?).bind (fun o => o.dst) = q
    cases q with
    | none => simp only [hq]
    | some d =>
      simp only [hq]
      cases st.env d <;> rfl
  rw [this]
/-- By where it goes: a store into a known block; else, by what it is. -/
def swB (P : Program) (Γ : Tab) (ks : Ann) (j : Nat) (k : Option Nat) (st : St) (dst : Option Tmp) (op : Op) (K : St → Prop) : Prop := match k with
  | some k => ∃ t a u off h, op = .store t a u ∧ dst = none ∧ ev st a = .ptr k off ∧ storeV P st.heap t (ev st a) (ev st u) = some h ∧ K ⟨st.env, h⟩
  | none => (kind op ≤ 1 ∧ sw P Γ ⟨st.env, msk ks j st.heap⟩ dst op (fun s => K ⟨s.env, st.heap⟩)) ∨ (kind op = 2 ∧ sw P Γ st dst op K)
theorem swA_B {ks : Ann} {j : Nat} {dst : Option Tmp} {op : Op} : swA P Γ ks j st dst op K ↔ swB P Γ ks j (lk ks j) st dst op K := by
  unfold swA swB
  cases hl : lk ks j with
  | some k =>
    simp only
    constructor
    · rintro ⟨s, h1, h2⟩
      split at h1
      · rename_i t a u
        split at h1
        · rename_i k' off ha
          simp only [cond_eq_ite, beq_iff_eq] at h1
          split at h1
          · rename_i hk; subst hk
            simp only [Option.map_eq_some_iff] at h1
            obtain ⟨h, h3, rfl⟩ := h1
            exact ⟨t, a, u, off, h, rfl, rfl, ha, h3, h2⟩
          · cases h1
        · cases h1
      · cases h1
    · rintro ⟨t, a, u, off, h, rfl, rfl, ha, h3, h2⟩
      refine ⟨_, ?_, h2⟩
      rw [ha] at h3
      simp only [ha, beq_self_eq_true, cond_true, h3, Option.map_some]
  | none =>
    simp only
    by_cases hk : kind op ≤ 1
    · simp only [hk, decide_true, cond_true, true_and, show ¬ kind op = 2 by omega, false_and, or_false]
      rw [sw_01 (by simpa using hk)]
      have he : ev (⟨st.env, msk ks j st.heap⟩ : St) = ev st := by funext x; cases x <;> rfl
      simp only [pw, he, Option.map_eq_some_iff]
      constructor
      · rintro ⟨s, ⟨v, h1, rfl⟩, h2⟩; exact ⟨v, h1, by cases dst <;> exact h2⟩
      · rintro ⟨v, h1, h2⟩; exact ⟨_, ⟨v, h1, rfl⟩, by cases dst <;> exact h2⟩
    · simp only [hk, decide_false, cond_false, false_and, false_or]
      by_cases h2 : kind op = 2
      · simp only [h2, decide_true, cond_true, true_and]; rfl
      · simp [h2]
def ptrIs (v : V) (k : Nat) : Bool := match v with
  | .ptr k' _ => k' == k
  | _ => false
theorem swB_store {ks : Ann} {j k : Nat} {e : Nat → V} {h : Nat → Option Blk} {t : TypeId} {x y : Operand} :
    swB P Γ ks j (some k) ⟨e, h⟩ none (.store t x y) K ↔ ptrIs (ev ⟨e, h⟩ x) k = true ∧ tw (storeV P h t (ev ⟨e, h⟩ x) (ev ⟨e, h⟩ y)) e K := by
  unfold swB tw ptrIs
  constructor
  · rintro ⟨t', a, u, off, h', h1, _, h3, h4, h5⟩
    cases h1
    exact ⟨by simp [h3], h', h4, h5⟩
  · rintro ⟨h1, h', h2, h3⟩
    split at h1
    · rename_i k' off hk
      simp only [beq_iff_eq] at h1; subst h1
      exact ⟨t, x, y, off, h', rfl, rfl, hk, h2, h3⟩
    · cases h1
theorem swB_01 {ks : Ann} {j : Nat} {e : Nat → V} {h : Nat → Option Blk} {dst : Option Tmp} {op : Op} (hk : Nat.ble (kind op) 1 = true) : swB P Γ ks j none ⟨e, h⟩ dst op K ↔ sw P Γ ⟨e, msk ks j h⟩ dst op (fun s => K ⟨s.env, h⟩) := by
  have hk' : kind op ≤ 1 := Nat.le_of_ble_eq_true hk
  simp [swB, hk', show ¬ kind op = 2 by omega]
theorem swB_2 {ks : Ann} {j : Nat} {e : Nat → V} {h : Nat → Option Blk} {dst : Option Tmp} {op : Op} (hk : Nat.beq (kind op) 2 = true) : swB P Γ ks j none ⟨e, h⟩ dst op K ↔ sw P Γ ⟨e, h⟩ dst op K := by
  have hk' : kind op = 2 := Nat.eq_of_beq_eq_true hk
  simp [swB, hk']
theorem mask_at {ks : List (Nat × Nat)} {ms : List Nat} {h : Nat → Option Blk} {k : Nat} : mask ⟨ks, ms⟩ h k = if keyedL ks k = true then none else h k := rfl
theorem msk_at {ks : List (Nat × Nat)} {ms : List Nat} {j : Nat} {h : Nat → Option Blk} : msk ⟨ks, ms⟩ j h = if hasL ms j = true then mask ⟨ks, ms⟩ h else h := rfl
theorem lk_at {ks : List (Nat × Nat)} {ms : List Nat} {j : Nat} : lk ⟨ks, ms⟩ j = lkL ks j := rfl
/-- A region that draws: the list says which stores go where. -/
def dgo (P : Program) (Γ : Tab) (l : List Oper) (A : Option Ann) (K : St → Prop) (st : St) : Prop := match A with
  | none => eg P Γ l.toArray l K st
  | some A => egA P Γ l.toArray A 0 l K st
theorem dgo_none {l : List Oper} : dgo P Γ l none K st ↔ eg P Γ l.toArray l K st := Iff.rfl
theorem dgo_some {l : List Oper} {A : Ann} : dgo P Γ l (some A) K st ↔ egA P Γ l.toArray A 0 l K st := Iff.rfl
attribute [simp] egA_nil egA_plain egA_guard swA_B swB_store swB_01 swB_2 mask_at msk_at lk_at dgo_none dgo_some lkL keyedL hasL ptrIs kind kindC

/-! ### each operation by itself -/
section
variable {e : Nat → V} {h : Nat → Option Blk} {d : Tmp}
theorem sw_move {x : Operand} : sw P Γ ⟨e, h⟩ (some d) (.move x) K ↔ K ⟨upd e d (ev ⟨e, h⟩ x), h⟩ := by rw [sw_01 rfl]; exact pw_some
theorem sw_assign {x : Operand} : sw P Γ ⟨e, h⟩ (some d) (.assign x) K ↔ K ⟨upd e d (ev ⟨e, h⟩ x), h⟩ := by rw [sw_01 rfl]; exact pw_some
def pick (c : V) (x y : V) : Option V := match c with
  | .bool b => some (bif b then x else y)
  | _ => none
theorem pick_t {x y : V} : pick (.bool true) x y = some x := rfl
theorem pick_f {x y : V} : pick (.bool false) x y = some y := rfl
theorem pick_b {b x y : Bool} : pick (.bool b) (.bool x) (.bool y) = some (.bool (bif b then x else y)) := by cases b <;> rfl
theorem pick_i {b : Bool} {k : IntKind} {x y : Int} : pick (.bool b) (.int k x) (.int k y) = some (.int k (bif b then x else y)) := by cases b <;> rfl
theorem sw_pick {c x y : Operand} : sw P Γ ⟨e, h⟩ (some d) (.pick c x y) K ↔ pw (pick (ev ⟨e, h⟩ c) (ev ⟨e, h⟩ x) (ev ⟨e, h⟩ y)) ⟨e, h⟩ (some d) K := by rw [sw_01 rfl]; rfl
theorem sw_build {t : TypeId} {l : List (Nat × Operand)} : sw P Γ ⟨e, h⟩ (some d) (.build t l.toArray) K ↔ pw (buildV P t (l.map fun p => (p.1, ev ⟨e, h⟩ p.2))) ⟨e, h⟩ (some d) K := by rw [sw_01 rfl]; rfl
theorem sw_load {t : TypeId} {x : Operand} : sw P Γ ⟨e, h⟩ (some d) (.load t x) K ↔ pw (loadV P h t (ev ⟨e, h⟩ x)) ⟨e, h⟩ (some d) K := by rw [sw_01 rfl]; rfl
theorem sw_mkf {fn : Fn} {fs cs : List Operand} : sw P Γ ⟨e, h⟩ (some d) (.makeFunc fn fs.toArray cs.toArray) K ↔ pw (mkfV fn (fs.map (ev ⟨e, h⟩)) (cs.map (ev ⟨e, h⟩))) ⟨e, h⟩ (some d) K := by rw [sw_01 rfl]; rfl
theorem sw_lookup {t : TypeId} {x k : Operand} : sw P Γ ⟨e, h⟩ (some d) (.lookup t x k false) K ↔ pw (lookV P h t (ev ⟨e, h⟩ x) (ev ⟨e, h⟩ k)) ⟨e, h⟩ (some d) K := by rw [sw_01 rfl]; rfl
theorem sw_bin {op : BinOp} {t ty : TypeId} {x y : Operand} : sw P Γ ⟨e, h⟩ (some d) (.binOp op t x y ty) K ↔ pw (bin P op t (ev ⟨e, h⟩ x) (ev ⟨e, h⟩ y)) ⟨e, h⟩ (some d) K := by rw [sw_01 rfl]; rfl
theorem sw_un {op : UnOp} {t : TypeId} {x : Operand} : sw P Γ ⟨e, h⟩ (some d) (.unOp op t x) K ↔ pw (un op (ev ⟨e, h⟩ x)) ⟨e, h⟩ (some d) K := by rw [sw_01 rfl]; rfl
theorem sw_toArr {t : TypeId} {x : Operand} : sw P Γ ⟨e, h⟩ (some d) (.sliceToArrayPointer t x) K ↔ pw (toArrV P t (ev ⟨e, h⟩ x)) ⟨e, h⟩ (some d) K := by rw [sw_01 rfl]; rfl
theorem sw_convert {s t : TypeId} {x : Operand} : sw P Γ ⟨e, h⟩ (some d) (.convert s t x) K ↔ pw (convertV P s t (ev ⟨e, h⟩ x)) ⟨e, h⟩ (some d) K := by rw [sw_01 rfl]; rfl
theorem sw_fieldAddr {s : TypeId} {x : Operand} {f : Nat} : sw P Γ ⟨e, h⟩ (some d) (.fieldAddr s x f) K ↔ pw (fieldAddrV P s (ev ⟨e, h⟩ x) f) ⟨e, h⟩ (some d) K := by rw [sw_01 rfl]; rfl
theorem sw_field {s : TypeId} {x : Operand} {f : Nat} : sw P Γ ⟨e, h⟩ (some d) (.field s x f) K ↔ pw (fieldV P s (ev ⟨e, h⟩ x) f) ⟨e, h⟩ (some d) K := by rw [sw_01 rfl]; rfl
theorem sw_indexAddr {t : TypeId} {x i : Operand} : sw P Γ ⟨e, h⟩ (some d) (.indexAddr t x i) K ↔ pw (indexAddrV P t (ev ⟨e, h⟩ x) (ev ⟨e, h⟩ i)) ⟨e, h⟩ (some d) K := by rw [sw_01 rfl]; rfl
theorem sw_index {t : TypeId} {x i : Operand} : sw P Γ ⟨e, h⟩ (some d) (.index t x i) K ↔ pw (indexV P t (ev ⟨e, h⟩ x) (ev ⟨e, h⟩ i)) ⟨e, h⟩ (some d) K := by rw [sw_01 rfl]; rfl
theorem sw_extract {x : Operand} {i : Nat} : sw P Γ ⟨e, h⟩ (some d) (.extract x i) K ↔ pw (extractV (ev ⟨e, h⟩ x) i) ⟨e, h⟩ (some d) K := by rw [sw_01 rfl]; rfl
theorem sw_nilCheck {x : Operand} : sw P Γ ⟨e, h⟩ (some d) (.nilCheck x) K ↔ pw (nilCheckV (ev ⟨e, h⟩ x)) ⟨e, h⟩ (some d) K := by rw [sw_01 rfl]; rfl
theorem sw_slice {t : TypeId} {x : Operand} {lo hi : Option Operand} : sw P Γ ⟨e, h⟩ (some d) (.slice t x lo hi none) K ↔ pw (sliceV P h t (ev ⟨e, h⟩ x) (lo.map (ev ⟨e, h⟩)) (hi.map (ev ⟨e, h⟩))) ⟨e, h⟩ (some d) K := by rw [sw_01 rfl]; rfl
def dynV (Γ : Tab) (h : Nat → Option Blk) (c : V) (xs : List V) : Option V := match c with
  | .clo f cs => callV Γ h f (xs ++ cs)
  | _ => none
theorem sw_mkif {t : TypeId} {x : Operand} : sw P Γ ⟨e, h⟩ (some d) (.makeInterface t x) K ↔ pw (mkiV P t (ev ⟨e, h⟩ x)) ⟨e, h⟩ (some d) K := by rw [sw_01 rfl]; rfl
theorem sw_tas {xt t : TypeId} {x : Operand} {ok : Bool} : sw P Γ ⟨e, h⟩ (some d) (.typeAssert x xt t ok) K ↔ pw (tasV P (ev ⟨e, h⟩ x) t ok) ⟨e, h⟩ (some d) K := by rw [sw_01 rfl]; rfl
def invV (P : Program) (Γ : Tab) (h : Nat → Option Blk) (c : V) (m : String) (xs : List V) : Option V := match c with
  | .ifc t v => (match methV P t m with
    | some f => callV Γ h f (v :: xs)
    | none => none)
  | _ => none
theorem sw_inv {r : Operand} {m : String} {l : List Operand} {ts : Array TypeId} : sw P Γ ⟨e, h⟩ (some d) (.call ⟨.invoke r m, l.toArray, ts⟩) K ↔ pw (invV P Γ h (ev ⟨e, h⟩ r) m (l.map (ev ⟨e, h⟩))) ⟨e, h⟩ (some d) K := by rw [sw_01 rfl]; rfl
theorem norm_ifc (t : TypeId) (v : V) : norm (.ifc t v) = .ifc t v := rfl
theorem sw_dyn {t : Tmp} {l : List Operand} {ts : Array TypeId} : sw P Γ ⟨e, h⟩ (some d) (.call ⟨.value (.tmp t), l.toArray, ts⟩) K ↔ pw (dynV Γ h (ev ⟨e, h⟩ (.tmp t)) (l.map (ev ⟨e, h⟩))) ⟨e, h⟩ (some d) K := by rw [sw_01 rfl]; rfl
theorem sw_sliceM {t : TypeId} {x : Operand} {lo : Option Operand} {hi mx : Operand} : sw P Γ ⟨e, h⟩ (some d) (.slice t x lo (some hi) (some mx)) K ↔ pw (sliceMV P t (ev ⟨e, h⟩ x) (lo.map (ev ⟨e, h⟩)) (ev ⟨e, h⟩ hi) (ev ⟨e, h⟩ mx)) ⟨e, h⟩ (some d) K := by rw [sw_01 rfl]; rfl
theorem sw_lookOk {t : TypeId} {x k : Operand} : sw P Γ ⟨e, h⟩ (some d) (.lookup t x k true) K ↔ pw (lookOkV P t (ev ⟨e, h⟩ x) (ev ⟨e, h⟩ k)) ⟨e, h⟩ (some d) K := by rw [sw_01 rfl]; rfl
theorem sw_call {f : FuncId} {l : List Operand} {ts : Array TypeId} : sw P Γ ⟨e, h⟩ (some d) (.call ⟨.value (.func f), l.toArray, ts⟩) K ↔ pw (callV Γ h f (l.map (ev ⟨e, h⟩))) ⟨e, h⟩ (some d) K := by rw [sw_01 rfl]; rfl
theorem sw_len {x : Operand} {t : TypeId} : sw P Γ ⟨e, h⟩ (some d) (.call ⟨.builtin .len, #[x], #[t]⟩) K ↔ pw (lenV P t (ev ⟨e, h⟩ x)) ⟨e, h⟩ (some d) K := by rw [sw_01 rfl]; rfl
theorem sw_min {x y : Operand} {ts : Array TypeId} : sw P Γ ⟨e, h⟩ (some d) (.call ⟨.builtin .min, #[x, y], ts⟩) K ↔ pw (minV (ev ⟨e, h⟩ x) [ev ⟨e, h⟩ y]) ⟨e, h⟩ (some d) K := by rw [sw_01 rfl]; rfl
theorem sw_max {x y : Operand} {ts : Array TypeId} : sw P Γ ⟨e, h⟩ (some d) (.call ⟨.builtin .max, #[x, y], ts⟩) K ↔ pw (maxV (ev ⟨e, h⟩ x) [ev ⟨e, h⟩ y]) ⟨e, h⟩ (some d) K := by rw [sw_01 rfl]; rfl
theorem sw_box {t : TypeId} {x : Operand} : sw P Γ ⟨e, h⟩ (some d) (.box t x) K ↔ aw ((boxV t (ev ⟨e, h⟩ x)).map fun b => (.ptr d 0, b)) e h d K := by rw [sw_2 rfl]; rfl
theorem sw_alloc {t : TypeId} : sw P Γ ⟨e, h⟩ (some d) (.alloc t) K ↔ aw ((allocV P t).map fun b => (.ptr d 0, b)) e h d K := by rw [sw_2 rfl]; rfl
theorem sw_makeSlice {t : TypeId} {l c : Operand} : sw P Γ ⟨e, h⟩ (some d) (.makeSlice t l c) K ↔ aw ((makeV P t (ev ⟨e, h⟩ l) (ev ⟨e, h⟩ c)).map fun p => (.sl d 0 p.1 p.2.2, p.2.1)) e h d K := by rw [sw_2 rfl]; rfl
theorem sw_buildSlice {t : TypeId} {len : Nat} {l : List (Nat × Operand)} : sw P Γ ⟨e, h⟩ (some d) (.buildSlice t len l.toArray) K ↔ aw ((buildSliceV P t len (l.map fun p => (p.1, ev ⟨e, h⟩ p.2))).map fun p => (.sl d 0 len p.2, p.1)) e h d K := by rw [sw_2 rfl]; rfl
end

theorem ev_tmp {e : Nat → V} {h : Nat → Option Blk} {t : Tmp} : ev ⟨e, h⟩ (.tmp t) = norm (e t) := rfl
theorem norm_undef : norm .undef = .undef := rfl
theorem norm_junk : norm .junk = .junk := rfl
theorem norm_bool (b : Bool) : norm (.bool b) = .bool b := rfl
theorem norm_int (k : IntKind) (i : Int) : norm (.int k i) = .int k i := rfl
theorem norm_str (s : ByteArray) : norm (.str s) = .str s := rfl
theorem norm_nils : norm .nils = .nils := rfl
theorem norm_list (sz : Nat) (xs : List (List V)) : norm (.list sz xs) = .list sz xs := rfl
theorem norm_sl (k o l s : Nat) : norm (.sl k o l s) = .sl k o l s := rfl
theorem norm_ptr (k o : Nat) : norm (.ptr k o) = .ptr k o := rfl
theorem norm_rp (cs : List V) : norm (.rp cs) = .rp cs := rfl
theorem norm_agg (cs : List V) : norm (.agg cs) = .agg cs := rfl
theorem norm_tup (cs : List V) : norm (.tup cs) = .tup cs := rfl
theorem norm_val (x : Value) : norm (.val x) = .val x := rfl
theorem norm_vrp (a : Addr) (cs : List V) : norm (.vrp a cs) = .rp cs := rfl
theorem norm_mp (k : Nat) : norm (.mp k) = .mp k := rfl
theorem norm_rset (k : List V) : norm (.rset k) = .rset k := rfl
theorem norm_rmap (k : List (Value × Value)) : norm (.rmap k) = .rmap k := rfl
theorem ev_func {f : FuncId} : ev st (.func f) = .clo f [] := rfl
theorem norm_clo (f : FuncId) (k : List V) : norm (.clo f k) = .clo f k := rfl
theorem norm_as (x : Value) (sz : Nat) (xs : List (List V)) : norm (.as x sz xs) = .list sz xs := rfl
theorem norm_vptr (b k o : Nat) : norm (.vptr b k o) = .ptr k o := rfl
attribute [simp] norm_undef norm_junk norm_bool norm_int norm_str norm_nils norm_list norm_sl norm_ptr norm_rp norm_agg norm_tup norm_val norm_vrp norm_vptr
theorem ev_const {v : Value} : ev st (.const v) = cv v := rfl

theorem cw_reg (hΓ : TabOK P Γ) {Q : Exit → St → Prop} {id : Nat} {l : List Oper} (hf : l.all (fun o => fits n o.dst) = true) (h : eg P Γ l.toArray l (Q .normal) st) : CW P n (.region id l.toArray false) Q st :=
  cw_region hΓ (ew_of_eg hf h)
theorem cw_drw (hΓ : TabOK P Γ) (hm : P.follows .mixedOrders = true) {Q : Exit → St → Prop} {id : Nat} {l : List Oper} (hf : l.all (fun o => fits n o.dst) = true) (hB : drawB l.toArray = true) (h : eg P Γ l.toArray l (Q .normal) st) : CW P n (.region id l.toArray true) Q st :=
  cw_draw hΓ hm hB (ew_of_eg hf h)
theorem cw_cond' {Q : Exit → St → Prop} {c : Operand} {x y : Code} {b : Bool} (hc : ev st c = .bool b) (h : (b = true → CW P n x Q st) ∧ (b = false → CW P n y Q st)) : CW P n (.cond c x y) Q st := cw_cond hc h.1 h.2
theorem fin_ret {rs : List ResultVar} {post : V → Prop} {us vs : List V} (h1 : resL P st rs = some us) (h2 : lendAs st.heap us = some vs) (h3 : post (one vs)) : Fin P rs post .ret st := ⟨.inr rfl, us, vs, h1, h2, h3⟩

theorem ilt_nat (a b : Nat) : ilt (@OfNat.ofNat Int a instOfNat) (@OfNat.ofNat Int b instOfNat) = Nat.blt a b := by
  have h : (Nat.blt a b = true) ↔ a < b := by simp [Nat.blt]; omega
  rw [Bool.eq_iff_iff, h]
  simp only [ilt, decide_eq_true_eq]
  exact Int.ofNat_lt
theorem ieq_nat (a b : Nat) : ieq (@OfNat.ofNat Int a instOfNat) (@OfNat.ofNat Int b instOfNat) = Nat.beq a b := by
  have h : (Nat.beq a b = true) ↔ a = b := ⟨Nat.eq_of_beq_eq_true, fun h => by subst h; exact Nat.beq_refl a⟩
  rw [Bool.eq_iff_iff, h]
  simp only [ieq, beq_iff_eq]
  exact Int.ofNat_inj
theorem upd_eq {α : Type} (e : Nat → α) (d t : Nat) (v : α) : upd e d v t = if t = d then v else e t := rfl
attribute [simp] eg_nil eg_plain eg_guard gtmp_zero gtmp_succ gwant_some wantOf_t wantOf_f wantOf_undef gw_true gw_false gw_not pw_some pw_cond pw_ite put_mk aw_some aw_cond tw_some tw_cond bw_some bw_cond
attribute [simp] sw_sliceM sw_lookOk sw_copy copyV sliceMV lookOkV findI norm_rmap norm_clo ev_func dynV sw_dyn
attribute [simp] sw_mkif mkiV sw_tas tasV sw_inv invV norm_ifc
attribute [simp] sw_mkf mkfV sw_lookup sw_mapUpdate sw_insert findN_nodes lookV mupdV lend0 lend0L norm_mp norm_rset norm_as
attribute [simp] sw_move sw_assign sw_pick sw_build sw_load sw_bin sw_un sw_toArr sw_convert sw_fieldAddr sw_field sw_indexAddr sw_index sw_extract sw_nilCheck sw_slice sw_call sw_len sw_min sw_max sw_box sw_alloc sw_makeSlice sw_buildSlice sw_store sw_append pick_t pick_f pick_b pick_i
attribute [simp] ilt_nat ieq_nat Nat.blt Nat.beq Nat.ble
attribute [simp] ev_tmp ev_const cv cv1 ini upd_eq boxV cellsV allocV makeV buildSliceV fillV setsV buildV placeAt fieldAddrV fieldV partV loadV storeV oneV bin binI un lenV minV maxV indexAddrV indexV extractV toArrV convertV nilCheckV sliceV bndV
attribute [simp] callV lendAs lendA lendL lendC chunks ownA ownC flatT flatA flatC resL resV one

/-! ### regions in the order of the text, in which calls may give memory -/
def gcall : Op → Option (FuncId × List Operand)
  | .call ⟨.value (.func f), args, _⟩ => some (f, args.toList)
  | _ => none
def gvw (m : Option (V × List (Nat × Blk))) (d : Tmp) (e : Nat → V) (h : Nat → Option Blk) (K : St → Prop) : Prop := match m with
  | some p => freeK (10000 * (d + 1)) p.2 h ∧ K ⟨upd e d (shT (10000 * (d + 1)) p.1), putK (10000 * (d + 1)) p.2 h⟩
  | none => False
def swX (P : Program) (Γ : Tab) (st : St) (dst : Option Tmp) (op : Op) (K : St → Prop) : Prop := match gcall op, dst with
  | some (f, xs), some d => gw (some (Γ.gb f)) (gvw (giveV Γ st.heap f (xs.map (ev st))) d st.env st.heap K) (sw P Γ st dst op K) ⟨⟩
  | _, _ => sw P Γ st dst op K
def egX (P : Program) (Γ : Tab) (ops : Array Oper) : List Oper → (St → Prop) → St → Prop
  | [], K, st => K st
  | o :: rest, K, st => gw (wantV ops st o.guard) (swX P Γ st o.dst o.op (egX P Γ ops rest K)) (egX P Γ ops rest K (st.put o.dst .undef)) ⟨⟩
theorem gcall_some {op : Op} {f : FuncId} {xs : List Operand} (h : gcall op = some (f, xs)) : ∃ ts, op = .call ⟨.value (.func f), xs.toArray, ts⟩ := by
  unfold gcall at h
  split at h
  · rename_i f' args ts
    simp only [Option.some.injEq, Prod.mk.injEq] at h
    obtain ⟨rfl, rfl⟩ := h
    exact ⟨ts, by simp⟩
  · cases h
theorem swX_sound (hΓ : TabOK P Γ) {w0 : Base} {ro : Nat → Prop} {lam : Lam} {a : Act} {w : World} (hs : Sim w0 n ro lam st a w) {o : Oper} (hn : fits n o.dst = true) (h : swX P Γ st o.dst o.op K)
    {next : Act → World → Prop} {Q : Exit → Act → World → Prop} (hK : ∀ st' a' ro' lam' w', K st' → Ext w0 ro ro' → Sim w0 n ro' lam' st' a' w' → next a' w') : o.wp P a w next Q := by
  have plain : sw P Γ st o.dst o.op K → o.wp P a w next Q := fun ⟨st', h1, h2⟩ => stepOp_sound hΓ hs h1 hn fun a' ro' lam' w' e hs' => hK st' a' ro' lam' w' h2 e hs'
  unfold swX at h
  split at h
  · rename_i f xs d hg hd
    cases hb : Γ.gb f with
    | false => rw [hb] at h; exact plain h
    | true =>
      rw [hb] at h
      replace h : gvw (giveV Γ st.heap f (xs.map (ev st))) d st.env st.heap K := h
      unfold gvw at h
      split at h
      · rename_i p hp
        obtain ⟨u, bl⟩ := p
        obtain ⟨ts, hop⟩ := gcall_some hg
        obtain ⟨h1, h2⟩ := args_sound hs xs.toArray
        simp only [List.toList_toArray] at h1 h2
        obtain ⟨hc, hcalls⟩ := giveV_sound hΓ hs hb hp h1 h2 h.1
        unfold Oper.wp execOp
        simp only [hop]
        have hrun : ((do let d ← resolve a.eval { callee := .value (.func f), args := xs.toArray, argTypes := ts } o.type; invoke d.target d.args) : Sem Next).run P w = .ok (.enter f (xs.toArray.map a.eval)) w := by
          simp [resolve, Act.eval, Deferred.ofValue, invoke, callFunc_run hc]
        simp only [hrun, Oper.upon]
        refine hcalls.mono fun e w' hh => ?_
        obtain ⟨rv, ro', lam', rfl, hext, hs', hr⟩ := hh
        have := hs'.put (d := some d) (by rw [← hd]; exact hn) hr
        rw [hd]
        exact hK _ _ _ _ _ h.2 hext this
      · exact h.elim
  · exact plain h
theorem egX_list (hΓ : TabOK P Γ) {Q : Exit → Act → World → Prop} {w0 : Base} : ∀ (l : List Oper) (st : St) (ro : Nat → Prop) (lam : Lam) (a : Act) (w : World), l.all (fun o => fits n o.dst) = true → egX P Γ ops l K st → Sim w0 n ro lam st a w →
    (∀ st' a' ro' lam' w', K st' → Ext w0 ro ro' → Sim w0 n ro' lam' st' a' w' → Q .normal a' w') → wpList P ops Q l a w
  | [], st, ro, lam, a, w, _, h, hs, hK => hK _ _ _ _ _ h (Ext.refl _ _) hs
  | o :: l, st, ro, lam, a, w, hf, h, hs, hK => by
    simp only [List.all_cons, Bool.and_eq_true] at hf
    show if Region.wanted o (yielded ops a.tmps) then o.wp P a w (wpList P ops Q l) Q ∨ (o.asks P a w ∧ LetsOut Q) else wpList P ops Q l (a.put o.dst Go.undef) w
    simp only [egX] at h
    cases hw : wantV ops st o.guard with
    | none => rw [hw] at h; exact h.elim
    | some b =>
      rw [hw] at h
      rw [wantV_sound hs hw]
      cases b with
      | true =>
        rw [if_pos rfl]
        exact .inl (swX_sound hΓ hs hf.1 h fun st' a' ro' lam' w' k e hs' => egX_list hΓ l st' ro' lam' a' w' hf.2 k hs' fun st2 a2 ro2 lam2 w2 k2 e2 hs2 => hK st2 a2 ro2 lam2 w2 k2 (e.trans e2) hs2)
      | false =>
        rw [if_neg (by simp)]
        exact egX_list hΓ l _ ro lam _ w hf.2 h (hs.put hf.1 (.pure _ _ .undef)) hK
theorem cw_regX (hΓ : TabOK P Γ) {Q : Exit → St → Prop} {id : Nat} {l : List Oper} (hf : l.all (fun o => fits n o.dst) = true) (h : egX P Γ l.toArray l (Q .normal) st) : CW P n (.region id l.toArray false) Q st := by
  intro w0 ro lam a w hs
  exact wp_region_list (egX_list hΓ _ st ro lam a w (by simpa using hf) (by simpa using h) hs fun st' a' ro' lam' w' k e hs' => ⟨st', ro', lam', k, e, hs'⟩)
theorem egX_nil : egX P Γ ops [] K st ↔ K st := Iff.rfl
theorem egX_plain {dst : Option Tmp} {op : Op} {ty : TypeId} {pos : String} {aft : Array Edge} {rest : List Oper} :
    egX P Γ ops (⟨dst, op, ty, pos, aft, none⟩ :: rest) K st ↔ swX P Γ st dst op (egX P Γ ops rest K) := Iff.rfl
theorem egX_guard {dst : Option Tmp} {op : Op} {ty : TypeId} {pos : String} {aft : Array Edge} {rest : List Oper} {j : Nat} {want : Bool} :
    egX P Γ ops (⟨dst, op, ty, pos, aft, some (j, want)⟩ :: rest) K st ↔ gw (gwant (gtmp ops j) st want) (swX P Γ st dst op (egX P Γ ops rest K)) (egX P Γ ops rest K (st.put dst .undef)) ⟨⟩ := by
  have : wantV ops st (some (j, want)) = gwant (gtmp ops j) st want := by
    unfold wantV gwant gtmp wantOf
    generalize hq : (ops[j]?).bind (fun o => o.dst) = q
    cases q with
    | none => simp only [hq]
    | some d =>
      simp only [hq]
      cases st.env d <;> rfl
  show gw (wantV ops st (some (j, want))) _ _ _ ↔ _
  rw [this]
section
variable {e : Nat → V} {h : Nat → Option Blk} {d : Tmp} {dst : Option Tmp}
theorem swX_call {f : FuncId} {l : List Operand} {ts : Array TypeId} : swX P Γ ⟨e, h⟩ (some d) (.call ⟨.value (.func f), l.toArray, ts⟩) K ↔ gw (some (Γ.gb f)) (gvw (giveV Γ h f (l.map (ev ⟨e, h⟩))) d e h K) (sw P Γ ⟨e, h⟩ (some d) (.call ⟨.value (.func f), l.toArray, ts⟩) K) ⟨⟩ := Iff.rfl
theorem swX_builtin {b : Builtin} {l : Array Operand} {ts : Array TypeId} : swX P Γ st dst (.call ⟨.builtin b, l, ts⟩) K ↔ sw P Γ st dst (.call ⟨.builtin b, l, ts⟩) K := by unfold swX; cases dst <;> exact Iff.rfl
theorem swX_mkif {t : TypeId} {x : Operand} : swX P Γ st dst (.makeInterface t x) K ↔ sw P Γ st dst (.makeInterface t x) K := by unfold swX; cases dst <;> exact Iff.rfl
theorem swX_tas {xt t : TypeId} {x : Operand} {ok : Bool} : swX P Γ st dst (.typeAssert x xt t ok) K ↔ sw P Γ st dst (.typeAssert x xt t ok) K := by unfold swX; cases dst <;> exact Iff.rfl
theorem swX_inv {r : Operand} {m : String} {l : Array Operand} {ts : Array TypeId} : swX P Γ st dst (.call ⟨.invoke r m, l, ts⟩) K ↔ sw P Γ st dst (.call ⟨.invoke r m, l, ts⟩) K := by unfold swX; cases dst <;> exact Iff.rfl
theorem swX_dyn {t : Tmp} {l : Array Operand} {ts : Array TypeId} : swX P Γ st dst (.call ⟨.value (.tmp t), l, ts⟩) K ↔ sw P Γ st dst (.call ⟨.value (.tmp t), l, ts⟩) K := by unfold swX; cases dst <;> exact Iff.rfl
theorem swX_move {x : Operand} : swX P Γ st dst (.move x) K ↔ sw P Γ st dst (.move x) K := by unfold swX; cases dst <;> exact Iff.rfl
theorem swX_assign {x : Operand} : swX P Γ st dst (.assign x) K ↔ sw P Γ st dst (.assign x) K := by unfold swX; cases dst <;> exact Iff.rfl
theorem swX_pick {x y z : Operand} : swX P Γ st dst (.pick x y z) K ↔ sw P Γ st dst (.pick x y z) K := by unfold swX; cases dst <;> exact Iff.rfl
theorem swX_build {t : TypeId} {l : Array (Nat × Operand)} : swX P Γ st dst (.build t l) K ↔ sw P Γ st dst (.build t l) K := by unfold swX; cases dst <;> exact Iff.rfl
theorem swX_load {t : TypeId} {x : Operand} : swX P Γ st dst (.load t x) K ↔ sw P Γ st dst (.load t x) K := by unfold swX; cases dst <;> exact Iff.rfl
theorem swX_mkf {fn : Fn} {fs cs : Array Operand} : swX P Γ st dst (.makeFunc fn fs cs) K ↔ sw P Γ st dst (.makeFunc fn fs cs) K := by unfold swX; cases dst <;> exact Iff.rfl
theorem swX_lookup {t : TypeId} {x k : Operand} {ok : Bool} : swX P Γ st dst (.lookup t x k ok) K ↔ sw P Γ st dst (.lookup t x k ok) K := by unfold swX; cases dst <;> exact Iff.rfl
theorem swX_bin {op : BinOp} {t ty : TypeId} {x y : Operand} : swX P Γ st dst (.binOp op t x y ty) K ↔ sw P Γ st dst (.binOp op t x y ty) K := by unfold swX; cases dst <;> exact Iff.rfl
theorem swX_un {op : UnOp} {t : TypeId} {x : Operand} : swX P Γ st dst (.unOp op t x) K ↔ sw P Γ st dst (.unOp op t x) K := by unfold swX; cases dst <;> exact Iff.rfl
theorem swX_toArr {t : TypeId} {x : Operand} : swX P Γ st dst (.sliceToArrayPointer t x) K ↔ sw P Γ st dst (.sliceToArrayPointer t x) K := by unfold swX; cases dst <;> exact Iff.rfl
theorem swX_convert {s t : TypeId} {x : Operand} : swX P Γ st dst (.convert s t x) K ↔ sw P Γ st dst (.convert s t x) K := by unfold swX; cases dst <;> exact Iff.rfl
theorem swX_fieldAddr {s : TypeId} {x : Operand} {f : Nat} : swX P Γ st dst (.fieldAddr s x f) K ↔ sw P Γ st dst (.fieldAddr s x f) K := by unfold swX; cases dst <;> exact Iff.rfl
theorem swX_field {s : TypeId} {x : Operand} {f : Nat} : swX P Γ st dst (.field s x f) K ↔ sw P Γ st dst (.field s x f) K := by unfold swX; cases dst <;> exact Iff.rfl
theorem swX_indexAddr {t : TypeId} {x i : Operand} : swX P Γ st dst (.indexAddr t x i) K ↔ sw P Γ st dst (.indexAddr t x i) K := by unfold swX; cases dst <;> exact Iff.rfl
theorem swX_index {t : TypeId} {x i : Operand} : swX P Γ st dst (.index t x i) K ↔ sw P Γ st dst (.index t x i) K := by unfold swX; cases dst <;> exact Iff.rfl
theorem swX_extract {x : Operand} {i : Nat} : swX P Γ st dst (.extract x i) K ↔ sw P Γ st dst (.extract x i) K := by unfold swX; cases dst <;> exact Iff.rfl
theorem swX_nilCheck {x : Operand} : swX P Γ st dst (.nilCheck x) K ↔ sw P Γ st dst (.nilCheck x) K := by unfold swX; cases dst <;> exact Iff.rfl
theorem swX_slice {t : TypeId} {x : Operand} {lo hi mx : Option Operand} : swX P Γ st dst (.slice t x lo hi mx) K ↔ sw P Γ st dst (.slice t x lo hi mx) K := by unfold swX; cases dst <;> exact Iff.rfl
theorem swX_box {t : TypeId} {x : Operand} : swX P Γ st dst (.box t x) K ↔ sw P Γ st dst (.box t x) K := by unfold swX; cases dst <;> exact Iff.rfl
theorem swX_alloc {t : TypeId} : swX P Γ st dst (.alloc t) K ↔ sw P Γ st dst (.alloc t) K := by unfold swX; cases dst <;> exact Iff.rfl
theorem swX_makeSlice {t : TypeId} {l c : Operand} : swX P Γ st dst (.makeSlice t l c) K ↔ sw P Γ st dst (.makeSlice t l c) K := by unfold swX; cases dst <;> exact Iff.rfl
theorem swX_buildSlice {t : TypeId} {len : Nat} {l : Array (Nat × Operand)} : swX P Γ st dst (.buildSlice t len l) K ↔ sw P Γ st dst (.buildSlice t len l) K := by unfold swX; cases dst <;> exact Iff.rfl
theorem swX_store {t : TypeId} {x y : Operand} : swX P Γ st dst (.store t x y) K ↔ sw P Γ st dst (.store t x y) K := by unfold swX; cases dst <;> exact Iff.rfl
theorem swX_mapUpdate {t : TypeId} {x y z : Operand} : swX P Γ st dst (.mapUpdate t x y z) K ↔ sw P Γ st dst (.mapUpdate t x y z) K := by unfold swX; cases dst <;> exact Iff.rfl
theorem swX_insert {t : TypeId} {x y z : Operand} : swX P Γ st dst (.insert t x y z) K ↔ sw P Γ st dst (.insert t x y z) K := by unfold swX; cases dst <;> exact Iff.rfl
theorem swX_makeMap {t : TypeId} {r : Option Operand} : swX P Γ st dst (.makeMap t r) K ↔ sw P Γ st dst (.makeMap t r) K := by unfold swX; cases dst <;> exact Iff.rfl
theorem gvw_some {p : V × List (Nat × Blk)} : gvw (some p) d e h K ↔ freeK (10000 * (d + 1)) p.2 h ∧ K ⟨upd e d (shT (10000 * (d + 1)) p.1), putK (10000 * (d + 1)) p.2 h⟩ := Iff.rfl
end
attribute [simp] swX_mkif swX_tas swX_inv swX_dyn swX_insert egX_nil egX_plain egX_guard swX_call swX_builtin swX_move swX_assign swX_pick swX_build swX_load swX_mkf swX_lookup swX_bin swX_un swX_toArr swX_convert swX_fieldAddr swX_field swX_indexAddr swX_index swX_extract swX_nilCheck swX_slice swX_box swX_alloc swX_makeSlice swX_buildSlice swX_store swX_mapUpdate swX_makeMap sw_makeMap gvw_some giveV freeK putK shC shA shT
end
end Go.Pv
end
section
namespace Go.Pv
open Go.RowKit
set_option linter.unusedSimpArgs false
set_option linter.unusedVariables false

/-- A statement by its text. A loop is left to the reader. -/
def cx (P : Program) (Γ : Tab) (n : Nat) (D : Nat → Option Ann) : Code → (Exit → St → Prop) → St → Prop
  | .skip, Q, st => Q .normal st
  | .ret, Q, st => Q .ret st
  | .exit id, Q, st => Q (.exit id) st
  | .seq a b, Q, st => cx P Γ n D a (fun e s => match e with
    | .normal => cx P Γ n D b Q s
    | e => Q e s) st
  | .cond c a b, Q, st => (match ev st c with
    | .bool v => (v = true → cx P Γ n D a Q st) ∧ (v = false → cx P Γ n D b Q st)
    | _ => False)
  | .block id c, Q, st => cx P Γ n D c (Bk id Q) st
  | .scope c, Q, st => cx P Γ n D c (Ng Q) st
  | .label _, Q, st => Q .normal st
  | .region _ ops false, Q, st => egX P Γ ops ops.toList (Q .normal) st
  | .region id ops true, Q, st => dgo P Γ ops.toList (D id) (Q .normal) st
  | .loop c, Q, st => LH P n c Q st
  | _, _, _ => False

/-- What is looked at once for a body: destinations lie in the frame, and regions that draw may be run in the order of the text. -/
def okC (n : Nat) (D : Nat → Option Ann) : Code → Bool
  | .seq a b => okC n D a && okC n D b
  | .cond _ a b => okC n D a && okC n D b
  | .block _ c => okC n D c
  | .scope c => okC n D c
  | .loop c => okC n D c
  | .region id ops draw => ops.toList.all (fun o => fits n o.dst) && (!draw || (match D id with
    | none => drawB ops
    | some A => drawA ops A))
  | _ => true

section
variable {P : Program} {Γ : Tab} {n : Nat} {D : Nat → Option Ann}

theorem CW.of_cx (hΓ : TabOK P Γ) (hm : P.follows .mixedOrders = true) : ∀ (c : Code) (Q : Exit → St → Prop) (st : St), okC n D c = true → cx P Γ n D c Q st → CW P n c Q st
  | .skip, Q, st, _, h => cw_skip h
  | .ret, Q, st, _, h => cw_ret h
  | .exit id, Q, st, _, h => cw_exit h
  | .seq a b, Q, st, ok, h => by
    simp only [okC, Bool.and_eq_true] at ok
    refine cw_seq ((CW.of_cx hΓ hm a _ st ok.1 h).mono fun e s hs => ?_)
    cases e with
    | normal => exact CW.of_cx hΓ hm b Q s ok.2 hs
    | _ => exact hs
  | .cond c a b, Q, st, ok, h => by
    simp only [okC, Bool.and_eq_true] at ok
    simp only [cx] at h
    split at h
    · rename_i v hv
      exact cw_cond hv (fun hh => CW.of_cx hΓ hm a Q st ok.1 (h.1 hh)) (fun hh => CW.of_cx hΓ hm b Q st ok.2 (h.2 hh))
    · exact h.elim
  | .block id c, Q, st, ok, h => cw_block (CW.of_cx hΓ hm c _ st ok h)
  | .region id ops draw, Q, st, ok, h => by
    simp only [okC, Bool.and_eq_true, Bool.or_eq_true, Bool.not_eq_true'] at ok
    have he : ops = ops.toList.toArray := by simp
    cases draw with
    | false => simp only [cx] at h; rw [he]; exact cw_regX hΓ ok.1 (by simpa using h)
    | true =>
      simp only [cx] at h
      obtain ⟨ok1, ok2⟩ := ok
      simp only [Bool.true_eq_false, false_or] at ok2
      cases hD : D id with
      | none => rw [hD] at h ok2; rw [he]; exact cw_drw hΓ hm ok1 (by simpa using ok2) (by simpa using h)
      | some A => rw [hD] at h ok2; rw [he]; exact cw_drawA hΓ hm ok1 (by simpa using ok2) h
  | .loop c, Q, st, ok, h => LH.cw h
  | .rangeFunc .., _, _, _, h => h.elim
  | .scope c, Q, st, ok, h => cw_scope (CW.of_cx hΓ hm c _ st ok h)
  | .label _, Q, st, _, h => cw_label h
  | .goto _, _, _, _, h => h.elim
  | .refuse _, _, _, _, h => h.elim

/-! ### the equations -/
variable {Q : Exit → St → Prop} {st : St}
theorem cx_skip : cx P Γ n D .skip Q st ↔ Q .normal st := Iff.rfl
theorem cx_ret : cx P Γ n D .ret Q st ↔ Q .ret st := Iff.rfl
theorem cx_exit {id : Nat} : cx P Γ n D (.exit id) Q st ↔ Q (.exit id) st := Iff.rfl
/-- What follows. -/
def Sq (P : Program) (Γ : Tab) (n : Nat) (D : Nat → Option Ann) (b : Code) (Q : Exit → St → Prop) : Exit → St → Prop
  | .normal, s => cx P Γ n D b Q s
  | e, s => Q e s
theorem cx_seq {a b : Code} : cx P Γ n D (.seq a b) Q st ↔ cx P Γ n D a (Sq P Γ n D b Q) st := by
  have : (fun e s => match e with | Exit.normal => cx P Γ n D b Q s | e => Q e s) = Sq P Γ n D b Q := by
    funext e s; cases e <;> rfl
  simp only [cx, this]
theorem sq_normal {b : Code} : Sq P Γ n D b Q .normal st ↔ cx P Γ n D b Q st := Iff.rfl
theorem sq_ret {b : Code} : Sq P Γ n D b Q .ret st ↔ Q .ret st := Iff.rfl
theorem sq_exit {b : Code} {id : Nat} : Sq P Γ n D b Q (.exit id) st ↔ Q (.exit id) st := Iff.rfl
theorem cx_block {id : Nat} {c : Code} : cx P Γ n D (.block id c) Q st ↔ cx P Γ n D c (Bk id Q) st := Iff.rfl
theorem cx_scope {c : Code} : cx P Γ n D (.scope c) Q st ↔ cx P Γ n D c (Ng Q) st := Iff.rfl
theorem cx_label {l : Nat} : cx P Γ n D (.label l) Q st ↔ Q .normal st := Iff.rfl
theorem ng_n : Ng Q .normal st ↔ Q .normal st := Iff.rfl
theorem ng_r : Ng Q .ret st ↔ Q .ret st := Iff.rfl
theorem ng_e {id : Nat} : Ng Q (.exit id) st ↔ Q (.exit id) st := Iff.rfl
theorem bk_n {id : Nat} : Bk id Q .normal st ↔ Q .normal st := Iff.rfl
theorem bk_r {id : Nat} : Bk id Q .ret st ↔ Q .ret st := Iff.rfl
theorem bk_e {id id' : Nat} : Bk id Q (.exit id') st ↔ if id' = id then Q .normal st else Q (.exit id') st := Iff.rfl
theorem cx_region {id : Nat} {l : List Oper} : cx P Γ n D (.region id l.toArray false) Q st ↔ egX P Γ l.toArray l (Q .normal) st := by simp [cx]
theorem cx_regionD {id : Nat} {l : List Oper} : cx P Γ n D (.region id l.toArray true) Q st ↔ dgo P Γ l (D id) (Q .normal) st := by simp [cx]
def condw (v : V) (A B : Prop) (_ : Tok A B) : Prop := match v with
  | .bool b => (b = true → A) ∧ (b = false → B)
  | _ => False
theorem cx_cond {c : Operand} {a b : Code} : cx P Γ n D (.cond c a b) Q st ↔ condw (ev st c) (cx P Γ n D a Q st) (cx P Γ n D b Q st) ⟨⟩ := by
  simp only [cx, condw]
theorem condw_true {A B : Prop} {t : Tok A B} : condw (.bool true) A B t ↔ A := by simp [condw]
theorem condw_false {A B : Prop} {t : Tok A B} : condw (.bool false) A B t ↔ B := by simp [condw]
theorem condw_not {A B : Prop} {t : Tok A B} {b : Bool} : condw (.bool (!b)) A B t ↔ condw (.bool b) B A ⟨⟩ := by cases b <;> simp [condw]
theorem condw_bool {b : Bool} {A B : Prop} {t : Tok A B} (h1 : b = true → A) (h2 : b = false → B) : condw (.bool b) A B t := ⟨h1, h2⟩
structure TokC (c : Code) (Q : Exit → St → Prop) : Type where
/-- A loop. -/
def Lp (P : Program) (n : Nat) (c : Code) (Q : Exit → St → Prop) (st : St) (_ : TokC c Q) : Prop := LH P n c Q st
theorem cx_loop {c : Code} : cx P Γ n D (.loop c) Q st ↔ Lp P n c Q st ⟨⟩ := Iff.rfl
theorem lp_unroll (hΓ : TabOK P Γ) (hm : P.follows .mixedOrders = true) {c : Code} {t : TokC c Q} (ok : okC n D c = true) (h : cx P Γ n D c (Lu P n c Q) st) : Lp P n c Q st t := LH.unroll (CW.of_cx hΓ hm c _ _ ok h)
theorem lu_normal {c : Code} : Lu P n c Q .normal st ↔ Lp P n c Q st ⟨⟩ := Iff.rfl
theorem lu_ret {c : Code} : Lu P n c Q .ret st ↔ Q .ret st := Iff.rfl
theorem lu_exit {c : Code} {id : Nat} : Lu P n c Q (.exit id) st ↔ Q (.exit id) st := Iff.rfl
theorem lp_view {c : Code} {t : TokC c Q} {s' : St} (hv : View n st s') (h : Lp P n c Q s' ⟨⟩) : Lp P n c Q st t := LH.view hv h
theorem lp_inv (hΓ : TabOK P Γ) (hm : P.follows .mixedOrders = true) {c : Code} {t : TokC c Q} (ok : okC n D c = true) {α : Type} (I : α → St → Prop) (μ : α → Nat) (x : α) (h0 : I x st)
    (hr : ∀ x e h, I x ⟨e, h⟩ → cx P Γ n D c (Ln n I μ Q x ⟨⟩) ⟨e, h⟩) : Lp P n c Q st t :=
  LH.inv I μ (fun x s hs => CW.of_cx hΓ hm c _ _ ok (hr x s.env s.heap hs)) _ x st rfl h0
theorem ln_normal {α : Type} {I : α → St → Prop} {μ : α → Nat} {x : α} {t : TokI I μ} : Ln n I μ Q x t .normal st ↔ Nxt n I μ x t st := Iff.rfl
theorem ln_ret {α : Type} {I : α → St → Prop} {μ : α → Nat} {x : α} {t : TokI I μ} : Ln n I μ Q x t .ret st ↔ Q .ret st := Iff.rfl
theorem ln_exit {α : Type} {I : α → St → Prop} {μ : α → Nat} {x : α} {t : TokI I μ} {id : Nat} : Ln n I μ Q x t (.exit id) st ↔ Q (.exit id) st := Iff.rfl
/-- What stays as it is at the loop's head. -/
def Keep : List Nat → (Nat → V) → (Nat → V) → Prop
  | [], _, _ => True
  | t :: ts, e0, e => e t = e0 t ∧ Keep ts e0 e
def KeepH : List Nat → (Nat → Option Blk) → (Nat → Option Blk) → Prop
  | [], _, _ => True
  | t :: ts, h0, h => h t = h0 t ∧ KeepH ts h0 h
theorem Keep.refl (e : Nat → V) : ∀ ts, Keep ts e e
  | [] => trivial
  | _ :: ts => ⟨rfl, Keep.refl e ts⟩
theorem KeepH.refl (e : Nat → Option Blk) : ∀ ts, KeepH ts e e
  | [] => trivial
  | _ :: ts => ⟨rfl, KeepH.refl e ts⟩
/-- An invariant that keeps what stays. -/
structure Ik {α : Type} (ts ks : List Nat) (e0 : Nat → V) (h0 : Nat → Option Blk) (I : α → (Nat → V) → (Nat → Option Blk) → Prop) (x : α) (s : St) : Prop where
  ke : Keep ts e0 s.env
  kh : KeepH ks h0 s.heap
  i : I x s.env s.heap
theorem lp_go (hΓ : TabOK P Γ) (hm : P.follows .mixedOrders = true) {c : Code} {e0 : Nat → V} {h0 : Nat → Option Blk} {t : TokC c Q} (ok : okC n D c = true) (ts ks : List Nat) {α : Type} (I : α → (Nat → V) → (Nat → Option Blk) → Prop) (μ : α → Nat) (x : α) (hi : I x e0 h0)
    (hr : ∀ x e h, Keep ts e0 e → KeepH ks h0 h → I x e h → cx P Γ n D c (Ln n (Ik ts ks e0 h0 I) μ Q x ⟨⟩) ⟨e, h⟩) : Lp P n c Q ⟨e0, h0⟩ t :=
  lp_inv hΓ hm ok (Ik ts ks e0 h0 I) μ x ⟨Keep.refl _ _, KeepH.refl _ _, hi⟩ fun x e h hh => hr x e h hh.ke hh.kh hh.i
theorem nxt_go {α : Type} {ts ks : List Nat} {e0 : Nat → V} {h0 : Nat → Option Blk} {I : α → (Nat → V) → (Nat → Option Blk) → Prop} {μ : α → Nat} {x : α} {t : TokI (Ik ts ks e0 h0 I) μ} {s : St} (y : α) {s'' : St} (hv : View n s s'') (hlt : μ y < μ x) (hk : Keep ts e0 s''.env) (hkh : KeepH ks h0 s''.heap) (hi : I y s''.env s''.heap) :
    Nxt n (Ik ts ks e0 h0 I) μ x t s := ⟨y, s'', hv, ⟨hk, hkh, hi⟩, hlt⟩

/-- The end of a function. -/
def fw2 (m : Option (List V)) (post : V → Prop) : Prop := match m with
  | some vs => post (one vs)
  | none => False
def fw1 (m : Option (List V)) (h : Nat → Option Blk) (post : V → Prop) : Prop := match m with
  | some us => fw2 (lendAs h us) post
  | none => False
theorem fin_r {rs : List ResultVar} {post : V → Prop} {e : Nat → V} {h : Nat → Option Blk} : Fin P rs post .ret ⟨e, h⟩ ↔ fw1 (resL P ⟨e, h⟩ rs) h post := by
  unfold Fin fw1 fw2
  cases resL P ⟨e, h⟩ rs with
  | none => simp
  | some us => cases hl : lendAs h us <;> simp [hl]
theorem fin_n {rs : List ResultVar} {post : V → Prop} {e : Nat → V} {h : Nat → Option Blk} : Fin P rs post .normal ⟨e, h⟩ ↔ fw1 (resL P ⟨e, h⟩ rs) h post := by
  unfold Fin fw1 fw2
  cases resL P ⟨e, h⟩ rs with
  | none => simp
  | some us => cases hl : lendAs h us <;> simp [hl]
theorem fw1_some {us : List V} {h : Nat → Option Blk} {post : V → Prop} : fw1 (some us) h post ↔ fw2 (lendAs h us) post := Iff.rfl
theorem fw2_some {vs : List V} {post : V → Prop} : fw2 (some vs) post ↔ post (one vs) := Iff.rfl

attribute [simp] cx_scope cx_label ng_n ng_r ng_e cx_skip cx_ret cx_exit cx_seq sq_normal sq_ret sq_exit cx_block bk_n bk_r bk_e cx_region cx_regionD cx_cond condw_true condw_false condw_not cx_loop ln_normal ln_ret ln_exit lu_normal lu_ret lu_exit fin_r fin_n fw1_some fw2_some

/-- A contract by its body's text. -/
theorem pcall_cx (hΓ : TabOK P Γ) (hm : P.follows .mixedOrders = true) (D : Nat → Option Ann) {f : FuncId} {fn : Func} {c : Code} {vs : List V} {v : V} {rs : Array ResultVar} (hf : P.funcs[f]? = some fn) (hb : fn.body = some c) (hn : fn.ntmps = n) (hrs : fn.results = rs)
    (hvs : vs.length ≤ n) (ok : okC n D c = true) (h : cx P Γ n D c (Fin P rs.toList (fun u => u = v)) ⟨ini 0 vs, fun _ => none⟩) : PCall P f vs v := by
  subst hn; subst hrs
  exact pcall_of hf hb hvs (CW.of_cx hΓ hm c _ _ ok h)

theorem pfresh_cx (hΓ : TabOK P Γ) (hm : P.follows .mixedOrders = true) (D : Nat → Option Ann) {f : FuncId} {fn : Func} {c : Code} {vs : List V} {v : V} {rs : Array ResultVar} (hf : P.funcs[f]? = some fn) (hb : fn.body = some c) (hn : fn.ntmps = n) (hrs : fn.results = rs)
    (hvs : vs.length ≤ n) (ok : okC n D c = true) (h : cx P Γ n D c (FinF P rs.toList (fun u => u = v)) ⟨ini 0 vs, fun _ => none⟩) : PFresh P f vs v := by
  subst hn; subst hrs
  exact pfresh_of hf hb hvs (CW.of_cx hΓ hm c _ _ ok h)
def fx2 (us : List V) (m : Option (List V)) (post : V → Prop) : Prop := match m with
  | some vs => frAs us vs = true ∧ post (one vs)
  | none => False
def fx1 (m : Option (List V)) (h : Nat → Option Blk) (post : V → Prop) : Prop := match m with
  | some us => fx2 us (lendAs h us) post
  | none => False
theorem finF_r {rs : List ResultVar} {post : V → Prop} {e : Nat → V} {h : Nat → Option Blk} : FinF P rs post .ret ⟨e, h⟩ ↔ fx1 (resL P ⟨e, h⟩ rs) h post := by
  unfold FinF fx1 fx2
  cases resL P ⟨e, h⟩ rs with
  | none => simp
  | some us => cases hl : lendAs h us <;> simp [hl]
theorem finF_n {rs : List ResultVar} {post : V → Prop} {e : Nat → V} {h : Nat → Option Blk} : FinF P rs post .normal ⟨e, h⟩ ↔ fx1 (resL P ⟨e, h⟩ rs) h post := by
  unfold FinF fx1 fx2
  cases resL P ⟨e, h⟩ rs with
  | none => simp
  | some us => cases hl : lendAs h us <;> simp [hl]
theorem fx1_some {us : List V} {h : Nat → Option Blk} {post : V → Prop} : fx1 (some us) h post ↔ fx2 us (lendAs h us) post := Iff.rfl
theorem fx2_some {us vs : List V} {post : V → Prop} : fx2 us (some vs) post ↔ frAs us vs = true ∧ post (one vs) := Iff.rfl
attribute [simp] finF_r finF_n fx1_some fx2_some frAs frA frL frC rowFlat

/-! ### tables -/
def noTab : Tab := ⟨fun _ _ => none, fun _ => false, fun _ => false, fun _ _ => none⟩
theorem noTab_at (f : FuncId) (vs : List V) : noTab.at' f vs = none := rfl
theorem noTab_fr (f : FuncId) : noTab.fr f = false := rfl
theorem noTab_gb (f : FuncId) : noTab.gb f = false := rfl
theorem noTab_ok : TabOK P noTab := ⟨fun f vs v h => (by cases h), fun f vs u bl h => (by cases h)⟩
def add (f : FuncId) (T : List V → Option V) (Γ : Tab) : Tab := ⟨fun g vs => if g = f then T vs else Γ.at' g vs, fun g => if g = f then false else Γ.fr g, Γ.gb, Γ.gv⟩
def addF (f : FuncId) (T : List V → Option V) (Γ : Tab) : Tab := ⟨fun g vs => if g = f then T vs else Γ.at' g vs, fun g => if g = f then true else Γ.fr g, Γ.gb, Γ.gv⟩
theorem add_ok {f : FuncId} {T : List V → Option V} {Γ : Tab} (hΓ : TabOK P Γ) (hc : callable P f = true) (hT : ∀ vs v, T vs = some v → PCall P f vs v) : TabOK P (add f T Γ) := by
  refine ⟨?_, hΓ.2⟩
  intro g vs v h
  simp only [add] at h ⊢
  split at h
  · rename_i e; subst e; exact .inl ⟨hc, hT vs v h, fun h => by simp at h⟩
  · rename_i e
    rcases hΓ.1 g vs v h with ⟨h1, h2, h3⟩ | h1
    · refine .inl ⟨h1, h2, ?_⟩
      simpa only [e, if_false] using h3
    · exact .inr h1
theorem addF_ok {f : FuncId} {T : List V → Option V} {Γ : Tab} (hΓ : TabOK P Γ) (hc : callable P f = true) (hT : ∀ vs v, T vs = some v → PFresh P f vs v) : TabOK P (addF f T Γ) := by
  refine ⟨?_, hΓ.2⟩
  intro g vs v h
  simp only [addF] at h ⊢
  split at h
  · rename_i e; subst e; exact .inl ⟨hc, (hT vs v h).pcall, fun _ => hT vs v h⟩
  · rename_i e
    rcases hΓ.1 g vs v h with ⟨h1, h2, h3⟩ | h1
    · refine .inl ⟨h1, h2, ?_⟩
      simpa only [e, if_false] using h3
    · exact .inr h1
theorem addE_ok {f : FuncId} {T : List V → Option V} {Γ : Tab} (hΓ : TabOK P Γ) (hT : ∀ vs v, T vs = some v → extFlat v = true ∧ PExt P f vs v) : TabOK P (add f T Γ) := by
  refine ⟨?_, hΓ.2⟩
  intro g vs v h
  simp only [add] at h ⊢
  split at h
  · rename_i e; subst e; exact .inr (hT vs v h)
  · rename_i e
    rcases hΓ.1 g vs v h with ⟨h1, h2, h3⟩ | h1
    · refine .inl ⟨h1, h2, ?_⟩
      simpa only [e, if_false] using h3
    · exact .inr h1
/-- f gives new memory. -/
def addG (f : FuncId) (T : List V → Option (V × List (Nat × Blk))) (Γ : Tab) : Tab := ⟨Γ.at', Γ.fr, fun g => if g = f then true else Γ.gb g, fun g vs => if g = f then T vs else Γ.gv g vs⟩
theorem addG_ok {f : FuncId} {T : List V → Option (V × List (Nat × Blk))} {Γ : Tab} (hΓ : TabOK P Γ) (hc : callable P f = true) (hT : ∀ vs u bl, T vs = some (u, bl) → PGive P f vs u bl) : TabOK P (addG f T Γ) := by
  refine ⟨fun g vs v h => ?_, fun g vs u bl h1 h2 => ?_⟩
  · exact hΓ.1 g vs v h
  · simp only [addG] at h1 h2
    split at h2
    · rename_i e; subst e; exact ⟨hc, hT vs u bl h2⟩
    · rename_i e
      rw [if_neg e] at h1
      exact hΓ.2 g vs u bl h1 h2
attribute [simp] noTab_at noTab_fr noTab_gb

/-! ### a function that gives memory -/
def inC (bl : List (Nat × Blk)) : V → Bool
  | .sl k _ _ _ | .ptr k _ | .mp k => (blkOf bl k).isSome
  | .vptr .. | .agg _ | .tup _ => false
  | _ => true
def inA (bl : List (Nat × Blk)) : V → Bool
  | .agg cs => cs.all (inC bl)
  | v => inC bl v
def inT (bl : List (Nat × Blk)) : V → Bool
  | .tup vs => vs.all (inA bl)
  | v => inA bl v
def KeepBl (h : Nat → Option Blk) : List (Nat × Blk) → Prop
  | [] => True
  | (k, b) :: bl => h k = some b ∧ KeepBl h bl
def closedB (bl : List (Nat × Blk)) : List (Nat × Blk) → Bool
  | [] => true
  | (_, b) :: r => (!(b.cells.any ownC) || b.cells.all (inC bl)) && closedB bl r
theorem keepBl_at {h : Nat → Option Blk} : ∀ (bl : List (Nat × Blk)) (k : Nat) (b : Blk), KeepBl h bl → blkOf bl k = some b → h k = some b
  | [], k, b, _, e => by cases e
  | (k', b') :: bl, k, b, hk, e => by
    simp only [blkOf] at e
    by_cases hkk : k = k'
    · subst hkk; rw [if_pos rfl] at e; cases e; exact hk.1
    · rw [if_neg hkk] at e; exact keepBl_at bl k b hk.2 e
theorem closedB_at {bl : List (Nat × Blk)} : ∀ (r : List (Nat × Blk)) (k : Nat) (b : Blk), closedB bl r = true → blkOf r k = some b → b.cells.all (inC bl) = true
  | [], k, b, _, e => by cases e
  | (k', b') :: r, k, b, hc, e => by
    simp only [closedB, Bool.and_eq_true, Bool.or_eq_true] at hc
    simp only [blkOf] at e
    by_cases hkk : k = k'
    · subst hkk; rw [if_pos rfl] at e; cases e
      rcases hc.1 with h | h
      · rw [List.all_eq_true]
        intro v hv
        have : ownC v = false := by
          have h' : b'.cells.any ownC = false := by simpa using h
          simpa using List.any_eq_false.1 h' v hv
        cases v <;> simp [ownC] at this <;> rfl
      · exact h
    · rw [if_neg hkk] at e; exact closedB_at r k b hc.2 e
def lamK (bl : List (Nat × Blk)) (lam : Lam) : Lam := fun k => if (blkOf bl k).isSome = true then lam k else none
theorem R_inC {w : World} {ro : Nat → Prop} {lam : Lam} {bl : List (Nat × Blk)} {v : V} {x : Value} (h : R w ro lam v x) (hi : inC bl v = true) : R w ro (lamK bl lam) v x := by
  have hl : ∀ k y, (blkOf bl k).isSome = true → lam k = some y → lamK bl lam k = some y := fun k y h1 h2 => by unfold lamK; rw [if_pos h1]; exact h2
  cases v with
  | sl k o l s =>
    rcases h.sl_inv with ⟨hv, rfl, rfl, rfl⟩ | ⟨b, m, cap, h1, h2, h3, h4, rfl⟩
    · exact .slv _ _ (hl _ _ hi hv)
    · exact .sl _ _ _ _ b m cap (hl _ _ hi h1) h2 h3 h4
  | ptr k o => obtain ⟨b, m, h1, rfl⟩ := h.ptr_inv; exact .ptr _ _ b m (hl _ _ hi h1)
  | mp k => obtain ⟨b, h1, rfl⟩ := h.mp_inv; exact .mp _ b (hl _ _ hi h1)
  | vptr _ _ _ => simp [inC] at hi
  | agg _ => simp [inC] at hi
  | tup _ => simp [inC] at hi
  | _ => exact .pure _ _ (h.pureC rfl)
theorem R_inA {w : World} {ro : Nat → Prop} {lam : Lam} {bl : List (Nat × Blk)} {v : V} {x : Value} (h : R w ro lam v x) (hi : inA bl v = true) : R w ro (lamK bl lam) v x := by
  cases v with
  | agg cs =>
    obtain ⟨arr, rfl, h1, h2⟩ := h.agg_inv
    exact .agg _ _ h1 fun j c y hc hy => R_inC (h2 j c y hc hy) (all_at hi hc)
  | _ => exact R_inC h hi
theorem R_inT {w : World} {ro : Nat → Prop} {lam : Lam} {bl : List (Nat × Blk)} {v : V} {x : Value} (h : R w ro lam v x) (hi : inT bl v = true) : R w ro (lamK bl lam) v x := by
  cases v with
  | tup cs =>
    obtain ⟨arr, rfl, h1, h2⟩ := h.tup_inv
    exact .tup _ _ h1 fun j c y hc hy => R_inA (h2 j c y hc hy) (all_at hi hc)
  | agg cs => exact R_inA h hi
  | _ => exact R_inC h hi
theorem HS.keep {w0 : Base} {ro : Nat → Prop} {lam : Lam} {st : St} {a : Act} {w : World} (hs : Sim w0 n ro lam st a w) {bl : List (Nat × Blk)} (hk : KeepBl st.heap bl) (hc : closedB bl bl = true) : HS w ro (lamK bl lam) (blkOf bl) := by
  have hb : ∀ k y, lamK bl lam k = some y → lam k = some y := fun k y h => by
    unfold lamK at h; split at h
    · exact h
    · cases h
  have hf : ∀ k b y, blkOf bl k = some b → lam k = some y → lamK bl lam k = some y := fun k b y h1 h2 => by unfold lamK; rw [if_pos (by rw [h1]; rfl)]; exact h2
  refine ⟨Base.Keeps.refl _ _ _, rfl, Nat.zero_le _, hs.rolt, fun t => .pure _ _ (.junk _), fun key blk hkk => ?_, fun key hkk => ?_, fun key b m hl => ⟨.inl ⟨key, .inl ⟨m, hl⟩⟩, (hs.own key b m (hb _ _ hl)).2⟩, fun k1 k2 b m1 m2 e1 e2 => hs.inj k1 k2 b m1 m2 (hb _ _ e1) (hb _ _ e2), fun key b hl => ⟨⟨.inl ⟨key, .inr hl⟩, (hs.maps key b (hb _ _ hl)).1.2⟩, fun k' h' => (hs.maps key b (hb _ _ hl)).2 k' (hb _ _ h')⟩⟩
  · have hkk' : blkOf bl key = some blk := hkk
    rcases hs.heap key blk (keepBl_at bl key blk hk hkk') with ⟨hv, hcc⟩ | ⟨b, o, hl, hw, hso⟩ | ⟨b, m, arr, hl, hw, h1, hle, hr⟩
    · exact .inl ⟨hf _ _ _ hkk' hv, hcc⟩
    · exact .inr (.inl ⟨b, o, hf _ _ _ hkk' hl, hw, hso⟩)
    · exact .inr (.inr ⟨b, m, arr, hf _ _ _ hkk' hl, hw, h1, hle, fun j c x hcj hx => R_inC (hr j c x hcj hx) (all_at (closedB_at bl key blk hc hkk') hcj)⟩)
  · have hkk' : blkOf bl key = none := hkk
    unfold lamK; rw [if_neg (by rw [hkk']; simp)]
/-- The function ends; it gives what lies in these blocks. -/
def FinG (P : Program) (rs : List ResultVar) (u : V) (bl : List (Nat × Blk)) (e : Exit) (st : St) : Prop :=
  (e = .normal ∨ e = .ret) ∧ ∃ us, resL P st rs = some us ∧ one us = u ∧ KeepBl st.heap bl ∧ closedB bl bl = true ∧ inT bl u = true
theorem pgive_of {f : FuncId} {fn : Func} {c : Code} {vs : List V} {u : V} {bl : List (Nat × Blk)} (hf : P.funcs[f]? = some fn) (hb : fn.body = some c) (hn : vs.length ≤ fn.ntmps)
    (h : CW P fn.ntmps c (FinG P fn.results.toList u bl) ⟨ini 0 vs, fun _ => none⟩) : PGive P f vs u bl := by
  intro w ro args hro hsz hr
  refine calls_of_wp hf hb ?_
  have hs := sim_ini (n := fn.ntmps) hro hsz hn hr
  refine wp_mono (h (.of w) ro _ _ w hs) fun e a' w' hh => ?_
  obtain ⟨st', ro', lam', ⟨he, us, h1, h2, h3, h4, h5⟩, hext, hs'⟩ := hh
  obtain ⟨zs, hz, hra⟩ := resL_sound hs' _ us h1
  have hrun := results_run fn a'.tmps w' hz
  have hl : zs.length = us.length := by simpa using hra.1
  have hval : R w' ro' lam' u (if h : zs.toArray.size = 1 then zs.toArray[0] else .tuple zs.toArray) := by
    rw [← h2]
    by_cases hone : zs.length = 1
    · obtain ⟨x, rfl⟩ := List.length_eq_one_iff.1 hone
      obtain ⟨y, rfl⟩ := List.length_eq_one_iff.1 (hl.symm.trans hone)
      simp only [List.size_toArray, List.length_cons, List.length_nil, dite_true, one]
      exact hra.2 0 y x rfl rfl
    · have : one us = .tup us := by
        unfold one
        split
        · rename_i y; rw [hl] at hone; simp at hone
        · rfl
      rw [this, dif_neg (by simpa using hone)]
      exact .tup _ _ (by simpa using hl) fun j c x hc hx => hra.2 j c x hc (by simpa using hx)
  have hfin : a'.defers = [] ∧ ∃ v', (results fn a'.tmps).run P w' = .ok v' w' ∧
      (fun e w' => ∃ rv ro' lam', e = Ending.returned rv ∧ Below w.heap.size w w' ∧ (∀ b, ro b → ro' b) ∧ (∀ b, ro' b → ro b ∨ w.heap.size ≤ b) ∧ HS w' ro' lam' (blkOf bl) ∧ (∀ b, ownB lam' b → w.heap.size ≤ b) ∧ R w' ro' lam' u rv) (.returned v') w' := by
    refine ⟨hs'.dfr, _, hrun, _, ro', lamK bl lam', rfl, hs'.below.below, hext.1, fun b hb => (hext.2 b hb).imp id (fun h => h.resolve_left (fun h => h)), HS.keep hs' h3 h4, fun b ⟨key, hlb⟩ => ?_, R_inT hval h5⟩
    have hlb' : lamB lam' key b := by
      have hb : ∀ k y, lamK bl lam' k = some y → lam' k = some y := fun k y h => by
        unfold lamK at h; split at h
        · exact h
        · cases h
      rcases hlb with ⟨m, h⟩ | h
      · exact .inl ⟨m, hb _ _ h⟩
      · exact .inr (hb _ _ h)
    exact (hs'.ob hlb').1.resolve_left (fun h => h)
  rcases he with rfl | rfl
  · exact hfin
  · exact hfin
theorem pgive_cx (hΓ : TabOK P Γ) (hm : P.follows .mixedOrders = true) (D : Nat → Option Ann) {f : FuncId} {fn : Func} {c : Code} {vs : List V} {u : V} {bl : List (Nat × Blk)} {rs : Array ResultVar} (hf : P.funcs[f]? = some fn) (hb : fn.body = some c) (hn : fn.ntmps = n) (hrs : fn.results = rs)
    (hvs : vs.length ≤ n) (ok : okC n D c = true) (h : cx P Γ n D c (FinG P rs.toList u bl) ⟨ini 0 vs, fun _ => none⟩) : PGive P f vs u bl := by
  subst hn; subst hrs
  exact pgive_of hf hb hvs (CW.of_cx hΓ hm c _ _ ok h)
def fg1 (m : Option (List V)) (st : St) (u : V) (bl : List (Nat × Blk)) : Prop := match m with
  | some us => one us = u ∧ KeepBl st.heap bl ∧ closedB bl bl = true ∧ inT bl u = true
  | none => False
theorem finG_r {rs : List ResultVar} {u : V} {bl : List (Nat × Blk)} : FinG P rs u bl .ret st ↔ fg1 (resL P st rs) st u bl := by
  unfold FinG fg1
  cases resL P st rs <;> simp
theorem finG_n {rs : List ResultVar} {u : V} {bl : List (Nat × Blk)} : FinG P rs u bl .normal st ↔ fg1 (resL P st rs) st u bl := by
  unfold FinG fg1
  cases resL P st rs <;> simp
theorem fg1_some {us : List V} {u : V} {bl : List (Nat × Blk)} : fg1 (some us) st u bl ↔ one us = u ∧ KeepBl st.heap bl ∧ closedB bl bl = true ∧ inT bl u = true := Iff.rfl
attribute [simp] finG_r finG_n fg1_some KeepBl closedB inC inA inT blkOf

/-! ### publishing: a block of the call's own is only read from here on -/
def pubC (key : Nat) (blk : Blk) : V → V
  | .sl k o l s => bif k == key then (bif decide (o + l * s ≤ blk.cells.length) then .list s (chunks s l (blk.cells.drop o)) else .junk) else .sl k o l s
  | .ptr k o => bif k == key then .rp (blk.cells.drop o) else .ptr k o
  | .vptr b k o => bif k == key then .junk else .vptr b k o
  | .mp k => bif k == key then .junk else .mp k
  | .agg _ | .tup _ => .junk
  | v => v
def pubA (key : Nat) (blk : Blk) : V → V
  | .agg cs => .agg (cs.map (pubC key blk))
  | v => pubC key blk v
def pubT (key : Nat) (blk : Blk) : V → V
  | .tup vs => .tup (vs.map (pubA key blk))
  | v => pubA key blk v
theorem KeyV.pubC {k : V} {x : Value} (h : KeyV k x) {key : Nat} {blk : Blk} : KeyV (pubC key blk k) x := by
  cases k with
  | sl k1 o1 l1 s1 =>
    simp only [Pv.pubC]
    cases hq : (k1 == key) with
    | true =>
      simp only [cond_true]
      cases hd : decide (o1 + l1 * s1 ≤ blk.cells.length)
      · exact trivial
      · exact trivial
    | false => exact trivial
  | ptr k1 o1 => simp only [Pv.pubC]; cases hq : (k1 == key) <;> exact trivial
  | vptr b1 k1 o1 => simp only [Pv.pubC]; cases hq : (k1 == key) <;> exact trivial
  | mp k1 => simp only [Pv.pubC]; cases hq : (k1 == key) <;> exact trivial
  | str s => exact h
  | val y => exact h
  | _ => exact trivial
def St.pub (st : St) (key : Nat) (blk : Blk) : St :=
  { env := fun t => pubT key blk (st.env t), heap := fun k => if k = key then none else (st.heap k).map fun b => ⟨b.ty, b.cells.map (pubC key blk)⟩ }
theorem pubC_pure {key : Nat} {blk : Blk} {v : V} (h : ownC v = false) : pubC key blk v = v := by
  cases v <;> simp [ownC] at h <;> rfl
theorem pub_cells {key : Nat} {blk : Blk} {cs : List V} (h : cs.any ownC = false) : cs.map (pubC key blk) = cs := by
  have : ∀ v ∈ cs, pubC key blk v = v := fun v hv => pubC_pure (by simpa using List.any_eq_false.1 h v hv)
  conv => rhs; rw [← List.map_id cs]
  exact List.map_congr_left this
theorem shC_pure {c : Nat} {v : V} (h : ownC v = false) : shC c v = v := by
  cases v <;> simp [ownC] at h <;> rfl
theorem sh_cells {c : Nat} {cs : List V} (h : cs.any ownC = false) : cs.map (shC c) = cs := by
  have : ∀ v ∈ cs, shC c v = v := fun v hv => shC_pure (by simpa using List.any_eq_false.1 h v hv)
  conv => rhs; rw [← List.map_id cs]
  exact List.map_congr_left this
section
variable {w0 : Base} {ro ro' : Nat → Prop} {lam : Lam} {a : Act} {w : World}
theorem pubRow (hs : Sim w0 n ro lam st a w) {key off len sz : Nat} {blk : Blk} {x : Value} (hk : st.heap key = some blk) (hle : off + len * sz ≤ blk.cells.length) (hpure' : blk.cells.any ownC = false) (h1 : ∀ b, ro b → ro' b) (h2 : ∀ b m, lam key = some (some b, m) → ro' b) (hx : R w ro lam (.sl key off len sz) x) :
    R0 w ro' (.list sz (chunks sz len (blk.cells.drop off))) x := by
  rcases hx.sl_inv with ⟨hv, rfl, rfl, rfl⟩ | ⟨b, m, cap, hl, _, hlc, _, rfl⟩
  · exact .list0 _ _ _
  · rcases hs.heap key blk hk with ⟨hv, _⟩ | ⟨b', o, hv, _⟩ | ⟨b', m', arr, hl', hw, hsz, hle', hr⟩
    · rw [hl] at hv; cases hv
    · rw [hl] at hv; cases hv
    · rw [hl] at hl'
      simp only [Option.some.injEq, Prod.mk.injEq] at hl'
      obtain ⟨rfl, rfl⟩ := hl'
      have hlen := length_chunks sz len (blk.cells.drop off)
      have hat : ∀ i j c y, (chunks sz len (blk.cells.drop off))[i]? = some c → c[j]? = some y → blk.cells[off + (i * sz + j)]? = some y ∧ off + (i * sz + j) < arr.size := fun i j c y hc hy => by
        obtain ⟨h1, rfl⟩ := chunks_at sz len _ i c hc
        rw [List.getElem?_take] at hy
        split at hy
        · rw [List.getElem?_drop, List.getElem?_drop] at hy
          refine ⟨by rw [← hy], ?_⟩
          have := (List.getElem?_eq_some_iff.1 hy).1
          omega
        · cases hy
      have key' : R0 w ro' (.list sz (chunks sz len (blk.cells.drop off))) (.slice (some ⟨b, off, none⟩) (chunks sz len (blk.cells.drop off)).length cap) := by
        refine .list sz _ ⟨b, off, none⟩ cap (fun i j => arr.getD (off + (i * sz + j)) Go.undef) (h2 b _ hl) (fun c hc => ?_) (by rw [hlen]; exact hlc) (fun i j c y hc hy => ?_) (fun i j c y hc hy => ?_)
        · obtain ⟨i, hi, rfl⟩ := List.mem_iff_getElem.1 hc
          obtain ⟨h1, h2⟩ := chunks_at sz len _ i _ (List.getElem?_eq_getElem hi)
          rw [h2]
          simp only [List.length_take, List.length_drop]
          have : (i + 1) * sz ≤ len * sz := Nat.mul_le_mul_right _ h1
          rw [Nat.succ_mul] at this
          omega
        · obtain ⟨h1, h2⟩ := hat i j c y hc hy
          rw [add_lit, cell_of_row w b _ arr blk.ty (0, 0) hw]
          simp [Array.getD_eq_getD_getElem?, Array.getElem?_eq_getElem h2]
        · obtain ⟨g1, g2⟩ := hat i j c y hc hy
          have h3 := hr _ y _ g1 (Array.getElem?_eq_getElem g2)
          have h4 := (h3.pureC (any_at hpure' g1)).mono (ro' := ro') (fun _ _ => rfl) h1
          simpa [Array.getD_eq_getD_getElem?, Array.getElem?_eq_getElem g2] using h4
      rw [hlen] at key'
      exact key'
theorem pubPtr (hs : Sim w0 n ro lam st a w) {key off : Nat} {blk : Blk} {x : Value} (hk : st.heap key = some blk) (hpure' : blk.cells.any ownC = false) (h1 : ∀ b, ro b → ro' b) (h2 : ∀ b m, lam key = some (some b, m) → ro' b) (hx : R w ro lam (.ptr key off) x) : R0 w ro' (.rp (blk.cells.drop off)) x := by
  obtain ⟨b, m, hl, rfl⟩ := hx.ptr_inv
  rcases hs.heap key blk hk with ⟨hv, _⟩ | ⟨b', o, hv, _⟩ | ⟨b', m', arr, hl', hw, hsz, hle', hr⟩
  · rw [hl] at hv; cases hv
  · rw [hl] at hv; cases hv
  · rw [hl] at hl'
    simp only [Option.some.injEq, Prod.mk.injEq] at hl'
    obtain ⟨rfl, rfl⟩ := hl'
    have hat : ∀ j y, (blk.cells.drop off)[j]? = some y → blk.cells[off + j]? = some y ∧ off + j < arr.size := fun j y hy => by
      rw [List.getElem?_drop] at hy
      have := (List.getElem?_eq_some_iff.1 hy).1
      exact ⟨hy, by omega⟩
    refine .rp _ ⟨b, off, none⟩ (fun j => arr.getD (off + j) Go.undef) (h2 b _ hl) (fun j y hy => ?_) (fun j y hy => ?_)
    · obtain ⟨g1, g2⟩ := hat j y hy
      rw [add_lit, cell_of_row w b _ arr blk.ty (0, 0) hw]
      simp [Array.getD_eq_getD_getElem?, Array.getElem?_eq_getElem g2]
    · obtain ⟨g1, g2⟩ := hat j y hy
      have h3 := hr _ y _ g1 (Array.getElem?_eq_getElem g2)
      have h4 := (h3.pureC (any_at hpure' g1)).mono (ro' := ro') (fun _ _ => rfl) h1
      simpa [Array.getD_eq_getD_getElem?, Array.getElem?_eq_getElem g2] using h4
theorem View.pub (n : Nat) {st : St} {key : Nat} {blk : Blk} (hk : st.heap key = some blk) (hp : blk.cells.any ownC = false) : View n st (st.pub key blk) := by
  intro w0 ro lam a w hs
  obtain ⟨ro', hro'⟩ : ∃ ro' : Nat → Prop, ro' = fun b => ro b ∨ ∃ m, lam key = some (some b, m) := ⟨_, rfl⟩
  have r1 : ∀ b, ro b → ro' b := fun b h => by rw [hro']; exact .inl h
  have r2 : ∀ b m, lam key = some (some b, m) → ro' b := fun b m h => by rw [hro']; exact .inr ⟨m, h⟩
  have hl : ∀ k y, k ≠ key → lam k = some y → upd lam key none k = some y := fun k y hne h => by rw [upd_ne _ _ hne]; exact h
  have hb : ∀ k y, upd lam key none k = some y → k ≠ key ∧ lam k = some y := fun k y h => by
    by_cases e : k = key
    · subst e; rw [upd_same] at h; cases h
    · rw [upd_ne _ _ e] at h; exact ⟨e, h⟩
  have pC : ∀ {v x}, R w ro lam v x → R w ro' (upd lam key none) (pubC key blk v) x := by
    intro v x h
    cases v with
    | sl k o l s =>
      by_cases e : k = key
      · subst e
        have heq : pubC k blk (.sl k o l s) = if o + l * s ≤ blk.cells.length then .list s (chunks s l (blk.cells.drop o)) else .junk := by simp [pubC, cond_eq_ite]
        rw [heq]
        by_cases hle : o + l * s ≤ blk.cells.length
        · rw [if_pos hle]; exact .pure _ _ (pubRow hs hk hle hp r1 r2 h)
        · rw [if_neg hle]; exact .pure _ _ (.junk _)
      · simp only [pubC, beq_eq_false_iff_ne.2 e, cond_false]
        rcases h.sl_inv with ⟨hv, rfl, rfl, rfl⟩ | ⟨b, m, cap, h1, h2, h3, h4, rfl⟩
        · exact .slv _ _ (hl _ _ e hv)
        · exact .sl _ _ _ _ b m cap (hl _ _ e h1) h2 h3 h4
    | ptr k o =>
      by_cases e : k = key
      · subst e
        simp only [pubC, beq_self_eq_true, cond_true]
        exact .pure _ _ (pubPtr hs hk hp r1 r2 h)
      · simp only [pubC, beq_eq_false_iff_ne.2 e, cond_false]
        obtain ⟨b, m, h1, rfl⟩ := h.ptr_inv
        exact .ptr _ _ b m (hl _ _ e h1)
    | vptr b k o =>
      by_cases e : k = key
      · subst e
        simp only [pubC, beq_self_eq_true, cond_true]
        exact .pure _ _ (.junk _)
      · simp only [pubC, beq_eq_false_iff_ne.2 e, cond_false]
        cases h with
        | pure _ _ h => cases h
        | vptr _ _ _ m h => exact .vptr _ _ _ m (hl _ _ e h)
    | mp k =>
      by_cases e : k = key
      · subst e
        simp only [pubC, beq_self_eq_true, cond_true]
        exact .pure _ _ (.junk _)
      · simp only [pubC, beq_eq_false_iff_ne.2 e, cond_false]
        obtain ⟨b, h1, rfl⟩ := h.mp_inv
        exact .mp _ b (hl _ _ e h1)
    | agg _ => exact .pure _ _ (.junk _)
    | tup _ => exact .pure _ _ (.junk _)
    | _ => exact .pure _ _ ((h.pureC rfl).mono (fun _ _ => rfl) r1)
  have pA : ∀ {v x}, R w ro lam v x → R w ro' (upd lam key none) (pubA key blk v) x := by
    intro v x h
    cases v with
    | agg cs =>
      obtain ⟨arr, rfl, h1, h2⟩ := h.agg_inv
      refine .agg _ _ (by simpa using h1) fun j v y hv hy => ?_
      simp only [List.getElem?_map, Option.map_eq_some_iff] at hv
      obtain ⟨v', hv', rfl⟩ := hv
      exact pC (h2 j v' y hv' hy)
    | _ => exact pC h
  have pT : ∀ {v x}, R w ro lam v x → R w ro' (upd lam key none) (pubT key blk v) x := by
    intro v x h
    cases v with
    | tup cs =>
      obtain ⟨arr, rfl, h1, h2⟩ := h.tup_inv
      refine .tup _ _ (by simpa using h1) fun j v y hv hy => ?_
      simp only [List.getElem?_map, Option.map_eq_some_iff] at hv
      obtain ⟨v', hv', rfl⟩ := hv
      exact pA (h2 j v' y hv' hy)
    | agg cs => exact pA h
    | _ => exact pC h
  refine ⟨ro', upd lam key none, ⟨r1, fun b h => ?_⟩, ⟨hs.below, hs.dfr, hs.size, fun b h => ?_, fun t => pT (hs.env t), fun k blk' hk' => ?_, fun k hk' => ?_, fun k b m h => ?_, fun k1 k2 b m1 m2 e1 e2 => hs.inj k1 k2 b m1 m2 (hb _ _ e1).2 (hb _ _ e2).2, fun k b h => ?_⟩⟩
  · rw [hro'] at h
    rcases h with h | ⟨m, h⟩
    · exact .inl h
    · exact .inr (hs.own key b m h).1
  · rw [hro'] at h
    rcases h with h | ⟨m, h⟩
    · exact hs.rolt b h
    · exact (hs.own key b m h).2.1
  · simp only [St.pub] at hk'
    split at hk'
    · cases hk'
    · rename_i hne
      simp only [Option.map_eq_some_iff] at hk'
      obtain ⟨b0, hb0, rfl⟩ := hk'
      rcases hs.heap k b0 hb0 with ⟨hv, hc⟩ | ⟨b, o, hl', hw, hso⟩ | ⟨b, m, arr, hl', hw, h1, hle, hr⟩
      · exact .inl ⟨hl _ _ hne hv, by simp [hc]⟩
      · refine .inr (.inl ⟨b, o, hl _ _ hne hl', hw, ?_⟩)
        obtain ⟨ents, clk, rfl, hz, hr⟩ := hso
        refine ⟨ents, clk, rfl, by simpa using hz, fun j kk e hkk he => ?_⟩
        simp only [List.getElem?_map, Option.map_eq_some_iff] at hkk
        obtain ⟨k0, hk0, rfl⟩ := hkk
        obtain ⟨g1, g2⟩ := hr j k0 e hk0 he
        refine ⟨g1, ?_⟩
        exact g2.pubC
      · refine .inr (.inr ⟨b, m, arr, hl _ _ hne hl', hw, h1, by simpa using hle, fun j c x hc hx => ?_⟩)
        simp only [List.getElem?_map, Option.map_eq_some_iff] at hc
        obtain ⟨c0, hc0, rfl⟩ := hc
        exact pC (hr j c0 x hc0 hx)
  · simp only [St.pub] at hk'
    split at hk'
    · rename_i e; subst e; exact upd_same _ _ _
    · rename_i hne
      rw [upd_ne _ _ hne]
      simp only [Option.map_eq_none_iff] at hk'
      exact hs.dead k hk'
  · obtain ⟨hne, hl'⟩ := hb _ _ h
    obtain ⟨o1, o2, o3⟩ := hs.own k b m hl'
    refine ⟨o1, o2, fun hr => ?_⟩
    rw [hro'] at hr
    rcases hr with hr | ⟨m', hr⟩
    · exact o3 hr
    · exact hne (hs.inj _ _ _ _ _ hl' hr)
  · obtain ⟨hne, hl'⟩ := hb _ _ h
    obtain ⟨⟨o1, o2, o3⟩, o4⟩ := hs.maps k b hl'
    refine ⟨⟨o1, o2, fun hr => ?_⟩, fun k' h' => o4 k' (hb _ _ h').2⟩
    rw [hro'] at hr
    rcases hr with hr | ⟨m', hr⟩
    · exact o3 hr
    · rcases hs.heap key blk hk with ⟨hv, _⟩ | ⟨b', o, hv, _⟩ | ⟨b', m2, arr, hv, hw, _⟩
      · rw [hr] at hv; cases hv
      · rw [hr] at hv; cases hv
      · rw [hr] at hv
        simp only [Option.some.injEq, Prod.mk.injEq] at hv
        obtain ⟨rfl, rfl⟩ := hv
        rcases Option.isSome_iff_exists.1 (show (st.heap k).isSome = true by
          cases hkk : st.heap k with
          | none => rw [hs.dead k hkk] at hl'; cases hl'
          | some _ => rfl) with ⟨b0, hb0⟩
        rcases hs.heap k b0 hb0 with ⟨hv2, _⟩ | ⟨b2, o2', hv2, hw2, hso⟩ | ⟨b2, m3, arr3, hv2, _⟩
        · rw [hl'] at hv2; cases hv2
        · rw [hl'] at hv2
          simp only [Option.some.injEq, Prod.mk.injEq, true_and] at hv2
          have : b2 = b := by omega
          subst this
          exact hs.notMap hr hw2 hso
        · rw [hl'] at hv2; cases hv2
end
end
end Go.Pv
end
