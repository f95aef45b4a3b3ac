/-
  Part 10: a region that draws its order: one pure run in the order of the text serves every order.
-/
import Derived.Test.YtcbddoopmkhlfaaPv9
namespace Go.Pv
open Go.RowKit
set_option linter.unusedSimpArgs false

section
variable {w0 : Base} {n : Nat} {ro : Nat → Prop} {lam : Lam} {st : St} {a : Act} {w : World} {P : Program} {Γ : Tab}

theorem ev01_congr (h : Nat → Option Blk) {ρ ρ' : Operand → V} (op : Op) (hρ : ∀ x ∈ op.operands, ρ x = ρ' x) : ev01 P Γ h ρ op = ev01 P Γ h ρ' op := by
  cases op <;> simp only [Op.operands, List.mem_toArray] at hρ <;> simp only [ev01]
  case move x => rw [hρ x (by simp)]
  case assign x => rw [hρ x (by simp)]
  case pick c x y => rw [hρ c (by simp), hρ x (by simp), hρ y (by simp)]
  case build t ps =>
    congr 1
    apply List.map_congr_left
    intro p hp
    rw [hρ p.2 (by simp only [List.mem_map]; exact ⟨p, hp, rfl⟩)]
  case load t x => rw [hρ x (by simp)]
  case makeFunc fn fs cs =>
    have e1 : fs.toList.map ρ = fs.toList.map ρ' := List.map_congr_left fun x hx => hρ x (by simp only [Array.mem_append]; exact .inl (by simpa using hx))
    have e2 : cs.toList.map ρ = cs.toList.map ρ' := List.map_congr_left fun x hx => hρ x (by simp only [Array.mem_append]; exact .inr (by simpa using hx))
    rw [e1, e2]
  case lookup t x k ok => cases ok <;> simp only [ev01] <;> rw [hρ x (by simp), hρ k (by simp)]
  case binOp o t x y ty => rw [hρ x (by simp), hρ y (by simp)]
  case unOp o t x => rw [hρ x (by simp)]
  case convert s t x => rw [hρ x (by simp)]
  case sliceToArrayPointer t x => rw [hρ x (by simp)]
  case fieldAddr s x f => rw [hρ x (by simp)]
  case field s x f => rw [hρ x (by simp)]
  case indexAddr t x i => rw [hρ x (by simp), hρ i (by simp)]
  case index t x i => rw [hρ x (by simp), hρ i (by simp)]
  case extract x i => rw [hρ x (by simp)]
  case nilCheck x => rw [hρ x (by simp)]
  case slice t x lo hi mx =>
    cases mx with
    | some m => simp only [ev01]
    | none =>
      simp only [ev01]
      have h1 : ρ x = ρ' x := hρ x (by simp)
      have h2 : lo.map ρ = lo.map ρ' := by cases lo with | none => rfl | some y => simp [hρ y (by simp)]
      have h3 : hi.map ρ = hi.map ρ' := by cases hi with | none => rfl | some y => simp [hρ y (by simp)]
      rw [h1, h2, h3]
  case call c =>
    have : c.args.toList.map ρ = c.args.toList.map ρ' := List.map_congr_left fun x hx => hρ x (by simp only [Call.operands, Array.mem_append]; exact .inr (by simpa using hx))
    rw [this]

theorem ev2_congr (d : Nat) {ρ ρ' : Operand → V} (op : Op) (hρ : ∀ x ∈ op.operands, ρ x = ρ' x) : ev2 P ρ d op = ev2 P ρ' d op := by
  cases op <;> simp only [Op.operands, List.mem_toArray] at hρ <;> simp only [ev2]
  case box t x => rw [hρ x (by simp)]
  case makeSlice t l c => rw [hρ l (by simp), hρ c (by simp)]
  case buildSlice t len ps =>
    congr 2
    apply List.map_congr_left
    intro p hp
    rw [hρ p.2 (by simp only [List.mem_map]; exact ⟨p, hp, rfl⟩)]

theorem ev01_kind0 (h h' : Nat → Option Blk) (ρ : Operand → V) (op : Op) (hk : kind op = 0) : ev01 P Γ h ρ op = ev01 P Γ h' ρ op := by
  cases op <;> simp only [kind] at hk <;> (try simp only [ev01]) <;> (try cases hk)
  case call c =>
    obtain ⟨callee, args, ts⟩ := c
    cases callee with
    | value f => cases f <;> simp [kindC] at hk
    | builtin b => cases b <;> simp [kindC] at hk <;> simp only [callK]
    | invoke r m => simp [kindC] at hk

theorem upd_of_some {h : Nat → Option Blk} {d k : Nat} {b : Option Blk} {blk : Blk} (hd : h d = none) (hk : h k = some blk) : upd h d b k = some blk := by
  rw [upd_ne]; exact hk
  rintro rfl; rw [hd] at hk; cases hk

theorem lend0_heap {h : Nat → Option Blk} {d : Nat} {b : Option Blk} (hd : h d = none) {v u : V} (e : lend0 h v = some u) : lend0 (upd h d b) v = some u := by
  cases v with
  | sl key off len sz =>
    simp only [lend0] at e ⊢
    split at e
    · rename_i blk hk; rw [upd_of_some hd hk]; exact e
    · cases e
  | mp key =>
    simp only [lend0] at e ⊢
    split at e
    · rename_i blk hk; rw [upd_of_some hd hk]; exact e
    · cases e
  | _ => exact e
theorem lend0L_heap {h : Nat → Option Blk} {d : Nat} {b : Option Blk} (hd : h d = none) : ∀ (vs us : List V), lend0L h vs = some us → lend0L (upd h d b) vs = some us
  | [], us, e => e
  | v :: vs, us, e => by
    unfold lend0L at e ⊢
    split at e
    · rename_i u us' h1 h2
      rw [lend0_heap hd h1, lend0L_heap hd vs us' h2]; exact e
    · cases e
theorem lendC_heap {h : Nat → Option Blk} {d : Nat} {b : Option Blk} (hd : h d = none) {v u : V} (e : lendC h v = some u) : lendC (upd h d b) v = some u := by
  cases v with
  | sl key off len sz =>
    simp only [lendC] at e ⊢
    split at e
    · rename_i blk hk; rw [upd_of_some hd hk]; exact e
    · cases e
  | mp key =>
    simp only [lendC] at e ⊢
    split at e
    · rename_i blk hk; rw [upd_of_some hd hk]; exact e
    · cases e
  | ptr key off =>
    simp only [lendC] at e ⊢
    split at e
    · rename_i blk hk
      rw [upd_of_some hd hk]
      simp only [cond_eq_ite] at e ⊢
      split at e
      · rename_i ho
        simp only [Option.map_eq_some_iff] at e
        obtain ⟨cs, hcs, rfl⟩ := e
        simp only [ho, if_true, lend0L_heap hd _ _ hcs, Option.map_some]
      · rename_i ho
        simp only [ho, if_false]; exact e
    · cases e
  | _ => exact e
theorem lendL_heap {h : Nat → Option Blk} {d : Nat} {b : Option Blk} (hd : h d = none) : ∀ (vs us : List V), lendL h vs = some us → lendL (upd h d b) vs = some us
  | [], us, e => e
  | v :: vs, us, e => by
    unfold lendL at e ⊢
    split at e
    · rename_i u us' h1 h2
      rw [lendC_heap hd h1, lendL_heap hd vs us' h2]; exact e
    · cases e
theorem lendA_heap {h : Nat → Option Blk} {d : Nat} {b : Option Blk} (hd : h d = none) {v u : V} (e : lendA h v = some u) : lendA (upd h d b) v = some u := by
  cases v with
  | agg cs =>
    simp only [lendA, Option.map_eq_some_iff] at e ⊢
    obtain ⟨us, h1, h2⟩ := e
    exact ⟨us, lendL_heap hd cs us h1, h2⟩
  | _ => simp only [lendA] at e ⊢; exact lendC_heap hd e
theorem lendAs_heap {h : Nat → Option Blk} {d : Nat} {b : Option Blk} (hd : h d = none) : ∀ (vs us : List V), lendAs h vs = some us → lendAs (upd h d b) vs = some us
  | [], us, e => e
  | v :: vs, us, e => by
    unfold lendAs at e ⊢
    split at e
    · rename_i u us' h1 h2
      rw [lendA_heap hd h1, lendAs_heap hd vs us' h2]; exact e
    · cases e
theorem ev01_heap {h : Nat → Option Blk} {d : Nat} {b : Option Blk} (hd : h d = none) {ρ : Operand → V} {op : Op} {v : V} (e : ev01 P Γ h ρ op = some v) : ev01 P Γ (upd h d b) ρ op = some v := by
  cases op with
  | load t x =>
    simp only [ev01, loadV] at e ⊢
    split at e
    · split at e
      · split at e
        · rename_i blk hk; rw [upd_of_some hd hk]; exact e
        · cases e
      · exact e
      · exact e
      · cases e
    · cases e
  | lookup t x k ok =>
    cases ok with
    | true => simp [ev01] at e
    | false =>
      simp only [ev01, lookV, cond_eq_ite] at e ⊢
      split at e
      · rename_i hm
        rw [if_pos hm]
        split at e
        · rename_i h1 h2
          split at e
          · rename_i blk hk
            simp only [upd_of_some hd hk]; exact e
          · cases e
        · exact e
        · cases e
      · rename_i hm
        rw [if_neg hm]
        split at e
        · rename_i hm2
          rw [if_pos hm2]
          split at e
          · rename_i h1 h2
            split at e
            · rename_i blk hk
              simp only [upd_of_some hd hk]; exact e
            · cases e
          · exact e
          · exact e
          · cases e
        · cases e
  | slice t x lo hi mx =>
    cases mx with
    | some m => simp [ev01] at e
    | none =>
      simp only [ev01, sliceV] at e ⊢
      split at e
      · rename_i dd hdd
        split at e
        · exact e
        · split at e
          · split at e
            · rename_i h1 h2 hk
              rw [h1, h2, upd_of_some hd hk]
              exact e
            · cases e
          · cases e
      · cases e
  | call c =>
    obtain ⟨callee, args, ts⟩ := c
    simp only [ev01] at e ⊢
    cases callee with
    | value f =>
      cases f with
      | func f =>
        simp only [callK, callV] at e ⊢
        split at e
        · rename_i vs hvs
          rw [lendAs_heap hd _ _ hvs]
          exact e
        · cases e
      | _ => simp [callK] at e
    | builtin bb => cases bb <;> first | exact e | simp [callK] at e
    | invoke r m => simp [callK] at e
  | _ => first | exact e | (simp [ev01] at e)

theorem upd_comm {α : Type} (e : Nat → α) {c d : Nat} (u v : α) (h : c ≠ d) : upd (upd e c u) d v = upd (upd e d v) c u := by
  funext t
  by_cases h1 : t = c
  · subst h1; simp [upd, h]
  · by_cases h2 : t = d
    · subst h2; simp [upd, h1]
    · simp [upd, h1, h2]
theorem ev_put {st : St} {d : Option Tmp} {v : V} {x : Operand} (h : ∀ k, d = some k → x ≠ .tmp k) : ev (st.put d v) x = ev st x := by
  cases d with
  | none => rfl
  | some d =>
    cases x with
    | tmp t => simp only [ev, St.put]; rw [upd_ne _ _ (fun e => h d rfl (by rw [e]))]
    | _ => rfl
theorem put_comm (st : St) {x y : Option Tmp} (v u : V) (h : ∀ d, x = some d → y ≠ some d) : (st.put x v).put y u = (st.put y u).put x v := by
  cases x with
  | none => rfl
  | some d =>
    cases y with
    | none => rfl
    | some e =>
      have hne : d ≠ e := fun he => h d rfl (he ▸ rfl)
      simp only [St.put]
      rw [upd_comm _ _ _ hne]

/-- Two operations of which the first in the text may also come second. -/
def movB (x : Oper) : Bool := match x.guard, x.op, x.dst with
  | none, .move (.tmp _), some _ => true
  | _, _, _ => false
def appB (y : Oper) : Bool := match y.guard, y.op, y.dst with
  | none, .call c, some _ => (match c.callee with
    | .builtin .append => true
    | _ => false)
  | _, _, _ => false
def commM (ops : Array Oper) (x y : Oper) : Bool := x.apart ops y && (movB x && appB y)
def commB (ops : Array Oper) (x y : Oper) : Bool := commM ops x y ||
  x.apart ops y && ((decide (kind x.op ≤ 1) && decide (kind y.op ≤ 2)) || (decide (kind x.op = 2) && (decide (kind y.op = 0) || decide (kind y.op = 2))))

theorem want_put {ops : Array Oper} {o : Oper} {d : Option Tmp} {v : V} {st : St} (h : ∀ k, d = some k → k ∉ o.looksAt ops) : wantV ops (st.put d v) o.guard = wantV ops st o.guard := by
  unfold wantV
  cases hg : o.guard with
  | none => rfl
  | some p =>
    obtain ⟨j, want⟩ := p
    simp only
    cases hd : (ops[j]?).bind (·.dst) with
    | none => rfl
    | some g =>
      have hne : ∀ k, d = some k → g ≠ k := fun k hk e => h k hk (by simp [Oper.looksAt, hg, hd, e])
      have : (st.put d v).env g = st.env g := by
        cases d with
        | none => rfl
        | some k => simp only [St.put]; exact upd_ne _ _ (hne k rfl)
      simp only [this]
theorem evs_put {ops : Array Oper} {o : Oper} {d : Option Tmp} {v : V} {st : St} (h : ∀ k, d = some k → k ∉ o.looksAt ops) : ∀ x ∈ o.op.operands, ev (st.put d v) x = ev st x := by
  intro x hx
  refine ev_put fun k hk e => h k hk ?_
  simp only [Oper.looksAt, List.mem_append, List.mem_filterMap]
  exact .inl ⟨x, by simpa using hx, by rw [e]⟩

/-- What one operation did: it put a value, or it made a block. -/
theorem stepO_cases {ops : Array Oper} {o : Oper} {st s1 : St} (hk : kind o.op ≤ 2) (h : stepO P Γ n ops o st = some s1) :
    fits n o.dst = true ∧ ((∃ v, s1 = st.put o.dst v ∧ ((wantV ops st o.guard = some false ∧ v = .undef) ∨ (wantV ops st o.guard = some true ∧ kind o.op ≤ 1 ∧ ev01 P Γ st.heap (ev st) o.op = some v))) ∨
      (∃ d v blk, o.dst = some d ∧ wantV ops st o.guard = some true ∧ kind o.op = 2 ∧ st.heap d = none ∧ ev2 P (ev st) d o.op = some (v, blk) ∧ s1 = { env := upd st.env d v, heap := upd st.heap d (some blk) })) := by
  unfold stepO at h
  simp only [cond_eq_ite] at h
  split at h
  · rename_i hf
    refine ⟨hf, ?_⟩
    split at h
    · rename_i hw
      unfold stepOp at h
      split at h
      · rename_i hk0
        simp only [Option.map_eq_some_iff] at h
        obtain ⟨v, hv, rfl⟩ := h
        exact .inl ⟨v, rfl, .inr ⟨hw, by omega, hv⟩⟩
      · rename_i hk0
        simp only [Option.map_eq_some_iff] at h
        obtain ⟨v, hv, rfl⟩ := h
        exact .inl ⟨v, rfl, .inr ⟨hw, by omega, hv⟩⟩
      · rename_i hk0
        split at h
        · rename_i d hd
          split at h
          · rename_i hfr
            simp only [Option.map_eq_some_iff] at h
            obtain ⟨p, hp, rfl⟩ := h
            exact .inr ⟨d, p.1, p.2, hd, hw, hk0, hfr, hp, rfl⟩
          · cases h
        · cases h
      · rename_i k0 k1 k2; exact absurd (show kind o.op = 0 ∨ kind o.op = 1 ∨ kind o.op = 2 by omega) (fun h => h.elim k0 (fun h => h.elim k1 k2))
    · rename_i hw
      simp only [Option.some.injEq] at h
      exact .inl ⟨.undef, h.symm, .inl ⟨hw, rfl⟩⟩
    · cases h
  · cases h

theorem stepO_put {ops : Array Oper} {o : Oper} {st : St} {v : V} (hf : fits n o.dst = true) (h : (wantV ops st o.guard = some false ∧ v = .undef) ∨ (wantV ops st o.guard = some true ∧ kind o.op ≤ 1 ∧ ev01 P Γ st.heap (ev st) o.op = some v)) :
    stepO P Γ n ops o st = some (st.put o.dst v) := by
  unfold stepO
  simp only [hf, cond_true]
  rcases h with ⟨hw, rfl⟩ | ⟨hw, hk, hv⟩
  · simp only [hw]
  · simp only [hw]
    unfold stepOp
    rcases (show kind o.op = 0 ∨ kind o.op = 1 by omega) with h0 | h0 <;> simp only [h0, hv, Option.map_some]
theorem stepO_new {ops : Array Oper} {o : Oper} {st : St} {d : Nat} {v : V} {blk : Blk} (hf : fits n o.dst = true) (hd : o.dst = some d) (hw : wantV ops st o.guard = some true) (hk : kind o.op = 2) (hfr : st.heap d = none) (hv : ev2 P (ev st) d o.op = some (v, blk)) :
    stepO P Γ n ops o st = some { env := upd st.env d v, heap := upd st.heap d (some blk) } := by
  unfold stepO
  simp only [hf, cond_true, hw]
  unfold stepOp
  simp only [hk, hd, hfr, hv, Option.map_some]

theorem appendV_env {h : Nat → Option Blk} {d : Nat} {t : TypeId} {b x u : V} {e : Nat → V} {st' : St} (hh : appendV P ⟨e, h⟩ d t b x = some (u, st')) :
    ∃ (g : V → V), (∀ v, norm (g v) = g (norm v)) ∧ (∀ e', appendV P ⟨e', h⟩ d t b x = some (u, ⟨fun k => g (e' k), st'.heap⟩)) := by
  have hn : ∀ key v, norm (scr key v) = scr key (norm v) := fun key v => by
    cases v with
    | sl k o l z => simp only [scr, norm]; cases (k == key) <;> rfl
    | ptr k o => simp only [scr, norm]; cases (k == key) <;> rfl
    | vptr b k o => simp only [scr, norm]; cases (k == key) <;> rfl
    | mp k => simp only [scr, norm]; cases (k == key) <;> rfl
    | agg cs => simp only [scr, norm]; cases (cs.any (usesC key)) <;> rfl
    | tup cs => simp only [scr, norm]; cases (cs.any (usesA key)) <;> rfl
    | _ => rfl
  unfold appendV at hh
  split at hh
  · rename_i dd hdd
    split at hh
    · rename_i el s hslc
      split at hh
      · rename_i de m news hde hsrc
        split at hh
        · rename_i z hz
          simp only [cond_eq_ite] at hh
          split at hh
          · rename_i hc1
            split at hh
            · split at hh
              · rename_i hm
                simp only [Option.some.injEq, Prod.mk.injEq] at hh
                obtain ⟨rfl, rfl⟩ := hh
                refine ⟨id, fun _ => rfl, fun e' => ?_⟩
                simp only [appendV, hdd, hslc, hde, hsrc, hz, cond_eq_ite, hc1, hm, if_true, id]
              · rename_i hm
                split at hh
                · rename_i hd0
                  split at hh
                  · rename_i hc2
                    simp only [Option.some.injEq, Prod.mk.injEq] at hh
                    obtain ⟨rfl, rfl⟩ := hh
                    refine ⟨id, fun _ => rfl, fun e' => ?_⟩
                    have hd0' : h d = none := hd0
                    simp only [appendV, hdd, hslc, hde, hsrc, hz, cond_eq_ite, hc1, hm, hd0', hc2, if_true, id]
                    simp
                  · cases hh
                · cases hh
            · rename_i key len sz
              split at hh
              · rename_i blk hk
                split at hh
                · rename_i hc2
                  simp only [Option.some.injEq, Prod.mk.injEq] at hh
                  obtain ⟨rfl, rfl⟩ := hh
                  refine ⟨scr key, hn key, fun e' => ?_⟩
                  have hk' : h key = some blk := hk
                  simp only [appendV, hdd, hslc, hde, hsrc, hz, cond_eq_ite, hc1, hk', hc2, if_true]
                  rfl
                · cases hh
              · cases hh
            · cases hh
          · cases hh
        · cases hh
      · cases hh
    · cases hh
  · cases hh
theorem comm_mov {ops : Array Oper} {x y : Oper} {st s1 s2 : St} (hc : commM ops x y = true) (h1 : stepO P Γ n ops x st = some s1) (h2 : stepO P Γ n ops y s1 = some s2) :
    ∃ t1, stepO P Γ n ops y st = some t1 ∧ stepO P Γ n ops x t1 = some s2 := by
  simp only [commM, Bool.and_eq_true] at hc
  obtain ⟨hap, hm, ha⟩ := hc
  obtain ⟨a1, a2, a3⟩ := Oper.apart_spec hap
  unfold movB at hm
  split at hm
  · rename_i hg t d hgx hox hdx
    unfold appB at ha
    split at ha
    · rename_i c d' hgy hoy hdy
      obtain ⟨callee, args, ts⟩ := c
      simp only at ha
      split at ha
      · have hne : d ≠ d' := fun e => a2 d hdx (by rw [hdy, e])
        unfold stepO at h1 h2
        simp only [cond_eq_ite, hgx, hgy, wantV] at h1 h2
        split at h1
        · rename_i hfx
          split at h2
          · rename_i hfy
            simp only [stepOp, hox, kind, ev01, hdx, Option.map_some, Option.some.injEq] at h1
            subst h1
            simp only [stepOp, hoy, kind, kindC, hdy, Option.map_eq_some_iff] at h2
            obtain ⟨⟨u, s'⟩, h2, rfl⟩ := h2
            have hev : ∀ z ∈ args.toList, ev (st.put (some d) (ev st (.tmp t))) z = ev st z := fun z hz => by
              have := evs_put (v := ev st (.tmp t)) (st := st) a1 z (by rw [hoy]; simp only [Op.operands, Call.operands, Array.mem_append]; exact .inr (by simpa using hz))
              rw [hdx] at this; exact this
            simp only [ev3] at h2
            split at h2
            · rename_i b z ty ty' dd hcal hargs hts hdd
              simp only [cond_eq_ite, decide_eq_true_eq] at h2
              cases hdd
              split at h2
              · rename_i hty
                subst hty
                rw [hev b (by rw [hargs]; simp), hev z (by rw [hargs]; simp)] at h2
                obtain ⟨g, hgn, hall⟩ := appendV_env (e := (st.put (some d) (ev st (.tmp t))).env) (h := st.heap) h2
                have hs' : s' = ⟨fun k => g ((st.put (some d) (ev st (.tmp t))).env k), s'.heap⟩ := by
                  have := hall (st.put (some d) (ev st (.tmp t))).env
                  rw [show (⟨(st.put (some d) (ev st (.tmp t))).env, st.heap⟩ : St) = st.put (some d) (ev st (.tmp t)) from rfl, h2] at this
                  simp only [Option.some.injEq, Prod.mk.injEq, true_and] at this
                  exact this
                refine ⟨(⟨fun k => g (st.env k), s'.heap⟩ : St).put (some d') u, ?_, ?_⟩
                · unfold stepO
                  have hfy' : fits n (some d') = true := hdy ▸ hfy
                  have := hall st.env
                  rw [show (⟨st.env, st.heap⟩ : St) = st from rfl] at this
                  simp only [cond_eq_ite, hfy', if_true, hgy, wantV, stepOp, hoy, kind, kindC, hdy, ev3, hargs, hts, decide_true, this]
                  rfl
                · unfold stepO
                  have hfx' : fits n (some d) = true := hdx ▸ hfx
                  simp only [cond_eq_ite, hfx', if_true, hgx, wantV, stepOp, hox, kind, ev01, hdx, Option.map_some, Option.some.injEq]
                  have htd : t ≠ d' := fun e => a3 d' hdy (by simp [Oper.looksAt, hox, Op.operands, e])
                  rw [hs']
                  simp only [St.put, ev]
                  rw [upd_ne _ _ htd, upd_comm _ _ _ (Ne.symm hne)]
                  congr 1
                  congr 1
                  funext k
                  by_cases ek : k = d
                  · subst ek; rw [upd_same, upd_same, hgn]
                  · rw [upd_ne _ _ ek, upd_ne _ _ ek]
              · cases h2
            · cases h2
          · cases h2
        · cases h1
      · cases ha
    · cases ha
  · cases hm
theorem comm_sound {ops : Array Oper} {x y : Oper} {st s1 s2 : St} (hc : commB ops x y = true) (h1 : stepO P Γ n ops x st = some s1) (h2 : stepO P Γ n ops y s1 = some s2) :
    ∃ t1, stepO P Γ n ops y st = some t1 ∧ stepO P Γ n ops x t1 = some s2 := by
  unfold commB at hc
  rw [Bool.or_eq_true] at hc
  rcases hc with hc | hc
  · exact comm_mov hc h1 h2
  simp only [Bool.and_eq_true, Bool.or_eq_true, decide_eq_true_eq] at hc
  obtain ⟨hap, hk⟩ := hc
  obtain ⟨a1, a2, a3⟩ := Oper.apart_spec hap
  have hkx : kind x.op ≤ 2 := by omega
  have hky : kind y.op ≤ 2 := by omega
  obtain ⟨fx, cx⟩ := stepO_cases hkx h1
  obtain ⟨fy, cy⟩ := stepO_cases hky h2
  rcases cx with ⟨v, rfl, hv⟩ | ⟨d, v, blk, hd, hw, hk2, hfr, hv, rfl⟩
  · -- x puts a value
    have hwy : wantV ops (st.put x.dst v) y.guard = wantV ops st y.guard := want_put a1
    have hey := evs_put (v := v) (st := st) a1
    have hheap : (st.put x.dst v).heap = st.heap := by cases x.dst <;> rfl
    rcases cy with ⟨u, rfl, hu⟩ | ⟨d, u, blk, hd, hw, hk2, hfr, hu, rfl⟩
    · refine ⟨st.put y.dst u, stepO_put fy ?_, ?_⟩
      · rw [hwy, hheap, ev01_congr _ _ hey] at hu; exact hu
      · have hwx : wantV ops (st.put y.dst u) x.guard = wantV ops st x.guard := want_put a3
        have hex := evs_put (v := u) (st := st) a3
        have hheap' : (st.put y.dst u).heap = st.heap := by cases y.dst <;> rfl
        rw [put_comm st v u a2]
        refine stepO_put fx ?_
        rw [hwx, hheap', ev01_congr _ _ hex]
        exact hv
    · rw [hwy] at hw
      rw [hheap] at hfr
      rw [ev2_congr _ _ hey] at hu
      refine ⟨{ env := upd st.env d u, heap := upd st.heap d (some blk) }, stepO_new fy hd hw hk2 hfr hu, ?_⟩
      have he : ({ env := upd st.env d u, heap := upd st.heap d (some blk) } : St) = { (st.put y.dst u) with heap := upd st.heap d (some blk) } := by rw [hd]; rfl
      have hwx : wantV ops (st.put y.dst u) x.guard = wantV ops st x.guard := want_put a3
      have hwx' : wantV ops { env := upd st.env d u, heap := upd st.heap d (some blk) } x.guard = wantV ops st x.guard := by rw [← hwx, hd]; rfl
      have hex : ∀ z ∈ x.op.operands, ev { env := upd st.env d u, heap := upd st.heap d (some blk) } z = ev st z := fun z hz => by
        rw [← evs_put (v := u) (st := st) a3 z hz, hd]; cases z <;> rfl
      have hfin : ({ env := upd (st.put x.dst v).env d u, heap := upd (st.put x.dst v).heap d (some blk) } : St) = ({ env := upd st.env d u, heap := upd st.heap d (some blk) } : St).put x.dst v := by
        cases hx : x.dst with
        | none => rfl
        | some e =>
          have hne : e ≠ d := fun he => a2 e hx (by rw [hd, he])
          simp only [St.put]
          rw [upd_comm _ _ _ hne]
      rw [hfin]
      refine stepO_put fx ?_
      rw [hwx']
      rcases hv with h | ⟨q1, q2, q3⟩
      · exact .inl h
      · exact .inr ⟨q1, q2, by rw [ev01_congr _ _ hex]; exact ev01_heap hfr q3⟩
  · -- x makes a block
    have hky' : kind y.op = 0 ∨ kind y.op = 2 := by omega
    have hwy : wantV ops { env := upd st.env d v, heap := upd st.heap d (some blk) } y.guard = wantV ops st y.guard := by
      rw [← want_put (v := v) (st := st) a1, hd]; rfl
    have hey : ∀ z ∈ y.op.operands, ev { env := upd st.env d v, heap := upd st.heap d (some blk) } z = ev st z := fun z hz => by
      rw [← evs_put (v := v) (st := st) a1 z hz, hd]; cases z <;> rfl
    rcases cy with ⟨u, rfl, hu⟩ | ⟨d', u, blk', hd', hw', hk2', hfr', hu, rfl⟩
    · have hu' : (wantV ops st y.guard = some false ∧ u = .undef) ∨ (wantV ops st y.guard = some true ∧ kind y.op ≤ 1 ∧ ev01 P Γ st.heap (ev st) y.op = some u) := by
        rw [hwy, ev01_congr _ _ hey] at hu
        rcases hu with h | ⟨q1, q2, q3⟩
        · exact .inl h
        · refine .inr ⟨q1, q2, ?_⟩
          rw [ev01_kind0 st.heap (upd st.heap d (some blk)) _ _ (by omega)]; exact q3
      refine ⟨st.put y.dst u, stepO_put fy hu', ?_⟩
      have hwx : wantV ops (st.put y.dst u) x.guard = wantV ops st x.guard := want_put a3
      have hex := evs_put (v := u) (st := st) a3
      have hheap' : (st.put y.dst u).heap = st.heap := by cases y.dst <;> rfl
      have hfin : ({ env := upd st.env d v, heap := upd st.heap d (some blk) } : St).put y.dst u = { env := upd (st.put y.dst u).env d v, heap := upd (st.put y.dst u).heap d (some blk) } := by
        cases hy : y.dst with
        | none => rfl
        | some e =>
          have hne : d ≠ e := fun he => a2 d hd (by rw [hy, he])
          simp only [St.put]
          rw [upd_comm _ _ _ hne]
      rw [hfin]
      exact stepO_new fx hd (by rw [hwx]; exact hw) hk2 (by rw [hheap']; exact hfr) (by rw [ev2_congr _ _ hex]; exact hv)
    · have hne : d ≠ d' := fun he => a2 d hd (by rw [hd', he])
      rw [hwy] at hw'
      simp only [upd_ne _ _ (Ne.symm hne)] at hfr'
      rw [ev2_congr _ _ hey] at hu
      refine ⟨_, stepO_new fy hd' hw' hk2' hfr' hu, ?_⟩
      have hwx : wantV ops { env := upd st.env d' u, heap := upd st.heap d' (some blk') } x.guard = wantV ops st x.guard := by
        rw [← want_put (v := u) (st := st) a3, hd']; rfl
      have hex : ∀ z ∈ x.op.operands, ev { env := upd st.env d' u, heap := upd st.heap d' (some blk') } z = ev st z := fun z hz => by
        rw [← evs_put (v := u) (st := st) a3 z hz, hd']; cases z <;> rfl
      have hnew := stepO_new (Γ := Γ) (n := n) (st := { env := upd st.env d' u, heap := upd st.heap d' (some blk') }) fx hd (by rw [hwx]; exact hw) hk2 (by simp only [upd_ne _ _ hne]; exact hfr) (by rw [ev2_congr _ _ hex]; exact hv)
      rw [hnew, upd_comm _ _ _ hne, upd_comm _ _ _ hne]

/-! ### every order -/
def cOp (P : Program) (Γ : Tab) (n : Nat) (ops : Array Oper) (i : Nat) (K : St → Prop) (st : St) : Prop := match ops[i]? with
  | none => K st
  | some o => ∃ st', stepO P Γ n ops o st = some st' ∧ K st'
def cAny (P : Program) (Γ : Tab) (n : Nat) (ops : Array Oper) (K : St → Prop) : Nat → Array Bool → St → Prop
  | 0, listed, st => Region.ready .any ops listed = [] ∧ K st
  | fuel + 1, listed, st => (Region.ready .any ops listed = [] → K st) ∧ ∀ i ∈ Region.ready .any ops listed, cOp P Γ n ops i (cAny P Γ n ops K fuel (listed.setIfInBounds i true)) st

theorem wpAny_of_cAny (hΓ : TabOK P Γ) {ops : Array Oper} {K : St → Prop} {Q : Exit → Act → World → Prop} {ro0 : Nat → Prop} (hQ : ∀ a' ro' lam' w' st', Ext w0 ro0 ro' → Sim w0 n ro' lam' st' a' w' → K st' → Q .normal a' w') :
    ∀ (fuel : Nat) (listed : Array Bool) (st : St) (ro : Nat → Prop) (lam : Lam) (a : Act) (w : World), Ext w0 ro0 ro → Sim w0 n ro lam st a w → cAny P Γ n ops K fuel listed st → wpAny P .any ops Q fuel listed a w
  | 0, listed, st, ro, lam, a, w, hext, hs, h => ⟨h.1, hQ _ _ _ _ _ hext hs h.2⟩
  | fuel + 1, listed, st, ro, lam, a, w, hext, hs, h => by
    refine ⟨fun h0 => hQ _ _ _ _ _ hext hs (h.1 h0), fun i hi => ?_⟩
    have h1 := h.2 i hi
    unfold cOp at h1
    unfold wpOp
    split
    · rename_i ho
      simp only [ho] at h1
      exact wpAny_of_cAny hΓ hQ fuel _ st ro lam a w hext hs h1
    · rename_i o ho
      simp only [ho] at h1
      obtain ⟨st', h2, h3⟩ := h1
      exact stepO_sound hΓ hs h2 fun a' ro' lam' w' hext' hs' => wpAny_of_cAny hΓ hQ fuel _ st' ro' lam' a' w' (hext.trans hext') hs' h3

/-- Does j wait for i, perhaps through others? -/
def depF (ops : Array Oper) (i : Nat) : Nat → Nat → Bool
  | 0, _ => false
  | f + 1, j => match ops[j]? with
    | some oj => oj.after.any (fun e => Region.binds .any e && (e.on == i || depF ops i f e.on))
    | none => false
def Clo (ops : Array Oper) (listed : Array Bool) : Prop := ∀ j oj, ops[j]? = some oj → listed.getD j false = true → ∀ e ∈ oj.after, Region.binds .any e = true → listed.getD e.on false = true
theorem getD_set_true {listed : Array Bool} {i k : Nat} (h : listed.getD k false = true) : (listed.setIfInBounds i true).getD k false = true := by
  rw [Array.getD_eq_getD_getElem?] at h ⊢
  rw [Array.getElem?_setIfInBounds]
  split
  · rename_i e; subst e
    split
    · rfl
    · rename_i hn; rw [Array.getElem?_eq_none (by omega)] at h; cases h
  · exact h
theorem Clo.set {ops : Array Oper} {listed : Array Bool} {i : Nat} (h : Clo ops listed) (hr : i ∈ Region.ready .any ops listed) : Clo ops (listed.setIfInBounds i true) := by
  intro j oj hj hl e he hb
  by_cases hji : j = i
  · subst hji
    obtain ⟨_, o, ho, hall⟩ := mem_ready.1 hr
    rw [ho] at hj; cases hj
    exact getD_set_true (hall e he hb)
  · refine getD_set_true (h j oj hj ?_ e he hb)
    rw [Array.getD_eq_getD_getElem?] at hl ⊢
    rwa [Array.getElem?_setIfInBounds, if_neg (Ne.symm hji)] at hl
theorem un_of {listed : Array Bool} {i : Nat} (h : listed.getD i true = false) : listed.getD i false = false := by
  rw [Array.getD_eq_getD_getElem?] at h ⊢
  cases hh : listed[i]? with
  | none => rfl
  | some b => rw [hh] at h; simpa using h
theorem dep_un {ops : Array Oper} {listed : Array Bool} {i : Nat} (hc : Clo ops listed) (hi : listed.getD i true = false) : ∀ (f j : Nat), depF ops i f j = true → listed.getD j false = false
  | 0, j, h => by cases h
  | f + 1, j, h => by
    unfold depF at h
    split at h
    · rename_i oj hj
      obtain ⟨e, he, hb⟩ := Array.any_eq_true'.1 h
      simp only [Bool.and_eq_true, Bool.or_eq_true, beq_iff_eq] at hb
      cases hl : listed.getD j false with
      | false => rfl
      | true =>
        have h1 := hc j oj hj hl e he hb.1
        rcases hb.2 with h2 | h2
        · rw [h2, un_of hi] at h1; cases h1
        · rw [dep_un hc hi f e.on h2] at h1; cases h1
    · cases h
theorem dep_ready {ops : Array Oper} {listed : Array Bool} {i j : Nat} (hc : Clo ops listed) (hi : listed.getD i true = false) (hr : j ∈ Region.ready .any ops listed) (f : Nat) : depF ops i f j = false := by
  cases hd : depF ops i f j with
  | false => rfl
  | true =>
    cases f with
    | zero => cases hd
    | succ f =>
      unfold depF at hd
      split at hd
      · rename_i oj hj
        obtain ⟨e, he, hb⟩ := Array.any_eq_true'.1 hd
        simp only [Bool.and_eq_true, Bool.or_eq_true, beq_iff_eq] at hb
        obtain ⟨_, o, ho, hall⟩ := mem_ready.1 hr
        rw [ho] at hj; cases hj
        have h1 := hall e he hb.1
        rcases hb.2 with h2 | h2
        · rw [h2, un_of hi] at h1; cases h1
        · rw [dep_un hc hi f e.on h2] at h1; cases h1
      · cases hd
def freeB (ops : Array Oper) (listed : Array Bool) (i : Nat) : Bool :=
  match ops[i]? with
  | none => false
  | some oi => (List.range ops.size).all fun j => j == i || listed.getD j true || match ops[j]? with
      | some oj => oj.after.any (fun e => Region.binds .any e && e.on == i) || (commB ops oi oj || depF ops i 16 j)
      | none => true
theorem freeB_spec {ops : Array Oper} {i : Nat} {oi : Oper} {listed : Array Bool} (hi : ops[i]? = some oi) (h : freeB ops listed i = true) (j : Nat) (oj : Oper)
    (hj : ops[j]? = some oj) (hne : j ≠ i) (hun : listed.getD j true = false) (hno : ∀ e ∈ oj.after, Region.binds .any e = true → e.on ≠ i) (hdep : ∀ f, depF ops i f j = false) : commB ops oi oj = true := by
  simp only [freeB, hi, List.all_eq_true, List.mem_range] at h
  have h1 := h j (Array.getElem?_eq_some_iff.1 hj).1
  simp only [hj, Bool.or_eq_true, beq_iff_eq, hne, false_or, hun, Bool.false_eq_true, hdep, or_false] at h1
  rcases h1 with h1 | h1
  · obtain ⟨e, he, hb⟩ := Array.any_eq_true'.1 h1
    simp only [Bool.and_eq_true, beq_iff_eq] at hb
    exact absurd hb.2 (hno e he hb.1)
  · exact h1

theorem cAny_first {ops : Array Oper} {K : St → Prop} {i : Nat} {oi : Oper} (hi : ops[i]? = some oi) : ∀ (fuel : Nat) (listed : Array Bool) (st s1 : St),
    (∀ j oj, ops[j]? = some oj → j ≠ i → listed.getD j true = false → (∀ e ∈ oj.after, Region.binds .any e = true → e.on ≠ i) → (∀ f, depF ops i f j = false) → commB ops oi oj = true) → Clo ops listed →
    i ∈ Region.ready .any ops listed → stepO P Γ n ops oi st = some s1 → cAny P Γ n ops K fuel (listed.setIfInBounds i true) s1 → cAny P Γ n ops K (fuel + 1) listed st := by
  intro fuel
  induction fuel with
  | zero =>
    intro listed st s1 _ _ hr hy H
    refine ⟨fun h => (by rw [h] at hr; cases hr), fun j hj => ?_⟩
    by_cases hji : j = i
    · subst hji; unfold cOp; simp only [hi]; exact ⟨s1, hy, H⟩
    · have := ready_mono hj hji
      rw [H.1] at this
      cases this
  | succ fuel ih =>
    intro listed st s1 hfree hclo hr hy H
    refine ⟨fun h => (by rw [h] at hr; cases hr), fun j hj => ?_⟩
    by_cases hji : j = i
    · subst hji; unfold cOp; simp only [hi]; exact ⟨s1, hy, H⟩
    · have h1 := H.2 j (ready_mono hj hji)
      obtain ⟨hjun, oj, hoj, hall⟩ := mem_ready.1 hj
      have hnot : ∀ e ∈ oj.after, Region.binds .any e = true → e.on ≠ i := fun e he hb heq => by
        have h1 := hall e he hb
        have h0 := (mem_ready.1 hr).1
        rw [heq] at h1
        rcases Nat.lt_or_ge i listed.size with h' | h'
        · simp [h'] at h0 h1; rw [h0] at h1; cases h1
        · simp [Array.getElem?_eq_none h'] at h1
      unfold cOp at h1 ⊢
      simp only [hoj] at h1 ⊢
      obtain ⟨s2, h2, h3⟩ := h1
      obtain ⟨t1, k1, k2⟩ := comm_sound (hfree j oj hoj hji hjun hnot (dep_ready hclo (mem_ready.1 hr).1 hj)) hy h2
      refine ⟨t1, k1, ?_⟩
      have hfree' : ∀ k ok, ops[k]? = some ok → k ≠ i → (listed.setIfInBounds j true).getD k true = false →
          (∀ e ∈ ok.after, Region.binds .any e = true → e.on ≠ i) → (∀ f, depF ops i f k = false) → commB ops oi ok = true := fun k ok hk hki hun hno hdp => by
        refine hfree k ok hk hki ?_ hno hdp
        by_cases hjk : j = k
        · subst hjk; exact hjun
        · rw [getD_set_ne true hjk] at hun; exact hun
      refine ih (listed.setIfInBounds j true) t1 s2 hfree' (hclo.set hj) (ready_mono hr (Ne.symm hji)) k2 ?_
      rw [Array.setIfInBounds_comm _ _ hji]
      exact h3

def lexFromB (ops : Array Oper) : Nat → Nat → Array Bool → Bool
  | 0, _, listed => (Region.ready .any ops listed).isEmpty
  | fuel + 1, k, listed => (Region.ready .any ops listed).contains k && freeB ops listed k && lexFromB ops fuel (k + 1) (listed.setIfInBounds k true)
def drawB (ops : Array Oper) : Bool := lexFromB ops ops.size 0 (Array.replicate ops.size false)

theorem cAny_lex {ops : Array Oper} {K : St → Prop} : ∀ (l : List Oper) (k : Nat) (listed : Array Bool) (st st' : St), (∀ j, l[j]? = ops[k + j]?) → Clo ops listed →
    lexFromB ops l.length k listed = true → evL P Γ n ops l st = some st' → K st' → cAny P Γ n ops K l.length listed st
  | [], _, _, _, _, _, _, hB, h, hK => ⟨by simpa [lexFromB] using hB, by simp only [evL, Option.some.injEq] at h; subst h; exact hK⟩
  | o :: l, k, listed, st, st', hl, hclo, hB, h, hK => by
    have h0 : ops[k]? = some o := by simpa using (hl 0).symm
    simp only [List.length_cons, lexFromB, Bool.and_eq_true] at hB
    obtain ⟨⟨hr, hf⟩, hB'⟩ := hB
    simp only [evL, Option.bind_eq_some_iff] at h
    obtain ⟨s1, h1, h2⟩ := h
    exact cAny_first h0 l.length listed st s1 (freeB_spec h0 hf) hclo (by simpa using hr) h1
      (cAny_lex l (k + 1) _ s1 st' (fun j => by have := hl (j + 1); simpa [Nat.add_assoc, Nat.add_comm 1 j] using this) (hclo.set (by simpa using hr)) hB' h2 hK)

theorem region_draw (hΓ : TabOK P Γ) (hm : P.follows .mixedOrders = true) {id : Nat} {ops : Array Oper} {st st' : St} (hB : drawB ops = true) (h : evL P Γ n ops ops.toList st = some st') (hs : Sim w0 n ro lam st a w)
    {Q : Exit → Act → World → Prop} (hQ : ∀ a' ro' lam' w', Ext w0 ro ro' → Sim w0 n ro' lam' st' a' w' → Q .normal a' w') : (Code.region id ops true).wp P Q a w := by
  have hs' : Sim w0 n ro lam st a { w with drawn := w.drawn + 1 } := hs.world ((Below.refl _ _).drew)
  refine wp_region_any hm (wpAny_of_cAny hΓ (K := fun s => s = st') (fun a' ro' lam' w' s hext hs hk => by subst hk; exact hQ a' ro' lam' w' hext hs) _ _ st ro lam a _ (Ext.refl _ _) hs' ?_)
  have := cAny_lex (P := P) (Γ := Γ) (n := n) (K := fun s => s = st') ops.toList 0 (Array.replicate ops.size false) st st' (by simp) (fun j oj hj hl => by rw [Array.getD_eq_getD_getElem?, Array.getElem?_replicate] at hl; split at hl <;> cases hl) (by simpa [drawB] using hB) h rfl
  simpa using this

/-! ### regions that draw, with stores into blocks that are known -/
/-- Which blocks the stores go to; which reads do not look into these. -/
structure Ann where
  ks : List (Nat × Nat)
  ms : List Nat
def lkL : List (Nat × Nat) → Nat → Option Nat
  | [], _ => none
  | (j, k) :: ks, i => if i = j then some k else lkL ks i
def keyedL : List (Nat × Nat) → Nat → Bool
  | [], _ => false
  | (_, k') :: ks, k => k == k' || keyedL ks k
def hasL : List Nat → Nat → Bool
  | [], _ => false
  | j :: js, i => i == j || hasL js i
def lk (A : Ann) (i : Nat) : Option Nat := lkL A.ks i
def keyed (A : Ann) (k : Nat) : Bool := keyedL A.ks k
def mask (ks : Ann) (h : Nat → Option Blk) : Nat → Option Blk := fun k => if keyed ks k = true then none else h k
/-- The memory as the operation at a place sees it. -/
def msk (A : Ann) (j : Nat) (h : Nat → Option Blk) : Nat → Option Blk := if hasL A.ms j = true then mask A h else h
theorem lk_keyedL : ∀ {ks : List (Nat × Nat)} {j k : Nat}, lkL ks j = some k → keyedL ks k = true
  | (j', k') :: ks, j, k, h => by
    simp only [lkL] at h
    split at h
    · cases h; simp [keyedL]
    · simp [keyedL, lk_keyedL h]
theorem lk_keyed {ks : Ann} {j k : Nat} (h : lk ks j = some k) : keyed ks k = true := lk_keyedL h
theorem mask_upd_in {ks : Ann} {h : Nat → Option Blk} {k : Nat} {b : Option Blk} (hk : keyed ks k = true) : mask ks (upd h k b) = mask ks h := by
  funext t; unfold mask upd
  by_cases e : t = k
  · subst e; simp [hk]
  · simp [e]
theorem mask_upd_out {ks : Ann} {h : Nat → Option Blk} {k : Nat} {b : Option Blk} (hk : keyed ks k = false) : mask ks (upd h k b) = upd (mask ks h) k b := by
  funext t; unfold mask upd
  by_cases e : t = k
  · subst e; simp [hk]
  · simp [e]
theorem ev01_unmask {ks : Ann} {h : Nat → Option Blk} {ρ : Operand → V} {op : Op} {v : V} (e : ev01 P Γ (mask ks h) ρ op = some v) : ev01 P Γ h ρ op = some v := by
  obtain ⟨ks, ms⟩ := ks
  induction ks with
  | nil => have h0 : mask ⟨[], ms⟩ h = h := by funext t; simp [mask, keyed, keyedL]
           rwa [h0] at e
  | cons p ks ih =>
    obtain ⟨j, k⟩ := p
    apply ih
    have h1 : mask ⟨(j, k) :: ks, ms⟩ h k = none := by simp [mask, keyed, keyedL]
    have h2 := ev01_heap (b := mask ⟨ks, ms⟩ h k) h1 e
    have h3 : upd (mask ⟨(j, k) :: ks, ms⟩ h) k (mask ⟨ks, ms⟩ h k) = mask ⟨ks, ms⟩ h := by
      funext t; unfold upd
      by_cases e' : t = k
      · subst e'; simp
      · have e2 : keyed ⟨(j, k) :: ks, ms⟩ t = keyed ⟨ks, ms⟩ t := by simp [keyed, keyedL, e']
        rw [if_neg e']
        unfold mask
        rw [e2]
    rwa [h3] at h2
theorem ev01_unmsk {ks : Ann} {j : Nat} {h : Nat → Option Blk} {ρ : Operand → V} {op : Op} {v : V} (e : ev01 P Γ (msk ks j h) ρ op = some v) : ev01 P Γ h ρ op = some v := by
  unfold msk at e
  split at e
  · exact ev01_unmask e
  · exact e
def stepA (P : Program) (Γ : Tab) (ops : Array Oper) (ks : Ann) (j : Nat) (o : Oper) (st : St) : Option St := match wantV ops st o.guard with
  | some false => some (st.put o.dst .undef)
  | some true => (match lk ks j with
    | some K => (match o.op, o.dst with
      | .store t a u, none => (match ev st a with
        | .ptr K' _ => bif K' == K then (storeV P st.heap t (ev st a) (ev st u)).map (fun h => { st with heap := h }) else none
        | _ => none)
      | _, _ => none)
    | none => bif decide (kind o.op ≤ 1) then (ev01 P Γ (msk ks j st.heap) (ev st) o.op).map (st.put o.dst) else bif decide (kind o.op = 2) then stepOp P Γ st o.dst o.op else none)
  | none => none
structure Eff where
  d : Option Tmp
  v : V
  k : Option Nat
  b : Option Blk
def Eff.ap (e : Eff) (st : St) : St := { env := (st.put e.d e.v).env, heap := match e.k with
  | some k => upd st.heap k e.b
  | none => st.heap }
inductive Cd (P : Program) (Γ : Tab) (ops : Array Oper) (ks : Ann) (j : Nat) (o : Oper) (st : St) : Eff → Prop
  | off (hw : wantV ops st o.guard = some false) : Cd P Γ ops ks j o st ⟨o.dst, .undef, none, none⟩
  | put (v : V) (hw : wantV ops st o.guard = some true) (hl : lk ks j = none) (hk : kind o.op ≤ 1) (hv : ev01 P Γ (msk ks j st.heap) (ev st) o.op = some v) : Cd P Γ ops ks j o st ⟨o.dst, v, none, none⟩
  | new (d : Nat) (v : V) (blk : Blk) (hw : wantV ops st o.guard = some true) (hl : lk ks j = none) (hd : o.dst = some d) (hk : kind o.op = 2) (hfr : st.heap d = none) (hv : ev2 P (ev st) d o.op = some (v, blk)) :
      Cd P Γ ops ks j o st ⟨o.dst, v, some d, some blk⟩
  | sto (K : Nat) (t : TypeId) (a u : Operand) (off : Nat) (b0 b : Blk) (hw : wantV ops st o.guard = some true) (hl : lk ks j = some K) (ho : o.op = .store t a u) (hd : o.dst = none) (ha : ev st a = .ptr K off) (h0 : st.heap K = some b0)
      (hs : storeV P (fun _ => some b0) t (.ptr K off) (ev st u) = some (upd (fun _ => some b0) K (some b))) : Cd P Γ ops ks j o st ⟨none, .undef, some K, some b⟩
theorem storeV_at {h : Nat → Option Blk} {t : TypeId} {K off : Nat} {u : V} {h' : Nat → Option Blk} (e : storeV P h t (.ptr K off) u = some h') :
    ∃ b0 b, h K = some b0 ∧ h' = upd h K (some b) ∧ ∀ g : Nat → Option Blk, g K = some b0 → storeV P g t (.ptr K off) u = some (upd g K (some b)) := by
  unfold storeV at e
  split at e
  · rename_i d key off' h1 h2
    cases h2
    split at e
    · rename_i blk vs hb hv
      simp only [cond_eq_ite] at e
      split at e
      · rename_i hc
        cases e
        refine ⟨blk, _, hb, rfl, fun g hg => ?_⟩
        unfold storeV
        simp only [h1, hg, hv, hc, cond_true]
      · cases e
    · cases e
  · cases e
theorem stepA_cases {ops : Array Oper} {ks : Ann} {j : Nat} {o : Oper} {st s1 : St} (h : stepA P Γ ops ks j o st = some s1) : ∃ e, Cd P Γ ops ks j o st e ∧ s1 = e.ap st := by
  unfold stepA at h
  split at h
  · rename_i hw
    cases h
    exact ⟨_, .off hw, by unfold Eff.ap; cases o.dst <;> rfl⟩
  · rename_i hw
    split at h
    · rename_i K hl
      split at h
      · rename_i t a u ho hd
        split at h
        · rename_i K' off ha
          simp only [cond_eq_ite, beq_iff_eq] at h
          split at h
          · rename_i hK
            subst hK
            rw [ha] at h
            simp only [Option.map_eq_some_iff] at h
            obtain ⟨h', h1, rfl⟩ := h
            obtain ⟨b0, b, e1, e2, e3⟩ := storeV_at h1
            exact ⟨_, .sto K' t a u off b0 b hw hl ho hd ha e1 (e3 _ rfl), by subst e2; rfl⟩
          · cases h
        · cases h
      · cases h
    · rename_i hl
      simp only [cond_eq_ite, decide_eq_true_eq] at h
      split at h
      · rename_i hk
        simp only [Option.map_eq_some_iff] at h
        obtain ⟨v, hv, rfl⟩ := h
        exact ⟨_, .put v hw hl hk hv, by unfold Eff.ap; cases o.dst <;> rfl⟩
      · split at h
        · rename_i hk
          unfold stepOp at h
          simp only [hk] at h
          split at h
          · rename_i d hd
            split at h
            · rename_i hfr
              simp only [Option.map_eq_some_iff] at h
              obtain ⟨p, hp, rfl⟩ := h
              exact ⟨_, .new d p.1 p.2 hw hl hd hk hfr hp, by unfold Eff.ap; rw [hd]; rfl⟩
            · cases h
          · cases h
        · cases h
  · cases h
theorem stepA_of {ops : Array Oper} {ks : Ann} {j : Nat} {o : Oper} {st : St} {e : Eff} (h : Cd P Γ ops ks j o st e) : stepA P Γ ops ks j o st = some (e.ap st) := by
  cases h with
  | off hw => unfold stepA; simp only [hw]; unfold Eff.ap; cases o.dst <;> rfl
  | put v hw hl hk hv => unfold stepA; simp only [hw, hl, hk, decide_true, cond_true, hv, Option.map_some]; unfold Eff.ap; cases o.dst <;> rfl
  | new d v blk hw hl hd hk hfr hv =>
    unfold stepA stepOp
    have : ¬ kind o.op ≤ 1 := by omega
    simp only [hw, hl, hk, decide_true, cond_true, show ¬ (2 ≤ 1) by omega, decide_false, cond_false, hd, hfr, hv, Option.map_some]
    rfl
  | sto K t a u off b0 b hw hl ho hd ha h0 hs =>
    obtain ⟨c0, c, e1, e2, e3⟩ := storeV_at hs
    cases e1
    have e4 := e3 st.heap h0
    have e5 : c = b := by have := congrFun e2 K; simpa [upd] using this.symm
    subst e5
    unfold stepA
    simp only [hw, hl, ho, hd, ha, beq_self_eq_true, cond_true, e4, Option.map_some]
    rfl
theorem stepO_of_stepA {ops : Array Oper} {ks : Ann} {j : Nat} {o : Oper} {st s1 : St} (hf : fits n o.dst = true) (h : stepA P Γ ops ks j o st = some s1) : stepO P Γ n ops o st = some s1 := by
  obtain ⟨e, hc, rfl⟩ := stepA_cases h
  cases hc with
  | off hw => rw [stepO_put hf (.inl ⟨hw, rfl⟩)]; unfold Eff.ap; cases o.dst <;> rfl
  | put v hw hl hk hv => rw [stepO_put hf (.inr ⟨hw, hk, ev01_unmsk hv⟩)]; unfold Eff.ap; cases o.dst <;> rfl
  | new d v blk hw hl hd hk hfr hv => rw [stepO_new hf hd hw hk hfr hv]; unfold Eff.ap; rw [hd]; rfl
  | sto K t a u off b0 b hw hl ho hd ha h0 hs =>
    obtain ⟨c0, c, e1, e2, e3⟩ := storeV_at hs
    cases e1
    have e4 := e3 st.heap h0
    have e5 : c = b := by have := congrFun e2 K; simpa [upd] using this.symm
    subst e5
    unfold stepO
    simp only [hf, cond_true, hw]
    unfold stepOp
    simp only [ho, kind, ev3, hd, ha, e4, Option.map_some]
    rfl
/-- What an operation does is the same where other temporaries and other blocks have turned. -/
theorem Cd.turn {ops : Array Oper} {ks : Ann} {j : Nat} {o : Oper} {st st' : St} {e : Eff} (h : Cd P Γ ops ks j o st e) (hw : wantV ops st' o.guard = wantV ops st o.guard) (he : ∀ x ∈ o.op.operands, ev st' x = ev st x)
    (hp : kind o.op ≤ 1 → lk ks j = none → ∀ v, ev01 P Γ (msk ks j st.heap) (ev st') o.op = some v → ev01 P Γ (msk ks j st'.heap) (ev st') o.op = some v)
    (hn : ∀ d, o.dst = some d → kind o.op = 2 → lk ks j = none → st.heap d = none → st'.heap d = none) (hs : ∀ K, lk ks j = some K → wantV ops st o.guard = some true → st'.heap K = st.heap K) : Cd P Γ ops ks j o st' e := by
  cases h with
  | off h => exact .off (by rw [hw]; exact h)
  | put v h hl hk hv => exact .put v (by rw [hw]; exact h) hl hk (hp hk hl v (by rw [ev01_congr _ _ he]; exact hv))
  | new d v blk h hl hd hk hfr hv => exact .new d v blk (by rw [hw]; exact h) hl hd hk (hn d hd hk hl hfr) (by rw [ev2_congr _ _ he]; exact hv)
  | sto K t a u off b0 b h hl ho hd ha h0 hs' =>
    have ha' : ev st' a = ev st a := he a (by rw [ho]; simp [Op.operands])
    have hu' : ev st' u = ev st u := he u (by rw [ho]; simp [Op.operands])
    exact .sto K t a u off b0 b (by rw [hw]; exact h) hl ho hd (by rw [ha']; exact ha) (by rw [hs K hl h]; exact h0) (by rw [hu']; exact hs')
def commA (ops : Array Oper) (ks : Ann) (i : Nat) (x : Oper) (j : Nat) (y : Oper) : Bool :=
  x.apart ops y && (match lk ks i, lk ks j with
    | some K, some K' => !(K == K')
    | some K, none => decide (kind y.op = 0) || (decide (kind y.op = 1) && hasL ks.ms j) || (decide (kind y.op = 2) && !(y.dst == some K))
    | none, some K' => decide (kind x.op = 0) || (decide (kind x.op = 1) && hasL ks.ms i) || (decide (kind x.op = 2) && !(x.dst == some K'))
    | none, none => decide (kind x.op ≤ 1) || (decide (kind y.op = 0) || decide (kind y.op = 2) || (hasL ks.ms j && match x.dst with
      | some d => keyed ks d
      | none => true)))
theorem Eff.dst {ops : Array Oper} {ks : Ann} {j : Nat} {o : Oper} {st : St} {e : Eff} (h : Cd P Γ ops ks j o st e) : e.d = o.dst := by
  cases h with
  | sto K t a u off b0 b hw hl ho hd ha h0 hs => exact hd.symm
  | _ => rfl
theorem ap_want {ops : Array Oper} {e : Eff} {st : St} {g : Oper} (h : ∀ k, e.d = some k → k ∉ g.looksAt ops) : wantV ops (e.ap st) g.guard = wantV ops st g.guard := by
  have : wantV ops (e.ap st) g.guard = wantV ops (st.put e.d e.v) g.guard := rfl
  rw [this]; exact want_put h
theorem ap_ev {ops : Array Oper} {e : Eff} {st : St} {g : Oper} (h : ∀ k, e.d = some k → k ∉ g.looksAt ops) : ∀ x ∈ g.op.operands, ev (e.ap st) x = ev st x := by
  intro x hx
  rw [← evs_put (v := e.v) (st := st) h x hx]
  cases x <;> rfl
theorem ap_comm {e f : Eff} {st : St} (hd : ∀ d, e.d = some d → f.d ≠ some d) (hk : ∀ k, e.k = some k → f.k ≠ some k) : f.ap (e.ap st) = e.ap (f.ap st) := by
  have h1 : ((e.ap st).put f.d f.v).env = ((f.ap st).put e.d e.v).env := by
    have := congrArg St.env (put_comm st e.v f.v hd)
    cases hfd : f.d <;> cases hed : e.d <;> simp only [St.put, Eff.ap, hfd, hed] at this ⊢ <;> exact this
  have h2 : (f.ap (e.ap st)).heap = (e.ap (f.ap st)).heap := by
    cases hfk : f.k with
    | none => cases hek : e.k <;> simp [Eff.ap, hfk, hek]
    | some k =>
      cases hek : e.k with
      | none => simp [Eff.ap, hfk, hek]
      | some k' =>
        have hne : k' ≠ k := fun h => hk k' hek (by rw [hfk, h])
        simp only [Eff.ap, hfk, hek]
        rw [upd_comm _ _ _ hne]
  have h3 : ∀ s : St, s = ⟨s.env, s.heap⟩ := fun _ => rfl
  rw [h3 (f.ap (e.ap st)), h3 (e.ap (f.ap st)), h2]
  exact congrArg (fun q => (⟨q, (e.ap (f.ap st)).heap⟩ : St)) h1
theorem comm_soundA {ops : Array Oper} {ks : Ann} {i j : Nat} {x y : Oper} {st s1 s2 : St} (hc : commA ops ks i x j y = true) (h1 : stepA P Γ ops ks i x st = some s1) (h2 : stepA P Γ ops ks j y s1 = some s2) :
    ∃ t1, stepA P Γ ops ks j y st = some t1 ∧ stepA P Γ ops ks i x t1 = some s2 := by
  simp only [commA, Bool.and_eq_true] at hc
  obtain ⟨hap, hk⟩ := hc
  obtain ⟨a1, a2, a3⟩ := Oper.apart_spec hap
  obtain ⟨e, ce, rfl⟩ := stepA_cases h1
  obtain ⟨f, cf, rfl⟩ := stepA_cases h2
  have ed := Eff.dst ce
  have fd := Eff.dst cf
  have hwy : wantV ops (e.ap st) y.guard = wantV ops st y.guard := ap_want (by rw [ed]; exact a1)
  have hey : ∀ z ∈ y.op.operands, ev (e.ap st) z = ev st z := ap_ev (by rw [ed]; exact a1)
  have hwx : wantV ops (f.ap st) x.guard = wantV ops st x.guard := ap_want (by rw [fd]; exact a3)
  have hex : ∀ z ∈ x.op.operands, ev (f.ap st) z = ev st z := ap_ev (by rw [fd]; exact a3)
  -- y from the first state
  have cf' : Cd P Γ ops ks j y st f := by
    refine cf.turn hwy.symm (fun z hz => (hey z hz).symm) ?_ ?_ ?_
    · intro hky hlj v hv
      cases ce with
      | off => exact hv
      | put => exact hv
      | new d u blk hw hl hd hk2 hfr hu =>
        simp only [Eff.ap] at hv
        rcases (show kind y.op = 0 ∨ kind y.op = 1 by omega) with h0 | h0
        · rw [ev01_kind0 _ (msk ks j (upd st.heap d (some blk))) _ _ h0]; exact hv
        · have hkd : hasL ks.ms j = true ∧ keyed ks d = true := by
            rw [hl, hlj] at hk; simpa [hk2, h0, hd] using hk
          simp only [msk, hkd.1, if_true] at hv ⊢
          rw [mask_upd_in hkd.2] at hv; exact hv
      | sto K t a u off b0 b hw hl ho hd ha h0 hs =>
        simp only [Eff.ap] at hv
        rcases (show kind y.op = 0 ∨ kind y.op = 1 by omega) with h0 | h0
        · rw [ev01_kind0 _ (msk ks j (upd st.heap K (some b))) _ _ h0]; exact hv
        · have hm : hasL ks.ms j = true := by
            rw [hl, hlj] at hk; simpa [h0] using hk
          simp only [msk, hm, if_true] at hv ⊢
          rw [mask_upd_in (lk_keyed hl)] at hv; exact hv
    · intro d hd hky hl hn
      cases ce with
      | off => exact hn
      | put => exact hn
      | new d' u blk hw hl' hd' hk2 hfr hu =>
        have hne : d ≠ d' := fun h => a2 d' hd' (by rw [hd, h])
        simpa [Eff.ap, upd_ne _ _ hne] using hn
      | sto K t a u off b0 b hw hl' ho hd' ha h0 hs =>
        rw [hl, hl'] at hk
        have hne : d ≠ K := by
          rintro rfl
          simp [hky, hd] at hk
        simpa [Eff.ap, upd_ne _ _ hne] using hn
    · intro K hl hw'
      cases ce with
      | off => rfl
      | put => rfl
      | new d' u blk hw hl' hd' hk2 hfr hu =>
        rw [hl, hl'] at hk
        have hne : K ≠ d' := by
          rintro rfl
          simp [hk2, hd'] at hk
        simp [Eff.ap, upd_ne _ _ hne]
      | sto K' t a u off b0 b hw hl' ho hd' ha h0 hs =>
        rw [hl, hl'] at hk
        have hne : K ≠ K' := by
          rintro rfl
          simp at hk
        simp [Eff.ap, upd_ne _ _ hne]
  have ce' : Cd P Γ ops ks i x (f.ap st) e := by
    refine ce.turn hwx hex ?_ ?_ ?_
    · intro hkx hli v hv
      cases cf' with
      | off => exact hv
      | put => exact hv
      | new d u blk hw hl hd hk2 hfr hu =>
        simp only [Eff.ap]
        unfold msk at hv ⊢
        split
        · rename_i hm
          rw [if_pos hm] at hv
          cases hkd : keyed ks d with
          | true => rw [mask_upd_in hkd]; exact hv
          | false => rw [mask_upd_out hkd]; exact ev01_heap (by simp [mask, hkd, hfr]) hv
        · rename_i hm
          rw [if_neg hm] at hv
          exact ev01_heap hfr hv
      | sto K t a u off b0 b hw hl ho hd ha h0 hs =>
        simp only [Eff.ap]
        rcases (show kind x.op = 0 ∨ kind x.op = 1 by omega) with h0 | h0
        · rw [ev01_kind0 _ (msk ks i st.heap) _ _ h0]; exact hv
        · have hm : hasL ks.ms i = true := by
            rw [hl, hli] at hk; simpa [h0] using hk
          simp only [msk, hm, if_true] at hv ⊢
          rw [mask_upd_in (lk_keyed hl)]; exact hv
    · intro d hd hkx hl hn
      cases cf' with
      | off => exact hn
      | put => exact hn
      | new d' u blk hw hl' hd' hk2 hfr hu =>
        have hne : d ≠ d' := fun h => a2 d hd (by rw [hd', h])
        simpa [Eff.ap, upd_ne _ _ hne] using hn
      | sto K t a u off b0 b hw hl' ho hd' ha h0 hs =>
        rw [hl, hl'] at hk
        have hne : d ≠ K := by
          rintro rfl
          simp [hkx, hd] at hk
        simpa [Eff.ap, upd_ne _ _ hne] using hn
    · intro K hl hw'
      cases cf' with
      | off => rfl
      | put => rfl
      | new d' u blk hw hl' hd' hk2 hfr hu =>
        rw [hl, hl'] at hk
        have hne : K ≠ d' := by
          rintro rfl
          simp [hk2, hd'] at hk
        simp [Eff.ap, upd_ne _ _ hne]
      | sto K' t a u off b0 b hw hl' ho hd' ha h0 hs =>
        rw [hl, hl'] at hk
        have hne : K ≠ K' := by
          rintro rfl
          simp at hk
        simp [Eff.ap, upd_ne _ _ hne]
  refine ⟨f.ap st, stepA_of cf', ?_⟩
  rw [stepA_of ce']
  have hcomm : f.ap (e.ap st) = e.ap (f.ap st) := by
    refine ap_comm (by rw [ed, fd]; exact a2) fun k hek hfk => ?_
    cases ce with
    | off => cases hek
    | put => cases hek
    | new d u blk hw hl hd hk2 hfr hu =>
      cases hek
      cases cf' with
      | off => cases hfk
      | put => cases hfk
      | new d' u' blk' hw' hl' hd' hk' => cases hfk; exact a2 _ hd hd'
      | sto K t a u' off b0 b hw' hl' ho hd' => cases hfk; rw [hl, hl'] at hk; simp [hk2, hd] at hk
    | sto K t a u off b0 b hw hl ho hd ha h0 hs =>
      cases hek
      cases cf' with
      | off => cases hfk
      | put => cases hfk
      | new d' u' blk' hw' hl' hd' hk2' => cases hfk; rw [hl, hl'] at hk; simp [hk2', hd'] at hk
      | sto K' t' a' u' off' b0' b' hw' hl' ho' hd' => cases hfk; rw [hl, hl'] at hk; simp at hk
  rw [hcomm]

def cOpA (P : Program) (Γ : Tab) (ops : Array Oper) (ks : Ann) (i : Nat) (K : St → Prop) (st : St) : Prop := match ops[i]? with
  | none => K st
  | some o => ∃ st', stepA P Γ ops ks i o st = some st' ∧ K st'
def cAnyA (P : Program) (Γ : Tab) (ops : Array Oper) (ks : Ann) (K : St → Prop) : Nat → Array Bool → St → Prop
  | 0, listed, st => Region.ready .any ops listed = [] ∧ K st
  | fuel + 1, listed, st => (Region.ready .any ops listed = [] → K st) ∧ ∀ i ∈ Region.ready .any ops listed, cOpA P Γ ops ks i (cAnyA P Γ ops ks K fuel (listed.setIfInBounds i true)) st
theorem cAny_of_A {ops : Array Oper} {ks : Ann} {K : St → Prop} (hf : ops.toList.all (fun o => fits n o.dst) = true) : ∀ (fuel : Nat) (listed : Array Bool) (st : St), cAnyA P Γ ops ks K fuel listed st → cAny P Γ n ops K fuel listed st
  | 0, listed, st, h => h
  | fuel + 1, listed, st, h => by
    refine ⟨h.1, fun i hi => ?_⟩
    have h1 := h.2 i hi
    unfold cOpA at h1
    unfold cOp
    split
    · rename_i ho; simp only [ho] at h1; exact cAny_of_A hf fuel _ st h1
    · rename_i o ho
      simp only [ho] at h1
      obtain ⟨st', h2, h3⟩ := h1
      have hfo : fits n o.dst = true := by
        refine List.all_eq_true.1 hf o ?_
        have := List.mem_of_getElem? (l := ops.toList) (i := i) (by simpa using ho)
        exact this
      exact ⟨st', stepO_of_stepA hfo h2, cAny_of_A hf fuel _ st' h3⟩
def freeA (ops : Array Oper) (ks : Ann) (listed : Array Bool) (i : Nat) : Bool :=
  match ops[i]? with
  | none => false
  | some oi => (List.range ops.size).all fun j => j == i || listed.getD j true || match ops[j]? with
      | some oj => oj.after.any (fun e => Region.binds .any e && e.on == i) || commA ops ks i oi j oj
      | none => true
theorem freeA_spec {ops : Array Oper} {ks : Ann} {i : Nat} {oi : Oper} {listed : Array Bool} (hi : ops[i]? = some oi) (h : freeA ops ks listed i = true) (j : Nat) (oj : Oper)
    (hj : ops[j]? = some oj) (hne : j ≠ i) (hun : listed.getD j true = false) (hno : ∀ e ∈ oj.after, Region.binds .any e = true → e.on ≠ i) : commA ops ks i oi j oj = true := by
  simp only [freeA, hi, List.all_eq_true, List.mem_range] at h
  have h1 := h j (Array.getElem?_eq_some_iff.1 hj).1
  simp only [hj, Bool.or_eq_true, beq_iff_eq, hne, false_or, hun, Bool.false_eq_true] at h1
  rcases h1 with h1 | h1
  · obtain ⟨e, he, hb⟩ := Array.any_eq_true'.1 h1
    simp only [Bool.and_eq_true, beq_iff_eq] at hb
    exact absurd hb.2 (hno e he hb.1)
  · exact h1
theorem cAny_firstA {ops : Array Oper} {ks : Ann} {K : St → Prop} {i : Nat} {oi : Oper} (hi : ops[i]? = some oi) : ∀ (fuel : Nat) (listed : Array Bool) (st s1 : St),
    (∀ j oj, ops[j]? = some oj → j ≠ i → listed.getD j true = false → (∀ e ∈ oj.after, Region.binds .any e = true → e.on ≠ i) → commA ops ks i oi j oj = true) →
    i ∈ Region.ready .any ops listed → stepA P Γ ops ks i oi st = some s1 → cAnyA P Γ ops ks K fuel (listed.setIfInBounds i true) s1 → cAnyA P Γ ops ks K (fuel + 1) listed st := by
  intro fuel
  induction fuel with
  | zero =>
    intro listed st s1 _ hr hy H
    refine ⟨fun h => (by rw [h] at hr; cases hr), fun j hj => ?_⟩
    by_cases hji : j = i
    · subst hji; unfold cOpA; simp only [hi]; exact ⟨s1, hy, H⟩
    · have := ready_mono hj hji
      rw [H.1] at this
      cases this
  | succ fuel ih =>
    intro listed st s1 hfree hr hy H
    refine ⟨fun h => (by rw [h] at hr; cases hr), fun j hj => ?_⟩
    by_cases hji : j = i
    · subst hji; unfold cOpA; simp only [hi]; exact ⟨s1, hy, H⟩
    · have h1 := H.2 j (ready_mono hj hji)
      obtain ⟨hjun, oj, hoj, hall⟩ := mem_ready.1 hj
      have hnot : ∀ e ∈ oj.after, Region.binds .any e = true → e.on ≠ i := fun e he hb heq => by
        have h1 := hall e he hb
        have h0 := (mem_ready.1 hr).1
        rw [heq] at h1
        rcases Nat.lt_or_ge i listed.size with h' | h'
        · simp [h'] at h0 h1; rw [h0] at h1; cases h1
        · simp [Array.getElem?_eq_none h'] at h1
      unfold cOpA at h1 ⊢
      simp only [hoj] at h1 ⊢
      obtain ⟨s2, h2, h3⟩ := h1
      obtain ⟨t1, k1, k2⟩ := comm_soundA (hfree j oj hoj hji hjun hnot) hy h2
      refine ⟨t1, k1, ?_⟩
      have hfree' : ∀ k ok, ops[k]? = some ok → k ≠ i → (listed.setIfInBounds j true).getD k true = false →
          (∀ e ∈ ok.after, Region.binds .any e = true → e.on ≠ i) → commA ops ks i oi k ok = true := fun k ok hk hki hun hno => by
        refine hfree k ok hk hki ?_ hno
        by_cases hjk : j = k
        · subst hjk; exact hjun
        · rw [getD_set_ne true hjk] at hun; exact hun
      refine ih (listed.setIfInBounds j true) t1 s2 hfree' (ready_mono hr (Ne.symm hji)) k2 ?_
      rw [Array.setIfInBounds_comm _ _ hji]
      exact h3
def lexFromA (ops : Array Oper) (ks : Ann) : Nat → Nat → Array Bool → Bool
  | 0, _, listed => (Region.ready .any ops listed).isEmpty
  | fuel + 1, k, listed => (Region.ready .any ops listed).contains k && freeA ops ks listed k && lexFromA ops ks fuel (k + 1) (listed.setIfInBounds k true)
def drawA (ops : Array Oper) (ks : Ann) : Bool := lexFromA ops ks ops.size 0 (Array.replicate ops.size false)
def evA (P : Program) (Γ : Tab) (ops : Array Oper) (ks : Ann) : Nat → List Oper → St → Option St
  | _, [], st => some st
  | j, o :: rest, st => (stepA P Γ ops ks j o st).bind (evA P Γ ops ks (j + 1) rest)
theorem cAny_lexA {ops : Array Oper} {ks : Ann} {K : St → Prop} : ∀ (l : List Oper) (k : Nat) (listed : Array Bool) (st st' : St), (∀ j, l[j]? = ops[k + j]?) →
    lexFromA ops ks l.length k listed = true → evA P Γ ops ks k l st = some st' → K st' → cAnyA P Γ ops ks K l.length listed st
  | [], _, _, _, _, _, hB, h, hK => ⟨by simpa [lexFromA] using hB, by simp only [evA, Option.some.injEq] at h; subst h; exact hK⟩
  | o :: l, k, listed, st, st', hl, hB, h, hK => by
    have h0 : ops[k]? = some o := by simpa using (hl 0).symm
    simp only [List.length_cons, lexFromA, Bool.and_eq_true] at hB
    obtain ⟨⟨hr, hf⟩, hB'⟩ := hB
    simp only [evA, Option.bind_eq_some_iff] at h
    obtain ⟨s1, h1, h2⟩ := h
    exact cAny_firstA h0 l.length listed st s1 (freeA_spec h0 hf) (by simpa using hr) h1
      (cAny_lexA l (k + 1) _ s1 st' (fun j => by have := hl (j + 1); simpa [Nat.add_assoc, Nat.add_comm 1 j] using this) hB' h2 hK)
theorem region_drawA (hΓ : TabOK P Γ) (hm : P.follows .mixedOrders = true) {id : Nat} {ops : Array Oper} {ks : Ann} {st st' : St} (hf : ops.toList.all (fun o => fits n o.dst) = true) (hB : drawA ops ks = true) (h : evA P Γ ops ks 0 ops.toList st = some st') (hs : Sim w0 n ro lam st a w)
    {Q : Exit → Act → World → Prop} (hQ : ∀ a' ro' lam' w', Ext w0 ro ro' → Sim w0 n ro' lam' st' a' w' → Q .normal a' w') : (Code.region id ops true).wp P Q a w := by
  have hs' : Sim w0 n ro lam st a { w with drawn := w.drawn + 1 } := hs.world ((Below.refl _ _).drew)
  refine wp_region_any hm (wpAny_of_cAny hΓ (K := fun s => s = st') (fun a' ro' lam' w' s hext hs hk => by subst hk; exact hQ a' ro' lam' w' hext hs) _ _ st ro lam a _ (Ext.refl _ _) hs' ?_)
  have := cAny_lexA (P := P) (Γ := Γ) (K := fun s => s = st') ops.toList 0 (Array.replicate ops.size false) st st' (by simp) (by simpa [drawA] using hB) h rfl
  exact cAny_of_A hf _ _ _ (by simpa using this)
end
end Go.Pv
