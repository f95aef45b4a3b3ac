/-
  Part 17: iterators: a statement of our own inside a fence, frames by their temporaries.
-/
import Derived.Test.YtcbddoopmkhlfaaPv16
import Derived.RangeFuncKeeps
import Derived.TacticsIn
namespace Go.Pv
open Go.RowKit
set_option linter.unusedSimpArgs false
set_option linter.unusedVariables false

section
variable {P : Program} {m : Nat}
theorem rows_in {row : String} {args : Array Value} {w : World} {R : Value → World → Prop} (h : Go.Rows P row args w R) : RowsIn Fence.wide m P row args w R :=
  fun c cs _ => let ⟨v, w', r, s⟩ := h c cs; ⟨v, w', r, stepsIn_wide.2 s⟩
theorem oper_in {o : Oper} {a : Act} {w : World} {next : Act → World → Prop} {Q : Exit → Act → World → Prop} (h : o.wp P a w next Q) : o.wpIn Fence.wide m P a w next Q := by
  refine ⟨fun _ _ => trivial, ?_⟩
  rw [show Fence.wide.round = none from rfl, Oper.semAt_none]
  unfold Oper.wp at h
  cases hr : (execOp a.eval o).run P w with
  | ok nx w' =>
    rw [hr] at h
    cases nx with
    | value v => exact h
    | skip => exact h
    | defer d => exact h
    | enter f args => exact ⟨fun h => (by cases h), callsIn_wide.2 h⟩
    | row r args => exact ⟨fun h => (by cases h), rows_in h⟩
    | _ => exact h.elim
  | halt ht w' =>
    rw [hr] at h
    cases ht with
    | panic v => exact h
    | _ => exact h.elim

/-- A statement of our own, as the outer frame's. -/
theorem cw_in {n : Nat} {c : Code} {Q : Exit → St → Prop} {st : St} (h : CW P n c Q st) {w0 : Base} {ro : Nat → Prop} {lam : Lam} {a : Act} {w : World} (hs : Sim w0 n ro lam st a w) :
    c.wpIn Fence.wide m P (fun e a' w' => ∃ st' ro' lam', Q e st' ∧ Ext w0 ro ro' ∧ Sim w0 n ro' lam' st' a' w') a w := wpIn_wide.2 (h w0 ro lam a w hs)

/-- A frame whose values have no memory of the call's own. -/
theorem sim_mk {n : Nat} {W : World} {ro : Nat → Prop} {a : Act} {e : Nat → V} (hd : a.defers = []) (hs : n ≤ a.tmps.size) (hro : ∀ b, ro b → b < W.heap.size) (he : ∀ t, R0 W ro (e t) (a.tmps.getD t Go.undef)) :
    Sim (.of W) n ro (fun _ => none) ⟨e, fun _ => none⟩ a W :=
  ⟨Base.Keeps.refl _ _ _, hd, hs, hro, fun t => .pure _ _ (he t), fun key blk hk => (by cases hk), fun _ _ => rfl, fun key b m h => (by cases h), fun k1 k2 b m1 m2 h => (by cases h), fun key b h => (by cases h)⟩
theorem grown_of_below {w w' : World} (h : Below w.heap.size w w') : w.grownBy w' none := ⟨h.os, h.tape, h.output, h.size, fun k hk _ => h.block k hk⟩
theorem R.vptr_inv {w : World} {ro : Nat → Prop} {lam : Lam} {b key off : Nat} {x : Value} (h : R w ro lam (.vptr b key off) x) : ∃ m, lam key = some (some b, m) ∧ x = .pointer (some ⟨b, off, none⟩) := by
  cases h with
  | pure _ _ hp => cases hp
  | vptr _ _ _ m h => exact ⟨m, h, rfl⟩
theorem getD_int {w : World} {ro : Nat → Prop} {lam : Lam} {k : IntKind} {i : Int} {x : Value} (h : R w ro lam (.int k i) x) : x = .int k i := h.int_inv
theorem getD_val {w : World} {ro : Nat → Prop} {lam : Lam} {y x : Value} (h : R w ro lam (.val y) x) : x = y := by
  cases h with
  | pure _ _ h => cases h; rfl
theorem R0.kept {n₀ : Nat} {A B : World} {ro : Nat → Prop} {v : V} {x : Value} (h : R0 A ro v x) (hb : Below n₀ A B) (hro : ∀ b, ro b → b < n₀) : R0 B ro v x := h.mono (fun b hr => hb.block b (hro b hr)) (fun _ h => h)
/-- The first operations of a region, and what is left of it. -/
theorem eg_in {Γ : Tab} (hΓ : TabOK P Γ) {n : Nat} {ops : Array Oper} {Q : Exit → Act → World → Prop} {K : St → Prop} {rest : List Oper} {w0 : Base} : ∀ (l : List Oper) (st : St) (ro : Nat → Prop) (lam : Lam) (a : Act) (w : World), l.all (fun o => fits n o.dst) = true →
    egX P Γ ops l K st → Sim w0 n ro lam st a w → (∀ st' a' ro' lam' w', K st' → Sim w0 n ro' lam' st' a' w' → wpListIn Fence.wide m P ops Q rest a' w') → wpListIn Fence.wide m P ops Q (l ++ rest) a w
  | [], st, ro, lam, a, w, _, h, hs, hK => hK _ _ _ _ _ h hs
  | o :: l, st, ro, lam, a, w, hf, h, hs, hK => by
    simp only [List.all_cons, Bool.and_eq_true] at hf
    show if Region.wanted o (yielded ops a.tmps) then o.wpIn Fence.wide m P a w (wpListIn Fence.wide m P ops Q (l ++ rest)) Q else (∀ f, o.about P w a.eval = some f → Fence.wide.fn f) ∧ wpListIn Fence.wide m P ops Q (l ++ rest) (a.put o.dst undef) w
    simp only [egX] at h
    cases hw : wantV ops st o.guard with
    | none => rw [hw] at h; exact h.elim
    | some b =>
      rw [hw] at h
      rw [wantV_sound hs hw]
      cases b with
      | true =>
        rw [if_pos rfl]
        exact oper_in (swX_sound hΓ hs hf.1 h fun st' a' ro' lam' w' k e hs' => eg_in hΓ l st' ro' lam' a' w' hf.2 k hs' hK)
      | false =>
        rw [if_neg (by simp)]
        exact ⟨fun _ _ => trivial, eg_in hΓ l _ ro lam _ w hf.2 h (hs.put hf.1 (.pure _ _ .undef)) hK⟩
/-- The loop's body is called. -/
theorem yield_in {o : Oper} {f : Operand} {args : Array Operand} {ts : Array TypeId} {a : Act} {w : World} {next : Act → World → Prop} {Q : Exit → Act → World → Prop} {l : Nat} {vals : Array Value} {R : Ending → World → Prop}
    (ho : o.op = .call { callee := .value f, args := args, argTypes := ts }) (hf : a.eval f = .func (.yield l) #[] #[]) (ha : args.map a.eval = vals) (hY : YieldAt Fence.wide (m - 1) P l vals w R)
    (hK : ∀ e w', R e w' → ∃ v, e = .returned v ∧ next (a.put o.dst v) w') : o.wpIn Fence.wide m P a w next Q := by
  obtain ⟨fn, tmps, assign, body, hy, hR⟩ := hY
  refine ⟨fun _ _ => trivial, ?_⟩
  rw [show Fence.wide.round = none from rfl, Oper.semAt_none]
  have hrun : (execOp a.eval o).run P w = .ok (.round l fn tmps assign body) w := by
    simp only [execOp, ho, resolve, hf, ha]
    simp [Deferred.ofValue, invoke, hy]
  rw [hrun]
  refine ⟨fun h => (by cases h), hR.mono fun e w' hr => ?_⟩
  obtain ⟨v, rfl, hn⟩ := hK e w' hr
  exact hn
/-- A call, by what it does. -/
theorem call_wp {o : Oper} {f : FuncId} {args : Array Operand} {ts : Array TypeId} {a : Act} {w : World} {next : Act → World → Prop} {Q : Exit → Act → World → Prop} (ho : o.op = .call { callee := .value (.func f), args := args, argTypes := ts }) (hc : callable P f = true)
    (h : Calls P f (args.map a.eval) w fun e w' => ∃ v, e = .returned v ∧ next (a.put o.dst v) w') : o.wp P a w next Q := by
  have hrun : (execOp a.eval o).run P w = .ok (.enter f (args.map a.eval)) w := by
    simp only [execOp, ho, resolve]
    simp [Act.eval, Deferred.ofValue, invoke, callFunc_run hc]
  unfold Oper.wp
  rw [hrun, Oper.upon_enter]
  refine h.mono fun e w' hh => ?_
  obtain ⟨v, rfl, hn⟩ := hh
  exact hn
/-- From here on: what is not own stays as it is now. -/
theorem Sim.rebase {w0 : Base} {n : Nat} {ro : Nat → Prop} {lam : Lam} {st : St} {a : Act} {w : World} (hs : Sim w0 n ro lam st a w) : Sim ⟨w, ownB lam, a.defers⟩ n ro lam st a w :=
  ⟨Base.Keeps.refl _ _ _, rfl, hs.size, hs.rolt, hs.env, hs.heap, hs.dead, fun key b m h => ⟨.inl ⟨key, .inl ⟨m, h⟩⟩, (hs.own key b m h).2⟩, hs.inj, fun key b h => ⟨⟨.inl ⟨key, .inr h⟩, (hs.maps key b h).1.2⟩, (hs.maps key b h).2⟩⟩
/-- And back. -/
theorem Sim.unbase {w0 : Base} {n : Nat} {ro ro' : Nat → Prop} {lam lam' : Lam} {st st' : St} {a a' : Act} {w w' : World} (hs : Sim w0 n ro lam st a w) (hs' : Sim ⟨w, ownB lam, a.defers⟩ n ro' lam' st' a' w') : Sim w0 n ro' lam' st' a' w' :=
  ⟨hs.below.but hs'.below.os hs'.below.tape hs'.below.output hs'.below.size (fun k hk hf => hs'.below.block k hk (fun ⟨key, h⟩ => hf (hs.ob h).1)), hs'.dfr.trans hs.dfr, hs'.size, hs'.rolt, hs'.env, hs'.heap, hs'.dead,
    fun key b m h => ⟨(hs'.own key b m h).1.elim (fun ⟨k, h'⟩ => (hs.ob h').1) (fun h => .inr (Nat.le_trans hs.below.size h)), (hs'.own key b m h).2⟩, hs'.inj,
    fun key b h => ⟨⟨(hs'.maps key b h).1.1.elim (fun ⟨k, h'⟩ => (hs.ob h').1) (fun h => .inr (Nat.le_trans hs.below.size h)), (hs'.maps key b h).1.2⟩, (hs'.maps key b h).2⟩⟩
theorem Ext.unbase {w0 : Base} {n : Nat} {ro ro' : Nat → Prop} {lam : Lam} {st : St} {a : Act} {w : World} (hs : Sim w0 n ro lam st a w) (h : Ext ⟨w, ownB lam, a.defers⟩ ro ro') : Ext w0 ro ro' :=
  ⟨h.1, fun b hb => (h.2 b hb).imp id (fun h => h.elim (fun ⟨k, h'⟩ => (hs.ob h').1) (fun h => .inr (Nat.le_trans hs.below.size h)))⟩
end
end Go.Pv
