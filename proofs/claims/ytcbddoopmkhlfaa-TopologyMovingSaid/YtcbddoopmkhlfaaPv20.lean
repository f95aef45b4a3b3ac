/-
  Part 20: calls that write the caller's memory: contracts over a heap, and calls through function values.
-/
import Derived.Test.YtcbddoopmkhlfaaPv19
namespace Go.Pv
open Go.RowKit
set_option linter.unusedSimpArgs false
set_option linter.unusedVariables false

section
variable {P : Program} {n : Nat} {w0 : Base} {ro : Nat → Prop} {lam : Lam} {st : St} {a : Act} {w W : World} {h : Nat → Option Blk}
theorem HS.of (hs : Sim w0 n ro lam st a w) : HS w ro lam st.heap :=
  ⟨Base.Keeps.refl _ _ _, rfl, Nat.zero_le _, hs.rolt, fun t => .pure _ _ (.junk _), hs.heap, hs.dead, fun key b m hl => ⟨.inl ⟨key, .inl ⟨m, hl⟩⟩, (hs.own key b m hl).2⟩, hs.inj, fun key b hl => ⟨⟨.inl ⟨key, .inr hl⟩, (hs.maps key b hl).1.2⟩, (hs.maps key b hl).2⟩⟩
theorem HS.sim (hs : HS W ro lam h) {args : Array Value} {vs : List V} (hsz : args.size = vs.length) (hn : vs.length ≤ n) (hr : ∀ (j : Nat) (c : V) (x : Value), vs[j]? = some c → args[j]? = some x → R W ro lam c x) :
    Sim ⟨W, ownB lam, []⟩ n ro lam ⟨ini 0 vs, h⟩ { tmps := args ++ Array.replicate (n - args.size) Go.undef, defers := [] } W := by
  refine ⟨Base.Keeps.refl _ _ _, rfl, by simp; omega, hs.rolt, fun t => ?_, hs.heap, hs.dead, hs.own, hs.inj, hs.maps⟩
  simp only [ini_at, Nat.not_lt_zero, if_false, Nat.sub_zero]
  by_cases ht : t < args.size
  · have h1 : vs[t]? = some (vs[t]'(by omega)) := List.getElem?_eq_getElem (by omega)
    have h2 : args[t]? = some args[t] := Array.getElem?_eq_getElem ht
    have h3 : (args ++ Array.replicate (n - args.size) Go.undef).getD t Go.undef = args[t] := by
      rw [Array.getD_eq_getD_getElem?, Array.getElem?_append_left ht, h2]; rfl
    rw [h3, h1]
    exact hr t _ _ h1 h2
  · have h1 : vs[t]? = none := List.getElem?_eq_none (by omega)
    have h3 : (args ++ Array.replicate (n - args.size) Go.undef).getD t Go.undef = Go.undef := by
      rw [Array.getD_eq_getD_getElem?, Array.getElem?_append_right (by omega), Array.getElem?_replicate]
      split <;> rfl
    rw [h3, h1]
    exact .pure _ _ .undef
/-- Seen so, the state is as wished. -/
def Vw (n : Nat) (post : St → Prop) (st : St) : Prop := ∃ s', View n st s' ∧ post s'
/-- The function ends; its one result has no memory; the heap is as wished. -/
def FinE (P : Program) (n : Nat) (rs : List ResultVar) (post : V → St → Prop) (e : Exit) (st : St) : Prop :=
  (e = .normal ∨ e = .ret) ∧ ∃ u, resL P st rs = some [u] ∧ flatC u = true ∧ Vw n (post u) st
def fe1 (n : Nat) (m : Option (List V)) (st : St) (post : V → St → Prop) : Prop := match m with
  | some [u] => flatC u = true ∧ Vw n (post u) st
  | _ => False
theorem finE_r {rs : List ResultVar} {post : V → St → Prop} : FinE P n rs post .ret st ↔ fe1 n (resL P st rs) st post := by
  unfold FinE fe1
  constructor
  · rintro ⟨_, u, h1, h2⟩; rw [h1]; exact h2
  · intro hh
    split at hh
    · rename_i u hu; exact ⟨.inr rfl, u, hu, hh⟩
    · exact hh.elim
theorem finE_n {rs : List ResultVar} {post : V → St → Prop} : FinE P n rs post .normal st ↔ fe1 n (resL P st rs) st post := by
  unfold FinE fe1
  constructor
  · rintro ⟨_, u, h1, h2⟩; rw [h1]; exact h2
  · intro hh
    split at hh
    · rename_i u hu; exact ⟨.inl rfl, u, hu, hh⟩
    · exact hh.elim
theorem fe1_some {u : V} {post : V → St → Prop} : fe1 n (some [u]) st post ↔ flatC u = true ∧ Vw n (post u) st := Iff.rfl
attribute [simp] finE_r finE_n fe1_some
theorem eff_cx {Γ : Tab} (hΓ : TabOK P Γ) (hm : P.follows .mixedOrders = true) (D : Nat → Option Ann) {f : FuncId} {fn : Func} {c : Code} {vs : List V} {post : V → St → Prop} {rs : Array ResultVar} (hf : P.funcs[f]? = some fn) (hb : fn.body = some c) (hn : fn.ntmps = n) (hrs : fn.results = rs)
    (hvs : vs.length ≤ n) (ok : okC n D c = true) (hc : cx P Γ n D c (FinE P n rs.toList post) ⟨ini 0 vs, h⟩) (hs : HS W ro lam h) {args : Array Value} (hsz : args.size = vs.length) (hr : ∀ (j : Nat) (c : V) (x : Value), vs[j]? = some c → args[j]? = some x → R W ro lam c x) :
    Calls P f args W fun e W' => ∃ rv u s' ro' lam' a', e = .returned rv ∧ (∀ w ro, R0 w ro u rv) ∧ post u s' ∧ Ext ⟨W, ownB lam, []⟩ ro ro' ∧ Sim ⟨W, ownB lam, []⟩ n ro' lam' s' a' W' := by
  subst hn; subst hrs
  refine calls_of_wp hf hb ?_
  refine wp_mono (CW.of_cx hΓ hm c _ _ ok hc ⟨W, ownB lam, []⟩ ro lam _ W (hs.sim hsz hvs hr)) fun e a' w' hh => ?_
  obtain ⟨st', ro1, lam1, ⟨he, u, h1, h2, s', hv, hp⟩, hext, hs'⟩ := hh
  obtain ⟨zs, hz, hra⟩ := resL_sound hs' _ _ h1
  have hl : zs.length = 1 := by simpa using hra.1
  obtain ⟨x, rfl⟩ := List.length_eq_one_iff.1 hl
  have hrun := results_run fn a'.tmps w' hz
  simp only [List.size_toArray, List.length_cons, List.length_nil, dite_true] at hrun
  have hx := hra.2 0 u x rfl rfl
  have hpure : R0 w' ro1 u x := hx.pureC (by cases u <;> simp [flatC] at h2 <;> rfl)
  obtain ⟨ro2, lam2, he2, hs2⟩ := hv _ _ _ _ _ hs'
  have hfin : a'.defers = [] ∧ ∃ v', (results fn a'.tmps).run P w' = .ok v' w' ∧ (fun e W' => ∃ rv u s' ro' lam' a', e = Ending.returned rv ∧ (∀ w ro, R0 w ro u rv) ∧ post u s' ∧ Ext ⟨W, ownB lam, []⟩ ro ro' ∧ Sim ⟨W, ownB lam, []⟩ fn.ntmps ro' lam' s' a' W') (.returned v') w' :=
    ⟨hs'.dfr, x, hrun, x, u, s', ro2, lam2, a', rfl, fun _ _ => hpure.flatC h2, hp, hext.trans he2, hs2⟩
  rcases he with rfl | rfl
  · exact hfin
  · exact hfin
/-- A nil slice in a cell of a block becomes an empty one with a block of its own to come. -/
theorem Sim.nilCellAt (hs : Sim w0 n ro lam st a w) {key key' i : Nat} {blk : Blk} {ty' : TypeId} (sz : Nat) (hkl : ∃ b m, lam key = some (some b, m)) (hk : st.heap key = some blk) (hi : blk.cells[i]? = some .nils) (hk' : st.heap key' = none) :
    Sim w0 n ro (upd lam key' (some (none, 0))) ⟨st.env, upd (upd st.heap key (some ⟨blk.ty, blk.cells.set i (.sl key' 0 0 sz)⟩)) key' (some ⟨ty', []⟩)⟩ a w := by
  have hne : key ≠ key' := by rintro rfl; rw [hk] at hk'; cases hk'
  have hnone : lam key' = none := hs.dead _ hk'
  have hlam : ∀ k y, lam k = some y → upd lam key' (some (none, 0)) k = some y := fun k y h => by
    rw [upd_ne]; exact h
    rintro rfl; rw [hnone] at h; cases h
  have hm : ∀ {v x}, R w ro lam v x → R w ro (upd lam key' (some (none, 0))) v x := fun hr => hr.mono (fun _ _ => rfl) (fun _ h => h) hlam
  have hback : ∀ k b m, upd lam key' (some (none, 0)) k = some (some b, m) → lam k = some (some b, m) := fun k b m h => by
    by_cases e : k = key'
    · subst e; rw [upd_same] at h; cases h
    · rwa [upd_ne _ _ e] at h
  have hbackm : ∀ k b, upd lam key' (some (none, 0)) k = some (none, b + 1) → lam k = some (none, b + 1) := fun k b h => by
    by_cases e : k = key'
    · subst e; rw [upd_same] at h; cases h
    · rwa [upd_ne _ _ e] at h
  refine ⟨hs.below, hs.dfr, hs.size, hs.rolt, fun t => hm (hs.env t), fun k blk' hkk => ?_, fun k hkk => ?_, fun k b m h => hs.own k b m (hback k b m h), fun k1 k2 b m1 m2 h1 h2 => hs.inj k1 k2 b m1 m2 (hback _ _ _ h1) (hback _ _ _ h2), fun k b h => ⟨(hs.maps k b (hbackm _ _ h)).1, fun k' h' => (hs.maps k b (hbackm _ _ h)).2 k' (hbackm _ _ h')⟩⟩
  · by_cases e : k = key'
    · subst e; simp only [upd_same, Option.some.injEq] at hkk; subst hkk; exact .inl ⟨upd_same _ _ _, rfl⟩
    · simp only [upd_ne _ _ e] at hkk
      by_cases e2 : k = key
      · subst e2
        simp only [upd_same, Option.some.injEq] at hkk; subst hkk
        rcases hs.heap k _ hk with ⟨hv, hc⟩ | ⟨b, o, hl, hw, hso⟩ | ⟨b, m, arr, hl, hw, h1, hle, hr⟩
        · rw [hc] at hi; simp at hi
        · obtain ⟨b', m', hkl⟩ := hkl
          rw [hkl] at hl; cases hl
        · refine .inr <| .inr ⟨b, m, arr, hlam _ _ hl, hw, h1, by simpa using hle, fun j c x hc hx => ?_⟩
          rw [List.getElem?_set] at hc
          by_cases ej : i = j
          · subst ej
            simp only [if_true, (List.getElem?_eq_some_iff.1 hi).1, Option.some.injEq] at hc
            subst hc
            have := (hr i _ x hi hx).nils_inv
            subst this
            exact .slv key' sz (upd_same _ _ _)
          · simp only [ej, if_false] at hc
            exact hm (hr j c x hc hx)
      · simp only [upd_ne _ _ e2] at hkk
        rcases hs.heap k blk' hkk with hv | ⟨b, o, hl, hw, hso⟩ | ⟨b, m, arr, hl, hw, h1, hle, hr⟩
        · exact .inl ⟨hlam _ _ hv.1, hv.2⟩
        · exact .inr (.inl ⟨b, o, hlam _ _ hl, hw, hso⟩)
        · exact .inr <| .inr ⟨b, m, arr, hlam _ _ hl, hw, h1, hle, fun j c x hc hx => hm (hr j c x hc hx)⟩
  · by_cases e : k = key'
    · subst e; simp only [upd_same] at hkk; cases hkk
    · simp only [upd_ne _ _ e] at hkk ⊢
      by_cases e2 : k = key
      · subst e2; simp only [upd_same] at hkk; cases hkk
      · simp only [upd_ne _ _ e2] at hkk; exact hs.dead k hkk
/-- A call through a value, by what it does. -/
theorem callv_wp {o : Oper} {f : Operand} {args : Array Operand} {ts : Array TypeId} {a : Act} {w : World} {next : Act → World → Prop} {Q : Exit → Act → World → Prop} {g : FuncId} {fs cs : Array Value} (ho : o.op = .call { callee := .value f, args := args, argTypes := ts }) (hv : a.eval f = .func (.func g) fs cs) (hc : callable P g = true)
    (h : Calls P g (fs ++ args.map a.eval ++ cs) w fun e w' => ∃ v, e = .returned v ∧ next (a.put o.dst v) w') : o.wp P a w next Q := by
  have hrun : (execOp a.eval o).run P w = .ok (.enter g (fs ++ args.map a.eval ++ cs)) w := by
    simp only [execOp, ho, resolve, hv]
    simp [Deferred.ofValue, invoke, callFunc_run hc]
  unfold Oper.wp
  rw [hrun, Oper.upon_enter]
  refine h.mono fun e w' hh => ?_
  obtain ⟨v, rfl, hn⟩ := hh
  exact hn
/-- Memory turns that the state knows nothing of. -/
theorem Sim.apart {w' : World} (hs : Sim w0 n ro lam st a w) {m : Nat} (hb : Below m w w') (hro : ∀ b, ro b → b < m) (hown : ∀ b, ownB lam b → b < m) (hw0 : w0.w.heap.size ≤ m) : Sim w0 n ro lam st a w' := by
  have hmm : ∀ {v x}, R w ro lam v x → R w' ro lam v x := fun hr => hr.mono (fun b h => hb.block b (hro b h)) (fun _ h => h) (fun _ _ h => h)
  refine ⟨hs.below.but hb.os hb.tape hb.output hb.size (fun k _ hf => hb.block k ?_), hs.dfr, hs.size, fun b h => Nat.lt_of_lt_of_le (hs.rolt b h) hb.size, fun t => hmm (hs.env t), fun key blk hk => ?_, hs.dead, fun key b mm h => ⟨(hs.own key b mm h).1, Nat.lt_of_lt_of_le (hs.own key b mm h).2.1 hb.size, (hs.own key b mm h).2.2⟩, hs.inj, fun key b h => ⟨⟨(hs.maps key b h).1.1, Nat.lt_of_lt_of_le (hs.maps key b h).1.2.1 hb.size, (hs.maps key b h).1.2.2⟩, (hs.maps key b h).2⟩⟩
  · exact Nat.lt_of_not_le fun h => hf (.inr (Nat.le_trans hw0 h))
  · rcases hs.heap key blk hk with hv | ⟨b, o, hl, hw, hso⟩ | ⟨b, m', arr, hl, hw, h1, hle, hr⟩
    · exact .inl hv
    · exact .inr (.inl ⟨b, o, hl, (hb.block b (hown b ⟨key, .inr hl⟩)).trans hw, hso⟩)
    · exact .inr <| .inr ⟨b, m', arr, hl, (hb.block b (hown b ⟨key, .inl ⟨m', hl⟩⟩)).trans hw, h1, hle, fun j c x hc hx => hmm (hr j c x hc hx)⟩
end
end Go.Pv
