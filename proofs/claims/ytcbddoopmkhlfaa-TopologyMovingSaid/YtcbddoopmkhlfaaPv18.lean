/-
  Part 18: ranges over a function: a round's statements, and the loop.
-/
import Derived.Test.YtcbddoopmkhlfaaPv17
import Derived.RangeFuncLeaves
namespace Go.Pv
open Go.RowKit
set_option linter.unusedSimpArgs false
set_option linter.unusedVariables false

def notDefer : Op → Bool
  | .defer _ => false
  | _ => true
section
variable {P : Program} {m l : Nat} {n : Nat}
theorem oper_inR {o : Oper} (hd : notDefer o.op = true) {a : Act} {w : World} {next : Act → World → Prop} {Q : Exit → Act → World → Prop} (h : o.wp P a w next Q) : o.wpIn (Fence.wide.inRound l) m P a w next Q := by
  have := (oper_in (m := m) h).2
  refine ⟨fun _ _ => trivial, ?_⟩
  rw [Oper.semAt_eq _ _ _ (fun c hc => by rw [hc] at hd; cases hd)]
  rw [Oper.semAt_eq _ _ _ (fun c hc => by rw [hc] at hd; cases hd)] at this
  exact this
theorem evL_inR {Γ : Tab} (hΓ : TabOK P Γ) {ops : Array Oper} {Q : Exit → Act → World → Prop} {K : St → Prop} {w0 : Base} : ∀ (l' : List Oper) (st : St) (ro : Nat → Prop) (lam : Lam) (a : Act) (w : World), l'.all (fun o => fits n o.dst && notDefer o.op) = true →
    egX P Γ ops l' K st → Sim w0 n ro lam st a w → (∀ st' a' ro' lam' w', K st' → Ext w0 ro ro' → Sim w0 n ro' lam' st' a' w' → Q .normal a' w') → wpListIn (Fence.wide.inRound l) m P ops Q l' a w
  | [], st, ro, lam, a, w, _, h, hs, hK => hK _ _ _ _ _ h (Ext.refl _ _) hs
  | o :: l', st, ro, lam, a, w, hf, h, hs, hK => by
    simp only [List.all_cons, Bool.and_eq_true] at hf
    show if Region.wanted o (yielded ops a.tmps) then o.wpIn (Fence.wide.inRound l) m P a w (wpListIn (Fence.wide.inRound l) m P ops Q l') Q else (∀ f, o.about P w a.eval = some f → (Fence.wide.inRound l).fn f) ∧ wpListIn (Fence.wide.inRound l) m P ops Q l' (a.put o.dst undef) w
    have hf2 : l'.all (fun o => fits n o.dst && notDefer o.op) = true := by simpa using hf.2
    simp only [egX] at h
    cases hw : wantV ops st o.guard with
    | none => rw [hw] at h; exact h.elim
    | some b =>
      rw [hw] at h
      rw [wantV_sound hs hw]
      cases b with
      | true =>
        rw [if_pos rfl]
        exact oper_inR hf.1.2 (swX_sound hΓ hs hf.1.1 h fun st' a' ro' lam' w' k hx hs' => evL_inR hΓ l' st' ro' lam' a' w' hf2 k hs' fun st2 a2 ro2 lam2 w2 k e hs2 => hK st2 a2 ro2 lam2 w2 k (hx.trans e) hs2)
      | false =>
        rw [if_neg (by simp)]
        exact ⟨fun _ _ => trivial, evL_inR hΓ l' _ ro lam _ w hf2 h (hs.put hf.1.1 (.pure _ _ .undef)) hK⟩

/-- A statement of a round. -/
def CWR (P : Program) (n : Nat) (c : Code) (Q : Exit → St → Prop) (st : St) : Prop :=
  ∀ (l m : Nat) (w0 : Base) (ro : Nat → Prop) (lam : Lam) (a : Act) (w : World), Sim w0 n ro lam st a w →
    c.wpIn (Fence.wide.inRound l) m P (fun e a' w' => ∃ st' ro' lam', Q e st' ∧ Ext w0 ro ro' ∧ Sim w0 n ro' lam' st' a' w') a w
theorem CWR.mono {c : Code} {Q Q' : Exit → St → Prop} {st : St} (h : CWR P n c Q st) (hq : ∀ e s, Q e s → Q' e s) : CWR P n c Q' st :=
  fun l m w0 ro lam a w hs => wpIn_mono (h l m w0 ro lam a w hs) fun _ _ _ ⟨st', ro', lam', h1, h2, h3⟩ => ⟨st', ro', lam', hq _ _ h1, h2, h3⟩
/-- What a round's statement may be made of. -/
def okR (n : Nat) : Code → Bool
  | .skip => true
  | .ret => true
  | .exit _ => true
  | .seq a b => okR n a && okR n b
  | .cond _ a b => okR n a && okR n b
  | .block _ c => okR n c
  | .region _ ops false => ops.toList.all (fun o => fits n o.dst && notDefer o.op)
  | _ => false
theorem CWR.of_cx {Γ : Tab} {D : Nat → Option Ann} (hΓ : TabOK P Γ) : ∀ (c : Code) (Q : Exit → St → Prop) (st : St), okR n c = true → cx P Γ n D c Q st → CWR P n c Q st
  | .skip, Q, st, _, h => fun l m w0 ro lam a w hs => wpIn_skip ⟨st, ro, lam, h, Ext.refl _ _, hs⟩
  | .ret, Q, st, _, h => fun l m w0 ro lam a w hs => wpIn_ret ⟨st, ro, lam, h, Ext.refl _ _, hs⟩
  | .exit id, Q, st, _, h => fun l m w0 ro lam a w hs => wpIn_exit ⟨st, ro, lam, h, Ext.refl _ _, hs⟩
  | .seq x y, Q, st, ok, h => by
    simp only [okR, Bool.and_eq_true] at ok
    intro l m w0 ro lam a w hs
    refine wpIn_seq (wpIn_mono (CWR.of_cx hΓ x _ st ok.1 h l m w0 ro lam a w hs) fun e a' w' hh => ?_)
    obtain ⟨st', ro', lam', h1, h2, h3⟩ := hh
    cases e with
    | normal =>
      refine wpIn_mono (CWR.of_cx hΓ y Q st' ok.2 h1 l m w0 ro' lam' a' w' h3) fun e a'' w'' hh => ?_
      obtain ⟨st'', ro'', lam'', k1, k2, k3⟩ := hh
      exact ⟨st'', ro'', lam'', k1, h2.trans k2, k3⟩
    | _ => exact ⟨st', ro', lam', h1, h2, h3⟩
  | .cond c x y, Q, st, ok, h => by
    simp only [okR, Bool.and_eq_true] at ok
    simp only [cx] at h
    split at h
    · rename_i v hv
      intro l m w0 ro lam a w hs
      have he := hs.ev c
      rw [hv] at he
      exact wpIn_cond_split he.bool_inv (fun hh => CWR.of_cx hΓ x Q st ok.1 (h.1 hh) l m w0 ro lam a w hs) (fun hh => CWR.of_cx hΓ y Q st ok.2 (h.2 hh) l m w0 ro lam a w hs)
    · exact h.elim
  | .block id c, Q, st, ok, h => by
    intro l m w0 ro lam a w hs
    refine wpIn_block (wpIn_mono (CWR.of_cx hΓ c _ st ok h l m w0 ro lam a w hs) fun e a' w' hh => ?_)
    obtain ⟨st', ro', lam', h1, h2, h3⟩ := hh
    cases e with
    | exit id' =>
      simp only [Bk] at h1
      simp only [Exit.inBlock]
      by_cases hid : id' = id
      · simp only [hid, if_true] at h1 ⊢; exact ⟨st', ro', lam', h1, h2, h3⟩
      · simp only [hid, if_false] at h1 ⊢; exact ⟨st', ro', lam', h1, h2, h3⟩
    | _ => exact ⟨st', ro', lam', h1, h2, h3⟩
  | .region id ops draw, Q, st, ok, h => by
    cases draw with
    | true => simp [okR] at ok
    | false =>
      intro l m w0 ro lam a w hs
      simp only [cx] at h
      exact wpIn_region_list (evL_inR hΓ _ st ro lam a w ok h hs fun st' a' ro' lam' w' k e hs' => ⟨st', ro', lam', k, e, hs'⟩)
  | .loop _, _, _, ok, _ => by simp [okR] at ok
  | .scope _, _, _, ok, _ => by simp [okR] at ok
  | .label _, _, _, ok, _ => by simp [okR] at ok
  | .goto _, _, _, ok, _ => by simp [okR] at ok
  | .rangeFunc .., _, _, ok, _ => by simp [okR] at ok
  | .refuse .., _, _, ok, _ => by simp [okR] at ok

/-! ### the world turns elsewhere -/
theorem Sim.move {w0 : Base} {ro : Nat → Prop} {lam : Lam} {st : St} {a : Act} {W W' : World} (hs : Sim w0 n ro lam st a W) (hsz : W.heap.size ≤ W'.heap.size) (hro : ∀ b, ro b → W'.heap[b]? = W.heap[b]?) (hown : ∀ b, ownB lam b → W'.heap[b]? = W.heap[b]?) : Sim ⟨W', ownB lam, a.defers⟩ n ro lam st a W' := by
  have hm : ∀ {v x}, R W ro lam v x → R W' ro lam v x := fun hr => hr.mono hro (fun _ h => h) (fun _ _ h => h)
  refine ⟨Base.Keeps.refl _ _ _, rfl, hs.size, fun b hb => Nat.lt_of_lt_of_le (hs.rolt b hb) hsz, fun t => hm (hs.env t), fun key blk hk => ?_, hs.dead, fun key b m h => ⟨.inl ⟨key, .inl ⟨m, h⟩⟩, Nat.lt_of_lt_of_le (hs.own key b m h).2.1 hsz, (hs.own key b m h).2.2⟩, hs.inj, fun key b h => ⟨⟨.inl ⟨key, .inr h⟩, Nat.lt_of_lt_of_le (hs.maps key b h).1.2.1 hsz, (hs.maps key b h).1.2.2⟩, (hs.maps key b h).2⟩⟩
  rcases hs.heap key blk hk with hv | ⟨b, o, hl, hw, hso⟩ | ⟨b, m, arr, hl, hw, h1, hle, hr⟩
  · exact .inl hv
  · exact .inr (.inl ⟨b, o, hl, (hown b ⟨key, .inr hl⟩).trans hw, hso⟩)
  · exact .inr <| .inr ⟨b, m, arr, hl, (hown b ⟨key, .inl ⟨m, hl⟩⟩).trans hw, h1, hle, fun j c x hc hx => hm (hr j c x hc hx)⟩
/-- What may lie in the outer frame's temporaries during a range over a function. -/
def stays : V → Bool
  | .vptr .. => true
  | v => !ownT v
def isVp : V → Bool
  | .vptr .. => true
  | _ => false
end
end Go.Pv
