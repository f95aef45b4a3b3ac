/-
  Part 11: statements, loops, whole functions.
-/
import Derived.Test.YtacmchjaldljjaaPv10
import Derived.Scope
namespace Go.Pv
open Go.RowKit
set_option linter.unusedSimpArgs false
set_option linter.unusedVariables false

/-- A statement, from a pure state: it ends in one of the pure states that Q lets. -/
def CW (P : Program) (n : Nat) (c : Code) (Q : Exit → St → Prop) (st : St) : Prop :=
  ∀ (w0 : Base) (ro : Nat → Prop) (lam : Lam) (a : Act) (w : World), Sim w0 n ro lam st a w →
    c.wp P (fun e a' w' => ∃ st' ro' lam', Q e st' ∧ Ext w0 ro ro' ∧ Sim w0 n ro' lam' st' a' w') a w

section
variable {P : Program} {Γ : Tab} {n : Nat} {Q : Exit → St → Prop} {st : St}

theorem CW.mono {c : Code} {Q' : Exit → St → Prop} (h : CW P n c Q st) (hq : ∀ e s, Q e s → Q' e s) : CW P n c Q' st :=
  fun w0 ro lam a w hs => wp_mono (h w0 ro lam a w hs) fun _ _ _ ⟨st', ro', lam', h1, h2, h3⟩ => ⟨st', ro', lam', hq _ _ h1, h2, h3⟩

theorem cw_skip (h : Q .normal st) : CW P n .skip Q st := fun w0 ro lam a w hs => wp_skip ⟨st, ro, lam, h, Ext.refl _ _, hs⟩
theorem cw_exit {id : Nat} (h : Q (.exit id) st) : CW P n (.exit id) Q st := fun w0 ro lam a w hs => wp_exit ⟨st, ro, lam, h, Ext.refl _ _, hs⟩
theorem cw_ret (h : Q .ret st) : CW P n .ret Q st := fun w0 ro lam a w hs => wp_ret ⟨st, ro, lam, h, Ext.refl _ _, hs⟩

/-- What follows a statement that ends as usual. -/
def Nx (P : Program) (n : Nat) (c : Code) (Q : Exit → St → Prop) : Exit → St → Prop
  | .normal, st => CW P n c Q st
  | e, st => Q e st
theorem cw_seq {x y : Code} (h : CW P n x (Nx P n y Q) st) : CW P n (.seq x y) Q st := by
  intro w0 ro lam a w hs
  refine wp_seq (wp_mono (h w0 ro lam a w hs) fun e a' w' hh => ?_)
  obtain ⟨st', ro', lam', h1, h2, h3⟩ := hh
  cases e with
  | normal =>
    refine wp_mono (h1 w0 ro' lam' a' w' h3) fun e a'' w'' hh => ?_
    obtain ⟨st'', ro'', lam'', k1, k2, k3⟩ := hh
    exact ⟨st'', ro'', lam'', k1, h2.trans k2, k3⟩
  | _ => exact ⟨st', ro', lam', h1, h2, h3⟩
theorem nx_normal {c : Code} (h : CW P n c Q st) : Nx P n c Q .normal st := h
theorem nx_exit {c : Code} {id : Nat} (h : Q (.exit id) st) : Nx P n c Q (.exit id) st := h
theorem nx_ret {c : Code} (h : Q .ret st) : Nx P n c Q .ret st := h

theorem cw_cond {c : Operand} {x y : Code} {b : Bool} (hc : ev st c = .bool b) (ht : b = true → CW P n x Q st) (hf : b = false → CW P n y Q st) : CW P n (.cond c x y) Q st := by
  intro w0 ro lam a w hs
  have he := hs.ev c
  rw [hc] at he
  exact wp_cond_split he.bool_inv (fun h => ht h w0 ro lam a w hs) (fun h => hf h w0 ro lam a w hs)

/-- What follows a block. -/
def Bk (id : Nat) (Q : Exit → St → Prop) : Exit → St → Prop
  | .exit id', st => if id' = id then Q .normal st else Q (.exit id') st
  | e, st => Q e st
theorem cw_block {id : Nat} {c : Code} (h : CW P n c (Bk id Q) st) : CW P n (.block id c) Q st := by
  intro w0 ro lam a w hs
  refine wp_block (wp_mono (h w0 ro lam a w hs) fun e a' w' hh => ?_)
  obtain ⟨st', ro', lam', h1, h2, h3⟩ := hh
  cases e with
  | exit id' =>
    simp only [Bk] at h1
    simp only [Exit.inBlock]
    split at h1
    · rename_i hi; rw [if_pos hi]; exact ⟨st', ro', lam', h1, h2, h3⟩
    · rename_i hi; rw [if_neg hi]; exact ⟨st', ro', lam', h1, h2, h3⟩
  | _ => exact ⟨st', ro', lam', h1, h2, h3⟩
theorem cw_label {l : Nat} (h : Q .normal st) : CW P n (.label l) Q st := fun w0 ro lam a w hs => wp_label ⟨st, ro, lam, h, Ext.refl _ _, hs⟩
/-- A scope that no goto leaves. -/
def Ng (Q : Exit → St → Prop) : Exit → St → Prop
  | .goto _, _ => False
  | e, s => Q e s
theorem cw_scope {c : Code} (h : CW P n c (Ng Q) st) : CW P n (.scope c) Q st := by
  intro w0 ro lam a w hs
  refine wp_scope_straight (wp_mono (h w0 ro lam a w hs) fun e a' w' hh => ?_)
  obtain ⟨st', ro', lam', h1, h2, h3⟩ := hh
  cases e with
  | goto l => exact h1.elim
  | _ => exact ⟨st', ro', lam', h1, h2, h3⟩
theorem bk_normal {id : Nat} (h : Q .normal st) : Bk id Q .normal st := h
theorem bk_ret {id : Nat} (h : Q .ret st) : Bk id Q .ret st := h
theorem bk_here {id : Nat} (h : Q .normal st) : Bk id Q (.exit id) st := by simp only [Bk, if_true]; exact h
theorem bk_far {id id' : Nat} (hne : (id' == id) = false) (h : Q (.exit id') st) : Bk id Q (.exit id') st := by
  have : id' ≠ id := by simpa using hne
  simp only [Bk, this, if_false]; exact h

/-- A change of view: what is so in every memory that the one state describes is so of the other. -/
def View (n : Nat) (st st' : St) : Prop := ∀ (w0 : Base) (ro : Nat → Prop) (lam : Lam) (a : Act) (w : World), Sim w0 n ro lam st a w → ∃ ro' lam', Ext w0 ro ro' ∧ Sim w0 n ro' lam' st' a w
theorem View.refl (n : Nat) (st : St) : View n st st := fun _ ro lam _ _ hs => ⟨ro, lam, Ext.refl _ _, hs⟩
theorem View.trans {s1 s2 s3 : St} (h : View n s1 s2) (k : View n s2 s3) : View n s1 s3 := fun w0 ro lam a w hs => by
  obtain ⟨ro1, lam1, e1, h1⟩ := h w0 ro lam a w hs
  obtain ⟨ro2, lam2, e2, h2⟩ := k w0 ro1 lam1 a w h1
  exact ⟨ro2, lam2, e1.trans e2, h2⟩
theorem View.forget (n : Nat) (st : St) (key : Nat) : View n st (st.forget key) := fun _ ro _ _ _ hs => ⟨ro, _, Ext.refl _ _, hs.forget key⟩
theorem View.nilOwn (n : Nat) {st : St} {t key : Nat} (sz : Nat) (ty : TypeId) (ht : st.env t = .nils) (hk : st.heap key = none) :
    View n st { env := upd st.env t (.sl key 0 0 sz), heap := upd st.heap key (some ⟨ty, []⟩) } := fun _ ro _ _ _ hs => ⟨ro, _, Ext.refl _ _, hs.nilOwn ht hk⟩
theorem View.env (n : Nat) {st : St} {e : Nat → V} (he : ∀ t, e t = st.env t ∨ e t = .junk) : View n st { st with env := e } := fun w0 ro lam a w hs => by
  refine ⟨ro, lam, Ext.refl _ _, ⟨hs.below, hs.dfr, hs.size, hs.rolt, fun t => ?_, hs.heap, hs.dead, hs.own, hs.inj⟩⟩
  rcases he t with h | h
  · simp only [h]; exact hs.env t
  · simp only [h]; exact .pure _ _ (.junk _)
theorem cw_view {c : Code} {st' : St} (hv : View n st st') (h : CW P n c Q st') : CW P n c Q st := fun w0 ro lam a w hs => by
  obtain ⟨ro1, lam1, e1, h1⟩ := hv w0 ro lam a w hs
  refine wp_mono (h w0 ro1 lam1 a w h1) fun e a' w' hh => ?_
  obtain ⟨st'', ro'', lam'', k1, k2, k3⟩ := hh
  exact ⟨st'', ro'', lam'', k1, e1.trans k2, k3⟩

/-- A loop: an invariant of the pure states at its head, and a measure. -/
theorem cw_loop {c : Code} (I : St → Prop) (μ : St → Nat) (h0 : I st)
    (round : ∀ s, I s → CW P n c (fun e s' => match e with
      | .normal => ∃ s'', View n s' s'' ∧ I s'' ∧ μ s'' < μ s
      | e => Q e s') s) : CW P n (.loop c) Q st := by
  intro w0 ro lam a w hs
  -- by induction on the measure of the pure state
  have key : ∀ (k : Nat) (s : St) (ro1 : Nat → Prop) (lam1 : Lam) (a1 : Act) (w1 : World), μ s = k → I s → Ext w0 ro ro1 → Sim w0 n ro1 lam1 s a1 w1 → ∀ (b : Frame) (kk : List Item) (cs : List Frame),
      ∃ e a' w', (∃ st' ro' lam', Q e st' ∧ Ext w0 ro ro' ∧ Sim w0 n ro' lam' st' a' w') ∧ Arrives P (lone (b.at a1 (.code c :: .inLoop c :: kk)) cs w1) b kk cs e a' w' := by
    intro k
    induction k using Nat.strongRecOn with
    | _ k ih =>
      intro s ro1 lam1 a1 w1 hk hI hext hs1 b kk cs
      obtain ⟨e, a2, w2, ⟨s2, ro2, lam2, hq, hext2, hs2⟩, harr⟩ := round s hI w0 ro1 lam1 a1 w1 hs1 b (.inLoop c :: kk) cs
      cases e with
      | normal =>
        obtain ⟨s3, hv, hI3, hlt⟩ := hq
        obtain ⟨ro3, lam3, hext3, hs3⟩ := hv w0 ro2 lam2 a2 w2 hs2
        obtain ⟨e', a', w', hq', harr'⟩ := ih (μ s3) (hk ▸ hlt) s3 ro3 lam3 a2 w2 rfl hI3 ((hext.trans hext2).trans hext3) hs3 b kk cs
        exact ⟨e', a', w', hq', .of_steps (Steps.trans harr (.one step_inLoop)) harr'⟩
      | exit id => exact ⟨_, a2, w2, ⟨s2, ro2, lam2, hq, hext.trans hext2, hs2⟩, .pass (x := .inLoop c) rfl (fun _ _ => .inl (by simp)) harr⟩
      | goto l => exact ⟨_, a2, w2, ⟨s2, ro2, lam2, hq, hext.trans hext2, hs2⟩, .pass (x := .inLoop c) rfl (fun _ _ => .inl (by simp)) harr⟩
      | ret => exact ⟨_, a2, w2, ⟨s2, ro2, lam2, hq, hext.trans hext2, hs2⟩, .pass (x := .inLoop c) rfl (fun _ _ => .inl (by simp)) harr⟩
      | panic ch => exact ⟨_, a2, w2, ⟨s2, ro2, lam2, hq, hext.trans hext2, hs2⟩, .pass (x := .inLoop c) rfl (fun _ _ => .inl (by simp)) harr⟩
      | outgrown => exact ⟨_, a2, w2, ⟨s2, ro2, lam2, hq, hext.trans hext2, hs2⟩, .pass (x := .inLoop c) rfl (fun _ _ => .inl (by simp)) harr⟩
  intro b kk cs
  obtain ⟨e, a', w', hq, harr⟩ := key _ st ro lam a w rfl h0 (Ext.refl _ _) hs b kk cs
  exact ⟨e, a', w', hq, .of_steps (.one step_loop) harr⟩

/-- A loop at its head. -/
def LH (P : Program) (n : Nat) (c : Code) (Q : Exit → St → Prop) (st : St) : Prop :=
  ∀ (w0 : Base) (ro : Nat → Prop) (lam : Lam) (a : Act) (w : World), Sim w0 n ro lam st a w → ∀ (b : Frame) (kk : List Item) (cs : List Frame),
    ∃ e a' w', (∃ st' ro' lam', Q e st' ∧ Ext w0 ro ro' ∧ Sim w0 n ro' lam' st' a' w') ∧ Arrives P (lone (b.at a (.code c :: .inLoop c :: kk)) cs w) b kk cs e a' w'
theorem LH.cw {c : Code} (h : LH P n c Q st) : CW P n (.loop c) Q st := fun w0 ro lam a w hs b kk cs =>
  let ⟨e, a', w', hq, harr⟩ := h w0 ro lam a w hs b kk cs
  ⟨e, a', w', hq, .of_steps (.one step_loop) harr⟩
theorem LH.view {c : Code} {s' : St} (hv : View n st s') (h : LH P n c Q s') : LH P n c Q st := fun w0 ro lam a w hs b kk cs => by
  obtain ⟨ro1, lam1, e1, h1⟩ := hv w0 ro lam a w hs
  obtain ⟨e, a', w', ⟨st', ro', lam', hq, hext, hs'⟩, harr⟩ := h w0 ro1 lam1 a w h1 b kk cs
  exact ⟨e, a', w', ⟨st', ro', lam', hq, e1.trans hext, hs'⟩, harr⟩
/-- What follows a round: the loop once more. -/
def Lu (P : Program) (n : Nat) (c : Code) (Q : Exit → St → Prop) : Exit → St → Prop
  | .normal, s => LH P n c Q s
  | e, s => Q e s
theorem LH.unroll {c : Code} (h : CW P n c (Lu P n c Q) st) : LH P n c Q st := fun w0 ro lam a w hs b kk cs => by
  obtain ⟨e, a2, w2, ⟨s2, ro2, lam2, hq, hext2, hs2⟩, harr⟩ := h w0 ro lam a w hs b (.inLoop c :: kk) cs
  cases e with
  | normal =>
    obtain ⟨e', a', w', ⟨s3, ro3, lam3, hq', hext3, hs3⟩, harr'⟩ := hq w0 ro2 lam2 a2 w2 hs2 b kk cs
    exact ⟨e', a', w', ⟨s3, ro3, lam3, hq', hext2.trans hext3, hs3⟩, .of_steps (Steps.trans harr (.one step_inLoop)) harr'⟩
  | exit id => exact ⟨_, a2, w2, ⟨s2, ro2, lam2, hq, hext2, hs2⟩, .pass (x := .inLoop c) rfl (fun _ _ => .inl (by simp)) harr⟩
  | goto l => exact ⟨_, a2, w2, ⟨s2, ro2, lam2, hq, hext2, hs2⟩, .pass (x := .inLoop c) rfl (fun _ _ => .inl (by simp)) harr⟩
  | ret => exact ⟨_, a2, w2, ⟨s2, ro2, lam2, hq, hext2, hs2⟩, .pass (x := .inLoop c) rfl (fun _ _ => .inl (by simp)) harr⟩
  | panic ch => exact ⟨_, a2, w2, ⟨s2, ro2, lam2, hq, hext2, hs2⟩, .pass (x := .inLoop c) rfl (fun _ _ => .inl (by simp)) harr⟩
  | outgrown => exact ⟨_, a2, w2, ⟨s2, ro2, lam2, hq, hext2, hs2⟩, .pass (x := .inLoop c) rfl (fun _ _ => .inl (by simp)) harr⟩
/-- What a round must come to: the invariant at another point, with a smaller measure, behind a change of view. -/
structure TokI {α : Type} (I : α → St → Prop) (μ : α → Nat) : Type where
def Nxt {α : Type} (n : Nat) (I : α → St → Prop) (μ : α → Nat) (x : α) (_ : TokI I μ) (s' : St) : Prop := ∃ y s'', View n s' s'' ∧ I y s'' ∧ μ y < μ x
def Ln {α : Type} (n : Nat) (I : α → St → Prop) (μ : α → Nat) (Q : Exit → St → Prop) (x : α) (t : TokI I μ) : Exit → St → Prop
  | .normal, s' => Nxt n I μ x t s'
  | e, s' => Q e s'
theorem LH.inv {c : Code} {α : Type} (I : α → St → Prop) (μ : α → Nat) (round : ∀ x s, I x s → CW P n c (Ln n I μ Q x ⟨⟩) s) : ∀ (k : Nat) (x : α) (s : St), μ x = k → I x s → LH P n c Q s := by
  intro k
  induction k using Nat.strongRecOn with
  | _ k ih =>
    intro x s hk hI
    refine LH.unroll ((round x s hI).mono fun e s' hh => ?_)
    cases e with
    | normal =>
      obtain ⟨y, s'', hv, hy, hlt⟩ := hh
      exact LH.view hv (ih (μ y) (hk ▸ hlt) y s'' rfl hy)
    | _ => exact hh

/-! ### regions -/
def ew (P : Program) (Γ : Tab) (n : Nat) (ops : Array Oper) (l : List Oper) (K : St → Prop) (st : St) : Prop := ∃ st', evL P Γ n ops l st = some st' ∧ K st'
theorem cw_region (hΓ : TabOK P Γ) {id : Nat} {l : List Oper} (h : ew P Γ n l.toArray l (Q .normal) st) : CW P n (.region id l.toArray false) Q st := by
  obtain ⟨st', h1, h2⟩ := h
  intro w0 ro lam a w hs
  exact wp_region_list (evL_sound hΓ _ st st' ro lam a w (by simpa using h1) hs fun a' ro' lam' w' hext hs' => ⟨st', ro', lam', h2, hext, hs'⟩)
theorem cw_draw (hΓ : TabOK P Γ) (hm : P.follows .mixedOrders = true) {id : Nat} {l : List Oper} (hB : drawB l.toArray = true) (h : ew P Γ n l.toArray l (Q .normal) st) : CW P n (.region id l.toArray true) Q st := by
  obtain ⟨st', h1, h2⟩ := h
  intro w0 ro lam a w hs
  exact region_draw hΓ hm hB (by simpa using h1) hs fun a' ro' lam' w' hext hs' => ⟨st', ro', lam', h2, hext, hs'⟩

theorem cw_drawA (hΓ : TabOK P Γ) (hm : P.follows .mixedOrders = true) {id : Nat} {l : List Oper} {ks : Ann} (hf : l.all (fun o => fits n o.dst) = true) (hB : drawA l.toArray ks = true) (h : ∃ st', evA P Γ l.toArray ks 0 l st = some st' ∧ Q .normal st') : CW P n (.region id l.toArray true) Q st := by
  obtain ⟨st', h1, h2⟩ := h
  intro w0 ro lam a w hs
  exact region_drawA hΓ hm (by simpa using hf) hB (by simpa using h1) hs fun a' ro' lam' w' hext hs' => ⟨st', ro', lam', h2, hext, hs'⟩

/-! ### functions -/
def resV (P : Program) (st : St) : ResultVar → Option V
  | .tmp t => some (st.env t)
  | .cell x t => loadV P st.heap t (st.env x)
def resL (P : Program) (st : St) : List ResultVar → Option (List V)
  | [] => some []
  | r :: rs => match resV P st r, resL P st rs with
    | some v, some vs => some (v :: vs)
    | _, _ => none
def one (vs : List V) : V := match vs with
  | [v] => v
  | vs => .tup vs
/-- The function ends, and its results are as v says. -/
def Fin (P : Program) (rs : List ResultVar) (post : V → Prop) (e : Exit) (st : St) : Prop :=
  (e = .normal ∨ e = .ret) ∧ ∃ us vs, resL P st rs = some us ∧ lendAs st.heap us = some vs ∧ post (one vs)

def ini : Nat → List V → Nat → V
  | _, [] => fun _ => .undef
  | k, v :: vs => upd (ini (k + 1) vs) k v
theorem ini_at : ∀ (vs : List V) (k t : Nat), ini k vs t = if t < k then .undef else (vs[t - k]?).getD .undef
  | [], k, t => by simp [ini]
  | v :: vs, k, t => by
    unfold ini
    by_cases h : t = k
    · subst h; simp [upd]
    · rw [upd_ne _ _ h, ini_at vs (k + 1) t]
      by_cases h1 : t < k
      · simp [h1, show t < k + 1 from by omega]
      · obtain ⟨j, hj⟩ : ∃ j, t - k = j + 1 := ⟨t - k - 1, by omega⟩
        simp only [h1, show ¬ t < k + 1 from by omega, if_false, hj, List.getElem?_cons_succ]
        rw [show t - (k + 1) = j from by omega]

def resS (tmps : Array Value) : ResultVar → Sem Value
  | .tmp t => pure (tmps.getD t Go.undef)
  | .cell x t => do loadVar t (← asAddr (tmps.getD x Go.undef))

theorem res_sound {w0 : Base} {ro : Nat → Prop} {lam : Lam} {a : Act} {w : World} (hs : Sim w0 n ro lam st a w) {r : ResultVar} {v : V} (h : resV P st r = some v) :
    ∃ z, (resS a.tmps r).run P w = .ok z w ∧ R w ro lam v z := by
  cases r with
  | tmp t => simp only [resV, Option.some.injEq] at h; subst h; exact ⟨_, rfl, hs.env t⟩
  | cell x t =>
    simp only [resV] at h
    obtain ⟨z, hz, hr⟩ := loadV_sound hs h (hs.env x)
    refine ⟨z, ?_, hr⟩
    have hx := hs.env x
    have hptr : ∃ ad, a.tmps.getD x Go.undef = .pointer (some ad) := by
      unfold loadV at h
      split at h
      · split at h
        · rename_i key off heq; rw [heq] at hx; obtain ⟨b, m, _, e⟩ := hx.ptr_inv; exact ⟨_, e⟩
        · rename_i cs heq; rw [heq] at hx; obtain ⟨ad, g, e, _⟩ := hx.rp_inv; exact ⟨_, e⟩
        · rename_i cs heq; rw [heq] at hx; obtain ⟨ad, g, e, _⟩ := hx.vrp_rp.2.rp_inv; exact ⟨_, e⟩
        · cases h
      · cases h
    obtain ⟨ad, had⟩ := hptr
    simp only [resS]
    rw [had] at hz ⊢
    simpa [Instr.loadAt, Instr.sureAddr, asAddr] using hz

theorem resL_sound {w0 : Base} {ro : Nat → Prop} {lam : Lam} {a : Act} {w : World} (hs : Sim w0 n ro lam st a w) : ∀ (rs : List ResultVar) (vs : List V), resL P st rs = some vs →
    ∃ zs : List Value, (rs.mapM (resS a.tmps)).run P w = .ok zs w ∧ RA w ro lam vs zs.toArray
  | [], vs, h => by simp only [resL, Option.some.injEq] at h; subst h; exact ⟨[], by simp, rfl, by simp⟩
  | r :: rs, vs, h => by
    unfold resL at h
    split at h
    · rename_i v vs' h1 h2
      simp only [Option.some.injEq] at h; subst h
      obtain ⟨z, hz, hr⟩ := res_sound hs h1
      obtain ⟨zs, hzs, hra⟩ := resL_sound hs rs vs' h2
      refine ⟨z :: zs, ?_, by simpa using hra.1, fun j c x hc hx => ?_⟩
      · simp only [List.mapM_cons, Sem.run_bind, hz, Result.andThen_ok, hzs, Sem.run_pure]
      · cases j with
        | zero => simp at hc hx; subst hc; subst hx; exact hr
        | succ j => exact hra.2 j c x (by simpa using hc) (by simpa using hx)
    · cases h

theorem results_run (fn : Func) (tmps : Array Value) (w : World) {zs : List Value} (h : (fn.results.toList.mapM (resS tmps)).run P w = .ok zs w) :
    (results fn tmps).run P w = .ok (if h : zs.toArray.size = 1 then zs.toArray[0] else .tuple zs.toArray) w := by
  have e : results fn tmps = (do let vs ← fn.results.mapM (resS tmps); pure (if h : vs.size = 1 then vs[0] else .tuple vs)) := by
    unfold results
    congr 1
  rw [e, Array.mapM_eq_mapM_toList]
  simp only [Sem.run_bind, map_eq_pure_bind, bind_assoc, pure_bind, h, Result.andThen_ok, Sem.run_pure]

theorem lendAs_RA {w0 : Base} {ro : Nat → Prop} {lam : Lam} {a : Act} {w : World} (hs : Sim w0 n ro lam st a w) {us vs : List V} {zs : List Value} (h : lendAs st.heap us = some vs) (hr : RA w ro lam us zs.toArray) :
    vs.length = zs.length ∧ ∀ (j : Nat) (c : V) (x : Value), vs[j]? = some c → zs[j]? = some x → R0 w (roOwn ro lam) c x := by
  obtain ⟨h1, h2⟩ := lendAs_at _ us vs h
  have hl : zs.length = us.length := by simpa using hr.1
  refine ⟨by omega, fun j c x hc hx => ?_⟩
  obtain ⟨u, hu, huc⟩ := h2 j c hc
  exact lendA_sound hs huc (hr.2 j u x hu (by simpa using hx))

theorem sim_ini {w : World} {ro : Nat → Prop} {args : Array Value} {vs : List V} (hro : ∀ b, ro b → b < w.heap.size) (hsz : args.size = vs.length) (hn : vs.length ≤ n) (hr : ∀ (j : Nat) (c : V) (x : Value), vs[j]? = some c → args[j]? = some x → R0 w ro c x) :
    Sim (.of w) n ro (fun _ => none) ⟨ini 0 vs, fun _ => none⟩ { tmps := args ++ Array.replicate (n - args.size) Go.undef, defers := [] } w := by
  refine ⟨Base.Keeps.refl _ _ _, rfl, by simp; omega, hro, fun t => ?_, fun key blk hk => (by cases hk), fun _ _ => rfl, fun key b m h => (by cases h), fun k1 k2 b m1 m2 h => (by cases h)⟩
  simp only [ini_at, Nat.not_lt_zero, if_false, Nat.sub_zero]
  by_cases ht : t < args.size
  · have h1 : vs[t]? = some (vs[t]'(by omega)) := List.getElem?_eq_getElem (by omega)
    have h2 : args[t]? = some args[t] := Array.getElem?_eq_getElem ht
    have h3 : (args ++ Array.replicate (n - args.size) Go.undef).getD t Go.undef = args[t] := by
      rw [Array.getD_eq_getD_getElem?, Array.getElem?_append_left ht, h2]; rfl
    rw [h3, h1]
    exact .pure _ _ (hr t _ _ h1 h2)
  · have h1 : vs[t]? = none := List.getElem?_eq_none (by omega)
    have h3 : (args ++ Array.replicate (n - args.size) Go.undef).getD t Go.undef = Go.undef := by
      rw [Array.getD_eq_getD_getElem?, Array.getElem?_append_right (by omega), Array.getElem?_replicate]
      split <;> rfl
    rw [h3, h1]
    exact .pure _ _ .undef
/-- A function's contract out of its body. -/
theorem pcall_of {f : FuncId} {fn : Func} {c : Code} {vs : List V} {v : V} (hf : P.funcs[f]? = some fn) (hb : fn.body = some c) (hn : vs.length ≤ fn.ntmps)
    (h : CW P fn.ntmps c (Fin P fn.results.toList (fun u => u = v)) ⟨ini 0 vs, fun _ => none⟩) : PCall P f vs v := by
  intro w ro args hro hsz hr
  refine calls_of_wp hf hb ?_
  have hs := sim_ini (n := fn.ntmps) hro hsz hn hr
  refine wp_mono (h (.of w) ro _ _ w hs) fun e a' w' hh => ?_
  obtain ⟨st', ro', lam', ⟨he, us, ws, h1, h2, h3⟩, hext, hs'⟩ := hh
  obtain ⟨zs, hz, hra⟩ := resL_sound hs' _ us h1
  obtain ⟨hlen, hat⟩ := lendAs_RA hs' h2 hra
  have hrun := results_run fn a'.tmps w' hz
  have hfin : a'.defers = [] ∧ ∃ v', (results fn a'.tmps).run P w' = .ok v' w' ∧
      (fun e w' => ∃ rv ro', e = Ending.returned rv ∧ Below w.heap.size w w' ∧ (∀ b, ro b → ro' b) ∧ (∀ b, ro' b → ro b ∨ w.heap.size ≤ b) ∧ (∀ b, ro' b → b < w'.heap.size) ∧ R0 w' ro' v rv) (.returned v') w' := by
    refine ⟨hs'.dfr, _, hrun, _, roOwn ro' lam', rfl, hs'.below.below, fun b hb => .inl (hext.1 b hb), fun b hb => ?_, fun b hb => ?_, ?_⟩
    · rcases hb with hb | ⟨key, m, hb⟩
      · exact hext.2 b hb
      · exact .inr ((hs'.own key b m hb).1.resolve_left (fun h => h))
    · rcases hb with hb | ⟨key, m, hb⟩
      · exact hs'.rolt b hb
      · exact (hs'.own key b m hb).2.1
    · subst h3
      by_cases hone : zs.length = 1
      · obtain ⟨x, rfl⟩ := List.length_eq_one_iff.1 hone
        obtain ⟨y, rfl⟩ := List.length_eq_one_iff.1 (hlen.trans hone)
        simp only [List.size_toArray, List.length_cons, List.length_nil, dite_true, one]
        exact hat 0 y x rfl rfl
      · have : one ws = .tup ws := by
          unfold one
          split
          · rename_i y; rw [← hlen] at hone; simp at hone
          · rfl
        rw [this, dif_neg (by simpa using hone)]
        exact .tup _ _ (by simpa using hlen.symm) fun j c x hc hx => hat j c x hc (by simpa using hx)
  rcases he with rfl | rfl
  · exact hfin
  · exact hfin

/-- The function ends; its results lie in memory of its own. -/
def FinF (P : Program) (rs : List ResultVar) (post : V → Prop) (e : Exit) (st : St) : Prop :=
  (e = .normal ∨ e = .ret) ∧ ∃ us vs, resL P st rs = some us ∧ lendAs st.heap us = some vs ∧ frAs us vs = true ∧ post (one vs)
theorem pfresh_of {f : FuncId} {fn : Func} {c : Code} {vs : List V} {v : V} (hf : P.funcs[f]? = some fn) (hb : fn.body = some c) (hn : vs.length ≤ fn.ntmps)
    (h : CW P fn.ntmps c (FinF P fn.results.toList (fun u => u = v)) ⟨ini 0 vs, fun _ => none⟩) : PFresh P f vs v := by
  intro w ro args hro hsz hr
  refine calls_of_wp hf hb ?_
  have hs := sim_ini (n := fn.ntmps) hro hsz hn hr
  refine wp_mono (h (.of w) ro _ _ w hs) fun e a' w' hh => ?_
  obtain ⟨st', ro', lam', ⟨he, us, ws, h1, h2, hfr, h3⟩, hext, hs'⟩ := hh
  obtain ⟨zs, hz, hra⟩ := resL_sound hs' _ us h1
  obtain ⟨hlen, _⟩ := lendAs_RA hs' h2 hra
  have hat := frAs_at hs' us ws h2 hfr zs (by simpa using hra.1) (fun j c x hc hx => hra.2 j c x hc (by simpa using hx))
  have hrun := results_run fn a'.tmps w' hz
  have hmono : ∀ {c : V} {x : Value}, R0 w' (ownP lam') c x → R0 w' (fun b => w.heap.size ≤ b ∧ b < w'.heap.size) c x := fun h => h.mono (fun _ _ => rfl) fun b hb => by
    obtain ⟨key, m, hl⟩ := hb
    exact ⟨(hs'.own key b m hl).1.resolve_left (fun h => h), (hs'.own key b m hl).2.1⟩
  have hfin : a'.defers = [] ∧ ∃ v', (results fn a'.tmps).run P w' = .ok v' w' ∧
      (fun e w' => ∃ rv, e = Ending.returned rv ∧ Below w.heap.size w w' ∧ R0 w' (fun b => w.heap.size ≤ b ∧ b < w'.heap.size) v rv) (.returned v') w' := by
    refine ⟨hs'.dfr, _, hrun, _, rfl, hs'.below.below, ?_⟩
    subst h3
    by_cases hone : zs.length = 1
    · obtain ⟨x, rfl⟩ := List.length_eq_one_iff.1 hone
      obtain ⟨y, rfl⟩ := List.length_eq_one_iff.1 (hlen.trans hone)
      simp only [List.size_toArray, List.length_cons, List.length_nil, dite_true, one]
      exact hmono (hat 0 y x rfl rfl)
    · have : one ws = .tup ws := by
        unfold one
        split
        · rename_i y; rw [← hlen] at hone; simp at hone
        · rfl
      rw [this, dif_neg (by simpa using hone)]
      exact .tup _ _ (by simpa using hlen.symm) fun j c x hc hx => hmono (hat j c x hc (by simpa using hx))
  rcases he with rfl | rfl
  · exact hfin
  · exact hfin
end
end Go.Pv
