/-
  Part 11: statements, loops, whole functions.
-/
import Derived.Test.YtcbddoopmkhlfaaPv10
import Derived.Scope
namespace Go.Pv
open Go.RowKit
set_option linter.unusedSimpArgs false
set_option linter.unusedVariables false

/-- A statement, from a pure state: it ends in one of the pure states that Q lets. -/
def CW (P : Program) (n : Nat) (c : Code) (Q : Exit → St → Prop) (st : St) : Prop :=
  ∀ (w0 : Base) (ro : Nat → Prop) (lam : Lam) (a : Act) (w : World), Sim w0 n ro lam st a w →
    c.wp P (fun e a' w' => ∃ st' ro' lam', Q e st' ∧ Ext w0 ro ro' ∧ Sim w0 n ro' lam' st' a' w') a w

section
variable {P : Program} {Γ : Tab} {n : Nat} {Q : Exit → St → Prop} {st : St}

theorem CW.mono {c : Code} {Q' : Exit → St → Prop} (h : CW P n c Q st) (hq : ∀ e s, Q e s → Q' e s) : CW P n c Q' st :=
  fun w0 ro lam a w hs => wp_mono (h w0 ro lam a w hs) fun _ _ _ ⟨st', ro', lam', h1, h2, h3⟩ => ⟨st', ro', lam', hq _ _ h1, h2, h3⟩

theorem cw_skip (h : Q .normal st) : CW P n .skip Q st := fun w0 ro lam a w hs => wp_skip ⟨st, ro, lam, h, Ext.refl _ _, hs⟩
theorem cw_exit {id : Nat} (h : Q (.exit id) st) : CW P n (.exit id) Q st := fun w0 ro lam a w hs => wp_exit ⟨st, ro, lam, h, Ext.refl _ _, hs⟩
theorem cw_ret (h : Q .ret st) : CW P n .ret Q st := fun w0 ro lam a w hs => wp_ret ⟨st, ro, lam, h, Ext.refl _ _, hs⟩

/-- What follows a statement that ends as usual. -/
def Nx (P : Program) (n : Nat) (c : Code) (Q : Exit → St → Prop) : Exit → St → Prop
  | .normal, st => CW P n c Q st
  | e, st => Q e st
theorem cw_seq {x y : Code} (h : CW P n x (Nx P n y Q) st) : CW P n (.seq x y) Q st := by
  intro w0 ro lam a w hs
  refine wp_seq (wp_mono (h w0 ro lam a w hs) fun e a' w' hh => ?_)
  obtain ⟨st', ro', lam', h1, h2, h3⟩ := hh
  cases e with
  | normal =>
    refine wp_mono (h1 w0 ro' lam' a' w' h3) fun e a'' w'' hh => ?_
    obtain ⟨st'', ro'', lam'', k1, k2, k3⟩ := hh
    exact ⟨st'', ro'', lam'', k1, h2.trans k2, k3⟩
  | _ => exact ⟨st', ro', lam', h1, h2, h3⟩
theorem nx_normal {c : Code} (h : CW P n c Q st) : Nx P n c Q .normal st := h
theorem nx_exit {c : Code} {id : Nat} (h : Q (.exit id) st) : Nx P n c Q (.exit id) st := h
theorem nx_ret {c : Code} (h : Q .ret st) : Nx P n c Q .ret st := h

theorem cw_cond {c : Operand} {x y : Code} {b : Bool} (hc : ev st c = .bool b) (ht : b = true → CW P n x Q st) (hf : b = false → CW P n y Q st) : CW P n (.cond c x y) Q st := by
  intro w0 ro lam a w hs
  have he := hs.ev c
  rw [hc] at he
  exact wp_cond_split he.bool_inv (fun h => ht h w0 ro lam a w hs) (fun h => hf h w0 ro lam a w hs)

/-- What follows a block. -/
def Bk (id : Nat) (Q : Exit → St → Prop) : Exit → St → Prop
  | .exit id', st => if id' = id then Q .normal st else Q (.exit id') st
  | e, st => Q e st
theorem cw_block {id : Nat} {c : Code} (h : CW P n c (Bk id Q) st) : CW P n (.block id c) Q st := by
  intro w0 ro lam a w hs
  refine wp_block (wp_mono (h w0 ro lam a w hs) fun e a' w' hh => ?_)
  obtain ⟨st', ro', lam', h1, h2, h3⟩ := hh
  cases e with
  | exit id' =>
    simp only [Bk] at h1
    simp only [Exit.inBlock]
    split at h1
    · rename_i hi; rw [if_pos hi]; exact ⟨st', ro', lam', h1, h2, h3⟩
    · rename_i hi; rw [if_neg hi]; exact ⟨st', ro', lam', h1, h2, h3⟩
  | _ => exact ⟨st', ro', lam', h1, h2, h3⟩
theorem cw_label {l : Nat} (h : Q .normal st) : CW P n (.label l) Q st := fun w0 ro lam a w hs => wp_label ⟨st, ro, lam, h, Ext.refl _ _, hs⟩
/-- A scope that no goto leaves. -/
def Ng (Q : Exit → St → Prop) : Exit → St → Prop
  | .goto _, _ => False
  | e, s => Q e s
theorem cw_scope {c : Code} (h : CW P n c (Ng Q) st) : CW P n (.scope c) Q st := by
  intro w0 ro lam a w hs
  refine wp_scope_straight (wp_mono (h w0 ro lam a w hs) fun e a' w' hh => ?_)
  obtain ⟨st', ro', lam', h1, h2, h3⟩ := hh
  cases e with
  | goto l => exact h1.elim
  | _ => exact ⟨st', ro', lam', h1, h2, h3⟩
theorem bk_normal {id : Nat} (h : Q .normal st) : Bk id Q .normal st := h
theorem bk_ret {id : Nat} (h : Q .ret st) : Bk id Q .ret st := h
theorem bk_here {id : Nat} (h : Q .normal st) : Bk id Q (.exit id) st := by simp only [Bk, if_true]; exact h
theorem bk_far {id id' : Nat} (hne : (id' == id) = false) (h : Q (.exit id') st) : Bk id Q (.exit id') st := by
  have : id' ≠ id := by simpa using hne
  simp only [Bk, this, if_false]; exact h

/-- A change of view: what is so in every memory that the one state describes is so of the other. -/
def View (n : Nat) (st st' : St) : Prop := ∀ (w0 : Base) (ro : Nat → Prop) (lam : Lam) (a : Act) (w : World), Sim w0 n ro lam st a w → ∃ ro' lam', Ext w0 ro ro' ∧ Sim w0 n ro' lam' st' a w
theorem View.refl (n : Nat) (st : St) : View n st st := fun _ ro lam _ _ hs => ⟨ro, lam, Ext.refl _ _, hs⟩
theorem View.trans {s1 s2 s3 : St} (h : View n s1 s2) (k : View n s2 s3) : View n s1 s3 := fun w0 ro lam a w hs => by
  obtain ⟨ro1, lam1, e1, h1⟩ := h w0 ro lam a w hs
  obtain ⟨ro2, lam2, e2, h2⟩ := k w0 ro1 lam1 a w h1
  exact ⟨ro2, lam2, e1.trans e2, h2⟩
theorem View.forget (n : Nat) (st : St) (key : Nat) : View n st (st.forget key) := fun _ ro _ _ _ hs => ⟨ro, _, Ext.refl _ _, hs.forget key⟩
theorem View.nilOwn (n : Nat) {st : St} {t key : Nat} (sz : Nat) (ty : TypeId) (ht : st.env t = .nils) (hk : st.heap key = none) :
    View n st { env := upd st.env t (.sl key 0 0 sz), heap := upd st.heap key (some ⟨ty, []⟩) } := fun _ ro _ _ _ hs => ⟨ro, _, Ext.refl _ _, hs.nilOwn ht hk⟩
theorem View.env (n : Nat) {st : St} {e : Nat → V} (he : ∀ t, e t = st.env t ∨ e t = .junk) : View n st { st with env := e } := fun w0 ro lam a w hs => by
  refine ⟨ro, lam, Ext.refl _ _, ⟨hs.below, hs.dfr, hs.size, hs.rolt, fun t => ?_, hs.heap, hs.dead, hs.own, hs.inj, hs.maps⟩⟩
  rcases he t with h | h
  · simp only [h]; exact hs.env t
  · simp only [h]; exact .pure _ _ (.junk _)
theorem cw_view {c : Code} {st' : St} (hv : View n st st') (h : CW P n c Q st') : CW P n c Q st := fun w0 ro lam a w hs => by
  obtain ⟨ro1, lam1, e1, h1⟩ := hv w0 ro lam a w hs
  refine wp_mono (h w0 ro1 lam1 a w h1) fun e a' w' hh => ?_
  obtain ⟨st'', ro'', lam'', k1, k2, k3⟩ := hh
  exact ⟨st'', ro'', lam'', k1, e1.trans k2, k3⟩

/-- A loop: an invariant of the pure states at its head, and a measure. -/
theorem cw_loop {c : Code} (I : St → Prop) (μ : St → Nat) (h0 : I st)
    (round : ∀ s, I s → CW P n c (fun e s' => match e with
      | .normal => ∃ s'', View n s' s'' ∧ I s'' ∧ μ s'' < μ s
      | e => Q e s') s) : CW P n (.loop c) Q st := by
  intro w0 ro lam a w hs
  -- by induction on the measure of the pure state
  have key : ∀ (k : Nat) (s : St) (ro1 : Nat → Prop) (lam1 : Lam) (a1 : Act) (w1 : World), μ s = k → I s → Ext w0 ro ro1 → Sim w0 n ro1 lam1 s a1 w1 → ∀ (b : Frame) (kk : List Item) (cs : List Frame),
      ∃ e a' w', (∃ st' ro' lam', Q e st' ∧ Ext w0 ro ro' ∧ Sim w0 n ro' lam' st' a' w') ∧ Arrives P (lone (b.at a1 (.code c :: .inLoop c :: kk)) cs w1) b kk cs e a' w' := by
    intro k
    induction k using Nat.strongRecOn with
    | _ k ih =>
      intro s ro1 lam1 a1 w1 hk hI hext hs1 b kk cs
      obtain ⟨e, a2, w2, ⟨s2, ro2, lam2, hq, hext2, hs2⟩, harr⟩ := round s hI w0 ro1 lam1 a1 w1 hs1 b (.inLoop c :: kk) cs
      cases e with
      | normal =>
        obtain ⟨s3, hv, hI3, hlt⟩ := hq
        obtain ⟨ro3, lam3, hext3, hs3⟩ := hv w0 ro2 lam2 a2 w2 hs2
        obtain ⟨e', a', w', hq', harr'⟩ := ih (μ s3) (hk ▸ hlt) s3 ro3 lam3 a2 w2 rfl hI3 ((hext.trans hext2).trans hext3) hs3 b kk cs
        exact ⟨e', a', w', hq', .of_steps (Steps.trans harr (.one step_inLoop)) harr'⟩
      | exit id => exact ⟨_, a2, w2, ⟨s2, ro2, lam2, hq, hext.trans hext2, hs2⟩, .pass (x := .inLoop c) rfl (fun _ _ => .inl (by simp)) harr⟩
      | goto l => exact ⟨_, a2, w2, ⟨s2, ro2, lam2, hq, hext.trans hext2, hs2⟩, .pass (x := .inLoop c) rfl (fun _ _ => .inl (by simp)) harr⟩
      | ret => exact ⟨_, a2, w2, ⟨s2, ro2, lam2, hq, hext.trans hext2, hs2⟩, .pass (x := .inLoop c) rfl (fun _ _ => .inl (by simp)) harr⟩
      | panic ch => exact ⟨_, a2, w2, ⟨s2, ro2, lam2, hq, hext.trans hext2, hs2⟩, .pass (x := .inLoop c) rfl (fun _ _ => .inl (by simp)) harr⟩
      | outgrown => exact ⟨_, a2, w2, ⟨s2, ro2, lam2, hq, hext.trans hext2, hs2⟩, .pass (x := .inLoop c) rfl (fun _ _ => .inl (by simp)) harr⟩
  intro b kk cs
  obtain ⟨e, a', w', hq, harr⟩ := key _ st ro lam a w rfl h0 (Ext.refl _ _) hs b kk cs
  exact ⟨e, a', w', hq, .of_steps (.one step_loop) harr⟩

/-- A loop at its head. -/
def LH (P : Program) (n : Nat) (c : Code) (Q : Exit → St → Prop) (st : St) : Prop :=
  ∀ (w0 : Base) (ro : Nat → Prop) (lam : Lam) (a : Act) (w : World), Sim w0 n ro lam st a w → ∀ (b : Frame) (kk : List Item) (cs : List Frame),
    ∃ e a' w', (∃ st' ro' lam', Q e st' ∧ Ext w0 ro ro' ∧ Sim w0 n ro' lam' st' a' w') ∧ Arrives P (lone (b.at a (.code c :: .inLoop c :: kk)) cs w) b kk cs e a' w'
theorem LH.cw {c : Code} (h : LH P n c Q st) : CW P n (.loop c) Q st := fun w0 ro lam a w hs b kk cs =>
  let ⟨e, a', w', hq, harr⟩ := h w0 ro lam a w hs b kk cs
  ⟨e, a', w', hq, .of_steps (.one step_loop) harr⟩
theorem LH.view {c : Code} {s' : St} (hv : View n st s') (h : LH P n c Q s') : LH P n c Q st := fun w0 ro lam a w hs b kk cs => by
  obtain ⟨ro1, lam1, e1, h1⟩ := hv w0 ro lam a w hs
  obtain ⟨e, a', w', ⟨st', ro', lam', hq, hext, hs'⟩, harr⟩ := h w0 ro1 lam1 a w h1 b kk cs
  exact ⟨e, a', w', ⟨st', ro', lam', hq, e1.trans hext, hs'⟩, harr⟩
/-- What follows a round: the loop once more. -/
def Lu (P : Program) (n : Nat) (c : Code) (Q : Exit → St → Prop) : Exit → St → Prop
  | .normal, s => LH P n c Q s
  | e, s => Q e s
theorem LH.unroll {c : Code} (h : CW P n c (Lu P n c Q) st) : LH P n c Q st := fun w0 ro lam a w hs b kk cs => by
  obtain ⟨e, a2, w2, ⟨s2, ro2, lam2, hq, hext2, hs2⟩, harr⟩ := h w0 ro lam a w hs b (.inLoop c :: kk) cs
  cases e with
  | normal =>
    obtain ⟨e', a', w', ⟨s3, ro3, lam3, hq', hext3, hs3⟩, harr'⟩ := hq w0 ro2 lam2 a2 w2 hs2 b kk cs
    exact ⟨e', a', w', ⟨s3, ro3, lam3, hq', hext2.trans hext3, hs3⟩, .of_steps (Steps.trans harr (.one step_inLoop)) harr'⟩
  | exit id => exact ⟨_, a2, w2, ⟨s2, ro2, lam2, hq, hext2, hs2⟩, .pass (x := .inLoop c) rfl (fun _ _ => .inl (by simp)) harr⟩
  | goto l => exact ⟨_, a2, w2, ⟨s2, ro2, lam2, hq, hext2, hs2⟩, .pass (x := .inLoop c) rfl (fun _ _ => .inl (by simp)) harr⟩
  | ret => exact ⟨_, a2, w2, ⟨s2, ro2, lam2, hq, hext2, hs2⟩, .pass (x := .inLoop c) rfl (fun _ _ => .inl (by simp)) harr⟩
  | panic ch => exact ⟨_, a2, w2, ⟨s2, ro2, lam2, hq, hext2, hs2⟩, .pass (x := .inLoop c) rfl (fun _ _ => .inl (by simp)) harr⟩
  | outgrown => exact ⟨_, a2, w2, ⟨s2, ro2, lam2, hq, hext2, hs2⟩, .pass (x := .inLoop c) rfl (fun _ _ => .inl (by simp)) harr⟩
/-- What a round must come to: the invariant at another point, with a smaller measure, behind a change of view. -/
structure TokI {α : Type} (I : α → St → Prop) (μ : α → Nat) : Type where
def Nxt {α : Type} (n : Nat) (I : α → St → Prop) (μ : α → Nat) (x : α) (_ : TokI I μ) (s' : St) : Prop := ∃ y s'', View n s' s'' ∧ I y s'' ∧ μ y < μ x
def Ln {α : Type} (n : Nat) (I : α → St → Prop) (μ : α → Nat) (Q : Exit → St → Prop) (x : α) (t : TokI I μ) : Exit → St → Prop
  | .normal, s' => Nxt n I μ x t s'
  | e, s' => Q e s'
theorem LH.inv {c : Code} {α : Type} (I : α → St → Prop) (μ : α → Nat) (round : ∀ x s, I x s → CW P n c (Ln n I μ Q x ⟨⟩) s) : ∀ (k : Nat) (x : α) (s : St), μ x = k → I x s → LH P n c Q s := by
  intro k
  induction k using Nat.strongRecOn with
  | _ k ih =>
    intro x s hk hI
    refine LH.unroll ((round x s hI).mono fun e s' hh => ?_)
    cases e with
    | normal =>
      obtain ⟨y, s'', hv, hy, hlt⟩ := hh
      exact LH.view hv (ih (μ y) (hk ▸ hlt) y s'' rfl hy)
    | _ => exact hh

/-! ### regions -/
def ew (P : Program) (Γ : Tab) (n : Nat) (ops : Array Oper) (l : List Oper) (K : St → Prop) (st : St) : Prop := ∃ st', evL P Γ n ops l st = some st' ∧ K st'
theorem cw_region (hΓ : TabOK P Γ) {id : Nat} {l : List Oper} (h : ew P Γ n l.toArray l (Q .normal) st) : CW P n (.region id l.toArray false) Q st := by
  obtain ⟨st', h1, h2⟩ := h
  intro w0 ro lam a w hs
  exact wp_region_list (evL_sound hΓ _ st st' ro lam a w (by simpa using h1) hs fun a' ro' lam' w' hext hs' => ⟨st', ro', lam', h2, hext, hs'⟩)
theorem cw_draw (hΓ : TabOK P Γ) (hm : P.follows .mixedOrders = true) {id : Nat} {l : List Oper} (hB : drawB l.toArray = true) (h : ew P Γ n l.toArray l (Q .normal) st) : CW P n (.region id l.toArray true) Q st := by
  obtain ⟨st', h1, h2⟩ := h
  intro w0 ro lam a w hs
  exact region_draw hΓ hm hB (by simpa using h1) hs fun a' ro' lam' w' hext hs' => ⟨st', ro', lam', h2, hext, hs'⟩

theorem cw_drawA (hΓ : TabOK P Γ) (hm : P.follows .mixedOrders = true) {id : Nat} {l : List Oper} {ks : Ann} (hf : l.all (fun o => fits n o.dst) = true) (hB : drawA l.toArray ks = true) (h : ∃ st', evA P Γ l.toArray ks 0 l st = some st' ∧ Q .normal st') : CW P n (.region id l.toArray true) Q st := by
  obtain ⟨st', h1, h2⟩ := h
  intro w0 ro lam a w hs
  exact region_drawA hΓ hm (by simpa using hf) hB (by simpa using h1) hs fun a' ro' lam' w' hext hs' => ⟨st', ro', lam', h2, hext, hs'⟩

/-! ### functions -/
def resV (P : Program) (st : St) : ResultVar → Option V
  | .tmp t => some (st.env t)
  | .cell x t => loadV P st.heap t (st.env x)
def resL (P : Program) (st : St) : List ResultVar → Option (List V)
  | [] => some []
  | r :: rs => match resV P st r, resL P st rs with
    | some v, some vs => some (v :: vs)
    | _, _ => none
def one (vs : List V) : V := match vs with
  | [v] => v
  | vs => .tup vs
/-- The function ends, and its results are as v says. -/
def Fin (P : Program) (rs : List ResultVar) (post : V → Prop) (e : Exit) (st : St) : Prop :=
  (e = .normal ∨ e = .ret) ∧ ∃ us vs, resL P st rs = some us ∧ lendAs st.heap us = some vs ∧ post (one vs)

def ini : Nat → List V → Nat → V
  | _, [] => fun _ => .undef
  | k, v :: vs => upd (ini (k + 1) vs) k v
theorem ini_at : ∀ (vs : List V) (k t : Nat), ini k vs t = if t < k then .undef else (vs[t - k]?).getD .undef
  | [], k, t => by simp [ini]
  | v :: vs, k, t => by
    unfold ini
    by_cases h : t = k
    · subst h; simp [upd]
    · rw [upd_ne _ _ h, ini_at vs (k + 1) t]
      by_cases h1 : t < k
      · simp [h1, show t < k + 1 from by omega]
      · obtain ⟨j, hj⟩ : ∃ j, t - k = j + 1 := ⟨t - k - 1, by omega⟩
        simp only [h1, show ¬ t < k + 1 from by omega, if_false, hj, List.getElem?_cons_succ]
        rw [show t - (k + 1) = j from by omega]

def resS (tmps : Array Value) : ResultVar → Sem Value
  | .tmp t => pure (tmps.getD t Go.undef)
  | .cell x t => do loadVar t (← asAddr (tmps.getD x Go.undef))

theorem res_sound {w0 : Base} {ro : Nat → Prop} {lam : Lam} {a : Act} {w : World} (hs : Sim w0 n ro lam st a w) {r : ResultVar} {v : V} (h : resV P st r = some v) :
    ∃ z, (resS a.tmps r).run P w = .ok z w ∧ R w ro lam v z := by
  cases r with
  | tmp t => simp only [resV, Option.some.injEq] at h; subst h; exact ⟨_, rfl, hs.env t⟩
  | cell x t =>
    simp only [resV] at h
    obtain ⟨z, hz, hr⟩ := loadV_sound hs h (hs.env x)
    refine ⟨z, ?_, hr⟩
    have hx := hs.env x
    have hptr : ∃ ad, a.tmps.getD x Go.undef = .pointer (some ad) := by
      unfold loadV at h
      split at h
      · split at h
        · rename_i key off heq; rw [heq] at hx; obtain ⟨b, m, _, e⟩ := hx.ptr_inv; exact ⟨_, e⟩
        · rename_i cs heq; rw [heq] at hx; obtain ⟨ad, g, e, _⟩ := hx.rp_inv; exact ⟨_, e⟩
        · rename_i cs heq; rw [heq] at hx; obtain ⟨ad, g, e, _⟩ := hx.vrp_rp.2.rp_inv; exact ⟨_, e⟩
        · cases h
      · cases h
    obtain ⟨ad, had⟩ := hptr
    simp only [resS]
    rw [had] at hz ⊢
    simpa [Instr.loadAt, Instr.sureAddr, asAddr] using hz

theorem resL_sound {w0 : Base} {ro : Nat → Prop} {lam : Lam} {a : Act} {w : World} (hs : Sim w0 n ro lam st a w) : ∀ (rs : List ResultVar) (vs : List V), resL P st rs = some vs →
    ∃ zs : List Value, (rs.mapM (resS a.tmps)).run P w = .ok zs w ∧ RA w ro lam vs zs.toArray
  | [], vs, h => by simp only [resL, Option.some.injEq] at h; subst h; exact ⟨[], by simp, rfl, by simp⟩
  | r :: rs, vs, h => by
    unfold resL at h
    split at h
    · rename_i v vs' h1 h2
      simp only [Option.some.injEq] at h; subst h
      obtain ⟨z, hz, hr⟩ := res_sound hs h1
      obtain ⟨zs, hzs, hra⟩ := resL_sound hs rs vs' h2
      refine ⟨z :: zs, ?_, by simpa using hra.1, fun j c x hc hx => ?_⟩
      · simp only [List.mapM_cons, Sem.run_bind, hz, Result.andThen_ok, hzs, Sem.run_pure]
      · cases j with
        | zero => simp at hc hx; subst hc; subst hx; exact hr
        | succ j => exact hra.2 j c x (by simpa using hc) (by simpa using hx)
    · cases h

theorem results_run (fn : Func) (tmps : Array Value) (w : World) {zs : List Value} (h : (fn.results.toList.mapM (resS tmps)).run P w = .ok zs w) :
    (results fn tmps).run P w = .ok (if h : zs.toArray.size = 1 then zs.toArray[0] else .tuple zs.toArray) w := by
  have e : results fn tmps = (do let vs ← fn.results.mapM (resS tmps); pure (if h : vs.size = 1 then vs[0] else .tuple vs)) := by
    unfold results
    congr 1
  rw [e, Array.mapM_eq_mapM_toList]
  simp only [Sem.run_bind, map_eq_pure_bind, bind_assoc, pure_bind, h, Result.andThen_ok, Sem.run_pure]

theorem lendAs_RA {w0 : Base} {ro : Nat → Prop} {lam : Lam} {a : Act} {w : World} (hs : Sim w0 n ro lam st a w) {us vs : List V} {zs : List Value} (h : lendAs st.heap us = some vs) (hr : RA w ro lam us zs.toArray) :
    vs.length = zs.length ∧ ∀ (j : Nat) (c : V) (x : Value), vs[j]? = some c → zs[j]? = some x → R0 w (roOwn ro lam) c x := by
  obtain ⟨h1, h2⟩ := lendAs_at _ us vs h
  have hl : zs.length = us.length := by simpa using hr.1
  refine ⟨by omega, fun j c x hc hx => ?_⟩
  obtain ⟨u, hu, huc⟩ := h2 j c hc
  exact lendA_sound hs huc (hr.2 j u x hu (by simpa using hx))

theorem sim_ini {w : World} {ro : Nat → Prop} {args : Array Value} {vs : List V} (hro : ∀ b, ro b → b < w.heap.size) (hsz : args.size = vs.length) (hn : vs.length ≤ n) (hr : ∀ (j : Nat) (c : V) (x : Value), vs[j]? = some c → args[j]? = some x → R0 w ro c x) :
    Sim (.of w) n ro (fun _ => none) ⟨ini 0 vs, fun _ => none⟩ { tmps := args ++ Array.replicate (n - args.size) Go.undef, defers := [] } w := by
  refine ⟨Base.Keeps.refl _ _ _, rfl, by simp; omega, hro, fun t => ?_, fun key blk hk => (by cases hk), fun _ _ => rfl, fun key b m h => (by cases h), fun k1 k2 b m1 m2 h => (by cases h), fun key b h => (by cases h)⟩
  simp only [ini_at, Nat.not_lt_zero, if_false, Nat.sub_zero]
  by_cases ht : t < args.size
  · have h1 : vs[t]? = some (vs[t]'(by omega)) := List.getElem?_eq_getElem (by omega)
    have h2 : args[t]? = some args[t] := Array.getElem?_eq_getElem ht
    have h3 : (args ++ Array.replicate (n - args.size) Go.undef).getD t Go.undef = args[t] := by
      rw [Array.getD_eq_getD_getElem?, Array.getElem?_append_left ht, h2]; rfl
    rw [h3, h1]
    exact .pure _ _ (hr t _ _ h1 h2)
  · have h1 : vs[t]? = none := List.getElem?_eq_none (by omega)
    have h3 : (args ++ Array.replicate (n - args.size) Go.undef).getD t Go.undef = Go.undef := by
      rw [Array.getD_eq_getD_getElem?, Array.getElem?_append_right (by omega), Array.getElem?_replicate]
      split <;> rfl
    rw [h3, h1]
    exact .pure _ _ .undef
/-- A function's contract out of its body. -/
theorem pcall_of {f : FuncId} {fn : Func} {c : Code} {vs : List V} {v : V} (hf : P.funcs[f]? = some fn) (hb : fn.body = some c) (hn : vs.length ≤ fn.ntmps)
    (h : CW P fn.ntmps c (Fin P fn.results.toList (fun u => u = v)) ⟨ini 0 vs, fun _ => none⟩) : PCall P f vs v := by
  intro w ro args hro hsz hr
  refine calls_of_wp hf hb ?_
  have hs := sim_ini (n := fn.ntmps) hro hsz hn hr
  refine wp_mono (h (.of w) ro _ _ w hs) fun e a' w' hh => ?_
  obtain ⟨st', ro', lam', ⟨he, us, ws, h1, h2, h3⟩, hext, hs'⟩ := hh
  obtain ⟨zs, hz, hra⟩ := resL_sound hs' _ us h1
  obtain ⟨hlen, hat⟩ := lendAs_RA hs' h2 hra
  have hrun := results_run fn a'.tmps w' hz
  have hfin : a'.defers = [] ∧ ∃ v', (results fn a'.tmps).run P w' = .ok v' w' ∧
      (fun e w' => ∃ rv ro', e = Ending.returned rv ∧ Below w.heap.size w w' ∧ (∀ b, ro b → ro' b) ∧ (∀ b, ro' b → ro b ∨ w.heap.size ≤ b) ∧ (∀ b, ro' b → b < w'.heap.size) ∧ R0 w' ro' v rv) (.returned v') w' := by
    refine ⟨hs'.dfr, _, hrun, _, roOwn ro' lam', rfl, hs'.below.below, fun b hb => .inl (hext.1 b hb), fun b hb => ?_, fun b hb => ?_, ?_⟩
    · rcases hb with hb | ⟨key, hb⟩
      · exact (hext.2 b hb).imp id (fun h => h.resolve_left (fun h => h))
      · exact .inr ((hs'.ob hb).1.resolve_left (fun h => h))
    · rcases hb with hb | ⟨key, hb⟩
      · exact hs'.rolt b hb
      · exact (hs'.ob hb).2.1
    · subst h3
      by_cases hone : zs.length = 1
      · obtain ⟨x, rfl⟩ := List.length_eq_one_iff.1 hone
        obtain ⟨y, rfl⟩ := List.length_eq_one_iff.1 (hlen.trans hone)
        simp only [List.size_toArray, List.length_cons, List.length_nil, dite_true, one]
        exact hat 0 y x rfl rfl
      · have : one ws = .tup ws := by
          unfold one
          split
          · rename_i y; rw [← hlen] at hone; simp at hone
          · rfl
        rw [this, dif_neg (by simpa using hone)]
        exact .tup _ _ (by simpa using hlen.symm) fun j c x hc hx => hat j c x hc (by simpa using hx)
  rcases he with rfl | rfl
  · exact hfin
  · exact hfin

/-- The function ends; its results lie in memory of its own. -/
def FinF (P : Program) (rs : List ResultVar) (post : V → Prop) (e : Exit) (st : St) : Prop :=
  (e = .normal ∨ e = .ret) ∧ ∃ us vs, resL P st rs = some us ∧ lendAs st.heap us = some vs ∧ frAs us vs = true ∧ post (one vs)
theorem pfresh_of {f : FuncId} {fn : Func} {c : Code} {vs : List V} {v : V} (hf : P.funcs[f]? = some fn) (hb : fn.body = some c) (hn : vs.length ≤ fn.ntmps)
    (h : CW P fn.ntmps c (FinF P fn.results.toList (fun u => u = v)) ⟨ini 0 vs, fun _ => none⟩) : PFresh P f vs v := by
  intro w ro args hro hsz hr
  refine calls_of_wp hf hb ?_
  have hs := sim_ini (n := fn.ntmps) hro hsz hn hr
  refine wp_mono (h (.of w) ro _ _ w hs) fun e a' w' hh => ?_
  obtain ⟨st', ro', lam', ⟨he, us, ws, h1, h2, hfr, h3⟩, hext, hs'⟩ := hh
  obtain ⟨zs, hz, hra⟩ := resL_sound hs' _ us h1
  obtain ⟨hlen, _⟩ := lendAs_RA hs' h2 hra
  have hat := frAs_at hs' us ws h2 hfr zs (by simpa using hra.1) (fun j c x hc hx => hra.2 j c x hc (by simpa using hx))
  have hrun := results_run fn a'.tmps w' hz
  have hmono : ∀ {c : V} {x : Value}, R0 w' (ownP lam') c x → R0 w' (fun b => w.heap.size ≤ b ∧ b < w'.heap.size) c x := fun h => h.mono (fun _ _ => rfl) fun b hb => by
    obtain ⟨key, m, hl⟩ := hb
    exact ⟨(hs'.own key b m hl).1.resolve_left (fun h => h), (hs'.own key b m hl).2.1⟩
  have hfin : a'.defers = [] ∧ ∃ v', (results fn a'.tmps).run P w' = .ok v' w' ∧
      (fun e w' => ∃ rv, e = Ending.returned rv ∧ Below w.heap.size w w' ∧ R0 w' (fun b => w.heap.size ≤ b ∧ b < w'.heap.size) v rv) (.returned v') w' := by
    refine ⟨hs'.dfr, _, hrun, _, rfl, hs'.below.below, ?_⟩
    subst h3
    by_cases hone : zs.length = 1
    · obtain ⟨x, rfl⟩ := List.length_eq_one_iff.1 hone
      obtain ⟨y, rfl⟩ := List.length_eq_one_iff.1 (hlen.trans hone)
      simp only [List.size_toArray, List.length_cons, List.length_nil, dite_true, one]
      exact hmono (hat 0 y x rfl rfl)
    · have : one ws = .tup ws := by
        unfold one
        split
        · rename_i y; rw [← hlen] at hone; simp at hone
        · rfl
      rw [this, dif_neg (by simpa using hone)]
      exact .tup _ _ (by simpa using hlen.symm) fun j c x hc hx => hmono (hat j c x hc (by simpa using hx))
  rcases he with rfl | rfl
  · exact hfin
  · exact hfin
end

/-! ### gifts -/
def shC (c : Nat) : V → V
  | .sl k o l s => .sl (c + k) o l s
  | .ptr k o => .ptr (c + k) o
  | .mp k => .mp (c + k)
  | .vptr .. | .agg _ | .tup _ => .junk
  | v => v
def shA (c : Nat) : V → V
  | .agg cs => .agg (cs.map (shC c))
  | v => shC c v
def shT (c : Nat) : V → V
  | .tup vs => .tup (vs.map (shA c))
  | v => shA c v
section
variable {P : Program} {Γ : Tab} {n : Nat} {w0 : Base} {ro : Nat → Prop} {lam : Lam} {st : St} {a : Act} {w : World}
theorem R_shC {c : Nat} {lam' lamN : Lam} (hl : ∀ k y, lam' k = some y → lamN (c + k) = some y) {v : V} {x : Value} (h : R w ro lam' v x) : R w ro lamN (shC c v) x := by
  cases v with
  | sl k o l s =>
    rcases h.sl_inv with ⟨hv, rfl, rfl, rfl⟩ | ⟨b, m, cap, h1, h2, h3, h4, rfl⟩
    · exact .slv _ _ (hl _ _ hv)
    · exact .sl _ _ _ _ b m cap (hl _ _ h1) h2 h3 h4
  | ptr k o => obtain ⟨b, m, h1, rfl⟩ := h.ptr_inv; exact .ptr _ _ b m (hl _ _ h1)
  | mp k => obtain ⟨b, h1, rfl⟩ := h.mp_inv; exact .mp _ b (hl _ _ h1)
  | vptr _ _ _ => exact .pure _ _ (.junk _)
  | agg _ => exact .pure _ _ (.junk _)
  | tup _ => exact .pure _ _ (.junk _)
  | _ => exact .pure _ _ (h.pureC rfl)
theorem R_shA {c : Nat} {lam' lamN : Lam} (hl : ∀ k y, lam' k = some y → lamN (c + k) = some y) {v : V} {x : Value} (h : R w ro lam' v x) : R w ro lamN (shA c v) x := by
  cases v with
  | agg cs =>
    obtain ⟨arr, rfl, h1, h2⟩ := h.agg_inv
    refine .agg _ _ (by simpa using h1) fun j v y hv hy => ?_
    simp only [List.getElem?_map, Option.map_eq_some_iff] at hv
    obtain ⟨v', hv', rfl⟩ := hv
    exact R_shC hl (h2 j v' y hv' hy)
  | _ => exact R_shC hl h
theorem R_shT {c : Nat} {lam' lamN : Lam} (hl : ∀ k y, lam' k = some y → lamN (c + k) = some y) {v : V} {x : Value} (h : R w ro lam' v x) : R w ro lamN (shT c v) x := by
  cases v with
  | tup cs =>
    obtain ⟨arr, rfl, h1, h2⟩ := h.tup_inv
    refine .tup _ _ (by simpa using h1) fun j v y hv hy => ?_
    simp only [List.getElem?_map, Option.map_eq_some_iff] at hv
    obtain ⟨v', hv', rfl⟩ := hv
    exact R_shA hl (h2 j v' y hv' hy)
  | agg cs => exact R_shA hl h
  | _ => exact R_shC hl h
def freeK (c : Nat) : List (Nat × Blk) → (Nat → Option Blk) → Prop
  | [], _ => True
  | (k, _) :: bl, h => h (c + k) = none ∧ freeK c bl h
def putK (c : Nat) : List (Nat × Blk) → (Nat → Option Blk) → Nat → Option Blk
  | [], h => h
  | (k, b) :: bl, h => upd (putK c bl h) (c + k) (some ⟨b.ty, b.cells.map (shC c)⟩)
theorem putK_in {c : Nat} {h : Nat → Option Blk} : ∀ (bl : List (Nat × Blk)) (k : Nat) (b : Blk), blkOf bl k = some b → putK c bl h (c + k) = some ⟨b.ty, b.cells.map (shC c)⟩
  | [], k, b, e => by cases e
  | (k', b') :: bl, k, b, e => by
    simp only [blkOf] at e
    simp only [putK]
    by_cases hk : k = k'
    · subst hk; rw [if_pos rfl] at e; cases e; rw [upd_same]
    · rw [if_neg hk] at e
      rw [upd_ne _ _ (by omega)]
      exact putK_in bl k b e
theorem putK_out {c : Nat} {h : Nat → Option Blk} : ∀ (bl : List (Nat × Blk)) (key : Nat), (∀ k, key = c + k → blkOf bl k = none) → putK c bl h key = h key
  | [], key, _ => rfl
  | (k', b') :: bl, key, hn => by
    simp only [putK]
    have h1 : key ≠ c + k' := fun e => by have := hn k' e; simp [blkOf] at this
    rw [upd_ne _ _ h1]
    refine putK_out bl key fun k e => ?_
    have := hn k e
    simp only [blkOf] at this
    split at this
    · cases this
    · exact this
theorem freeK_at {c : Nat} {h : Nat → Option Blk} : ∀ (bl : List (Nat × Blk)) (k : Nat) (b : Blk), freeK c bl h → blkOf bl k = some b → h (c + k) = none
  | [], k, b, _, e => by cases e
  | (k', b') :: bl, k, b, hf, e => by
    simp only [blkOf] at e
    by_cases hk : k = k'
    · subst hk; exact hf.1
    · rw [if_neg hk] at e; exact freeK_at bl k b hf.2 e
open Classical in
noncomputable def lamG (c : Nat) (bl : List (Nat × Blk)) (lam lam' : Lam) : Lam := fun key => if ∃ k b, key = c + k ∧ blkOf bl k = some b then lam' (key - c) else lam key
theorem lamG_in {c : Nat} {bl : List (Nat × Blk)} {lam' : Lam} {k : Nat} {b : Blk} (h : blkOf bl k = some b) : lamG c bl lam lam' (c + k) = lam' k := by
  unfold lamG
  rw [if_pos ⟨k, b, rfl, h⟩, show c + k - c = k by omega]
theorem lamG_out {c : Nat} {bl : List (Nat × Blk)} {lam' : Lam} {key : Nat} (h : ∀ k, key = c + k → blkOf bl k = none) : lamG c bl lam lam' key = lam key := by
  unfold lamG
  rw [if_neg]
  rintro ⟨k, b, e, hb⟩
  rw [h k e] at hb; cases hb
theorem Sim.give (hs : Sim w0 n ro lam st a w) {w' : World} {ro' : Nat → Prop} {lam' : Lam} {bl : List (Nat × Blk)} {c : Nat} (hb : Below w.heap.size w w') (h1 : ∀ b, ro b → ro' b) (h2 : ∀ b, ro' b → ro b ∨ w.heap.size ≤ b) (hh : HS w' ro' lam' (blkOf bl)) (ho : ∀ b, ownB lam' b → w.heap.size ≤ b) (hf : freeK c bl st.heap) :
    Sim w0 n ro' (lamG c bl lam lam') ⟨st.env, putK c bl st.heap⟩ a w' ∧ ∀ v x, R w' ro' lam' v x → R w' ro' (lamG c bl lam lam') (shT c v) x := by
  have hs' := hs.world hb
  have hA : ∀ k y, lam k = some y → lamG c bl lam lam' k = some y := fun k y hk => by
    rw [lamG_out]; exact hk
    intro k' e
    cases hbk : blkOf bl k' with
    | none => rfl
    | some b =>
      have h3 := freeK_at bl k' b hf hbk
      rw [← e] at h3
      rw [hs.dead k h3] at hk; cases hk
  have hB : ∀ k y, lam' k = some y → lamG c bl lam lam' (c + k) = some y := fun k y hk => by
    cases hbk : blkOf bl k with
    | none => rw [hh.dead k hbk] at hk; cases hk
    | some b => rw [lamG_in hbk]; exact hk
  have hC : ∀ key y, lamG c bl lam lam' key = some y → lam key = some y ∨ ∃ k, key = c + k ∧ lam' k = some y := fun key y hk => by
    by_cases hx : ∃ k b, key = c + k ∧ blkOf bl k = some b
    · obtain ⟨k, b, rfl, hbk⟩ := hx
      rw [lamG_in hbk] at hk; exact .inr ⟨k, rfl, hk⟩
    · rw [lamG_out] at hk
      · exact .inl hk
      · intro k e
        cases hbk : blkOf bl k with
        | none => rfl
        | some b => exact (hx ⟨k, b, e, hbk⟩).elim
  have hm : ∀ {v x}, R w' ro lam v x → R w' ro' (lamG c bl lam lam') v x := fun hr => hr.mono (fun _ _ => rfl) h1 hA
  have hold : ∀ key b, lamB lam key b → b < w.heap.size := fun key b hl => (hs.ob hl).2.1
  have hnew : ∀ key b, lamB lam' key b → w.heap.size ≤ b := fun key b hl => ho b ⟨key, hl⟩
  refine ⟨⟨hs'.below, hs'.dfr, hs'.size, hh.rolt, fun t => hm (hs'.env t), fun key blk hk => ?_, fun key hk => ?_, fun key b m hl => ?_, fun k1 k2 b m1 m2 e1 e2 => ?_, fun key b hl => ?_⟩, fun v x hr => R_shT hB hr⟩
  · by_cases hx : ∃ k b, key = c + k ∧ blkOf bl k = some b
    · obtain ⟨k, b, rfl, hbk⟩ := hx
      simp only [putK_in bl k b hbk, Option.some.injEq] at hk
      subst hk
      rcases hh.heap k b hbk with ⟨hv, hc⟩ | ⟨b', o, hl, hw, hso⟩ | ⟨b', m, arr, hl, hw, hsz, hle, hr⟩
      · exact .inl ⟨hB _ _ hv, by simp [hc]⟩
      · refine .inr (.inl ⟨b', o, hB _ _ hl, hw, ?_⟩)
        obtain ⟨ents, clk, rfl, hz, hr⟩ := hso
        refine ⟨ents, clk, rfl, by simpa using hz, fun j kk e hk he => ?_⟩
        simp only [List.getElem?_map, Option.map_eq_some_iff] at hk
        obtain ⟨k0, hk0, rfl⟩ := hk
        obtain ⟨g1, g2⟩ := hr j k0 e hk0 he
        exact ⟨g1, by cases k0 <;> first | exact g2 | trivial⟩
      · refine .inr (.inr ⟨b', m, arr, hB _ _ hl, hw, hsz, by simpa using hle, fun j cc x hc hx => ?_⟩)
        simp only [List.getElem?_map, Option.map_eq_some_iff] at hc
        obtain ⟨c0, hc0, rfl⟩ := hc
        exact R_shC hB (hr j c0 x hc0 hx)
    · have hno : ∀ k, key = c + k → blkOf bl k = none := fun k e => by
        cases hbk : blkOf bl k with
        | none => rfl
        | some b => exact (hx ⟨k, b, e, hbk⟩).elim
      rw [show (⟨st.env, putK c bl st.heap⟩ : St).heap key = putK c bl st.heap key from rfl, putK_out bl key hno] at hk
      rcases hs'.heap key blk hk with ⟨hv, hc⟩ | ⟨b', o, hl, hw, hso⟩ | ⟨b', m, arr, hl, hw, hsz, hle, hr⟩
      · exact .inl ⟨hA _ _ hv, hc⟩
      · exact .inr (.inl ⟨b', o, hA _ _ hl, hw, hso⟩)
      · exact .inr (.inr ⟨b', m, arr, hA _ _ hl, hw, hsz, hle, fun j cc x hc hx => hm (hr j cc x hc hx)⟩)
  · have hno : ∀ k, key = c + k → blkOf bl k = none := fun k e => by
      cases hbk : blkOf bl k with
      | none => rfl
      | some b =>
        subst e
        rw [show (⟨st.env, putK c bl st.heap⟩ : St).heap (c + k) = putK c bl st.heap (c + k) from rfl, putK_in bl k b hbk] at hk
        cases hk
    rw [show (⟨st.env, putK c bl st.heap⟩ : St).heap key = putK c bl st.heap key from rfl, putK_out bl key hno] at hk
    rw [lamG_out hno]
    exact hs.dead key hk
  · rcases hC _ _ hl with h | ⟨k, rfl, h⟩
    · obtain ⟨o1, o2, o3⟩ := hs.own key b m h
      exact ⟨o1, Nat.lt_of_lt_of_le o2 hb.size, fun hr => (h2 b hr).elim o3 (fun h => by omega)⟩
    · obtain ⟨o1, o2, o3⟩ := hh.own k b m h
      exact ⟨.inr (Nat.le_trans hs.below.size (hnew k b (.inl ⟨m, h⟩))), o2, o3⟩
  · rcases hC _ _ e1 with f1 | ⟨k1', rfl, f1⟩ <;> rcases hC _ _ e2 with f2 | ⟨k2', rfl, f2⟩
    · exact hs.inj _ _ _ _ _ f1 f2
    · have g1 := hold _ _ (.inl ⟨_, f1⟩)
      have g2 := hnew _ _ (.inl ⟨_, f2⟩)
      omega
    · have g1 := hold _ _ (.inl ⟨_, f2⟩)
      have g2 := hnew _ _ (.inl ⟨_, f1⟩)
      omega
    · rw [hh.inj _ _ _ _ _ f1 f2]
  · rcases hC _ _ hl with h | ⟨k, rfl, h⟩
    · obtain ⟨⟨o1, o2, o3⟩, o4⟩ := hs.maps key b h
      refine ⟨⟨o1, Nat.lt_of_lt_of_le o2 hb.size, fun hr => (h2 b hr).elim o3 (fun h => by omega)⟩, fun key' hk' => ?_⟩
      rcases hC _ _ hk' with h' | ⟨k', rfl, h'⟩
      · exact o4 _ h'
      · have g2 := hnew _ _ (.inr h')
        omega
    · obtain ⟨⟨o1, o2, o3⟩, o4⟩ := hh.maps k b h
      have g2 := hnew _ _ (.inr h)
      refine ⟨⟨.inr (Nat.le_trans hs.below.size g2), o2, o3⟩, fun key' hk' => ?_⟩
      rcases hC _ _ hk' with h' | ⟨k', rfl, h'⟩
      · have g1 := hold _ _ (.inr h')
        omega
      · rw [o4 _ h']

def giveV (Γ : Tab) (h : Nat → Option Blk) (f : FuncId) (xs : List V) : Option (V × List (Nat × Blk)) := match lendAs h xs with
  | some vs => bif xs.all (fun x => !ownA x) then Γ.gv f vs else none
  | none => none
theorem lendA_pure {h : Nat → Option Blk} {c : V} (hc : ownA c = false) : lendA h c = some c := by
  cases c with
  | agg cs =>
    have : ∀ l : List V, l.any ownC = false → lendL h l = some l := by
      intro l
      induction l with
      | nil => intro _; rfl
      | cons y ys ih =>
        intro hy
        simp only [List.any_cons, Bool.or_eq_false_iff] at hy
        simp only [lendL, ih hy.2]
        cases y <;> simp [ownC] at hy <;> rfl
    simp only [lendA, this cs hc, Option.map_some]
  | sl _ _ _ _ => simp [ownA, ownC] at hc
  | ptr _ _ => simp [ownA, ownC] at hc
  | vptr _ _ _ => simp [ownA, ownC] at hc
  | mp _ => simp [ownA, ownC] at hc
  | tup _ => simp [ownA, ownC] at hc
  | _ => rfl
theorem giveV_sound (hΓ : TabOK P Γ) (hs : Sim w0 n ro lam st a w) {f : FuncId} {xs : List V} {u : V} {bl : List (Nat × Blk)} {args : Array Value} (hg : Γ.gb f = true) (h : giveV Γ st.heap f xs = some (u, bl)) (hl : args.size = xs.length)
    (hr : ∀ (j : Nat) (c : V) (x : Value), xs[j]? = some c → args[j]? = some x → R w ro lam c x) {c : Nat} (hf : freeK c bl st.heap) :
    callable P f = true ∧ Calls P f args w fun e w' => ∃ rv ro' lam', e = .returned rv ∧ Ext w0 ro ro' ∧ Sim w0 n ro' lam' ⟨st.env, putK c bl st.heap⟩ a w' ∧ R w' ro' lam' (shT c u) rv := by
  unfold giveV at h
  split at h
  · rename_i vs hvs
    simp only [cond_eq_ite] at h
    split at h
    · rename_i hpure
      obtain ⟨hc, hp⟩ := hΓ.2 f vs u bl hg h
      obtain ⟨i1, i2⟩ := lendAs_at _ xs vs hvs
      refine ⟨hc, (hp w ro args hs.rolt (by rw [hl, i1]) fun j c x hc hx => ?_).mono fun e w' hh => ?_⟩
      · obtain ⟨v, hv, hvc⟩ := i2 j c hc
        have hpu : ownA v = false := by simpa using all_at hpure hv
        rw [lendA_pure hpu] at hvc
        simp only [Option.some.injEq] at hvc
        subst hvc
        exact (hr j v x hv hx).pureA hpu
      · obtain ⟨rv, ro', lam', rfl, hb, k1, k2, hh, ho, hrv⟩ := hh
        obtain ⟨g1, g2⟩ := hs.give hb k1 k2 hh ho hf
        exact ⟨rv, ro', _, rfl, ⟨k1, fun b hb' => (k2 b hb').imp id (fun h => .inr (Nat.le_trans hs.below.size h))⟩, g1, g2 _ _ hrv⟩
    · cases h
  · cases h
end
end Go.Pv
