/-
  Part 13: a whole body, reckoned by simp.
-/
import Derived.Test.YtacmchjaldljjaaPv12
namespace Go.Pv
open Go.RowKit
set_option linter.unusedSimpArgs false
set_option linter.unusedVariables false

/-- A statement by its text. A loop is left to the reader. -/
def cx (P : Program) (Γ : Tab) (n : Nat) (D : Nat → Option Ann) : Code → (Exit → St → Prop) → St → Prop
  | .skip, Q, st => Q .normal st
  | .ret, Q, st => Q .ret st
  | .exit id, Q, st => Q (.exit id) st
  | .seq a b, Q, st => cx P Γ n D a (fun e s => match e with
    | .normal => cx P Γ n D b Q s
    | e => Q e s) st
  | .cond c a b, Q, st => (match ev st c with
    | .bool v => (v = true → cx P Γ n D a Q st) ∧ (v = false → cx P Γ n D b Q st)
    | _ => False)
  | .block id c, Q, st => cx P Γ n D c (Bk id Q) st
  | .scope c, Q, st => cx P Γ n D c (Ng Q) st
  | .label _, Q, st => Q .normal st
  | .region _ ops false, Q, st => eg P Γ ops ops.toList (Q .normal) st
  | .region id ops true, Q, st => dgo P Γ ops.toList (D id) (Q .normal) st
  | .loop c, Q, st => LH P n c Q st
  | _, _, _ => False

/-- What is looked at once for a body: destinations lie in the frame, and regions that draw may be run in the order of the text. -/
def okC (n : Nat) (D : Nat → Option Ann) : Code → Bool
  | .seq a b => okC n D a && okC n D b
  | .cond _ a b => okC n D a && okC n D b
  | .block _ c => okC n D c
  | .scope c => okC n D c
  | .loop c => okC n D c
  | .region id ops draw => ops.toList.all (fun o => fits n o.dst) && (!draw || (match D id with
    | none => drawB ops
    | some A => drawA ops A))
  | _ => true

section
variable {P : Program} {Γ : Tab} {n : Nat} {D : Nat → Option Ann}

theorem CW.of_cx (hΓ : TabOK P Γ) (hm : P.follows .mixedOrders = true) : ∀ (c : Code) (Q : Exit → St → Prop) (st : St), okC n D c = true → cx P Γ n D c Q st → CW P n c Q st
  | .skip, Q, st, _, h => cw_skip h
  | .ret, Q, st, _, h => cw_ret h
  | .exit id, Q, st, _, h => cw_exit h
  | .seq a b, Q, st, ok, h => by
    simp only [okC, Bool.and_eq_true] at ok
    refine cw_seq ((CW.of_cx hΓ hm a _ st ok.1 h).mono fun e s hs => ?_)
    cases e with
    | normal => exact CW.of_cx hΓ hm b Q s ok.2 hs
    | _ => exact hs
  | .cond c a b, Q, st, ok, h => by
    simp only [okC, Bool.and_eq_true] at ok
    simp only [cx] at h
    split at h
    · rename_i v hv
      exact cw_cond hv (fun hh => CW.of_cx hΓ hm a Q st ok.1 (h.1 hh)) (fun hh => CW.of_cx hΓ hm b Q st ok.2 (h.2 hh))
    · exact h.elim
  | .block id c, Q, st, ok, h => cw_block (CW.of_cx hΓ hm c _ st ok h)
  | .region id ops draw, Q, st, ok, h => by
    simp only [okC, Bool.and_eq_true, Bool.or_eq_true, Bool.not_eq_true'] at ok
    have he : ops = ops.toList.toArray := by simp
    cases draw with
    | false => simp only [cx] at h; rw [he]; exact cw_reg hΓ ok.1 (by simpa using h)
    | true =>
      simp only [cx] at h
      obtain ⟨ok1, ok2⟩ := ok
      simp only [Bool.true_eq_false, false_or] at ok2
      cases hD : D id with
      | none => rw [hD] at h ok2; rw [he]; exact cw_drw hΓ hm ok1 (by simpa using ok2) (by simpa using h)
      | some A => rw [hD] at h ok2; rw [he]; exact cw_drawA hΓ hm ok1 (by simpa using ok2) h
  | .loop c, Q, st, ok, h => LH.cw h
  | .rangeFunc .., _, _, _, h => h.elim
  | .scope c, Q, st, ok, h => cw_scope (CW.of_cx hΓ hm c _ st ok h)
  | .label _, Q, st, _, h => cw_label h
  | .goto _, _, _, _, h => h.elim
  | .refuse _, _, _, _, h => h.elim

/-! ### the equations -/
variable {Q : Exit → St → Prop} {st : St}
theorem cx_skip : cx P Γ n D .skip Q st ↔ Q .normal st := Iff.rfl
theorem cx_ret : cx P Γ n D .ret Q st ↔ Q .ret st := Iff.rfl
theorem cx_exit {id : Nat} : cx P Γ n D (.exit id) Q st ↔ Q (.exit id) st := Iff.rfl
/-- What follows. -/
def Sq (P : Program) (Γ : Tab) (n : Nat) (D : Nat → Option Ann) (b : Code) (Q : Exit → St → Prop) : Exit → St → Prop
  | .normal, s => cx P Γ n D b Q s
  | e, s => Q e s
theorem cx_seq {a b : Code} : cx P Γ n D (.seq a b) Q st ↔ cx P Γ n D a (Sq P Γ n D b Q) st := by
  have : (fun e s => match e with | Exit.normal => cx P Γ n D b Q s | e => Q e s) = Sq P Γ n D b Q := by
    funext e s; cases e <;> rfl
  simp only [cx, this]
theorem sq_normal {b : Code} : Sq P Γ n D b Q .normal st ↔ cx P Γ n D b Q st := Iff.rfl
theorem sq_ret {b : Code} : Sq P Γ n D b Q .ret st ↔ Q .ret st := Iff.rfl
theorem sq_exit {b : Code} {id : Nat} : Sq P Γ n D b Q (.exit id) st ↔ Q (.exit id) st := Iff.rfl
theorem cx_block {id : Nat} {c : Code} : cx P Γ n D (.block id c) Q st ↔ cx P Γ n D c (Bk id Q) st := Iff.rfl
theorem cx_scope {c : Code} : cx P Γ n D (.scope c) Q st ↔ cx P Γ n D c (Ng Q) st := Iff.rfl
theorem cx_label {l : Nat} : cx P Γ n D (.label l) Q st ↔ Q .normal st := Iff.rfl
theorem ng_n : Ng Q .normal st ↔ Q .normal st := Iff.rfl
theorem ng_r : Ng Q .ret st ↔ Q .ret st := Iff.rfl
theorem ng_e {id : Nat} : Ng Q (.exit id) st ↔ Q (.exit id) st := Iff.rfl
theorem bk_n {id : Nat} : Bk id Q .normal st ↔ Q .normal st := Iff.rfl
theorem bk_r {id : Nat} : Bk id Q .ret st ↔ Q .ret st := Iff.rfl
theorem bk_e {id id' : Nat} : Bk id Q (.exit id') st ↔ if id' = id then Q .normal st else Q (.exit id') st := Iff.rfl
theorem cx_region {id : Nat} {l : List Oper} : cx P Γ n D (.region id l.toArray false) Q st ↔ eg P Γ l.toArray l (Q .normal) st := by simp [cx]
theorem cx_regionD {id : Nat} {l : List Oper} : cx P Γ n D (.region id l.toArray true) Q st ↔ dgo P Γ l (D id) (Q .normal) st := by simp [cx]
def condw (v : V) (A B : Prop) (_ : Tok A B) : Prop := match v with
  | .bool b => (b = true → A) ∧ (b = false → B)
  | _ => False
theorem cx_cond {c : Operand} {a b : Code} : cx P Γ n D (.cond c a b) Q st ↔ condw (ev st c) (cx P Γ n D a Q st) (cx P Γ n D b Q st) ⟨⟩ := by
  simp only [cx, condw]
theorem condw_true {A B : Prop} {t : Tok A B} : condw (.bool true) A B t ↔ A := by simp [condw]
theorem condw_false {A B : Prop} {t : Tok A B} : condw (.bool false) A B t ↔ B := by simp [condw]
theorem condw_not {A B : Prop} {t : Tok A B} {b : Bool} : condw (.bool (!b)) A B t ↔ condw (.bool b) B A ⟨⟩ := by cases b <;> simp [condw]
theorem condw_bool {b : Bool} {A B : Prop} {t : Tok A B} (h1 : b = true → A) (h2 : b = false → B) : condw (.bool b) A B t := ⟨h1, h2⟩
structure TokC (c : Code) (Q : Exit → St → Prop) : Type where
/-- A loop. -/
def Lp (P : Program) (n : Nat) (c : Code) (Q : Exit → St → Prop) (st : St) (_ : TokC c Q) : Prop := LH P n c Q st
theorem cx_loop {c : Code} : cx P Γ n D (.loop c) Q st ↔ Lp P n c Q st ⟨⟩ := Iff.rfl
theorem lp_unroll (hΓ : TabOK P Γ) (hm : P.follows .mixedOrders = true) {c : Code} {t : TokC c Q} (ok : okC n D c = true) (h : cx P Γ n D c (Lu P n c Q) st) : Lp P n c Q st t := LH.unroll (CW.of_cx hΓ hm c _ _ ok h)
theorem lu_normal {c : Code} : Lu P n c Q .normal st ↔ Lp P n c Q st ⟨⟩ := Iff.rfl
theorem lu_ret {c : Code} : Lu P n c Q .ret st ↔ Q .ret st := Iff.rfl
theorem lu_exit {c : Code} {id : Nat} : Lu P n c Q (.exit id) st ↔ Q (.exit id) st := Iff.rfl
theorem lp_view {c : Code} {t : TokC c Q} {s' : St} (hv : View n st s') (h : Lp P n c Q s' ⟨⟩) : Lp P n c Q st t := LH.view hv h
theorem lp_inv (hΓ : TabOK P Γ) (hm : P.follows .mixedOrders = true) {c : Code} {t : TokC c Q} (ok : okC n D c = true) {α : Type} (I : α → St → Prop) (μ : α → Nat) (x : α) (h0 : I x st)
    (hr : ∀ x e h, I x ⟨e, h⟩ → cx P Γ n D c (Ln n I μ Q x ⟨⟩) ⟨e, h⟩) : Lp P n c Q st t :=
  LH.inv I μ (fun x s hs => CW.of_cx hΓ hm c _ _ ok (hr x s.env s.heap hs)) _ x st rfl h0
theorem ln_normal {α : Type} {I : α → St → Prop} {μ : α → Nat} {x : α} {t : TokI I μ} : Ln n I μ Q x t .normal st ↔ Nxt n I μ x t st := Iff.rfl
theorem ln_ret {α : Type} {I : α → St → Prop} {μ : α → Nat} {x : α} {t : TokI I μ} : Ln n I μ Q x t .ret st ↔ Q .ret st := Iff.rfl
theorem ln_exit {α : Type} {I : α → St → Prop} {μ : α → Nat} {x : α} {t : TokI I μ} {id : Nat} : Ln n I μ Q x t (.exit id) st ↔ Q (.exit id) st := Iff.rfl
/-- What stays as it is at the loop's head. -/
def Keep : List Nat → (Nat → V) → (Nat → V) → Prop
  | [], _, _ => True
  | t :: ts, e0, e => e t = e0 t ∧ Keep ts e0 e
def KeepH : List Nat → (Nat → Option Blk) → (Nat → Option Blk) → Prop
  | [], _, _ => True
  | t :: ts, h0, h => h t = h0 t ∧ KeepH ts h0 h
theorem Keep.refl (e : Nat → V) : ∀ ts, Keep ts e e
  | [] => trivial
  | _ :: ts => ⟨rfl, Keep.refl e ts⟩
theorem KeepH.refl (e : Nat → Option Blk) : ∀ ts, KeepH ts e e
  | [] => trivial
  | _ :: ts => ⟨rfl, KeepH.refl e ts⟩
/-- An invariant that keeps what stays. -/
structure Ik {α : Type} (ts ks : List Nat) (e0 : Nat → V) (h0 : Nat → Option Blk) (I : α → (Nat → V) → (Nat → Option Blk) → Prop) (x : α) (s : St) : Prop where
  ke : Keep ts e0 s.env
  kh : KeepH ks h0 s.heap
  i : I x s.env s.heap
theorem lp_go (hΓ : TabOK P Γ) (hm : P.follows .mixedOrders = true) {c : Code} {e0 : Nat → V} {h0 : Nat → Option Blk} {t : TokC c Q} (ok : okC n D c = true) (ts ks : List Nat) {α : Type} (I : α → (Nat → V) → (Nat → Option Blk) → Prop) (μ : α → Nat) (x : α) (hi : I x e0 h0)
    (hr : ∀ x e h, Keep ts e0 e → KeepH ks h0 h → I x e h → cx P Γ n D c (Ln n (Ik ts ks e0 h0 I) μ Q x ⟨⟩) ⟨e, h⟩) : Lp P n c Q ⟨e0, h0⟩ t :=
  lp_inv hΓ hm ok (Ik ts ks e0 h0 I) μ x ⟨Keep.refl _ _, KeepH.refl _ _, hi⟩ fun x e h hh => hr x e h hh.ke hh.kh hh.i
theorem nxt_go {α : Type} {ts ks : List Nat} {e0 : Nat → V} {h0 : Nat → Option Blk} {I : α → (Nat → V) → (Nat → Option Blk) → Prop} {μ : α → Nat} {x : α} {t : TokI (Ik ts ks e0 h0 I) μ} {s : St} (y : α) {s'' : St} (hv : View n s s'') (hlt : μ y < μ x) (hk : Keep ts e0 s''.env) (hkh : KeepH ks h0 s''.heap) (hi : I y s''.env s''.heap) :
    Nxt n (Ik ts ks e0 h0 I) μ x t s := ⟨y, s'', hv, ⟨hk, hkh, hi⟩, hlt⟩

/-- The end of a function. -/
def fw2 (m : Option (List V)) (post : V → Prop) : Prop := match m with
  | some vs => post (one vs)
  | none => False
def fw1 (m : Option (List V)) (h : Nat → Option Blk) (post : V → Prop) : Prop := match m with
  | some us => fw2 (lendAs h us) post
  | none => False
theorem fin_r {rs : List ResultVar} {post : V → Prop} {e : Nat → V} {h : Nat → Option Blk} : Fin P rs post .ret ⟨e, h⟩ ↔ fw1 (resL P ⟨e, h⟩ rs) h post := by
  unfold Fin fw1 fw2
  cases resL P ⟨e, h⟩ rs with
  | none => simp
  | some us => cases hl : lendAs h us <;> simp [hl]
theorem fin_n {rs : List ResultVar} {post : V → Prop} {e : Nat → V} {h : Nat → Option Blk} : Fin P rs post .normal ⟨e, h⟩ ↔ fw1 (resL P ⟨e, h⟩ rs) h post := by
  unfold Fin fw1 fw2
  cases resL P ⟨e, h⟩ rs with
  | none => simp
  | some us => cases hl : lendAs h us <;> simp [hl]
theorem fw1_some {us : List V} {h : Nat → Option Blk} {post : V → Prop} : fw1 (some us) h post ↔ fw2 (lendAs h us) post := Iff.rfl
theorem fw2_some {vs : List V} {post : V → Prop} : fw2 (some vs) post ↔ post (one vs) := Iff.rfl

attribute [simp] cx_scope cx_label ng_n ng_r ng_e cx_skip cx_ret cx_exit cx_seq sq_normal sq_ret sq_exit cx_block bk_n bk_r bk_e cx_region cx_regionD cx_cond condw_true condw_false condw_not cx_loop ln_normal ln_ret ln_exit lu_normal lu_ret lu_exit fin_r fin_n fw1_some fw2_some

/-- A contract by its body's text. -/
theorem pcall_cx (hΓ : TabOK P Γ) (hm : P.follows .mixedOrders = true) (D : Nat → Option Ann) {f : FuncId} {fn : Func} {c : Code} {vs : List V} {v : V} {rs : Array ResultVar} (hf : P.funcs[f]? = some fn) (hb : fn.body = some c) (hn : fn.ntmps = n) (hrs : fn.results = rs)
    (hvs : vs.length ≤ n) (ok : okC n D c = true) (h : cx P Γ n D c (Fin P rs.toList (fun u => u = v)) ⟨ini 0 vs, fun _ => none⟩) : PCall P f vs v := by
  subst hn; subst hrs
  exact pcall_of hf hb hvs (CW.of_cx hΓ hm c _ _ ok h)

theorem pfresh_cx (hΓ : TabOK P Γ) (hm : P.follows .mixedOrders = true) (D : Nat → Option Ann) {f : FuncId} {fn : Func} {c : Code} {vs : List V} {v : V} {rs : Array ResultVar} (hf : P.funcs[f]? = some fn) (hb : fn.body = some c) (hn : fn.ntmps = n) (hrs : fn.results = rs)
    (hvs : vs.length ≤ n) (ok : okC n D c = true) (h : cx P Γ n D c (FinF P rs.toList (fun u => u = v)) ⟨ini 0 vs, fun _ => none⟩) : PFresh P f vs v := by
  subst hn; subst hrs
  exact pfresh_of hf hb hvs (CW.of_cx hΓ hm c _ _ ok h)
def fx2 (us : List V) (m : Option (List V)) (post : V → Prop) : Prop := match m with
  | some vs => frAs us vs = true ∧ post (one vs)
  | none => False
def fx1 (m : Option (List V)) (h : Nat → Option Blk) (post : V → Prop) : Prop := match m with
  | some us => fx2 us (lendAs h us) post
  | none => False
theorem finF_r {rs : List ResultVar} {post : V → Prop} {e : Nat → V} {h : Nat → Option Blk} : FinF P rs post .ret ⟨e, h⟩ ↔ fx1 (resL P ⟨e, h⟩ rs) h post := by
  unfold FinF fx1 fx2
  cases resL P ⟨e, h⟩ rs with
  | none => simp
  | some us => cases hl : lendAs h us <;> simp [hl]
theorem finF_n {rs : List ResultVar} {post : V → Prop} {e : Nat → V} {h : Nat → Option Blk} : FinF P rs post .normal ⟨e, h⟩ ↔ fx1 (resL P ⟨e, h⟩ rs) h post := by
  unfold FinF fx1 fx2
  cases resL P ⟨e, h⟩ rs with
  | none => simp
  | some us => cases hl : lendAs h us <;> simp [hl]
theorem fx1_some {us : List V} {h : Nat → Option Blk} {post : V → Prop} : fx1 (some us) h post ↔ fx2 us (lendAs h us) post := Iff.rfl
theorem fx2_some {us vs : List V} {post : V → Prop} : fx2 us (some vs) post ↔ frAs us vs = true ∧ post (one vs) := Iff.rfl
attribute [simp] finF_r finF_n fx1_some fx2_some frAs frA frL frC rowFlat

/-! ### tables -/
def noTab : Tab := ⟨fun _ _ => none, fun _ => false⟩
theorem noTab_at (f : FuncId) (vs : List V) : noTab.at' f vs = none := rfl
theorem noTab_fr (f : FuncId) : noTab.fr f = false := rfl
theorem noTab_ok : TabOK P noTab := by intro f vs v h; cases h
def add (f : FuncId) (T : List V → Option V) (Γ : Tab) : Tab := ⟨fun g vs => if g = f then T vs else Γ.at' g vs, fun g => if g = f then false else Γ.fr g⟩
def addF (f : FuncId) (T : List V → Option V) (Γ : Tab) : Tab := ⟨fun g vs => if g = f then T vs else Γ.at' g vs, fun g => if g = f then true else Γ.fr g⟩
theorem add_ok {f : FuncId} {T : List V → Option V} {Γ : Tab} (hΓ : TabOK P Γ) (hc : callable P f = true) (hT : ∀ vs v, T vs = some v → PCall P f vs v) : TabOK P (add f T Γ) := by
  intro g vs v h
  simp only [add] at h ⊢
  split at h
  · rename_i e; subst e; exact .inl ⟨hc, hT vs v h, fun h => by simp at h⟩
  · rename_i e
    rcases hΓ g vs v h with ⟨h1, h2, h3⟩ | h1
    · refine .inl ⟨h1, h2, ?_⟩
      simpa only [e, if_false] using h3
    · exact .inr h1
theorem addF_ok {f : FuncId} {T : List V → Option V} {Γ : Tab} (hΓ : TabOK P Γ) (hc : callable P f = true) (hT : ∀ vs v, T vs = some v → PFresh P f vs v) : TabOK P (addF f T Γ) := by
  intro g vs v h
  simp only [addF] at h ⊢
  split at h
  · rename_i e; subst e; exact .inl ⟨hc, (hT vs v h).pcall, fun _ => hT vs v h⟩
  · rename_i e
    rcases hΓ g vs v h with ⟨h1, h2, h3⟩ | h1
    · refine .inl ⟨h1, h2, ?_⟩
      simpa only [e, if_false] using h3
    · exact .inr h1
theorem addE_ok {f : FuncId} {T : List V → Option V} {Γ : Tab} (hΓ : TabOK P Γ) (hT : ∀ vs v, T vs = some v → extFlat v = true ∧ PExt P f vs v) : TabOK P (add f T Γ) := by
  intro g vs v h
  simp only [add] at h ⊢
  split at h
  · rename_i e; subst e; exact .inr (hT vs v h)
  · rename_i e
    rcases hΓ g vs v h with ⟨h1, h2, h3⟩ | h1
    · refine .inl ⟨h1, h2, ?_⟩
      simpa only [e, if_false] using h3
    · exact .inr h1
attribute [simp] noTab_at noTab_fr
end
end Go.Pv
