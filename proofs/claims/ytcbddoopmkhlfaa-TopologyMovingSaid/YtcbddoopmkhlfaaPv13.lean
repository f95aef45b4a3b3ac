/-
  Part 13: a whole body, reckoned by simp.
-/
import Derived.Test.YtcbddoopmkhlfaaPv12
namespace Go.Pv
open Go.RowKit
set_option linter.unusedSimpArgs false
set_option linter.unusedVariables false

/-- A statement by its text. A loop is left to the reader. -/
def cx (P : Program) (Γ : Tab) (n : Nat) (D : Nat → Option Ann) : Code → (Exit → St → Prop) → St → Prop
  | .skip, Q, st => Q .normal st
  | .ret, Q, st => Q .ret st
  | .exit id, Q, st => Q (.exit id) st
  | .seq a b, Q, st => cx P Γ n D a (fun e s => match e with
    | .normal => cx P Γ n D b Q s
    | e => Q e s) st
  | .cond c a b, Q, st => (match ev st c with
    | .bool v => (v = true → cx P Γ n D a Q st) ∧ (v = false → cx P Γ n D b Q st)
    | _ => False)
  | .block id c, Q, st => cx P Γ n D c (Bk id Q) st
  | .scope c, Q, st => cx P Γ n D c (Ng Q) st
  | .label _, Q, st => Q .normal st
  | .region _ ops false, Q, st => egX P Γ ops ops.toList (Q .normal) st
  | .region id ops true, Q, st => dgo P Γ ops.toList (D id) (Q .normal) st
  | .loop c, Q, st => LH P n c Q st
  | _, _, _ => False

/-- What is looked at once for a body: destinations lie in the frame, and regions that draw may be run in the order of the text. -/
def okC (n : Nat) (D : Nat → Option Ann) : Code → Bool
  | .seq a b => okC n D a && okC n D b
  | .cond _ a b => okC n D a && okC n D b
  | .block _ c => okC n D c
  | .scope c => okC n D c
  | .loop c => okC n D c
  | .region id ops draw => ops.toList.all (fun o => fits n o.dst) && (!draw || (match D id with
    | none => drawB ops
    | some A => drawA ops A))
  | _ => true

section
variable {P : Program} {Γ : Tab} {n : Nat} {D : Nat → Option Ann}

theorem CW.of_cx (hΓ : TabOK P Γ) (hm : P.follows .mixedOrders = true) : ∀ (c : Code) (Q : Exit → St → Prop) (st : St), okC n D c = true → cx P Γ n D c Q st → CW P n c Q st
  | .skip, Q, st, _, h => cw_skip h
  | .ret, Q, st, _, h => cw_ret h
  | .exit id, Q, st, _, h => cw_exit h
  | .seq a b, Q, st, ok, h => by
    simp only [okC, Bool.and_eq_true] at ok
    refine cw_seq ((CW.of_cx hΓ hm a _ st ok.1 h).mono fun e s hs => ?_)
    cases e with
    | normal => exact CW.of_cx hΓ hm b Q s ok.2 hs
    | _ => exact hs
  | .cond c a b, Q, st, ok, h => by
    simp only [okC, Bool.and_eq_true] at ok
    simp only [cx] at h
    split at h
    · rename_i v hv
      exact cw_cond hv (fun hh => CW.of_cx hΓ hm a Q st ok.1 (h.1 hh)) (fun hh => CW.of_cx hΓ hm b Q st ok.2 (h.2 hh))
    · exact h.elim
  | .block id c, Q, st, ok, h => cw_block (CW.of_cx hΓ hm c _ st ok h)
  | .region id ops draw, Q, st, ok, h => by
    simp only [okC, Bool.and_eq_true, Bool.or_eq_true, Bool.not_eq_true'] at ok
    have he : ops = ops.toList.toArray := by simp
    cases draw with
    | false => simp only [cx] at h; rw [he]; exact cw_regX hΓ ok.1 (by simpa using h)
    | true =>
      simp only [cx] at h
      obtain ⟨ok1, ok2⟩ := ok
      simp only [Bool.true_eq_false, false_or] at ok2
      cases hD : D id with
      | none => rw [hD] at h ok2; rw [he]; exact cw_drw hΓ hm ok1 (by simpa using ok2) (by simpa using h)
      | some A => rw [hD] at h ok2; rw [he]; exact cw_drawA hΓ hm ok1 (by simpa using ok2) h
  | .loop c, Q, st, ok, h => LH.cw h
  | .rangeFunc .., _, _, _, h => h.elim
  | .scope c, Q, st, ok, h => cw_scope (CW.of_cx hΓ hm c _ st ok h)
  | .label _, Q, st, _, h => cw_label h
  | .goto _, _, _, _, h => h.elim
  | .refuse _, _, _, _, h => h.elim

/-! ### the equations -/
variable {Q : Exit → St → Prop} {st : St}
theorem cx_skip : cx P Γ n D .skip Q st ↔ Q .normal st := Iff.rfl
theorem cx_ret : cx P Γ n D .ret Q st ↔ Q .ret st := Iff.rfl
theorem cx_exit {id : Nat} : cx P Γ n D (.exit id) Q st ↔ Q (.exit id) st := Iff.rfl
/-- What follows. -/
def Sq (P : Program) (Γ : Tab) (n : Nat) (D : Nat → Option Ann) (b : Code) (Q : Exit → St → Prop) : Exit → St → Prop
  | .normal, s => cx P Γ n D b Q s
  | e, s => Q e s
theorem cx_seq {a b : Code} : cx P Γ n D (.seq a b) Q st ↔ cx P Γ n D a (Sq P Γ n D b Q) st := by
  have : (fun e s => match e with | Exit.normal => cx P Γ n D b Q s | e => Q e s) = Sq P Γ n D b Q := by
    funext e s; cases e <;> rfl
  simp only [cx, this]
theorem sq_normal {b : Code} : Sq P Γ n D b Q .normal st ↔ cx P Γ n D b Q st := Iff.rfl
theorem sq_ret {b : Code} : Sq P Γ n D b Q .ret st ↔ Q .ret st := Iff.rfl
theorem sq_exit {b : Code} {id : Nat} : Sq P Γ n D b Q (.exit id) st ↔ Q (.exit id) st := Iff.rfl
theorem cx_block {id : Nat} {c : Code} : cx P Γ n D (.block id c) Q st ↔ cx P Γ n D c (Bk id Q) st := Iff.rfl
theorem cx_scope {c : Code} : cx P Γ n D (.scope c) Q st ↔ cx P Γ n D c (Ng Q) st := Iff.rfl
theorem cx_label {l : Nat} : cx P Γ n D (.label l) Q st ↔ Q .normal st := Iff.rfl
theorem ng_n : Ng Q .normal st ↔ Q .normal st := Iff.rfl
theorem ng_r : Ng Q .ret st ↔ Q .ret st := Iff.rfl
theorem ng_e {id : Nat} : Ng Q (.exit id) st ↔ Q (.exit id) st := Iff.rfl
theorem bk_n {id : Nat} : Bk id Q .normal st ↔ Q .normal st := Iff.rfl
theorem bk_r {id : Nat} : Bk id Q .ret st ↔ Q .ret st := Iff.rfl
theorem bk_e {id id' : Nat} : Bk id Q (.exit id') st ↔ if id' = id then Q .normal st else Q (.exit id') st := Iff.rfl
theorem cx_region {id : Nat} {l : List Oper} : cx P Γ n D (.region id l.toArray false) Q st ↔ egX P Γ l.toArray l (Q .normal) st := by simp [cx]
theorem cx_regionD {id : Nat} {l : List Oper} : cx P Γ n D (.region id l.toArray true) Q st ↔ dgo P Γ l (D id) (Q .normal) st := by simp [cx]
def condw (v : V) (A B : Prop) (_ : Tok A B) : Prop := match v with
  | .bool b => (b = true → A) ∧ (b = false → B)
  | _ => False
theorem cx_cond {c : Operand} {a b : Code} : cx P Γ n D (.cond c a b) Q st ↔ condw (ev st c) (cx P Γ n D a Q st) (cx P Γ n D b Q st) ⟨⟩ := by
  simp only [cx, condw]
theorem condw_true {A B : Prop} {t : Tok A B} : condw (.bool true) A B t ↔ A := by simp [condw]
theorem condw_false {A B : Prop} {t : Tok A B} : condw (.bool false) A B t ↔ B := by simp [condw]
theorem condw_not {A B : Prop} {t : Tok A B} {b : Bool} : condw (.bool (!b)) A B t ↔ condw (.bool b) B A ⟨⟩ := by cases b <;> simp [condw]
theorem condw_bool {b : Bool} {A B : Prop} {t : Tok A B} (h1 : b = true → A) (h2 : b = false → B) : condw (.bool b) A B t := ⟨h1, h2⟩
structure TokC (c : Code) (Q : Exit → St → Prop) : Type where
/-- A loop. -/
def Lp (P : Program) (n : Nat) (c : Code) (Q : Exit → St → Prop) (st : St) (_ : TokC c Q) : Prop := LH P n c Q st
theorem cx_loop {c : Code} : cx P Γ n D (.loop c) Q st ↔ Lp P n c Q st ⟨⟩ := Iff.rfl
theorem lp_unroll (hΓ : TabOK P Γ) (hm : P.follows .mixedOrders = true) {c : Code} {t : TokC c Q} (ok : okC n D c = true) (h : cx P Γ n D c (Lu P n c Q) st) : Lp P n c Q st t := LH.unroll (CW.of_cx hΓ hm c _ _ ok h)
theorem lu_normal {c : Code} : Lu P n c Q .normal st ↔ Lp P n c Q st ⟨⟩ := Iff.rfl
theorem lu_ret {c : Code} : Lu P n c Q .ret st ↔ Q .ret st := Iff.rfl
theorem lu_exit {c : Code} {id : Nat} : Lu P n c Q (.exit id) st ↔ Q (.exit id) st := Iff.rfl
theorem lp_view {c : Code} {t : TokC c Q} {s' : St} (hv : View n st s') (h : Lp P n c Q s' ⟨⟩) : Lp P n c Q st t := LH.view hv h
theorem lp_inv (hΓ : TabOK P Γ) (hm : P.follows .mixedOrders = true) {c : Code} {t : TokC c Q} (ok : okC n D c = true) {α : Type} (I : α → St → Prop) (μ : α → Nat) (x : α) (h0 : I x st)
    (hr : ∀ x e h, I x ⟨e, h⟩ → cx P Γ n D c (Ln n I μ Q x ⟨⟩) ⟨e, h⟩) : Lp P n c Q st t :=
  LH.inv I μ (fun x s hs => CW.of_cx hΓ hm c _ _ ok (hr x s.env s.heap hs)) _ x st rfl h0
theorem ln_normal {α : Type} {I : α → St → Prop} {μ : α → Nat} {x : α} {t : TokI I μ} : Ln n I μ Q x t .normal st ↔ Nxt n I μ x t st := Iff.rfl
theorem ln_ret {α : Type} {I : α → St → Prop} {μ : α → Nat} {x : α} {t : TokI I μ} : Ln n I μ Q x t .ret st ↔ Q .ret st := Iff.rfl
theorem ln_exit {α : Type} {I : α → St → Prop} {μ : α → Nat} {x : α} {t : TokI I μ} {id : Nat} : Ln n I μ Q x t (.exit id) st ↔ Q (.exit id) st := Iff.rfl
/-- What stays as it is at the loop's head. -/
def Keep : List Nat → (Nat → V) → (Nat → V) → Prop
  | [], _, _ => True
  | t :: ts, e0, e => e t = e0 t ∧ Keep ts e0 e
def KeepH : List Nat → (Nat → Option Blk) → (Nat → Option Blk) → Prop
  | [], _, _ => True
  | t :: ts, h0, h => h t = h0 t ∧ KeepH ts h0 h
theorem Keep.refl (e : Nat → V) : ∀ ts, Keep ts e e
  | [] => trivial
  | _ :: ts => ⟨rfl, Keep.refl e ts⟩
theorem KeepH.refl (e : Nat → Option Blk) : ∀ ts, KeepH ts e e
  | [] => trivial
  | _ :: ts => ⟨rfl, KeepH.refl e ts⟩
/-- An invariant that keeps what stays. -/
structure Ik {α : Type} (ts ks : List Nat) (e0 : Nat → V) (h0 : Nat → Option Blk) (I : α → (Nat → V) → (Nat → Option Blk) → Prop) (x : α) (s : St) : Prop where
  ke : Keep ts e0 s.env
  kh : KeepH ks h0 s.heap
  i : I x s.env s.heap
theorem lp_go (hΓ : TabOK P Γ) (hm : P.follows .mixedOrders = true) {c : Code} {e0 : Nat → V} {h0 : Nat → Option Blk} {t : TokC c Q} (ok : okC n D c = true) (ts ks : List Nat) {α : Type} (I : α → (Nat → V) → (Nat → Option Blk) → Prop) (μ : α → Nat) (x : α) (hi : I x e0 h0)
    (hr : ∀ x e h, Keep ts e0 e → KeepH ks h0 h → I x e h → cx P Γ n D c (Ln n (Ik ts ks e0 h0 I) μ Q x ⟨⟩) ⟨e, h⟩) : Lp P n c Q ⟨e0, h0⟩ t :=
  lp_inv hΓ hm ok (Ik ts ks e0 h0 I) μ x ⟨Keep.refl _ _, KeepH.refl _ _, hi⟩ fun x e h hh => hr x e h hh.ke hh.kh hh.i
theorem nxt_go {α : Type} {ts ks : List Nat} {e0 : Nat → V} {h0 : Nat → Option Blk} {I : α → (Nat → V) → (Nat → Option Blk) → Prop} {μ : α → Nat} {x : α} {t : TokI (Ik ts ks e0 h0 I) μ} {s : St} (y : α) {s'' : St} (hv : View n s s'') (hlt : μ y < μ x) (hk : Keep ts e0 s''.env) (hkh : KeepH ks h0 s''.heap) (hi : I y s''.env s''.heap) :
    Nxt n (Ik ts ks e0 h0 I) μ x t s := ⟨y, s'', hv, ⟨hk, hkh, hi⟩, hlt⟩

/-- The end of a function. -/
def fw2 (m : Option (List V)) (post : V → Prop) : Prop := match m with
  | some vs => post (one vs)
  | none => False
def fw1 (m : Option (List V)) (h : Nat → Option Blk) (post : V → Prop) : Prop := match m with
  | some us => fw2 (lendAs h us) post
  | none => False
theorem fin_r {rs : List ResultVar} {post : V → Prop} {e : Nat → V} {h : Nat → Option Blk} : Fin P rs post .ret ⟨e, h⟩ ↔ fw1 (resL P ⟨e, h⟩ rs) h post := by
  unfold Fin fw1 fw2
  cases resL P ⟨e, h⟩ rs with
  | none => simp
  | some us => cases hl : lendAs h us <;> simp [hl]
theorem fin_n {rs : List ResultVar} {post : V → Prop} {e : Nat → V} {h : Nat → Option Blk} : Fin P rs post .normal ⟨e, h⟩ ↔ fw1 (resL P ⟨e, h⟩ rs) h post := by
  unfold Fin fw1 fw2
  cases resL P ⟨e, h⟩ rs with
  | none => simp
  | some us => cases hl : lendAs h us <;> simp [hl]
theorem fw1_some {us : List V} {h : Nat → Option Blk} {post : V → Prop} : fw1 (some us) h post ↔ fw2 (lendAs h us) post := Iff.rfl
theorem fw2_some {vs : List V} {post : V → Prop} : fw2 (some vs) post ↔ post (one vs) := Iff.rfl

attribute [simp] cx_scope cx_label ng_n ng_r ng_e cx_skip cx_ret cx_exit cx_seq sq_normal sq_ret sq_exit cx_block bk_n bk_r bk_e cx_region cx_regionD cx_cond condw_true condw_false condw_not cx_loop ln_normal ln_ret ln_exit lu_normal lu_ret lu_exit fin_r fin_n fw1_some fw2_some

/-- A contract by its body's text. -/
theorem pcall_cx (hΓ : TabOK P Γ) (hm : P.follows .mixedOrders = true) (D : Nat → Option Ann) {f : FuncId} {fn : Func} {c : Code} {vs : List V} {v : V} {rs : Array ResultVar} (hf : P.funcs[f]? = some fn) (hb : fn.body = some c) (hn : fn.ntmps = n) (hrs : fn.results = rs)
    (hvs : vs.length ≤ n) (ok : okC n D c = true) (h : cx P Γ n D c (Fin P rs.toList (fun u => u = v)) ⟨ini 0 vs, fun _ => none⟩) : PCall P f vs v := by
  subst hn; subst hrs
  exact pcall_of hf hb hvs (CW.of_cx hΓ hm c _ _ ok h)

theorem pfresh_cx (hΓ : TabOK P Γ) (hm : P.follows .mixedOrders = true) (D : Nat → Option Ann) {f : FuncId} {fn : Func} {c : Code} {vs : List V} {v : V} {rs : Array ResultVar} (hf : P.funcs[f]? = some fn) (hb : fn.body = some c) (hn : fn.ntmps = n) (hrs : fn.results = rs)
    (hvs : vs.length ≤ n) (ok : okC n D c = true) (h : cx P Γ n D c (FinF P rs.toList (fun u => u = v)) ⟨ini 0 vs, fun _ => none⟩) : PFresh P f vs v := by
  subst hn; subst hrs
  exact pfresh_of hf hb hvs (CW.of_cx hΓ hm c _ _ ok h)
def fx2 (us : List V) (m : Option (List V)) (post : V → Prop) : Prop := match m with
  | some vs => frAs us vs = true ∧ post (one vs)
  | none => False
def fx1 (m : Option (List V)) (h : Nat → Option Blk) (post : V → Prop) : Prop := match m with
  | some us => fx2 us (lendAs h us) post
  | none => False
theorem finF_r {rs : List ResultVar} {post : V → Prop} {e : Nat → V} {h : Nat → Option Blk} : FinF P rs post .ret ⟨e, h⟩ ↔ fx1 (resL P ⟨e, h⟩ rs) h post := by
  unfold FinF fx1 fx2
  cases resL P ⟨e, h⟩ rs with
  | none => simp
  | some us => cases hl : lendAs h us <;> simp [hl]
theorem finF_n {rs : List ResultVar} {post : V → Prop} {e : Nat → V} {h : Nat → Option Blk} : FinF P rs post .normal ⟨e, h⟩ ↔ fx1 (resL P ⟨e, h⟩ rs) h post := by
  unfold FinF fx1 fx2
  cases resL P ⟨e, h⟩ rs with
  | none => simp
  | some us => cases hl : lendAs h us <;> simp [hl]
theorem fx1_some {us : List V} {h : Nat → Option Blk} {post : V → Prop} : fx1 (some us) h post ↔ fx2 us (lendAs h us) post := Iff.rfl
theorem fx2_some {us vs : List V} {post : V → Prop} : fx2 us (some vs) post ↔ frAs us vs = true ∧ post (one vs) := Iff.rfl
attribute [simp] finF_r finF_n fx1_some fx2_some frAs frA frL frC rowFlat

/-! ### tables -/
def noTab : Tab := ⟨fun _ _ => none, fun _ => false, fun _ => false, fun _ _ => none⟩
theorem noTab_at (f : FuncId) (vs : List V) : noTab.at' f vs = none := rfl
theorem noTab_fr (f : FuncId) : noTab.fr f = false := rfl
theorem noTab_gb (f : FuncId) : noTab.gb f = false := rfl
theorem noTab_ok : TabOK P noTab := ⟨fun f vs v h => (by cases h), fun f vs u bl h => (by cases h)⟩
def add (f : FuncId) (T : List V → Option V) (Γ : Tab) : Tab := ⟨fun g vs => if g = f then T vs else Γ.at' g vs, fun g => if g = f then false else Γ.fr g, Γ.gb, Γ.gv⟩
def addF (f : FuncId) (T : List V → Option V) (Γ : Tab) : Tab := ⟨fun g vs => if g = f then T vs else Γ.at' g vs, fun g => if g = f then true else Γ.fr g, Γ.gb, Γ.gv⟩
theorem add_ok {f : FuncId} {T : List V → Option V} {Γ : Tab} (hΓ : TabOK P Γ) (hc : callable P f = true) (hT : ∀ vs v, T vs = some v → PCall P f vs v) : TabOK P (add f T Γ) := by
  refine ⟨?_, hΓ.2⟩
  intro g vs v h
  simp only [add] at h ⊢
  split at h
  · rename_i e; subst e; exact .inl ⟨hc, hT vs v h, fun h => by simp at h⟩
  · rename_i e
    rcases hΓ.1 g vs v h with ⟨h1, h2, h3⟩ | h1
    · refine .inl ⟨h1, h2, ?_⟩
      simpa only [e, if_false] using h3
    · exact .inr h1
theorem addF_ok {f : FuncId} {T : List V → Option V} {Γ : Tab} (hΓ : TabOK P Γ) (hc : callable P f = true) (hT : ∀ vs v, T vs = some v → PFresh P f vs v) : TabOK P (addF f T Γ) := by
  refine ⟨?_, hΓ.2⟩
  intro g vs v h
  simp only [addF] at h ⊢
  split at h
  · rename_i e; subst e; exact .inl ⟨hc, (hT vs v h).pcall, fun _ => hT vs v h⟩
  · rename_i e
    rcases hΓ.1 g vs v h with ⟨h1, h2, h3⟩ | h1
    · refine .inl ⟨h1, h2, ?_⟩
      simpa only [e, if_false] using h3
    · exact .inr h1
theorem addE_ok {f : FuncId} {T : List V → Option V} {Γ : Tab} (hΓ : TabOK P Γ) (hT : ∀ vs v, T vs = some v → extFlat v = true ∧ PExt P f vs v) : TabOK P (add f T Γ) := by
  refine ⟨?_, hΓ.2⟩
  intro g vs v h
  simp only [add] at h ⊢
  split at h
  · rename_i e; subst e; exact .inr (hT vs v h)
  · rename_i e
    rcases hΓ.1 g vs v h with ⟨h1, h2, h3⟩ | h1
    · refine .inl ⟨h1, h2, ?_⟩
      simpa only [e, if_false] using h3
    · exact .inr h1
/-- f gives new memory. -/
def addG (f : FuncId) (T : List V → Option (V × List (Nat × Blk))) (Γ : Tab) : Tab := ⟨Γ.at', Γ.fr, fun g => if g = f then true else Γ.gb g, fun g vs => if g = f then T vs else Γ.gv g vs⟩
theorem addG_ok {f : FuncId} {T : List V → Option (V × List (Nat × Blk))} {Γ : Tab} (hΓ : TabOK P Γ) (hc : callable P f = true) (hT : ∀ vs u bl, T vs = some (u, bl) → PGive P f vs u bl) : TabOK P (addG f T Γ) := by
  refine ⟨fun g vs v h => ?_, fun g vs u bl h1 h2 => ?_⟩
  · exact hΓ.1 g vs v h
  · simp only [addG] at h1 h2
    split at h2
    · rename_i e; subst e; exact ⟨hc, hT vs u bl h2⟩
    · rename_i e
      rw [if_neg e] at h1
      exact hΓ.2 g vs u bl h1 h2
attribute [simp] noTab_at noTab_fr noTab_gb

/-! ### a function that gives memory -/
def inC (bl : List (Nat × Blk)) : V → Bool
  | .sl k _ _ _ | .ptr k _ | .mp k => (blkOf bl k).isSome
  | .vptr .. | .agg _ | .tup _ => false
  | _ => true
def inA (bl : List (Nat × Blk)) : V → Bool
  | .agg cs => cs.all (inC bl)
  | v => inC bl v
def inT (bl : List (Nat × Blk)) : V → Bool
  | .tup vs => vs.all (inA bl)
  | v => inA bl v
def KeepBl (h : Nat → Option Blk) : List (Nat × Blk) → Prop
  | [] => True
  | (k, b) :: bl => h k = some b ∧ KeepBl h bl
def closedB (bl : List (Nat × Blk)) : List (Nat × Blk) → Bool
  | [] => true
  | (_, b) :: r => (!(b.cells.any ownC) || b.cells.all (inC bl)) && closedB bl r
theorem keepBl_at {h : Nat → Option Blk} : ∀ (bl : List (Nat × Blk)) (k : Nat) (b : Blk), KeepBl h bl → blkOf bl k = some b → h k = some b
  | [], k, b, _, e => by cases e
  | (k', b') :: bl, k, b, hk, e => by
    simp only [blkOf] at e
    by_cases hkk : k = k'
    · subst hkk; rw [if_pos rfl] at e; cases e; exact hk.1
    · rw [if_neg hkk] at e; exact keepBl_at bl k b hk.2 e
theorem closedB_at {bl : List (Nat × Blk)} : ∀ (r : List (Nat × Blk)) (k : Nat) (b : Blk), closedB bl r = true → blkOf r k = some b → b.cells.all (inC bl) = true
  | [], k, b, _, e => by cases e
  | (k', b') :: r, k, b, hc, e => by
    simp only [closedB, Bool.and_eq_true, Bool.or_eq_true] at hc
    simp only [blkOf] at e
    by_cases hkk : k = k'
    · subst hkk; rw [if_pos rfl] at e; cases e
      rcases hc.1 with h | h
      · rw [List.all_eq_true]
        intro v hv
        have : ownC v = false := by
          have h' : b'.cells.any ownC = false := by simpa using h
          simpa using List.any_eq_false.1 h' v hv
        cases v <;> simp [ownC] at this <;> rfl
      · exact h
    · rw [if_neg hkk] at e; exact closedB_at r k b hc.2 e
def lamK (bl : List (Nat × Blk)) (lam : Lam) : Lam := fun k => if (blkOf bl k).isSome = true then lam k else none
theorem R_inC {w : World} {ro : Nat → Prop} {lam : Lam} {bl : List (Nat × Blk)} {v : V} {x : Value} (h : R w ro lam v x) (hi : inC bl v = true) : R w ro (lamK bl lam) v x := by
  have hl : ∀ k y, (blkOf bl k).isSome = true → lam k = some y → lamK bl lam k = some y := fun k y h1 h2 => by unfold lamK; rw [if_pos h1]; exact h2
  cases v with
  | sl k o l s =>
    rcases h.sl_inv with ⟨hv, rfl, rfl, rfl⟩ | ⟨b, m, cap, h1, h2, h3, h4, rfl⟩
    · exact .slv _ _ (hl _ _ hi hv)
    · exact .sl _ _ _ _ b m cap (hl _ _ hi h1) h2 h3 h4
  | ptr k o => obtain ⟨b, m, h1, rfl⟩ := h.ptr_inv; exact .ptr _ _ b m (hl _ _ hi h1)
  | mp k => obtain ⟨b, h1, rfl⟩ := h.mp_inv; exact .mp _ b (hl _ _ hi h1)
  | vptr _ _ _ => simp [inC] at hi
  | agg _ => simp [inC] at hi
  | tup _ => simp [inC] at hi
  | _ => exact .pure _ _ (h.pureC rfl)
theorem R_inA {w : World} {ro : Nat → Prop} {lam : Lam} {bl : List (Nat × Blk)} {v : V} {x : Value} (h : R w ro lam v x) (hi : inA bl v = true) : R w ro (lamK bl lam) v x := by
  cases v with
  | agg cs =>
    obtain ⟨arr, rfl, h1, h2⟩ := h.agg_inv
    exact .agg _ _ h1 fun j c y hc hy => R_inC (h2 j c y hc hy) (all_at hi hc)
  | _ => exact R_inC h hi
theorem R_inT {w : World} {ro : Nat → Prop} {lam : Lam} {bl : List (Nat × Blk)} {v : V} {x : Value} (h : R w ro lam v x) (hi : inT bl v = true) : R w ro (lamK bl lam) v x := by
  cases v with
  | tup cs =>
    obtain ⟨arr, rfl, h1, h2⟩ := h.tup_inv
    exact .tup _ _ h1 fun j c y hc hy => R_inA (h2 j c y hc hy) (all_at hi hc)
  | agg cs => exact R_inA h hi
  | _ => exact R_inC h hi
theorem HS.keep {w0 : Base} {ro : Nat → Prop} {lam : Lam} {st : St} {a : Act} {w : World} (hs : Sim w0 n ro lam st a w) {bl : List (Nat × Blk)} (hk : KeepBl st.heap bl) (hc : closedB bl bl = true) : HS w ro (lamK bl lam) (blkOf bl) := by
  have hb : ∀ k y, lamK bl lam k = some y → lam k = some y := fun k y h => by
    unfold lamK at h; split at h
    · exact h
    · cases h
  have hf : ∀ k b y, blkOf bl k = some b → lam k = some y → lamK bl lam k = some y := fun k b y h1 h2 => by unfold lamK; rw [if_pos (by rw [h1]; rfl)]; exact h2
  refine ⟨Base.Keeps.refl _ _ _, rfl, Nat.zero_le _, hs.rolt, fun t => .pure _ _ (.junk _), fun key blk hkk => ?_, fun key hkk => ?_, fun key b m hl => ⟨.inl ⟨key, .inl ⟨m, hl⟩⟩, (hs.own key b m (hb _ _ hl)).2⟩, fun k1 k2 b m1 m2 e1 e2 => hs.inj k1 k2 b m1 m2 (hb _ _ e1) (hb _ _ e2), fun key b hl => ⟨⟨.inl ⟨key, .inr hl⟩, (hs.maps key b (hb _ _ hl)).1.2⟩, fun k' h' => (hs.maps key b (hb _ _ hl)).2 k' (hb _ _ h')⟩⟩
  · have hkk' : blkOf bl key = some blk := hkk
    rcases hs.heap key blk (keepBl_at bl key blk hk hkk') with ⟨hv, hcc⟩ | ⟨b, o, hl, hw, hso⟩ | ⟨b, m, arr, hl, hw, h1, hle, hr⟩
    · exact .inl ⟨hf _ _ _ hkk' hv, hcc⟩
    · exact .inr (.inl ⟨b, o, hf _ _ _ hkk' hl, hw, hso⟩)
    · exact .inr (.inr ⟨b, m, arr, hf _ _ _ hkk' hl, hw, h1, hle, fun j c x hcj hx => R_inC (hr j c x hcj hx) (all_at (closedB_at bl key blk hc hkk') hcj)⟩)
  · have hkk' : blkOf bl key = none := hkk
    unfold lamK; rw [if_neg (by rw [hkk']; simp)]
/-- The function ends; it gives what lies in these blocks. -/
def FinG (P : Program) (rs : List ResultVar) (u : V) (bl : List (Nat × Blk)) (e : Exit) (st : St) : Prop :=
  (e = .normal ∨ e = .ret) ∧ ∃ us, resL P st rs = some us ∧ one us = u ∧ KeepBl st.heap bl ∧ closedB bl bl = true ∧ inT bl u = true
theorem pgive_of {f : FuncId} {fn : Func} {c : Code} {vs : List V} {u : V} {bl : List (Nat × Blk)} (hf : P.funcs[f]? = some fn) (hb : fn.body = some c) (hn : vs.length ≤ fn.ntmps)
    (h : CW P fn.ntmps c (FinG P fn.results.toList u bl) ⟨ini 0 vs, fun _ => none⟩) : PGive P f vs u bl := by
  intro w ro args hro hsz hr
  refine calls_of_wp hf hb ?_
  have hs := sim_ini (n := fn.ntmps) hro hsz hn hr
  refine wp_mono (h (.of w) ro _ _ w hs) fun e a' w' hh => ?_
  obtain ⟨st', ro', lam', ⟨he, us, h1, h2, h3, h4, h5⟩, hext, hs'⟩ := hh
  obtain ⟨zs, hz, hra⟩ := resL_sound hs' _ us h1
  have hrun := results_run fn a'.tmps w' hz
  have hl : zs.length = us.length := by simpa using hra.1
  have hval : R w' ro' lam' u (if h : zs.toArray.size = 1 then zs.toArray[0] else .tuple zs.toArray) := by
    rw [← h2]
    by_cases hone : zs.length = 1
    · obtain ⟨x, rfl⟩ := List.length_eq_one_iff.1 hone
      obtain ⟨y, rfl⟩ := List.length_eq_one_iff.1 (hl.symm.trans hone)
      simp only [List.size_toArray, List.length_cons, List.length_nil, dite_true, one]
      exact hra.2 0 y x rfl rfl
    · have : one us = .tup us := by
        unfold one
        split
        · rename_i y; rw [hl] at hone; simp at hone
        · rfl
      rw [this, dif_neg (by simpa using hone)]
      exact .tup _ _ (by simpa using hl) fun j c x hc hx => hra.2 j c x hc (by simpa using hx)
  have hfin : a'.defers = [] ∧ ∃ v', (results fn a'.tmps).run P w' = .ok v' w' ∧
      (fun e w' => ∃ rv ro' lam', e = Ending.returned rv ∧ Below w.heap.size w w' ∧ (∀ b, ro b → ro' b) ∧ (∀ b, ro' b → ro b ∨ w.heap.size ≤ b) ∧ HS w' ro' lam' (blkOf bl) ∧ (∀ b, ownB lam' b → w.heap.size ≤ b) ∧ R w' ro' lam' u rv) (.returned v') w' := by
    refine ⟨hs'.dfr, _, hrun, _, ro', lamK bl lam', rfl, hs'.below.below, hext.1, fun b hb => (hext.2 b hb).imp id (fun h => h.resolve_left (fun h => h)), HS.keep hs' h3 h4, fun b ⟨key, hlb⟩ => ?_, R_inT hval h5⟩
    have hlb' : lamB lam' key b := by
      have hb : ∀ k y, lamK bl lam' k = some y → lam' k = some y := fun k y h => by
        unfold lamK at h; split at h
        · exact h
        · cases h
      rcases hlb with ⟨m, h⟩ | h
      · exact .inl ⟨m, hb _ _ h⟩
      · exact .inr (hb _ _ h)
    exact (hs'.ob hlb').1.resolve_left (fun h => h)
  rcases he with rfl | rfl
  · exact hfin
  · exact hfin
theorem pgive_cx (hΓ : TabOK P Γ) (hm : P.follows .mixedOrders = true) (D : Nat → Option Ann) {f : FuncId} {fn : Func} {c : Code} {vs : List V} {u : V} {bl : List (Nat × Blk)} {rs : Array ResultVar} (hf : P.funcs[f]? = some fn) (hb : fn.body = some c) (hn : fn.ntmps = n) (hrs : fn.results = rs)
    (hvs : vs.length ≤ n) (ok : okC n D c = true) (h : cx P Γ n D c (FinG P rs.toList u bl) ⟨ini 0 vs, fun _ => none⟩) : PGive P f vs u bl := by
  subst hn; subst hrs
  exact pgive_of hf hb hvs (CW.of_cx hΓ hm c _ _ ok h)
def fg1 (m : Option (List V)) (st : St) (u : V) (bl : List (Nat × Blk)) : Prop := match m with
  | some us => one us = u ∧ KeepBl st.heap bl ∧ closedB bl bl = true ∧ inT bl u = true
  | none => False
theorem finG_r {rs : List ResultVar} {u : V} {bl : List (Nat × Blk)} : FinG P rs u bl .ret st ↔ fg1 (resL P st rs) st u bl := by
  unfold FinG fg1
  cases resL P st rs <;> simp
theorem finG_n {rs : List ResultVar} {u : V} {bl : List (Nat × Blk)} : FinG P rs u bl .normal st ↔ fg1 (resL P st rs) st u bl := by
  unfold FinG fg1
  cases resL P st rs <;> simp
theorem fg1_some {us : List V} {u : V} {bl : List (Nat × Blk)} : fg1 (some us) st u bl ↔ one us = u ∧ KeepBl st.heap bl ∧ closedB bl bl = true ∧ inT bl u = true := Iff.rfl
attribute [simp] finG_r finG_n fg1_some KeepBl closedB inC inA inT blkOf

/-! ### publishing: a block of the call's own is only read from here on -/
def pubC (key : Nat) (blk : Blk) : V → V
  | .sl k o l s => bif k == key then (bif decide (o + l * s ≤ blk.cells.length) then .list s (chunks s l (blk.cells.drop o)) else .junk) else .sl k o l s
  | .ptr k o => bif k == key then .rp (blk.cells.drop o) else .ptr k o
  | .vptr b k o => bif k == key then .junk else .vptr b k o
  | .mp k => bif k == key then .junk else .mp k
  | .agg _ | .tup _ => .junk
  | v => v
def pubA (key : Nat) (blk : Blk) : V → V
  | .agg cs => .agg (cs.map (pubC key blk))
  | v => pubC key blk v
def pubT (key : Nat) (blk : Blk) : V → V
  | .tup vs => .tup (vs.map (pubA key blk))
  | v => pubA key blk v
theorem KeyV.pubC {k : V} {x : Value} (h : KeyV k x) {key : Nat} {blk : Blk} : KeyV (pubC key blk k) x := by
  cases k with
  | sl k1 o1 l1 s1 =>
    simp only [Pv.pubC]
    cases hq : (k1 == key) with
    | true =>
      simp only [cond_true]
      cases hd : decide (o1 + l1 * s1 ≤ blk.cells.length)
      · exact trivial
      · exact trivial
    | false => exact trivial
  | ptr k1 o1 => simp only [Pv.pubC]; cases hq : (k1 == key) <;> exact trivial
  | vptr b1 k1 o1 => simp only [Pv.pubC]; cases hq : (k1 == key) <;> exact trivial
  | mp k1 => simp only [Pv.pubC]; cases hq : (k1 == key) <;> exact trivial
  | str s => exact h
  | val y => exact h
  | _ => exact trivial
def St.pub (st : St) (key : Nat) (blk : Blk) : St :=
  { env := fun t => pubT key blk (st.env t), heap := fun k => if k = key then none else (st.heap k).map fun b => ⟨b.ty, b.cells.map (pubC key blk)⟩ }
theorem pubC_pure {key : Nat} {blk : Blk} {v : V} (h : ownC v = false) : pubC key blk v = v := by
  cases v <;> simp [ownC] at h <;> rfl
theorem pub_cells {key : Nat} {blk : Blk} {cs : List V} (h : cs.any ownC = false) : cs.map (pubC key blk) = cs := by
  have : ∀ v ∈ cs, pubC key blk v = v := fun v hv => pubC_pure (by simpa using List.any_eq_false.1 h v hv)
  conv => rhs; rw [← List.map_id cs]
  exact List.map_congr_left this
theorem shC_pure {c : Nat} {v : V} (h : ownC v = false) : shC c v = v := by
  cases v <;> simp [ownC] at h <;> rfl
theorem sh_cells {c : Nat} {cs : List V} (h : cs.any ownC = false) : cs.map (shC c) = cs := by
  have : ∀ v ∈ cs, shC c v = v := fun v hv => shC_pure (by simpa using List.any_eq_false.1 h v hv)
  conv => rhs; rw [← List.map_id cs]
  exact List.map_congr_left this
section
variable {w0 : Base} {ro ro' : Nat → Prop} {lam : Lam} {a : Act} {w : World}
theorem pubRow (hs : Sim w0 n ro lam st a w) {key off len sz : Nat} {blk : Blk} {x : Value} (hk : st.heap key = some blk) (hle : off + len * sz ≤ blk.cells.length) (hpure' : blk.cells.any ownC = false) (h1 : ∀ b, ro b → ro' b) (h2 : ∀ b m, lam key = some (some b, m) → ro' b) (hx : R w ro lam (.sl key off len sz) x) :
    R0 w ro' (.list sz (chunks sz len (blk.cells.drop off))) x := by
  rcases hx.sl_inv with ⟨hv, rfl, rfl, rfl⟩ | ⟨b, m, cap, hl, _, hlc, _, rfl⟩
  · exact .list0 _ _ _
  · rcases hs.heap key blk hk with ⟨hv, _⟩ | ⟨b', o, hv, _⟩ | ⟨b', m', arr, hl', hw, hsz, hle', hr⟩
    · rw [hl] at hv; cases hv
    · rw [hl] at hv; cases hv
    · rw [hl] at hl'
      simp only [Option.some.injEq, Prod.mk.injEq] at hl'
      obtain ⟨rfl, rfl⟩ := hl'
      have hlen := length_chunks sz len (blk.cells.drop off)
      have hat : ∀ i j c y, (chunks sz len (blk.cells.drop off))[i]? = some c → c[j]? = some y → blk.cells[off + (i * sz + j)]? = some y ∧ off + (i * sz + j) < arr.size := fun i j c y hc hy => by
        obtain ⟨h1, rfl⟩ := chunks_at sz len _ i c hc
        rw [List.getElem?_take] at hy
        split at hy
        · rw [List.getElem?_drop, List.getElem?_drop] at hy
          refine ⟨by rw [← hy], ?_⟩
          have := (List.getElem?_eq_some_iff.1 hy).1
          omega
        · cases hy
      have key' : R0 w ro' (.list sz (chunks sz len (blk.cells.drop off))) (.slice (some ⟨b, off, none⟩) (chunks sz len (blk.cells.drop off)).length cap) := by
        refine .list sz _ ⟨b, off, none⟩ cap (fun i j => arr.getD (off + (i * sz + j)) Go.undef) (h2 b _ hl) (fun c hc => ?_) (by rw [hlen]; exact hlc) (fun i j c y hc hy => ?_) (fun i j c y hc hy => ?_)
        · obtain ⟨i, hi, rfl⟩ := List.mem_iff_getElem.1 hc
          obtain ⟨h1, h2⟩ := chunks_at sz len _ i _ (List.getElem?_eq_getElem hi)
          rw [h2]
          simp only [List.length_take, List.length_drop]
          have : (i + 1) * sz ≤ len * sz := Nat.mul_le_mul_right _ h1
          rw [Nat.succ_mul] at this
          omega
        · obtain ⟨h1, h2⟩ := hat i j c y hc hy
          rw [add_lit, cell_of_row w b _ arr blk.ty (0, 0) hw]
          simp [Array.getD_eq_getD_getElem?, Array.getElem?_eq_getElem h2]
        · obtain ⟨g1, g2⟩ := hat i j c y hc hy
          have h3 := hr _ y _ g1 (Array.getElem?_eq_getElem g2)
          have h4 := (h3.pureC (any_at hpure' g1)).mono (ro' := ro') (fun _ _ => rfl) h1
          simpa [Array.getD_eq_getD_getElem?, Array.getElem?_eq_getElem g2] using h4
      rw [hlen] at key'
      exact key'
theorem pubPtr (hs : Sim w0 n ro lam st a w) {key off : Nat} {blk : Blk} {x : Value} (hk : st.heap key = some blk) (hpure' : blk.cells.any ownC = false) (h1 : ∀ b, ro b → ro' b) (h2 : ∀ b m, lam key = some (some b, m) → ro' b) (hx : R w ro lam (.ptr key off) x) : R0 w ro' (.rp (blk.cells.drop off)) x := by
  obtain ⟨b, m, hl, rfl⟩ := hx.ptr_inv
  rcases hs.heap key blk hk with ⟨hv, _⟩ | ⟨b', o, hv, _⟩ | ⟨b', m', arr, hl', hw, hsz, hle', hr⟩
  · rw [hl] at hv; cases hv
  · rw [hl] at hv; cases hv
  · rw [hl] at hl'
    simp only [Option.some.injEq, Prod.mk.injEq] at hl'
    obtain ⟨rfl, rfl⟩ := hl'
    have hat : ∀ j y, (blk.cells.drop off)[j]? = some y → blk.cells[off + j]? = some y ∧ off + j < arr.size := fun j y hy => by
      rw [List.getElem?_drop] at hy
      have := (List.getElem?_eq_some_iff.1 hy).1
      exact ⟨hy, by omega⟩
    refine .rp _ ⟨b, off, none⟩ (fun j => arr.getD (off + j) Go.undef) (h2 b _ hl) (fun j y hy => ?_) (fun j y hy => ?_)
    · obtain ⟨g1, g2⟩ := hat j y hy
      rw [add_lit, cell_of_row w b _ arr blk.ty (0, 0) hw]
      simp [Array.getD_eq_getD_getElem?, Array.getElem?_eq_getElem g2]
    · obtain ⟨g1, g2⟩ := hat j y hy
      have h3 := hr _ y _ g1 (Array.getElem?_eq_getElem g2)
      have h4 := (h3.pureC (any_at hpure' g1)).mono (ro' := ro') (fun _ _ => rfl) h1
      simpa [Array.getD_eq_getD_getElem?, Array.getElem?_eq_getElem g2] using h4
theorem View.pub (n : Nat) {st : St} {key : Nat} {blk : Blk} (hk : st.heap key = some blk) (hp : blk.cells.any ownC = false) : View n st (st.pub key blk) := by
  intro w0 ro lam a w hs
  obtain ⟨ro', hro'⟩ : ∃ ro' : Nat → Prop, ro' = fun b => ro b ∨ ∃ m, lam key = some (some b, m) := ⟨_, rfl⟩
  have r1 : ∀ b, ro b → ro' b := fun b h => by rw [hro']; exact .inl h
  have r2 : ∀ b m, lam key = some (some b, m) → ro' b := fun b m h => by rw [hro']; exact .inr ⟨m, h⟩
  have hl : ∀ k y, k ≠ key → lam k = some y → upd lam key none k = some y := fun k y hne h => by rw [upd_ne _ _ hne]; exact h
  have hb : ∀ k y, upd lam key none k = some y → k ≠ key ∧ lam k = some y := fun k y h => by
    by_cases e : k = key
    · subst e; rw [upd_same] at h; cases h
    · rw [upd_ne _ _ e] at h; exact ⟨e, h⟩
  have pC : ∀ {v x}, R w ro lam v x → R w ro' (upd lam key none) (pubC key blk v) x := by
    intro v x h
    cases v with
    | sl k o l s =>
      by_cases e : k = key
      · subst e
        have heq : pubC k blk (.sl k o l s) = if o + l * s ≤ blk.cells.length then .list s (chunks s l (blk.cells.drop o)) else .junk := by simp [pubC, cond_eq_ite]
        rw [heq]
        by_cases hle : o + l * s ≤ blk.cells.length
        · rw [if_pos hle]; exact .pure _ _ (pubRow hs hk hle hp r1 r2 h)
        · rw [if_neg hle]; exact .pure _ _ (.junk _)
      · simp only [pubC, beq_eq_false_iff_ne.2 e, cond_false]
        rcases h.sl_inv with ⟨hv, rfl, rfl, rfl⟩ | ⟨b, m, cap, h1, h2, h3, h4, rfl⟩
        · exact .slv _ _ (hl _ _ e hv)
        · exact .sl _ _ _ _ b m cap (hl _ _ e h1) h2 h3 h4
    | ptr k o =>
      by_cases e : k = key
      · subst e
        simp only [pubC, beq_self_eq_true, cond_true]
        exact .pure _ _ (pubPtr hs hk hp r1 r2 h)
      · simp only [pubC, beq_eq_false_iff_ne.2 e, cond_false]
        obtain ⟨b, m, h1, rfl⟩ := h.ptr_inv
        exact .ptr _ _ b m (hl _ _ e h1)
    | vptr b k o =>
      by_cases e : k = key
      · subst e
        simp only [pubC, beq_self_eq_true, cond_true]
        exact .pure _ _ (.junk _)
      · simp only [pubC, beq_eq_false_iff_ne.2 e, cond_false]
        cases h with
        | pure _ _ h => cases h
        | vptr _ _ _ m h => exact .vptr _ _ _ m (hl _ _ e h)
    | mp k =>
      by_cases e : k = key
      · subst e
        simp only [pubC, beq_self_eq_true, cond_true]
        exact .pure _ _ (.junk _)
      · simp only [pubC, beq_eq_false_iff_ne.2 e, cond_false]
        obtain ⟨b, h1, rfl⟩ := h.mp_inv
        exact .mp _ b (hl _ _ e h1)
    | agg _ => exact .pure _ _ (.junk _)
    | tup _ => exact .pure _ _ (.junk _)
    | _ => exact .pure _ _ ((h.pureC rfl).mono (fun _ _ => rfl) r1)
  have pA : ∀ {v x}, R w ro lam v x → R w ro' (upd lam key none) (pubA key blk v) x := by
    intro v x h
    cases v with
    | agg cs =>
      obtain ⟨arr, rfl, h1, h2⟩ := h.agg_inv
      refine .agg _ _ (by simpa using h1) fun j v y hv hy => ?_
      simp only [List.getElem?_map, Option.map_eq_some_iff] at hv
      obtain ⟨v', hv', rfl⟩ := hv
      exact pC (h2 j v' y hv' hy)
    | _ => exact pC h
  have pT : ∀ {v x}, R w ro lam v x → R w ro' (upd lam key none) (pubT key blk v) x := by
    intro v x h
    cases v with
    | tup cs =>
      obtain ⟨arr, rfl, h1, h2⟩ := h.tup_inv
      refine .tup _ _ (by simpa using h1) fun j v y hv hy => ?_
      simp only [List.getElem?_map, Option.map_eq_some_iff] at hv
      obtain ⟨v', hv', rfl⟩ := hv
      exact pA (h2 j v' y hv' hy)
    | agg cs => exact pA h
    | _ => exact pC h
  refine ⟨ro', upd lam key none, ⟨r1, fun b h => ?_⟩, ⟨hs.below, hs.dfr, hs.size, fun b h => ?_, fun t => pT (hs.env t), fun k blk' hk' => ?_, fun k hk' => ?_, fun k b m h => ?_, fun k1 k2 b m1 m2 e1 e2 => hs.inj k1 k2 b m1 m2 (hb _ _ e1).2 (hb _ _ e2).2, fun k b h => ?_⟩⟩
  · rw [hro'] at h
    rcases h with h | ⟨m, h⟩
    · exact .inl h
    · exact .inr (hs.own key b m h).1
  · rw [hro'] at h
    rcases h with h | ⟨m, h⟩
    · exact hs.rolt b h
    · exact (hs.own key b m h).2.1
  · simp only [St.pub] at hk'
    split at hk'
    · cases hk'
    · rename_i hne
      simp only [Option.map_eq_some_iff] at hk'
      obtain ⟨b0, hb0, rfl⟩ := hk'
      rcases hs.heap k b0 hb0 with ⟨hv, hc⟩ | ⟨b, o, hl', hw, hso⟩ | ⟨b, m, arr, hl', hw, h1, hle, hr⟩
      · exact .inl ⟨hl _ _ hne hv, by simp [hc]⟩
      · refine .inr (.inl ⟨b, o, hl _ _ hne hl', hw, ?_⟩)
        obtain ⟨ents, clk, rfl, hz, hr⟩ := hso
        refine ⟨ents, clk, rfl, by simpa using hz, fun j kk e hkk he => ?_⟩
        simp only [List.getElem?_map, Option.map_eq_some_iff] at hkk
        obtain ⟨k0, hk0, rfl⟩ := hkk
        obtain ⟨g1, g2⟩ := hr j k0 e hk0 he
        refine ⟨g1, ?_⟩
        exact g2.pubC
      · refine .inr (.inr ⟨b, m, arr, hl _ _ hne hl', hw, h1, by simpa using hle, fun j c x hc hx => ?_⟩)
        simp only [List.getElem?_map, Option.map_eq_some_iff] at hc
        obtain ⟨c0, hc0, rfl⟩ := hc
        exact pC (hr j c0 x hc0 hx)
  · simp only [St.pub] at hk'
    split at hk'
    · rename_i e; subst e; exact upd_same _ _ _
    · rename_i hne
      rw [upd_ne _ _ hne]
      simp only [Option.map_eq_none_iff] at hk'
      exact hs.dead k hk'
  · obtain ⟨hne, hl'⟩ := hb _ _ h
    obtain ⟨o1, o2, o3⟩ := hs.own k b m hl'
    refine ⟨o1, o2, fun hr => ?_⟩
    rw [hro'] at hr
    rcases hr with hr | ⟨m', hr⟩
    · exact o3 hr
    · exact hne (hs.inj _ _ _ _ _ hl' hr)
  · obtain ⟨hne, hl'⟩ := hb _ _ h
    obtain ⟨⟨o1, o2, o3⟩, o4⟩ := hs.maps k b hl'
    refine ⟨⟨o1, o2, fun hr => ?_⟩, fun k' h' => o4 k' (hb _ _ h').2⟩
    rw [hro'] at hr
    rcases hr with hr | ⟨m', hr⟩
    · exact o3 hr
    · rcases hs.heap key blk hk with ⟨hv, _⟩ | ⟨b', o, hv, _⟩ | ⟨b', m2, arr, hv, hw, _⟩
      · rw [hr] at hv; cases hv
      · rw [hr] at hv; cases hv
      · rw [hr] at hv
        simp only [Option.some.injEq, Prod.mk.injEq] at hv
        obtain ⟨rfl, rfl⟩ := hv
        rcases Option.isSome_iff_exists.1 (show (st.heap k).isSome = true by
          cases hkk : st.heap k with
          | none => rw [hs.dead k hkk] at hl'; cases hl'
          | some _ => rfl) with ⟨b0, hb0⟩
        rcases hs.heap k b0 hb0 with ⟨hv2, _⟩ | ⟨b2, o2', hv2, hw2, hso⟩ | ⟨b2, m3, arr3, hv2, _⟩
        · rw [hl'] at hv2; cases hv2
        · rw [hl'] at hv2
          simp only [Option.some.injEq, Prod.mk.injEq, true_and] at hv2
          have : b2 = b := by omega
          subst this
          exact hs.notMap hr hw2 hso
        · rw [hl'] at hv2; cases hv2
end
end
end Go.Pv
