/-
  Part 9: one operation of the model, as a step of the pure state.
-/
import Derived.Test.YtcbddoopmkhlfaaPv8
import Derived.Tactics
namespace Go.Pv
open Go.RowKit
set_option linter.unusedSimpArgs false

def nilCheckV : V → Option V
  | .ptr k o => some (.ptr k o)
  | .rp cs => some (.rp cs)
  | _ => none

def callK (P : Program) (Γ : Tab) (h : Nat → Option Blk) (xs : List V) (ts : List TypeId) : Callee → Option V
  | .value (.func f) => callV Γ h f xs
  | .builtin .len => (match xs, ts with
    | [x], [t] => lenV P t x
    | _, _ => none)
  | .builtin .min => (match xs with
    | v :: vs => minV v vs
    | [] => none)
  | .builtin .max => (match xs with
    | v :: vs => maxV v vs
    | [] => none)
  | _ => none

/-- Values that are known. -/
def valsL : List V → Option (List Value)
  | [] => some []
  | .val x :: vs => (valsL vs).map (x :: ·)
  | _ :: _ => none
def mkfV (fn : Fn) (fs cs : List V) : Option V := match valsL fs, valsL cs with
  | some xs, some ys => some (.val (.func fn xs.toArray ys.toArray))
  | _, _ => none
theorem valsL_sound {w : World} {ro : Nat → Prop} {lam : Lam} : ∀ (vs : List V) (xs ys : List Value), valsL vs = some xs → ys.length = vs.length → (∀ (j : Nat) (c : V) (x : Value), vs[j]? = some c → ys[j]? = some x → R w ro lam c x) → ys = xs
  | [], xs, ys, h, hl, _ => by
    simp only [valsL, Option.some.injEq] at h; subst h; exact List.eq_nil_of_length_eq_zero (by simpa using hl)
  | v :: vs, xs, [], h, hl, hr => by simp at hl
  | v :: vs, xs, y :: ys, h, hl, hr => by
    cases v with
    | val x =>
      simp only [valsL, Option.map_eq_some_iff] at h
      obtain ⟨xs', h1, rfl⟩ := h
      have h0 := hr 0 _ _ rfl rfl
      rw [valsL_sound vs xs' ys h1 (by simpa using hl) (fun j c x hc hx => hr (j + 1) c x (by simpa using hc) (by simpa using hx))]
      cases h0 with
      | pure _ _ h0 => cases h0; rfl
    | _ => simp [valsL] at h

/-- Operations that make no memory and write none. -/
def ev01 (P : Program) (Γ : Tab) (h : Nat → Option Blk) (ρ : Operand → V) : Op → Option V
  | .move x => some (ρ x)
  | .assign x => some (ρ x)
  | .pick c x y => (match ρ c with
    | .bool b => some (bif b then ρ x else ρ y)
    | _ => none)
  | .build t ps => buildV P t (ps.toList.map fun p => (p.1, ρ p.2))
  | .load t x => loadV P h t (ρ x)
  | .binOp op t x y _ => bin P op t (ρ x) (ρ y)
  | .unOp op _ x => un op (ρ x)
  | .convert s t x => convertV P s t (ρ x)
  | .sliceToArrayPointer t x => toArrV P t (ρ x)
  | .fieldAddr s x f => fieldAddrV P s (ρ x) f
  | .field s x f => fieldV P s (ρ x) f
  | .indexAddr t x i => indexAddrV P t (ρ x) (ρ i)
  | .index t x i => indexV P t (ρ x) (ρ i)
  | .extract x i => extractV (ρ x) i
  | .nilCheck x => nilCheckV (ρ x)
  | .slice t x lo hi none => sliceV P h t (ρ x) (lo.map ρ) (hi.map ρ)
  | .lookup t x k false => lookV P h t (ρ x) (ρ k)
  | .makeFunc fn fs cs => mkfV fn (fs.toList.map ρ) (cs.toList.map ρ)
  | .call c => callK P Γ h (c.args.toList.map ρ) c.argTypes.toList c.callee
  | _ => none

/-- Operations that make one block, under the key of their destination. -/
def ev2 (P : Program) (ρ : Operand → V) (d : Nat) : Op → Option (V × Blk)
  | .box t x => (boxV t (ρ x)).map fun b => (.ptr d 0, b)
  | .alloc t => (allocV P t).map fun b => (.ptr d 0, b)
  | .makeSlice t l c => (makeV P t (ρ l) (ρ c)).map fun p => (.sl d 0 p.1 p.2.2, p.2.1)
  | .buildSlice t len ps => (buildSliceV P t len (ps.toList.map fun p => (p.1, ρ p.2))).map fun p => (.sl d 0 len p.2, p.1)
  | _ => none

/-- Operations that write. -/
def ev3 (P : Program) (st : St) (dst : Option Tmp) : Op → Option (V × St)
  | .store t x v => (storeV P st.heap t (ev st x) (ev st v)).map fun h => (.undef, { st with heap := h })
  | .makeMap t none => (match dst with
    | some d => (match st.heap d with
      | none => some (.mp d, { st with heap := upd st.heap d (some ⟨t, []⟩) })
      | some _ => none)
    | none => none)
  | .mapUpdate t m k v => (mupdV P st.heap t (ev st m) (ev st k) (ev st v)).map fun h => (.undef, { st with heap := h })
  | .insert t m k v => (mupdV P st.heap t (ev st m) (ev st k) (ev st v)).map fun h => (.undef, { st with heap := h })
  | .call c => (match c.callee, c.args.toList, c.argTypes.toList, dst with
    | .builtin .append, [b, x], [t, t'], some d => bif decide (t = t') then appendV P st d t (ev st b) (ev st x) else none
    | _, _, _, _ => none)
  | _ => none

/-- 0: looks at no memory; 1: may look at memory; 2: makes a block; 3: may write. -/
def kindC : Callee → Nat
  | .value (.func _) => 1
  | .builtin .len | .builtin .min | .builtin .max => 0
  | _ => 3
def kind : Op → Nat
  | .move _ | .assign _ | .pick .. | .makeFunc .. | .build .. | .binOp .. | .unOp .. | .convert .. | .sliceToArrayPointer .. | .fieldAddr .. | .field .. | .indexAddr .. | .index .. | .extract .. | .nilCheck _ => 0
  | .load .. | .slice .. | .lookup .. => 1
  | .call c => kindC c.callee
  | .box .. | .alloc _ | .makeSlice .. | .buildSlice .. => 2
  | _ => 3

def stepOp (P : Program) (Γ : Tab) (st : St) (dst : Option Tmp) (op : Op) : Option St :=
  match kind op with
  | 0 => (ev01 P Γ st.heap (ev st) op).map (st.put dst)
  | 1 => (ev01 P Γ st.heap (ev st) op).map (st.put dst)
  | 2 => (match dst with
    | some d => (match st.heap d with
      | none => (ev2 P (ev st) d op).map fun p => { env := upd st.env d p.1, heap := upd st.heap d (some p.2) }
      | some _ => none)
    | none => none)
  | _ => (ev3 P st dst op).map fun p => p.2.put dst p.1

section
variable {w0 : Base} {n : Nat} {ro : Nat → Prop} {lam : Lam} {st : St} {a : Act} {w : World} {P : Program} {Γ : Tab}

theorem parts_sound (hs : Sim w0 n ro lam st a w) (ps : Array (Nat × Operand)) : (ps.map fun (i, x) => (i, a.eval x)).size = (ps.toList.map fun p => (p.1, ev st p.2)).length ∧
    ∀ (j : Nat) (p : Nat × V) (q : Nat × Value), (ps.toList.map fun p => (p.1, ev st p.2))[j]? = some p → (ps.map fun (i, x) => (i, a.eval x))[j]? = some q → p.1 = q.1 ∧ R w ro lam p.2 q.2 := by
  refine ⟨by simp, fun j p q hp hq => ?_⟩
  simp only [List.getElem?_map, Array.getElem?_toList, Option.map_eq_some_iff] at hp
  simp only [Array.getElem?_map, Option.map_eq_some_iff] at hq
  obtain ⟨y, hy, rfl⟩ := hp
  obtain ⟨z, hz, rfl⟩ := hq
  rw [hy] at hz
  simp only [Option.some.injEq] at hz
  subst hz
  exact ⟨rfl, hs.ev _⟩
theorem args_sound (hs : Sim w0 n ro lam st a w) (xs : Array Operand) : (xs.map a.eval).size = (xs.toList.map (ev st)).length ∧
    ∀ (j : Nat) (c : V) (x : Value), (xs.toList.map (ev st))[j]? = some c → (xs.map a.eval)[j]? = some x → R w ro lam c x := by
  refine ⟨by simp, fun j p q hp hq => ?_⟩
  simp only [List.getElem?_map, Array.getElem?_toList, Option.map_eq_some_iff] at hp
  simp only [Array.getElem?_map, Option.map_eq_some_iff] at hq
  obtain ⟨y, hy, rfl⟩ := hp
  obtain ⟨z, hz, rfl⟩ := hq
  rw [hy] at hz
  simp only [Option.some.injEq] at hz
  subst hz
  exact hs.ev _

theorem callFunc_run {f : FuncId} (h : callable P f = true) (args : Array Value) (w : World) : (callFunc f args).run P w = .ok (.enter f args) w := by
  unfold callable at h
  split at h
  · rename_i fn hf
    simp only [Bool.and_eq_true, Bool.not_eq_true'] at h
    have hb : fn.body.isNone = false := by
      cases hb : fn.body <;> simp_all
    unfold callFunc
    simp only [Sem.run_bind, run_program, Result.andThen_ok, hf, h.1, hb, Bool.false_eq_true, if_false, Sem.run_pure]
  · cases h

/-- What an operation without writes yields: a value in the world that it got, or a call's. -/
theorem ev01_sound (hΓ : TabOK P Γ) (hs : Sim w0 n ro lam st a w) {o : Oper} {v : V} (h : ev01 P Γ st.heap (ev st) o.op = some v) {K : Act → World → Prop} {Q : Exit → Act → World → Prop}
    (hK : ∀ x ro' w', Ext w0 ro ro' → Sim w0 n ro' lam st a w' → R w' ro' lam v x → K (a.put o.dst x) w') : o.wp P a w K Q := by
  have val : ∀ {s : Sem Value} {x : Value}, s.run P w = .ok x w → R w ro lam v x → o.upon P a K Q ((do pure (Next.value (← s)) : Sem Next).run P w) := fun hrun hr => by
    simp only [Sem.run_bind, hrun, Result.andThen_ok, Sem.run_pure, Oper.upon]
    exact hK _ ro w (Ext.refl _ _) hs hr
  unfold Oper.wp execOp
  cases hop : o.op with
  | move x => rw [hop] at h; simp only [ev01, Option.some.injEq] at h; subst h; simp only [Sem.run_pure, Oper.upon]; exact hK _ ro w (Ext.refl _ _) hs (hs.ev x)
  | assign x => rw [hop] at h; simp only [ev01, Option.some.injEq] at h; subst h; simp only [Sem.run_pure, Oper.upon]; exact hK _ ro w (Ext.refl _ _) hs (hs.ev x)
  | pick c x y =>
    rw [hop] at h; simp only [ev01] at h
    split at h
    · rename_i b hb
      simp only [Option.some.injEq] at h; subst h
      have hc := hs.ev c
      rw [hb] at hc
      have hcv := hc.bool_inv
      simp only [Sem.run_bind, hcv, asBool, Sem.run_pure, Result.andThen_ok, Oper.upon]
      cases b
      · exact hK _ ro w (Ext.refl _ _) hs (hs.ev y)
      · exact hK _ ro w (Ext.refl _ _) hs (hs.ev x)
    · cases h
  | build t ps =>
    rw [hop] at h; simp only [ev01] at h
    obtain ⟨h1, h2⟩ := parts_sound hs ps
    obtain ⟨z, hz, hr⟩ := buildV_sound h h1 h2
    exact val hz hr
  | load t x => rw [hop] at h; obtain ⟨z, hz, hr⟩ := loadV_sound hs h (hs.ev x); exact val hz hr
  | makeFunc fn fs cs =>
    rw [hop] at h; simp only [ev01, mkfV] at h
    split at h
    · rename_i xs ys h1 h2
      simp only [Option.some.injEq] at h; subst h
      obtain ⟨f1, f2⟩ := args_sound hs fs
      obtain ⟨c1, c2⟩ := args_sound hs cs
      have e1 := valsL_sound _ xs (fs.map a.eval).toList h1 (by simp) (fun j c x hc hx => f2 j c x hc (by simpa using hx))
      have e2 := valsL_sound _ ys (cs.map a.eval).toList h2 (by simp) (fun j c x hc hx => c2 j c x hc (by simpa using hx))
      refine val (s := Instr.makeFunc fn (fs.map a.eval) (cs.map a.eval)) rfl ?_
      rw [← e1, ← e2]
      exact .pure _ _ (.val _)
    · cases h
  | lookup t x k ok =>
    rw [hop] at h
    cases ok with
    | true => simp [ev01] at h
    | false => obtain ⟨z, hz, hr⟩ := lookV_sound hs h (hs.ev x) (hs.ev k); exact val hz hr
  | binOp op t x y ty => rw [hop] at h; obtain ⟨z, hz, hr⟩ := bin_sound x y h (hs.ev x) (hs.ev y); exact val hz hr
  | unOp op t x => rw [hop] at h; obtain ⟨z, hz, hr⟩ := un_sound (P := P) h (hs.ev x); exact val hz hr
  | sliceToArrayPointer t x => rw [hop] at h; obtain ⟨z, hz, hr⟩ := toArrV_sound h (hs.ev x); exact val hz hr
  | convert s t x => rw [hop] at h; obtain ⟨z, hz, hr⟩ := convertV_sound h (hs.ev x); exact val hz hr
  | fieldAddr s x f => rw [hop] at h; obtain ⟨z, hz, hr⟩ := fieldAddrV_sound h (hs.ev x); exact val hz hr
  | field s x f => rw [hop] at h; obtain ⟨z, hz, hr⟩ := fieldV_sound h (hs.ev x); exact val hz hr
  | indexAddr t x i => rw [hop] at h; obtain ⟨z, hz, hr⟩ := indexAddrV_sound h (hs.ev x) (hs.ev i); exact val hz hr
  | index t x i => rw [hop] at h; obtain ⟨z, hz, hr⟩ := indexV_sound h (hs.ev x) (hs.ev i); exact val hz hr
  | extract x i => rw [hop] at h; obtain ⟨z, hz, hr⟩ := extractV_sound (P := P) h (hs.ev x); exact val hz hr
  | nilCheck x =>
    rw [hop] at h; simp only [ev01] at h
    have hx := hs.ev x
    generalize hev : ev st x = u at h hx
    cases u with
    | ptr k off =>
      simp only [nilCheckV, Option.some.injEq] at h; subst h
      obtain ⟨b, m, hl, hv⟩ := hx.ptr_inv
      simp only [hv, Sem.run_pure, Oper.upon]
      exact hK _ ro w (Ext.refl _ _) hs (hv ▸ hx)
    | rp cs =>
      simp only [nilCheckV, Option.some.injEq] at h; subst h
      obtain ⟨ad, g, hv, _⟩ := hx.rp_inv
      simp only [hv, Sem.run_pure, Oper.upon]
      exact hK _ ro w (Ext.refl _ _) hs (hv ▸ hx)
    | _ => simp [nilCheckV] at h
  | slice t x lo hi mx =>
    rw [hop] at h
    cases mx with
    | some m => simp [ev01] at h
    | none =>
      simp only [ev01] at h
      obtain ⟨z, hz, hr⟩ := sliceV_sound hs (Lo := lo.map a.eval) (Hi := hi.map a.eval) h (hs.ev x)
        (fun v hv => by cases lo with | none => simp at hv | some y => simp at hv; subst hv; exact ⟨_, rfl, hs.ev y⟩) (fun hv => by cases lo with | none => rfl | some y => simp at hv)
        (fun v hv => by cases hi with | none => simp at hv | some y => simp at hv; subst hv; exact ⟨_, rfl, hs.ev y⟩) (fun hv => by cases hi with | none => rfl | some y => simp at hv)
      exact val hz hr
  | call c =>
    rw [hop] at h; simp only [ev01] at h
    obtain ⟨h1, h2⟩ := args_sound hs c.args
    obtain ⟨callee, args, argTypes⟩ := c
    simp only at h h1 h2
    cases callee with
    | value f =>
      cases f with
      | func f =>
        simp only [callK] at h
        rcases callV_sound hΓ hs h h1 h2 with ⟨hcall, hcc⟩ | ⟨x, hx, hrx⟩
        case inr =>
          have hrun : ((do let d ← resolve a.eval { callee := .value (.func f), args := args, argTypes := argTypes } o.type; invoke d.target d.args) : Sem Next).run P w = .ok (.value x) w := by
            simp [resolve, Act.eval, Deferred.ofValue, invoke, hx]
          simp only [hrun, Oper.upon]
          exact hK _ ro w (Ext.refl _ _) hs hrx
        have hrun : ((do let d ← resolve a.eval { callee := .value (.func f), args := args, argTypes := argTypes } o.type; invoke d.target d.args) : Sem Next).run P w = .ok (.enter f (args.map a.eval)) w := by
          simp [resolve, Act.eval, Deferred.ofValue, invoke, callFunc_run hcall]
        simp only [hrun, Oper.upon]
        refine hcc.mono fun e w' hh => ?_
        obtain ⟨rv, ro', rfl, hext, hs', hr⟩ := hh
        exact hK rv ro' w' hext hs' hr
      | _ => simp [callK] at h
    | builtin b =>
      have hb : ∀ {s : Sem Value} {x : Value}, (∀ cs : Array Bool, (builtin b argTypes o.type cs (args.map a.eval)) = (do pure (.value (← s)))) → s.run P w = .ok x w → R w ro lam v x →
          o.upon P a K Q (((do let d ← resolve a.eval { callee := .builtin b, args := args, argTypes := argTypes } o.type; invoke d.target d.args) : Sem Next).run P w) := @fun s x he hrun hr => by
        have : ((do let d ← resolve a.eval { callee := .builtin b, args := args, argTypes := argTypes } o.type; invoke d.target d.args) : Sem Next).run P w = ((do pure (Next.value (← s)) : Sem Next)).run P w := by
          simp only [resolve, Sem.run_bind, Sem.run_pure, Result.andThen_ok, invoke]
          rw [he]
          simp only [Sem.run_bind, Sem.run_pure]
        rw [this]
        exact val hrun hr
      cases b with
      | len =>
        simp only [callK] at h
        split at h
        · rename_i x t hx ht
          have hat : argTypes = #[t] := by rw [← Array.toList_inj]; exact ht
          have harg : args.map a.eval = #[(args.map a.eval).getD 0 Go.undef] := by
            have hsz : (args.map a.eval).size = 1 := by rw [h1, hx]; rfl
            apply Array.ext
            · simpa using hsz
            · intro i hi1 hi2
              have : i = 0 := by simp at hi2; omega
              subst this
              simp only [Array.getD_eq_getD_getElem?, Array.getElem?_eq_getElem hi1]
              rfl
          have hr0 : R w ro lam x ((args.map a.eval).getD 0 Go.undef) := h2 0 x _ (by rw [hx]; rfl) (by
            have hsz : 0 < (args.map a.eval).size := by rw [h1, hx]; exact Nat.zero_lt_one
            simp [Array.getD_eq_getD_getElem?, Array.getElem?_eq_getElem hsz])
          obtain ⟨z, hz, hr⟩ := lenV_sound (ty := o.type) h hr0
          refine hb (s := Builtin.len_ argTypes o.type (args.map a.eval)) (fun _ => rfl) ?_ hr
          rw [hat, harg]; exact hz
        · cases h
      | min =>
        simp only [callK] at h
        split at h
        · rename_i x xs hx
          obtain ⟨X, Xs, hX⟩ : ∃ X Xs, (args.map a.eval).toList = X :: Xs := by
            have hlen : (args.map a.eval).toList.length = (x :: xs).length := by rw [← hx]; simp
            cases hl : (args.map a.eval).toList with
            | nil => rw [hl] at hlen; simp at hlen
            | cons X Xs => exact ⟨X, Xs, rfl⟩
          have hat : ∀ j y, (args.map a.eval)[j]? = some y ↔ (X :: Xs)[j]? = some y := fun j y => by rw [← hX, Array.getElem?_toList]
          have hlen' : (X :: Xs).length = (x :: xs).length := by rw [← hX, ← hx]; simp
          obtain ⟨z, hz, hr⟩ := minV_sound (P := P) xs x v Xs X h (h2 0 x X (by rw [hx]; rfl) ((hat 0 X).2 rfl)) (by simpa using hlen')
            (fun j c y hc hy => h2 (j + 1) c y (by rw [hx]; simpa using hc) ((hat (j + 1) y).2 (by simpa using hy)))
          refine hb (s := Builtin.min_ argTypes o.type (args.map a.eval)) (fun _ => rfl) ?_ hr
          simp only [Builtin.min_, hX]; exact hz
        · cases h
      | max =>
        simp only [callK] at h
        split at h
        · rename_i x xs hx
          obtain ⟨X, Xs, hX⟩ : ∃ X Xs, (args.map a.eval).toList = X :: Xs := by
            have hlen : (args.map a.eval).toList.length = (x :: xs).length := by rw [← hx]; simp
            cases hl : (args.map a.eval).toList with
            | nil => rw [hl] at hlen; simp at hlen
            | cons X Xs => exact ⟨X, Xs, rfl⟩
          have hat : ∀ j y, (args.map a.eval)[j]? = some y ↔ (X :: Xs)[j]? = some y := fun j y => by rw [← hX, Array.getElem?_toList]
          have hlen' : (X :: Xs).length = (x :: xs).length := by rw [← hX, ← hx]; simp
          obtain ⟨z, hz, hr⟩ := maxV_sound (P := P) xs x v Xs X h (h2 0 x X (by rw [hx]; rfl) ((hat 0 X).2 rfl)) (by simpa using hlen')
            (fun j c y hc hy => h2 (j + 1) c y (by rw [hx]; simpa using hc) ((hat (j + 1) y).2 (by simpa using hy)))
          refine hb (s := Builtin.max_ argTypes o.type (args.map a.eval)) (fun _ => rfl) ?_ hr
          simp only [Builtin.max_, hX]; exact hz
        · cases h
      | _ => simp [callK] at h
    | invoke r m => simp [callK] at h
  | _ => rw [hop] at h; simp [ev01] at h

theorem ev2_sound (hs : Sim w0 n ro lam st a w) {o : Oper} {d : Nat} {v : V} {blk : Blk} (hd : o.dst = some d) (hfr : st.heap d = none) (h : ev2 P (ev st) d o.op = some (v, blk)) (hn : d < n)
    {K : Act → World → Prop} {Q : Exit → Act → World → Prop}
    (hK : ∀ a' lam' w', Sim w0 n ro lam' { env := upd st.env d v, heap := upd st.heap d (some blk) } a' w' → K a' w') : o.wp P a w K Q := by
  have fin : ∀ {s : Sem Value} {x : Value} {w' : World} {lam' : Lam}, s.run P w = .ok x w' → Sim w0 n ro lam' { st with heap := upd st.heap d (some blk) } a w' → R w' ro lam' v x → o.upon P a K Q ((do pure (Next.value (← s)) : Sem Next).run P w) := fun hrun hsim hr => by
    simp only [Sem.run_bind, hrun, Result.andThen_ok, Sem.run_pure, Oper.upon]
    have := hsim.put (d := some d) (by simpa [fits] using hn) hr
    rw [hd]
    exact hK _ _ _ this
  unfold Oper.wp execOp
  cases hop : o.op with
  | box t x =>
    rw [hop] at h; simp only [ev2, Option.map_eq_some_iff, Prod.mk.injEq] at h
    obtain ⟨b, hb, rfl, rfl⟩ := h
    obtain ⟨w', lam', h1, h2, h3⟩ := boxV_sound (P := P) hs hfr hb (hs.ev x)
    exact fin h1 h2 h3
  | alloc t =>
    rw [hop] at h; simp only [ev2, Option.map_eq_some_iff, Prod.mk.injEq] at h
    obtain ⟨b, hb, rfl, rfl⟩ := h
    obtain ⟨w', lam', h1, h2, h3⟩ := allocV_sound hs hfr hb
    exact fin h1 h2 h3
  | makeSlice t l c =>
    rw [hop] at h; simp only [ev2, Option.map_eq_some_iff, Prod.mk.injEq] at h
    obtain ⟨p, hb, rfl, rfl⟩ := h
    obtain ⟨z, w', lam', h1, h2, h3⟩ := makeV_sound hs hfr hb (hs.ev l) (hs.ev c)
    exact fin h1 h2 h3
  | buildSlice t len ps =>
    rw [hop] at h; simp only [ev2, Option.map_eq_some_iff, Prod.mk.injEq] at h
    obtain ⟨p, hb, rfl, rfl⟩ := h
    obtain ⟨h1, h2⟩ := parts_sound hs ps
    obtain ⟨z, w', lam', h3, h4, h5⟩ := buildSliceV_sound hs hfr hb h1 h2
    exact fin h3 h4 h5
  | _ => rw [hop] at h; simp [ev2] at h

theorem ev3_sound (hs : Sim w0 n ro lam st a w) {o : Oper} {v : V} {st' : St} (h : ev3 P st o.dst o.op = some (v, st')) (hn : fits n o.dst = true)
    {K : Act → World → Prop} {Q : Exit → Act → World → Prop}
    (hK : ∀ a' lam' w', Sim w0 n ro lam' (st'.put o.dst v) a' w' → K a' w') : o.wp P a w K Q := by
  unfold Oper.wp execOp
  cases hop : o.op with
  | store t x y =>
    rw [hop] at h; simp only [ev3, Option.map_eq_some_iff, Prod.mk.injEq] at h
    obtain ⟨h', hb, rfl, rfl⟩ := h
    obtain ⟨w', h1, h2⟩ := storeV_sound hs hb (hs.ev x) (hs.ev y)
    simp only [Sem.run_bind, h1, Result.andThen_ok, Sem.run_pure, Oper.upon]
    exact hK _ _ _ (h2.put hn (.pure _ _ .undef))
  | makeMap t r =>
    rw [hop] at h
    cases r with
    | some _ => simp [ev3] at h
    | none =>
      simp only [ev3] at h
      split at h
      · rename_i d hd
        split at h
        · rename_i hfr
          simp only [Option.some.injEq, Prod.mk.injEq] at h
          obtain ⟨rfl, rfl⟩ := h
          have hrun : (Instr.makeMap t none).run P w = .ok (.map (some w.heap.size)) (w.alloc (.map #[] 0)) := by simp [Instr.makeMap, run_newObj]
          simp only [Option.map_none, Sem.run_bind, hrun, Result.andThen_ok, Sem.run_pure, Oper.upon]
          refine hK _ _ _ ((hs.allocMap hfr).put hn ?_)
          exact .mp d _ (upd_same _ _ _)
        · cases h
      · cases h
  | mapUpdate t x k y =>
    rw [hop] at h; simp only [ev3, Option.map_eq_some_iff, Prod.mk.injEq] at h
    obtain ⟨h', hb, rfl, rfl⟩ := h
    obtain ⟨w', h1, h2⟩ := mupdV_sound hs hb (hs.ev x) (hs.ev k) (hs.ev y)
    simp only [Sem.run_bind, h1, Result.andThen_ok, Sem.run_pure, Oper.upon]
    exact hK _ _ _ (h2.put hn (.pure _ _ .undef))
  | insert t x k y =>
    rw [hop] at h; simp only [ev3, Option.map_eq_some_iff, Prod.mk.injEq] at h
    obtain ⟨h', hb, rfl, rfl⟩ := h
    obtain ⟨w', h1, h2⟩ := mupdV_sound hs hb (hs.ev x) (hs.ev k) (hs.ev y)
    simp only [Sem.run_bind, h1, Result.andThen_ok, Sem.run_pure, Oper.upon]
    exact hK _ _ _ (h2.put hn (.pure _ _ .undef))
  | call c =>
    rw [hop] at h; simp only [ev3] at h
    obtain ⟨callee, args, argTypes⟩ := c
    simp only at h
    split at h
    · rename_i b x t t' d hargs hts hdst
      simp only [cond_eq_ite, decide_eq_true_eq] at h
      split at h
      · rename_i htt
        subst htt
        have hat : argTypes = #[t, t] := by rw [← Array.toList_inj]; exact hts
        have harg : args = #[b, x] := by rw [← Array.toList_inj]; exact hargs
        obtain ⟨z, w', lam', h1, h2, h3⟩ := appendV_sound (ty := o.type) hs h (hs.ev b) (hs.ev x)
        subst hat; subst harg
        have hrun : ((do let d ← resolve a.eval { callee := .builtin .append, args := #[b, x], argTypes := #[t, t] } o.type; invoke d.target d.args) : Sem Next).run P w = .ok (.value z) w' := by
          simp only [resolve, Sem.run_bind, Sem.run_pure, Result.andThen_ok, invoke, builtin, List.map_toArray, List.map_cons, List.map_nil, h1]
        simp only [hrun, Oper.upon]
        exact hK _ _ _ (h2.put hn h3)
      · cases h
    · cases h
  | _ => rw [hop] at h; simp [ev3] at h

/-- One operation. -/
theorem stepOp_sound (hΓ : TabOK P Γ) (hs : Sim w0 n ro lam st a w) {o : Oper} {st' : St} (h : stepOp P Γ st o.dst o.op = some st') (hn : fits n o.dst = true)
    {K : Act → World → Prop} {Q : Exit → Act → World → Prop}
    (hK : ∀ a' ro' lam' w', Ext w0 ro ro' → Sim w0 n ro' lam' st' a' w' → K a' w') : o.wp P a w K Q := by
  unfold stepOp at h
  split at h
  · simp only [Option.map_eq_some_iff] at h
    obtain ⟨v, hv, rfl⟩ := h
    exact ev01_sound hΓ hs hv fun x ro' w' hext hs' hr => hK _ ro' lam w' hext (hs'.put hn hr)
  · simp only [Option.map_eq_some_iff] at h
    obtain ⟨v, hv, rfl⟩ := h
    exact ev01_sound hΓ hs hv fun x ro' w' hext hs' hr => hK _ ro' lam w' hext (hs'.put hn hr)
  · split at h
    · rename_i d hd
      split at h
      · rename_i hfr
        simp only [Option.map_eq_some_iff] at h
        obtain ⟨p, hp, rfl⟩ := h
        rw [hd] at hn
        exact ev2_sound hs hd hfr hp (by simpa [fits] using hn) fun a' lam' w' hs' => hK a' ro lam' w' (Ext.refl _ _) hs'
      · cases h
    · cases h
  · simp only [Option.map_eq_some_iff] at h
    obtain ⟨p, hp, rfl⟩ := h
    exact ev3_sound hs hp hn fun a' lam' w' hs' => hK a' ro lam' w' (Ext.refl _ _) hs'

/-! ### guards -/
def wantV (ops : Array Oper) (st : St) (g : Option (Nat × Bool)) : Option Bool := match g with
  | none => some true
  | some (j, want) => (match (ops[j]?).bind (·.dst) with
    | some d => (match st.env d with
      | .bool b => some (b == want)
      | .undef => some false
      | _ => none)
    | none => some false)
theorem wantV_sound (hs : Sim w0 n ro lam st a w) {ops : Array Oper} {o : Oper} {b : Bool} (h : wantV ops st o.guard = some b) : Region.wanted o (yielded ops a.tmps) = b := by
  unfold wantV at h
  unfold Region.wanted
  split at h
  · rename_i hg
    simp only [Option.some.injEq] at h; subst h; simp [hg]
  · rename_i j want hg
    simp only [hg]
    split at h
    · rename_i d hd
      have he := hs.env d
      split at h
      · rename_i b' hb'
        rw [hb'] at he
        have hv := he.bool_inv
        simp only [Option.some.injEq] at h; subst h
        have hget : a.tmps[d]? = some (.bool b') := by
          rw [Array.getD_eq_getD_getElem?] at hv
          cases ht : a.tmps[d]? with
          | none => rw [ht] at hv; simp [Go.undef] at hv
          | some x => rw [ht] at hv; simpa using hv
        simp [yielded, hd, hget]
      · rename_i hb'
        rw [hb'] at he
        have hv := he.undef_inv
        simp only [Option.some.injEq] at h; subst h
        have : yielded ops a.tmps j = none := by
          unfold yielded
          rw [hd]
          simp only [Option.bind_some]
          cases ht : a.tmps[d]? with
          | none => rfl
          | some x =>
            rw [Array.getD_eq_getD_getElem?, ht] at hv
            simp only [Option.getD_some] at hv
            subst hv
            rfl
        rw [this]; rfl
      · cases h
    · rename_i hd
      simp only [Option.some.injEq] at h; subst h
      have : yielded ops a.tmps j = none := by
        unfold yielded
        rw [hd]; rfl
      rw [this]; rfl

/-- One operation with its guard. -/
def stepO (P : Program) (Γ : Tab) (n : Nat) (ops : Array Oper) (o : Oper) (st : St) : Option St :=
  bif fits n o.dst then (match wantV ops st o.guard with
    | some true => stepOp P Γ st o.dst o.op
    | some false => some (st.put o.dst .undef)
    | none => none) else none
theorem stepO_sound (hΓ : TabOK P Γ) (hs : Sim w0 n ro lam st a w) {ops : Array Oper} {o : Oper} {st' : St} (h : stepO P Γ n ops o st = some st')
    {K : Act → World → Prop} {Q : Exit → Act → World → Prop}
    (hK : ∀ a' ro' lam' w', Ext w0 ro ro' → Sim w0 n ro' lam' st' a' w' → K a' w') :
    if Region.wanted o (yielded ops a.tmps) then o.wp P a w K Q ∨ (o.asks P a w ∧ LetsOut Q) else K (a.put o.dst Go.undef) w := by
  unfold stepO at h
  simp only [cond_eq_ite] at h
  split at h
  · rename_i hn
    split at h
    · rename_i hw
      rw [wantV_sound hs hw, if_pos rfl]
      exact .inl (stepOp_sound hΓ hs h hn hK)
    · rename_i hw
      simp only [Option.some.injEq] at h; subst h
      rw [wantV_sound hs hw, if_neg (by simp)]
      exact hK _ ro lam w (Ext.refl _ _) (hs.put hn (.pure _ _ .undef))
    · cases h
  · cases h

def evL (P : Program) (Γ : Tab) (n : Nat) (ops : Array Oper) : List Oper → St → Option St
  | [], st => some st
  | o :: rest, st => (stepO P Γ n ops o st).bind (evL P Γ n ops rest)

theorem evL_sound (hΓ : TabOK P Γ) {ops : Array Oper} {Q : Exit → Act → World → Prop} : ∀ (l : List Oper) (st st' : St) (ro : Nat → Prop) (lam : Lam) (a : Act) (w : World), evL P Γ n ops l st = some st' → Sim w0 n ro lam st a w →
    (∀ a' ro' lam' w', Ext w0 ro ro' → Sim w0 n ro' lam' st' a' w' → Q .normal a' w') → wpList P ops Q l a w
  | [], st, st', ro, lam, a, w, h, hs, hQ => by
    simp only [evL, Option.some.injEq] at h; subst h
    exact hQ a ro lam w (Ext.refl _ _) hs
  | o :: rest, st, st', ro, lam, a, w, h, hs, hQ => by
    simp only [evL, Option.bind_eq_some_iff] at h
    obtain ⟨st1, h1, h2⟩ := h
    exact stepO_sound hΓ hs h1 fun a' ro' lam' w' hext hs' => evL_sound hΓ rest st1 st' ro' lam' a' w' h2 hs' fun a'' ro'' lam'' w'' hext' hs'' => hQ a'' ro'' lam'' w'' (hext.trans hext') hs''
end
end Go.Pv
