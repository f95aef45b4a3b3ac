/-
  Part 8: slices, lending, publishing, calls.
-/
import Derived.Test.YtcbddoopmkhlfaaPv7
namespace Go.Pv
open Go.RowKit
set_option linter.unusedSimpArgs false

/-- What a call answers, for pure arguments: in every memory in which the arguments read so, the call returns a value that reads so, and turns nothing that was there. -/
def PCall (P : Program) (f : FuncId) (vs : List V) (v : V) : Prop :=
  ∀ (w : World) (ro : Nat → Prop) (args : Array Value), (∀ b, ro b → b < w.heap.size) → args.size = vs.length →
    (∀ (j : Nat) (c : V) (x : Value), vs[j]? = some c → args[j]? = some x → R0 w ro c x) →
    Calls P f args w fun e w' => ∃ rv ro', e = .returned rv ∧ Below w.heap.size w w' ∧ (∀ b, ro b → ro' b) ∧ (∀ b, ro' b → ro b ∨ w.heap.size ≤ b) ∧ (∀ b, ro' b → b < w'.heap.size) ∧ R0 w' ro' v rv

/-- So, and what it returns lies in memory that the call made. -/
def PFresh (P : Program) (f : FuncId) (vs : List V) (v : V) : Prop :=
  ∀ (w : World) (ro : Nat → Prop) (args : Array Value), (∀ b, ro b → b < w.heap.size) → args.size = vs.length →
    (∀ (j : Nat) (c : V) (x : Value), vs[j]? = some c → args[j]? = some x → R0 w ro c x) →
    Calls P f args w fun e w' => ∃ rv, e = .returned rv ∧ Below w.heap.size w w' ∧ R0 w' (fun b => w.heap.size ≤ b ∧ b < w'.heap.size) v rv
theorem PFresh.pcall {P : Program} {f : FuncId} {vs : List V} {v : V} (h : PFresh P f vs v) : PCall P f vs v := by
  intro w ro args hro hsz hr
  refine (h w ro args hro hsz hr).mono fun e w' hh => ?_
  obtain ⟨rv, rfl, hb, hv⟩ := hh
  refine ⟨rv, fun b => ro b ∨ (w.heap.size ≤ b ∧ b < w'.heap.size), rfl, hb, fun b h => .inl h, fun b h => h.imp id And.left, fun b h => ?_, hv.mono (fun _ _ => rfl) (fun b h => .inr h)⟩
  rcases h with h | h
  · exact Nat.lt_of_lt_of_le (hro b h) hb.size
  · exact h.2

/-- A table of answers; of which functions what they return is new memory. -/
structure Tab where
  at' : FuncId → List V → Option V
  fr : FuncId → Bool
  gb : FuncId → Bool
  gv : FuncId → List V → Option (V × List (Nat × Blk))
/-- The blocks of the call's own. -/
def ownB (lam : Lam) (b : Nat) : Prop := ∃ key, lamB lam key b
/-- The blocks of the call's own, by themselves. -/
def HS (W : World) (ro : Nat → Prop) (lam : Lam) (h : Nat → Option Blk) : Prop := Sim ⟨W, ownB lam, []⟩ 0 ro lam ⟨fun _ => .junk, h⟩ { tmps := #[], defers := [] } W
def blkOf : List (Nat × Blk) → Nat → Option Blk
  | [], _ => none
  | (k, b) :: bl, key => if key = k then some b else blkOf bl key
/-- What a call gives away: new memory that the caller may write. -/
def PGive (P : Program) (f : FuncId) (vs : List V) (u : V) (bl : List (Nat × Blk)) : Prop :=
  ∀ (w : World) (ro : Nat → Prop) (args : Array Value), (∀ b, ro b → b < w.heap.size) → args.size = vs.length →
    (∀ (j : Nat) (c : V) (x : Value), vs[j]? = some c → args[j]? = some x → R0 w ro c x) →
    Calls P f args w fun e w' => ∃ rv ro' lam', e = .returned rv ∧ Below w.heap.size w w' ∧ (∀ b, ro b → ro' b) ∧ (∀ b, ro' b → ro b ∨ w.heap.size ≤ b) ∧ HS w' ro' lam' (blkOf bl) ∧ (∀ b, ownB lam' b → w.heap.size ≤ b) ∧ R w' ro' lam' u rv
def callable (P : Program) (f : FuncId) : Bool := match P.funcs[f]? with
  | some fn => !(fn.name == "runtime.NumGoroutine") && fn.body.isSome
  | none => false
/-- What a function without a Go body answers: a value without memory, in the world that it got. -/
def PExt (P : Program) (f : FuncId) (vs : List V) (v : V) : Prop :=
  ∀ (w : World) (ro : Nat → Prop) (args : Array Value), args.size = vs.length →
    (∀ (j : Nat) (c : V) (x : Value), vs[j]? = some c → args[j]? = some x → R0 w ro c x) → ∃ x, (callFunc f args).run P w = .ok (.value x) w ∧ R0 w ro v x
def TabC (P : Program) (Γ : Tab) (f : FuncId) (vs : List V) (v : V) : Prop := callable P f = true ∧ PCall P f vs v ∧ (Γ.fr f = true → PFresh P f vs v)
def extFlat : V → Bool
  | .bool _ | .int .. | .str _ => true
  | .tup vs => vs.all fun c => match c with
    | .bool _ | .int .. | .str _ => true
    | _ => false
  | _ => false
def TabOK (P : Program) (Γ : Tab) : Prop := (∀ f vs v, Γ.at' f vs = some v → TabC P Γ f vs v ∨ (extFlat v = true ∧ PExt P f vs v)) ∧ ∀ f vs u bl, Γ.gb f = true → Γ.gv f vs = some (u, bl) → callable P f = true ∧ PGive P f vs u bl

section
variable {w0 : Base} {n : Nat} {ro : Nat → Prop} {lam : Lam} {st : St} {a : Act} {w : World} {P : Program}

/-! ### s[lo:hi] -/
def bndV (x : Option V) (dflt : Nat) : Option Nat := match x with
  | none => some dflt
  | some (.int _ i) => bif decide (0 ≤ i) then some i.toNat else none
  | _ => none
def sliceV (P : Program) (h : Nat → Option Blk) (t : TypeId) (x : V) (lo hi : Option V) : Option V := match td P t with
  | some d => (match d.slc with
    | some (_, s) => (match x with
      | .list sz xs => (match bndV lo 0, bndV hi xs.length with
        | some l, some u => bif decide (s = sz) && (decide (l ≤ u) && decide (u ≤ xs.length)) then some (bif decide (l = u) then .list sz [] else .list sz ((xs.drop l).take (u - l))) else none
        | _, _ => none)
      | .sl key off len sz => (match bndV lo 0, bndV hi len with
        | some l, some u => bif decide (s = sz) && (decide (l ≤ u) && decide (u ≤ len)) then some (bif decide (l = u) then .list sz [] else .sl key (off + l * sz) (u - l) sz) else none
        | _, _ => none)
      | .nils => (match bndV lo 0, bndV hi 0 with
        | some 0, some 0 => some .nils
        | _, _ => none)
      | _ => none)
    | none => (match d.arr, x with
      | some (m, s, _), .ptr key off => (match bndV lo 0, bndV hi m, h key with
        | some l, some u, some blk => bif decide (l < u) && (decide (u ≤ m) && (decide (off + m * s ≤ blk.cells.length) && decide (m ≤ 9223372036854775807))) then some (.sl key (off + l * s) (u - l) s) else none
        | _, _, _ => none)
      | _, _ => none))
  | none => none

theorem bnd_sound {x : Option V} {X : Option Value} {dflt l y : Nat} {code : BoundsCode} (h : bndV x dflt = some l) (hx : ∀ v, x = some v → ∃ z, X = some z ∧ R w ro lam v z) (hn : x = none → X = none) (hle : l ≤ y) :
    (X = none ∧ l = dflt) ∨ ∃ z, X = some z ∧ (Instr.sliceBound z y code).run P w = .ok l w := by
  unfold bndV at h
  split at h
  · simp only [Option.some.injEq] at h; exact .inl ⟨hn rfl, h.symm⟩
  · rename_i k i
    simp only [cond_eq_ite, decide_eq_true_eq] at h
    split at h
    · rename_i h0
      simp only [Option.some.injEq] at h
      obtain ⟨z, hz, hr⟩ := hx _ rfl
      have := hr.int_inv; subst this
      refine .inr ⟨_, hz, ?_⟩
      have hle' : i ≤ (y : Int) := by omega
      simp [Instr.sliceBound, asIntOf, h0, hle', h]
    · cases h
  · cases h

theorem bounds_sound {lo hi : Option V} {Lo Hi : Option Value} {len cap l u : Nat} {sl : Bool} (hl : bndV lo 0 = some l) (hu : bndV hi len = some u) (h1 : l ≤ u) (h2 : u ≤ len) (h3 : len ≤ cap)
    (xl : ∀ v, lo = some v → ∃ z, Lo = some z ∧ R w ro lam v z) (nl : lo = none → Lo = none) (xh : ∀ v, hi = some v → ∃ z, Hi = some z ∧ R w ro lam v z) (nh : hi = none → Hi = none) :
    (Instr.sliceBounds sl len cap Lo Hi none).run P w = .ok (l, u, cap) w := by
  have hb := bnd_sound (P := P) (y := cap) (code := if sl then .sliceAcap else .sliceAlen) hu xh nh (by omega)
  have hb' := bnd_sound (P := P) (y := u) (code := .sliceB) hl xl nl h1
  rcases hb with ⟨rfl, rfl⟩ | ⟨z, rfl, hz⟩ <;> rcases hb' with ⟨rfl, rfl⟩ | ⟨y, rfl, hy⟩ <;> simp [Instr.sliceBounds, *]

theorem sliceV_sound (hs : Sim w0 n ro lam st a w) {t : TypeId} {x v : V} {X : Value} {lo hi : Option V} {Lo Hi : Option Value} (h : sliceV P st.heap t x lo hi = some v) (hx : R w ro lam x X)
    (xl : ∀ v, lo = some v → ∃ z, Lo = some z ∧ R w ro lam v z) (nl : lo = none → Lo = none) (xh : ∀ v, hi = some v → ∃ z, Hi = some z ∧ R w ro lam v z) (nh : hi = none → Hi = none) :
    ∃ z, (Instr.sliceAt t X Lo Hi none).run P w = .ok z w ∧ R w ro lam v z := by
  unfold sliceV at h
  split at h
  · rename_i d hd
    split at h
    · rename_i e s hslc
      obtain ⟨hu, ag, hp⟩ := td_slc' hd hslc
      obtain ⟨ie, De, e1, e2, e3, e4⟩ := partD_some hp
      split at h
      · rename_i sz xs
        split at h
        · rename_i l u hl hu'
          simp only [cond_eq_ite, Bool.and_eq_true, decide_eq_true_eq] at h
          split at h
          · rename_i hc
            obtain ⟨rfl, h1, h2⟩ := hc
            simp only [Option.some.injEq] at h
            rcases hx.list_inv with ⟨rfl, ad, cap, rfl⟩ | ⟨ad, cap, g, rfl, hro, huni, hcap, hg, hr⟩
            · have hb := bounds_sound (P := P) (cap := cap) (sl := true) hl hu' h1 h2 (by simp) xl nl xh nh
              simp only [List.length_nil] at hb h2
              have h0 : u = 0 := by omega
              have h0' : l = 0 := by omega
              subst h0; subst h0'
              simp only [if_true] at h
              subst h
              exact ⟨_, by (simp [Instr.sliceAt, Instr.slice, run_underlying hu, hb, run_sizeOf' e1]) <;> first | exact ⟨rfl, rfl⟩ | rfl, .pure _ _ (.list0 _ _ _)⟩
            · have hb := bounds_sound (P := P) (cap := cap) (sl := true) hl hu' h1 h2 hcap xl nl xh nh
              split at h
              · rename_i hlu
                subst hlu; subst h
                refine ⟨_, by (simp [Instr.sliceAt, Instr.slice, run_underlying hu, hb, run_sizeOf' e1, e3]) <;> first | exact ⟨rfl, rfl⟩ | rfl, .pure _ _ ?_⟩
                exact .list0 _ _ _
              · rename_i hlu
                subst h
                have hne : ¬ cap = l := by omega
                refine ⟨.slice (some (ad.add (l * s))) (u - l) (cap - l), by simp [Instr.sliceAt, Instr.slice, run_underlying hu, hb, run_sizeOf' e1, e3, hne], .pure _ _ ?_⟩
                have hlen : ((xs.drop l).take (u - l)).length = u - l := by simp; omega
                have hat : ∀ i c, ((xs.drop l).take (u - l))[i]? = some c → xs[l + i]? = some c := fun i c hc => by
                  rw [List.getElem?_take] at hc
                  split at hc
                  · simpa using hc
                  · cases hc
                suffices hkey : R0 w ro (.list s ((xs.drop l).take (u - l))) (.slice (some (ad.add (l * s))) ((xs.drop l).take (u - l)).length (cap - l)) by rw [hlen] at hkey; exact hkey
                refine .list s _ _ _ (fun i j => g (l + i) j) (by rw [block_add]; exact hro) (fun c hc => huni c (List.mem_of_mem_drop (List.mem_of_mem_take hc))) (by rw [hlen]; omega) (fun i j c y hc hy => ?_) (fun i j c y hc hy => hr _ _ c y (hat i c hc) hy)
                rw [add_add, show l * s + (i * s + j) = (l + i) * s + j from by rw [Nat.add_mul]; omega]
                exact hg _ _ c y (hat i c hc) hy
          · cases h
        · cases h
      · rename_i key off len sz
        split at h
        · rename_i l u hl hu'
          simp only [cond_eq_ite, Bool.and_eq_true, decide_eq_true_eq] at h
          split at h
          · rename_i hc
            obtain ⟨rfl, h1, h2⟩ := hc
            simp only [Option.some.injEq] at h
            rcases hx.sl_inv with ⟨hv, rfl, rfl, rfl⟩ | ⟨b, m, cap, hlm, hm, hlc, hcm, rfl⟩
            · have hb := bounds_sound (P := P) (cap := 0) (sl := true) hl hu' h1 h2 (Nat.le_refl _) xl nl xh nh
              have h0 : u = 0 := by omega
              have h0' : l = 0 := by omega
              subst h0; subst h0'
              simp only [if_true] at h
              subst h
              exact ⟨_, by (simp [Instr.sliceAt, Instr.slice, run_underlying hu, hb, run_sizeOf' e1]) <;> first | exact ⟨rfl, rfl⟩ | rfl, .pure _ _ (.list0 _ _ _)⟩
            · have hb := bounds_sound (P := P) (cap := cap) (sl := true) hl hu' h1 h2 hlc xl nl xh nh
              split at h
              · rename_i hlu
                subst hlu; subst h
                refine ⟨_, by (simp [Instr.sliceAt, Instr.slice, run_underlying hu, hb, run_sizeOf' e1, e3]) <;> first | exact ⟨rfl, rfl⟩ | rfl, .pure _ _ ?_⟩
                exact .list0 _ _ _
              · rename_i hlu
                subst h
                have hne : ¬ cap = l := by omega
                refine ⟨.slice (some ⟨b, off + l * s, none⟩) (u - l) (cap - l), by simp [Instr.sliceAt, Instr.slice, run_underlying hu, hb, run_sizeOf' e1, e3, hne, add_lit], .sl key (off + l * s) (u - l) s b m (cap - l) hlm ?_ (by omega) (by omega)⟩
                rw [Nat.add_assoc, ← Nat.add_mul, show l + (cap - l) = cap from by omega]
                exact hm
          · cases h
        · cases h
      · have := hx.nils_inv; subst this
        split at h
        · rename_i hl hu'
          have hb := bounds_sound (P := P) (len := 0) (cap := 0) (sl := true) hl hu' (Nat.le_refl _) (Nat.le_refl _) (Nat.le_refl _) xl nl xh nh
          simp only [Option.some.injEq] at h; subst h
          exact ⟨_, by simp [Instr.sliceAt, Instr.slice, run_underlying hu, hb, run_sizeOf' e1], .pure _ _ .nils⟩
        · cases h
      · cases h
    · split at h
      · rename_i m s ag key off harr
        obtain ⟨e, hu, hp⟩ := td_arr hd harr
        obtain ⟨ie, De, e1, e2, e3, e4⟩ := partD_some hp
        split at h
        · rename_i l u blk hl hu' hk
          simp only [cond_eq_ite, Bool.and_eq_true, decide_eq_true_eq] at h
          split at h
          · rename_i hc
            obtain ⟨h1, h2, h3, h4⟩ := hc
            simp only [Option.some.injEq] at h; subst h
            obtain ⟨b, m', hlm, rfl⟩ := hx.ptr_inv
            have hb := bounds_sound (P := P) (cap := m) (sl := false) hl hu' (by omega) h2 (Nat.le_refl _) xl nl xh nh
            have hne : ¬ m = l := by omega
            have hbm : blk.cells.length ≤ m' := by
              rcases hs.heap key blk hk with ⟨hv, _⟩ | ⟨b', o, hv, _⟩ | ⟨b', m'', arr, hl', _, _, hle, _⟩
              · rw [hlm] at hv; cases hv
              · rw [hlm] at hv; cases hv
              · rw [hlm] at hl'; simp only [Option.some.injEq, Prod.mk.injEq] at hl'; rw [hl'.2]; exact hle
            refine ⟨.slice (some ⟨b, off + l * s, none⟩) (u - l) (m - l), by simp [Instr.sliceAt, run_underlying hu, Instr.sureAddr, hb, run_sizeOf' e1, e3, hne, add_lit], .sl key (off + l * s) (u - l) s b m' (m - l) hlm ?_ (by omega) (by simp only [maxLen]; omega)⟩
            rw [Nat.add_assoc, ← Nat.add_mul, show l + (m - l) = m from by omega]
            omega
          · cases h
        · cases h
      · cases h
  · cases h

/-! ### lending -/
def chunks (sz : Nat) : Nat → List V → List (List V)
  | 0, _ => []
  | m + 1, cs => cs.take sz :: chunks sz m (cs.drop sz)
theorem length_chunks (sz : Nat) : ∀ (m : Nat) (cs : List V), (chunks sz m cs).length = m
  | 0, _ => rfl
  | m + 1, cs => by simp [chunks, length_chunks sz m]
theorem chunks_at (sz : Nat) : ∀ (m : Nat) (cs : List V) (i : Nat) (c : List V), (chunks sz m cs)[i]? = some c → i < m ∧ c = (cs.drop (i * sz)).take sz
  | 0, _, i, c, h => by simp [chunks] at h
  | m + 1, cs, 0, c, h => by simp [chunks] at h; exact ⟨by omega, by simp [h]⟩
  | m + 1, cs, i + 1, c, h => by
    simp only [chunks, List.getElem?_cons_succ] at h
    obtain ⟨h1, h2⟩ := chunks_at sz m (cs.drop sz) i c h
    refine ⟨by omega, ?_⟩
    rw [h2, List.drop_drop, show sz + i * sz = (i + 1) * sz from by rw [Nat.succ_mul]; omega]

/-- A cell of a block that is lent. -/
def lend0 (h : Nat → Option Blk) : V → Option V
  | .sl key off len sz => (match h key with
    | some blk => bif decide (off + len * sz ≤ blk.cells.length) && !(blk.cells.any ownC) then some (.list sz (chunks sz len (blk.cells.drop off))) else none
    | none => none)
  | .mp key => (match h key with
    | some blk => some (.rset blk.cells)
    | none => none)
  | .ptr .. | .agg _ | .tup _ | .vptr .. => none
  | v => some v
def lend0L (h : Nat → Option Blk) : List V → Option (List V)
  | [] => some []
  | v :: vs => match lend0 h v, lend0L h vs with
    | some u, some us => some (u :: us)
    | _, _ => none
def lendC (h : Nat → Option Blk) : V → Option V
  | .sl key off len sz => (match h key with
    | some blk => bif decide (off + len * sz ≤ blk.cells.length) && !(blk.cells.any ownC) then some (.list sz (chunks sz len (blk.cells.drop off))) else none
    | none => none)
  | .ptr key off => (match h key with
    | some blk => bif blk.cells.any ownC then (lend0L h blk.cells).map (fun cs => .rp (cs.drop off)) else some (.rp (blk.cells.drop off))
    | none => none)
  | .mp key => (match h key with
    | some blk => some (.rset blk.cells)
    | none => none)
  | .agg _ | .tup _ | .vptr .. => none
  | v => some v
def lendL (h : Nat → Option Blk) : List V → Option (List V)
  | [] => some []
  | v :: vs => match lendC h v, lendL h vs with
    | some u, some us => some (u :: us)
    | _, _ => none
def lendA (h : Nat → Option Blk) : V → Option V
  | .agg cs => (lendL h cs).map .agg
  | v => lendC h v
def lendAs (h : Nat → Option Blk) : List V → Option (List V)
  | [] => some []
  | v :: vs => match lendA h v, lendAs h vs with
    | some u, some us => some (u :: us)
    | _, _ => none

/-- Read-only or own. -/
def roOwn (ro : Nat → Prop) (lam : Lam) (b : Nat) : Prop := ro b ∨ ∃ key, lamB lam key b

theorem R0_more {v : V} {x : Value} (h : R0 w ro v x) : R0 w (roOwn ro lam) v x := h.mono (fun _ _ => rfl) (fun _ h => .inl h)

theorem lendRow (hs : Sim w0 n ro lam st a w) {key off len sz : Nat} {blk : Blk} {x : Value} (hk : st.heap key = some blk) (hle : off + len * sz ≤ blk.cells.length) (hpure' : blk.cells.any ownC = false) (hx : R w ro lam (.sl key off len sz) x) :
    R0 w (roOwn ro lam) (.list sz (chunks sz len (blk.cells.drop off))) x := by
  rcases hx.sl_inv with ⟨hv, rfl, rfl, rfl⟩ | ⟨b, m, cap, hl, _, hlc, _, rfl⟩
  · exact .list0 _ _ _
  · rcases hs.heap key blk hk with ⟨hv, _⟩ | ⟨b', o, hv, _⟩ | ⟨b', m', arr, hl', hw, hsz, hle', hr⟩
    · rw [hl] at hv; cases hv
    · rw [hl] at hv; cases hv
    · rw [hl] at hl'
      simp only [Option.some.injEq, Prod.mk.injEq] at hl'
      obtain ⟨rfl, rfl⟩ := hl'
      have hlen := length_chunks sz len (blk.cells.drop off)
      have hat : ∀ i j c y, (chunks sz len (blk.cells.drop off))[i]? = some c → c[j]? = some y → blk.cells[off + (i * sz + j)]? = some y ∧ off + (i * sz + j) < arr.size := fun i j c y hc hy => by
        obtain ⟨h1, rfl⟩ := chunks_at sz len _ i c hc
        rw [List.getElem?_take] at hy
        split at hy
        · rw [List.getElem?_drop, List.getElem?_drop] at hy
          refine ⟨by rw [← hy], ?_⟩
          have := (List.getElem?_eq_some_iff.1 hy).1
          omega
        · cases hy
      have key' : R0 w (roOwn ro lam) (.list sz (chunks sz len (blk.cells.drop off))) (.slice (some ⟨b, off, none⟩) (chunks sz len (blk.cells.drop off)).length cap) := by
        refine .list sz _ ⟨b, off, none⟩ cap (fun i j => arr.getD (off + (i * sz + j)) Go.undef) (.inr ⟨key, .inl ⟨_, hl⟩⟩) (fun c hc => ?_) (by rw [hlen]; exact hlc) (fun i j c y hc hy => ?_) (fun i j c y hc hy => ?_)
        · obtain ⟨i, hi, rfl⟩ := List.mem_iff_getElem.1 hc
          obtain ⟨h1, h2⟩ := chunks_at sz len _ i _ (List.getElem?_eq_getElem hi)
          rw [h2]
          simp only [List.length_take, List.length_drop]
          have : (i + 1) * sz ≤ len * sz := Nat.mul_le_mul_right _ h1
          rw [Nat.succ_mul] at this
          omega
        · obtain ⟨h1, h2⟩ := hat i j c y hc hy
          rw [add_lit, cell_of_row w b _ arr blk.ty (0, 0) hw]
          simp [Array.getD_eq_getD_getElem?, Array.getElem?_eq_getElem h2]
        · obtain ⟨h1, h2⟩ := hat i j c y hc hy
          have h3 := hr _ y _ h1 (Array.getElem?_eq_getElem h2)
          have h4 := R0_more (lam := lam) (h3.pureC (any_at hpure' h1))
          simpa [Array.getD_eq_getD_getElem?, Array.getElem?_eq_getElem h2] using h4
      rw [hlen] at key'
      exact key'
theorem lendPtr (hs : Sim w0 n ro lam st a w) {key off : Nat} {blk : Blk} {cs : List V} {x : Value} (hk : st.heap key = some blk) (hcs : cs.length = blk.cells.length)
    (hat0 : ∀ (j : Nat) (u : V), cs[j]? = some u → ∃ c, blk.cells[j]? = some c ∧ ∀ y, R w ro lam c y → R0 w (roOwn ro lam) u y) (hx : R w ro lam (.ptr key off) x) : R0 w (roOwn ro lam) (.rp (cs.drop off)) x := by
  obtain ⟨b, m, hl, rfl⟩ := hx.ptr_inv
  rcases hs.heap key blk hk with ⟨hv, _⟩ | ⟨b', o, hv, _⟩ | ⟨b', m', arr, hl', hw, hsz, hle', hr⟩
  · rw [hl] at hv; cases hv
  · rw [hl] at hv; cases hv
  · rw [hl] at hl'
    simp only [Option.some.injEq, Prod.mk.injEq] at hl'
    obtain ⟨rfl, rfl⟩ := hl'
    have hat : ∀ j y, (cs.drop off)[j]? = some y → cs[off + j]? = some y ∧ off + j < arr.size := fun j y hy => by
      rw [List.getElem?_drop] at hy
      have := (List.getElem?_eq_some_iff.1 hy).1
      exact ⟨hy, by omega⟩
    refine .rp _ ⟨b, off, none⟩ (fun j => arr.getD (off + j) Go.undef) (.inr ⟨key, .inl ⟨_, hl⟩⟩) (fun j y hy => ?_) (fun j y hy => ?_)
    · obtain ⟨h1, h2⟩ := hat j y hy
      rw [add_lit, cell_of_row w b _ arr blk.ty (0, 0) hw]
      simp [Array.getD_eq_getD_getElem?, Array.getElem?_eq_getElem h2]
    · obtain ⟨h1, h2⟩ := hat j y hy
      obtain ⟨c, hc, hcy⟩ := hat0 _ _ h1
      have h3 := hr _ c _ hc (Array.getElem?_eq_getElem h2)
      have h4 := hcy _ h3
      simpa [Array.getD_eq_getD_getElem?, Array.getElem?_eq_getElem h2] using h4
theorem lendMap (hs : Sim w0 n ro lam st a w) {key : Nat} {blk : Blk} {x : Value} (hk : st.heap key = some blk) (hx : R w ro lam (.mp key) x) : R0 w (roOwn ro lam) (.rset blk.cells) x := by
  obtain ⟨b, hl, rfl⟩ := hx.mp_inv
  rcases hs.heap key blk hk with ⟨hv, _⟩ | ⟨b', o, hv, hw, hso⟩ | ⟨b', m', arr, hl', hw, hsz, hle', hr⟩
  · rw [hl] at hv; cases hv
  · rw [hl] at hv
    simp only [Option.some.injEq, Prod.mk.injEq, true_and] at hv
    have : b' = b := by omega
    subst this
    exact .rset _ _ o (.inr ⟨key, .inr hl⟩) hw hso
  · rw [hl] at hl'; cases hl'
theorem lend0_sound (hs : Sim w0 n ro lam st a w) {v u : V} {x : Value} (h : lend0 st.heap v = some u) (hx : R w ro lam v x) : R0 w (roOwn ro lam) u x := by
  cases v with
  | sl key off len sz =>
    simp only [lend0] at h
    split at h
    · rename_i blk hk
      simp only [cond_eq_ite, Bool.and_eq_true, decide_eq_true_eq] at h
      split at h
      · rename_i hc
        simp only [Option.some.injEq] at h; subst h
        exact lendRow hs hk hc.1 (by simpa using hc.2) hx
      · cases h
    · cases h
  | mp key =>
    simp only [lend0] at h
    split at h
    · rename_i blk hk
      simp only [Option.some.injEq] at h; subst h
      exact lendMap hs hk hx
    · cases h
  | ptr _ _ => simp [lend0] at h
  | agg _ => simp [lend0] at h
  | tup _ => simp [lend0] at h
  | vptr _ _ _ => simp [lend0] at h
  | _ => simp only [lend0, Option.some.injEq] at h; subst h; exact R0_more (hx.pureC rfl)
theorem lend0L_at (h : Nat → Option Blk) : ∀ (vs us : List V), lend0L h vs = some us → us.length = vs.length ∧ ∀ (j : Nat) (u : V), us[j]? = some u → ∃ v, vs[j]? = some v ∧ lend0 h v = some u
  | [], us, e => by simp only [lend0L, Option.some.injEq] at e; subst e; simp
  | v :: vs, us, e => by
    unfold lend0L at e
    split at e
    · rename_i u us' h1 h2
      simp only [Option.some.injEq] at e; subst e
      obtain ⟨i1, i2⟩ := lend0L_at h vs us' h2
      refine ⟨by simp [i1], fun j x hj => ?_⟩
      cases j with
      | zero => simp at hj; subst hj; exact ⟨v, rfl, h1⟩
      | succ j => simpa using i2 j x (by simpa using hj)
    · cases e
theorem lendC_sound (hs : Sim w0 n ro lam st a w) {v u : V} {x : Value} (h : lendC st.heap v = some u) (hx : R w ro lam v x) : R0 w (roOwn ro lam) u x := by
  cases v with
  | sl key off len sz =>
    simp only [lendC] at h
    split at h
    · rename_i blk hk
      simp only [cond_eq_ite, Bool.and_eq_true, decide_eq_true_eq] at h
      split at h
      · rename_i hc
        simp only [Option.some.injEq] at h; subst h
        exact lendRow hs hk hc.1 (by simpa using hc.2) hx
      · cases h
    · cases h
  | ptr key off =>
    simp only [lendC] at h
    split at h
    · rename_i blk hk
      simp only [cond_eq_ite] at h
      split at h
      · simp only [Option.map_eq_some_iff] at h
        obtain ⟨cs, hcs, rfl⟩ := h
        obtain ⟨i1, i2⟩ := lend0L_at _ _ _ hcs
        refine lendPtr hs hk i1 (fun j u hu => ?_) hx
        obtain ⟨c, hc, hcu⟩ := i2 j u hu
        exact ⟨c, hc, fun y hy => lend0_sound hs hcu hy⟩
      · rename_i hpure
        have hpure' : blk.cells.any ownC = false := by simpa using hpure
        simp only [Option.some.injEq] at h; subst h
        exact lendPtr hs hk rfl (fun j u hu => ⟨u, hu, fun y hy => R0_more (hy.pureC (any_at hpure' hu))⟩) hx
    · cases h
  | mp key =>
    simp only [lendC] at h
    split at h
    · rename_i blk hk
      simp only [Option.some.injEq] at h; subst h
      exact lendMap hs hk hx
    · cases h
  | agg _ => simp [lendC] at h
  | tup _ => simp [lendC] at h
  | vptr _ _ _ => simp [lendC] at h
  | _ => simp only [lendC, Option.some.injEq] at h; subst h; exact R0_more (hx.pureC rfl)

theorem lendL_at (h : Nat → Option Blk) : ∀ (vs us : List V), lendL h vs = some us → us.length = vs.length ∧ ∀ (j : Nat) (u : V), us[j]? = some u → ∃ v, vs[j]? = some v ∧ lendC h v = some u
  | [], us, e => by simp only [lendL, Option.some.injEq] at e; subst e; simp
  | v :: vs, us, e => by
    unfold lendL at e
    split at e
    · rename_i u us' h1 h2
      simp only [Option.some.injEq] at e; subst e
      obtain ⟨i1, i2⟩ := lendL_at h vs us' h2
      refine ⟨by simp [i1], fun j x hj => ?_⟩
      cases j with
      | zero => simp at hj; subst hj; exact ⟨v, rfl, h1⟩
      | succ j => simpa using i2 j x (by simpa using hj)
    · cases e
theorem lendA_sound (hs : Sim w0 n ro lam st a w) {v u : V} {x : Value} (h : lendA st.heap v = some u) (hx : R w ro lam v x) : R0 w (roOwn ro lam) u x := by
  cases v with
  | agg cs =>
    simp only [lendA, Option.map_eq_some_iff] at h
    obtain ⟨us, hus, rfl⟩ := h
    obtain ⟨arr, rfl, hl, hr⟩ := hx.agg_inv
    obtain ⟨i1, i2⟩ := lendL_at _ cs us hus
    refine .agg _ _ (by rw [hl, i1]) fun j c y hc hy => ?_
    obtain ⟨v, hv, hvc⟩ := i2 j c hc
    exact lendC_sound hs hvc (hr j v y hv hy)
  | _ => simp only [lendA] at h; exact lendC_sound hs h hx
theorem lendAs_at (h : Nat → Option Blk) : ∀ (vs us : List V), lendAs h vs = some us → us.length = vs.length ∧ ∀ (j : Nat) (u : V), us[j]? = some u → ∃ v, vs[j]? = some v ∧ lendA h v = some u
  | [], us, e => by simp only [lendAs, Option.some.injEq] at e; subst e; simp
  | v :: vs, us, e => by
    unfold lendAs at e
    split at e
    · rename_i u us' h1 h2
      simp only [Option.some.injEq] at e; subst e
      obtain ⟨i1, i2⟩ := lendAs_at h vs us' h2
      refine ⟨by simp [i1], fun j x hj => ?_⟩
      cases j with
      | zero => simp at hj; subst hj; exact ⟨v, rfl, h1⟩
      | succ j => simpa using i2 j x (by simpa using hj)
    · cases e

/-- No memory in it at all. -/
def flatC : V → Bool
  | .list .. | .sl .. | .ptr .. | .vptr .. | .mp _ | .rset _ | .as .. | .rp _ | .vrp .. | .agg _ | .tup _ => false
  | _ => true
def flatA : V → Bool
  | .agg cs => cs.all flatC
  | v => flatC v
def flatT : V → Bool
  | .tup vs => vs.all flatA
  | v => flatA v
theorem all_at {α : Type} {p : α → Bool} {l : List α} (h : l.all p = true) {j : Nat} {c : α} (hj : l[j]? = some c) : p c = true :=
  List.all_eq_true.1 h c (List.mem_of_getElem? hj)
theorem R0.flatC {w' : World} {ro' : Nat → Prop} {v : V} {x : Value} (h : R0 w ro v x) (hf : flatC v = true) : R0 w' ro' v x := by
  cases h with
  | undef => exact .undef
  | junk x => exact .junk x
  | val x => exact .val x
  | bool b => exact .bool b
  | int k m => exact .int k m
  | str s => exact .str s
  | nils => exact .nils
  | _ => simp [Pv.flatC] at hf
theorem R0.flatA {w' : World} {ro' : Nat → Prop} {v : V} {x : Value} (h : R0 w ro v x) (hf : flatA v = true) : R0 w' ro' v x := by
  cases v with
  | agg cs => cases h with | agg _ arr hl hr => exact .agg _ arr hl fun j c y hc hy => (hr j c y hc hy).flatC (all_at hf hc)
  | _ => exact h.flatC hf
theorem R0.flatT {w' : World} {ro' : Nat → Prop} {v : V} {x : Value} (h : R0 w ro v x) (hf : flatT v = true) : R0 w' ro' v x := by
  cases v with
  | tup cs => cases h with | tup _ arr hl hr => exact .tup _ arr hl fun j c y hc hy => (hr j c y hc hy).flatA (all_at hf hc)
  | agg cs => exact h.flatA hf
  | _ => exact h.flatC hf

/-- More memory that is only read. -/
theorem Sim.more (hs : Sim w0 n ro lam st a w) {ro' : Nat → Prop} (h1 : ∀ b, ro b → ro' b) (h2 : ∀ b, ro' b → b < w.heap.size) (h3 : ∀ key b m, lam key = some (some b, m) → ¬ ro' b) (h3m : ∀ key b, lam key = some (none, b + 1) → ¬ ro' b) : Sim w0 n ro' lam st a w := by
  have hm : ∀ {v x}, R w ro lam v x → R w ro' lam v x := fun h => h.mono (fun _ _ => rfl) h1 (fun _ _ h => h)
  refine ⟨hs.below, hs.dfr, hs.size, h2, fun t => hm (hs.env t), fun key blk hk => ?_, hs.dead, fun key b m hl => ⟨(hs.own key b m hl).1, (hs.own key b m hl).2.1, h3 key b m hl⟩, hs.inj, fun key b hl => ⟨⟨(hs.maps key b hl).1.1, (hs.maps key b hl).1.2.1, h3m key b hl⟩, (hs.maps key b hl).2⟩⟩
  rcases hs.heap key blk hk with hv | ⟨b, o, hl, hw, hso⟩ | ⟨b, m, arr, hl, hw, hsz, hle, hr⟩
  · exact .inl hv
  · exact .inr (.inl ⟨b, o, hl, hw, hso⟩)
  · exact .inr <| .inr ⟨b, m, arr, hl, hw, hsz, hle, fun j c x hc hx => hm (hr j c x hc hx)⟩

def callV (Γ : Tab) (h : Nat → Option Blk) (f : FuncId) (xs : List V) : Option V := match lendAs h xs with
  | some vs => (match Γ.at' f vs with
    | some v => bif xs.all (fun x => !ownA x) || flatT v || Γ.fr f then some v else none
    | none => none)
  | none => none

/-- How read-only memory may grow: by what is new. -/
def Ext (w0 : Base) (ro ro' : Nat → Prop) : Prop := (∀ b, ro b → ro' b) ∧ ∀ b, ro' b → ro b ∨ w0.Free b
theorem Ext.refl (w0 : Base) (ro : Nat → Prop) : Ext w0 ro ro := ⟨fun _ h => h, fun _ h => .inl h⟩
theorem Ext.trans {ro1 ro2 : Nat → Prop} (h : Ext w0 ro ro1) (k : Ext w0 ro1 ro2) : Ext w0 ro ro2 :=
  ⟨fun b hb => k.1 b (h.1 b hb), fun b hb => (k.2 b hb).elim (h.2 b) .inr⟩

theorem R0.extFlat {w' : World} {ro' : Nat → Prop} {v : V} {x : Value} (h : R0 w ro v x) (hf : extFlat v = true) : R0 w' ro' v x := by
  cases h with
  | bool b => exact .bool b
  | int k n => exact .int k n
  | str s => exact .str s
  | tup vs arr hl hr =>
    refine .tup vs arr hl fun j c x hc hx => ?_
    have hcf := List.all_eq_true.1 (by simpa [Pv.extFlat] using hf) c (List.mem_of_getElem? hc)
    have h1 := hr j c x hc hx
    cases h1 with
    | bool b => exact .bool b
    | int k n => exact .int k n
    | str s => exact .str s
    | _ => simp at hcf
  | _ => simp [Pv.extFlat] at hf
theorem callV_sound {Γ : Tab} (hΓ : TabOK P Γ) (hs : Sim w0 n ro lam st a w) {f : FuncId} {xs : List V} {v : V} {args : Array Value} (h : callV Γ st.heap f xs = some v) (hl : args.size = xs.length)
    (hr : ∀ (j : Nat) (c : V) (x : Value), xs[j]? = some c → args[j]? = some x → R w ro lam c x) :
    (callable P f = true ∧ Calls P f args w fun e w' => ∃ rv ro', e = .returned rv ∧ Ext w0 ro ro' ∧ Sim w0 n ro' lam st a w' ∧ R w' ro' lam v rv) ∨ (∃ x, (callFunc f args).run P w = .ok (.value x) w ∧ R w ro lam v x) := by
  unfold callV at h
  split at h
  · rename_i vs hvs
    split at h
    · rename_i v' hv'
      simp only [cond_eq_ite, Bool.or_eq_true] at h
      split at h
      · rename_i hc
        simp only [Option.some.injEq] at h; subst h
        obtain ⟨i1, i2⟩ := lendAs_at _ xs vs hvs
        rcases hΓ.1 f vs v' hv' with ⟨hcall, hp, hfr⟩ | ⟨hflat, hp⟩
        case inr =>
          obtain ⟨x, hx, hrx⟩ := hp w (roOwn ro lam) args (by rw [hl, i1]) fun j c x hc hx => by
            obtain ⟨u, hu, huc⟩ := i2 j c hc
            exact lendA_sound hs huc (hr j u x hu hx)
          exact .inr ⟨x, hx, .pure _ _ (hrx.extFlat hflat)⟩
        refine .inl ⟨hcall, ?_⟩
        by_cases hpure : xs.all (fun x => !ownA x) = true
        · -- nothing of the call's own is handed over
          have hsame : ∀ c, ownA c = false → lendA st.heap c = some c := by
            intro c hc
            cases c with
            | agg cs =>
              have : ∀ l : List V, l.any ownC = false → lendL st.heap l = some l := by
                intro l
                induction l with
                | nil => intro _; rfl
                | cons y ys ih =>
                  intro hy
                  simp only [List.any_cons, Bool.or_eq_false_iff] at hy
                  simp only [lendL, ih hy.2]
                  cases y <;> simp [ownC] at hy <;> rfl
              simp only [lendA, this cs hc, Option.map_some]
            | sl _ _ _ _ => simp [ownA, ownC] at hc
            | ptr _ _ => simp [ownA, ownC] at hc
            | vptr _ _ _ => simp [ownA, ownC] at hc
            | mp _ => simp [ownA, ownC] at hc
            | tup _ => simp [ownA, ownC] at hc
            | _ => rfl
          have hargs : ∀ (j : Nat) (c : V) (x : Value), vs[j]? = some c → args[j]? = some x → R0 w ro c x := fun j c x hc hx => by
            obtain ⟨u, hu, huc⟩ := i2 j c hc
            have hpu : ownA u = false := by simpa using all_at hpure hu
            rw [hsame u hpu] at huc
            simp only [Option.some.injEq] at huc
            subst huc
            exact (hr j u x hu hx).pureA hpu
          refine (hp w ro args hs.rolt (by rw [hl, i1]) hargs).mono fun e w' hh => ?_
          obtain ⟨rv, ro', rfl, hb, k1, k2, k3, hrv⟩ := hh
          have hs' := hs.world hb
          refine ⟨rv, ro', rfl, ⟨k1, fun b hb' => (k2 b hb').imp id (fun h => .inr (Nat.le_trans hs.below.size h))⟩, hs'.more k1 k3 (fun key b m hlm hro => ?_) (fun key b hlm hro => by
            obtain ⟨_, o2, o3⟩ := (hs.maps key b hlm).1
            rcases k2 b hro with h | h
            · exact o3 h
            · omega), .pure _ _ hrv⟩
          obtain ⟨_, o2, o3⟩ := hs.own key b m hlm
          rcases k2 b hro with h | h
          · exact o3 h
          · omega
        · skip
          have hrolt : ∀ b, roOwn ro lam b → b < w.heap.size := fun b hb => by
            rcases hb with h | ⟨key, h⟩
            · exact hs.rolt b h
            · exact (hs.ob h).2.1
          have hargs : ∀ (j : Nat) (c : V) (x : Value), vs[j]? = some c → args[j]? = some x → R0 w (roOwn ro lam) c x := fun j c x hc hx => by
            obtain ⟨u, hu, huc⟩ := i2 j c hc
            exact lendA_sound hs huc (hr j u x hu hx)
          rcases hc with (h | hflat) | hf
          · exact absurd h hpure
          · refine (hp w (roOwn ro lam) args hrolt (by rw [hl, i1]) hargs).mono fun e w' hh => ?_
            obtain ⟨rv, ro', rfl, hb, k1, k2, k3, hrv⟩ := hh
            exact ⟨rv, ro, rfl, Ext.refl _ _, hs.world hb, .pure _ _ (hrv.flatT hflat)⟩
          · refine (hfr hf w (roOwn ro lam) args hrolt (by rw [hl, i1]) hargs).mono fun e w' hh => ?_
            obtain ⟨rv, rfl, hb, hrv⟩ := hh
            have hs' := hs.world hb
            refine ⟨rv, fun b => ro b ∨ (w.heap.size ≤ b ∧ b < w'.heap.size), rfl, ⟨fun b h => .inl h, fun b h => h.imp id fun h => .inr (Nat.le_trans hs.below.size h.1)⟩, hs'.more (fun b h => .inl h) (fun b h => ?_) (fun key b m hlm hro => ?_) (fun key b hlm hro => by
              obtain ⟨_, o2, o3⟩ := (hs.maps key b hlm).1
              rcases hro with h | h
              · exact o3 h
              · omega), .pure _ _ (hrv.mono (fun _ _ => rfl) (fun b h => .inr h))⟩
            · rcases h with h | h
              · exact Nat.lt_of_lt_of_le (hs.rolt b h) hb.size
              · exact h.2
            · obtain ⟨_, o2, o3⟩ := hs.own key b m hlm
              rcases hro with h | h
              · exact o3 h
              · omega
      · cases h
    · cases h
  · cases h

/-! ### what is new -/
def ownP (lam : Lam) (b : Nat) : Prop := ∃ key m, lam key = some (some b, m)
def rowFlat : V → Bool
  | .list _ xs => xs.all (fun c => c.all flatC)
  | v => flatC v
def frC (u v : V) : Bool := match u with
  | .sl .. => rowFlat v
  | _ => flatC v
def frL : List V → List V → Bool
  | [], [] => true
  | u :: us, v :: vs => frC u v && frL us vs
  | _, _ => false
def frA (u v : V) : Bool := match u, v with
  | .agg cs, .agg vs => frL cs vs
  | .agg _, _ => false
  | u, v => frC u v
def frAs : List V → List V → Bool
  | [], [] => true
  | u :: us, v :: vs => frA u v && frAs us vs
  | _, _ => false
theorem frC_sound (hs : Sim w0 n ro lam st a w) {u v : V} {x : Value} (h : lendC st.heap u = some v) (hx : R w ro lam u x) (hf : frC u v = true) : R0 w (ownP lam) v x := by
  have h0 := lendC_sound hs h hx
  have hne : (∀ key off len sz, u ≠ .sl key off len sz) → flatC v = true := by
    intro hne
    unfold frC at hf
    split at hf
    · rename_i key off len sz; exact absurd rfl (hne key off len sz)
    · exact hf
  cases u with
  | sl key off len sz =>
    have hrf : rowFlat v = true := hf
    rcases hx.sl_inv with ⟨hv, rfl, rfl, rfl⟩ | ⟨b, m, cap, hl, _, hlc, _, rfl⟩
    · cases h0 with
      | list0 => exact .list0 _ _ _
      | junk => exact .junk _
      | val => exact .val _
      | nils => exact .nils
      | as => simp [rowFlat, flatC] at hrf
    · cases h0 with
      | list0 => exact .list0 _ _ _
      | junk => exact .junk _
      | val => exact .val _
      | as => simp [rowFlat, flatC] at hrf
      | list sz xs a cap g hro hsz hcap hg hr =>
        refine .list sz xs ⟨b, off, none⟩ cap g ⟨key, m, hl⟩ hsz hcap hg (fun i j c y hi hj => (hr i j c y hi hj).flatC ?_)
        have hrf' : xs.all (fun c => c.all Pv.flatC) = true := hrf
        exact all_at (all_at hrf' hi) hj
  | _ => exact h0.flatC (hne (by intros; simp))
theorem frL_sound (hs : Sim w0 n ro lam st a w) : ∀ (us vs : List V), lendL st.heap us = some vs → frL us vs = true → ∀ (xs : List Value), xs.length = us.length → (∀ (j : Nat) (c : V) (x : Value), us[j]? = some c → xs[j]? = some x → R w ro lam c x) →
    vs.length = us.length ∧ ∀ (j : Nat) (c : V) (x : Value), vs[j]? = some c → xs[j]? = some x → R0 w (ownP lam) c x
  | [], vs, h, hf, xs, hl, hr => by
    simp only [lendL, Option.some.injEq] at h; subst h; simp
  | u :: us, vs, h, hf, xs, hl, hr => by
    unfold lendL at h
    split at h
    · rename_i v vs' h1 h2
      simp only [Option.some.injEq] at h; subst h
      simp only [frL, Bool.and_eq_true] at hf
      cases xs with
      | nil => simp at hl
      | cons x xs =>
        obtain ⟨i1, i2⟩ := frL_sound hs us vs' h2 hf.2 xs (by simpa using hl) (fun j c y hc hy => hr (j + 1) c y (by simpa using hc) (by simpa using hy))
        refine ⟨by simp [i1], fun j c y hc hy => ?_⟩
        cases j with
        | zero => simp at hc hy; subst hc; subst hy; exact frC_sound hs h1 (hr 0 u x rfl rfl) hf.1
        | succ j => exact i2 j c y (by simpa using hc) (by simpa using hy)
    · cases h
theorem frA_sound (hs : Sim w0 n ro lam st a w) {u v : V} {x : Value} (h : lendA st.heap u = some v) (hx : R w ro lam u x) (hf : frA u v = true) : R0 w (ownP lam) v x := by
  cases u with
  | agg cs =>
    simp only [lendA, Option.map_eq_some_iff] at h
    obtain ⟨vs, hvs, rfl⟩ := h
    have hx' : ∃ arr : Array Value, x = .agg arr ∧ arr.size = cs.length ∧ ∀ (j : Nat) (c : V) (y : Value), cs[j]? = some c → arr[j]? = some y → R w ro lam c y := by
      cases hx with
      | pure _ _ h0 => cases h0 with | agg _ arr hl hr => exact ⟨arr, rfl, hl, fun j c y hc hy => .pure _ _ (hr j c y hc hy)⟩
      | agg _ arr hl hr => exact ⟨arr, rfl, hl, hr⟩
    obtain ⟨arr, rfl, hl, hr⟩ := hx'
    obtain ⟨i1, i2⟩ := frL_sound hs cs vs hvs hf arr.toList (by simpa using hl) (fun j c y hc hy => hr j c y hc (by simpa using hy))
    exact .agg vs arr (by omega) fun j c y hc hy => i2 j c y hc (by simpa using hy)
  | _ => exact frC_sound (u := _) hs (by simpa only [lendA] using h) hx hf
theorem frAs_at (hs : Sim w0 n ro lam st a w) : ∀ (us vs : List V), lendAs st.heap us = some vs → frAs us vs = true → ∀ (xs : List Value), xs.length = us.length → (∀ (j : Nat) (c : V) (x : Value), us[j]? = some c → xs[j]? = some x → R w ro lam c x) →
    ∀ (j : Nat) (c : V) (x : Value), vs[j]? = some c → xs[j]? = some x → R0 w (ownP lam) c x
  | [], vs, h, hf, xs, hl, hr => by simp only [lendAs, Option.some.injEq] at h; subst h; simp
  | u :: us, vs, h, hf, xs, hl, hr => by
    unfold lendAs at h
    split at h
    · rename_i v vs' h1 h2
      simp only [Option.some.injEq] at h; subst h
      simp only [frAs, Bool.and_eq_true] at hf
      cases xs with
      | nil => simp at hl
      | cons x xs =>
        have i2 := frAs_at hs us vs' h2 hf.2 xs (by simpa using hl) (fun j c y hc hy => hr (j + 1) c y (by simpa using hc) (by simpa using hy))
        intro j c y hc hy
        cases j with
        | zero => simp at hc hy; subst hc; subst hy; exact frA_sound hs h1 (hr 0 u x rfl rfl) hf.1
        | succ j => exact i2 j c y (by simpa using hc) (by simpa using hy)
    · cases h
end
end Go.Pv

/-! ### sets of strings: maps all of whose values are true -/
namespace Go.Pv
open Go.RowKit
section
variable {w0 : Base} {n : Nat} {ro : Nat → Prop} {lam : Lam} {st : St} {a : Act} {w : World} {P : Program}
/-- Is a type a map from strings to bool? -/
def mtd (P : Program) (t : TypeId) : Bool := match P.underlying t with
  | some (.map k e) => (match P.underlying k, P.info? e with
    | some .string, some i => (match i.zero with
      | some (.bool false) => true
      | _ => false)
    | _, _ => false)
  | _ => false
theorem mtd_some {t : TypeId} (h : mtd P t = true) : ∃ k e i, P.underlying t = some (.map k e) ∧ P.underlying k = some .string ∧ P.info? e = some i ∧ i.zero = some (.bool false) := by
  unfold mtd at h
  split at h
  · rename_i k e hu
    split at h
    · rename_i i h1 h2
      split at h
      · rename_i h3; exact ⟨k, e, i, hu, h1, h2, h3⟩
      · cases h
    · cases h
  · cases h
theorem ba_eq {a b : ByteArray} : (a == b) = true ↔ a = b := by
  cases a with | mk x => cases b with | mk y =>
  constructor
  · intro h
    have h' : (x == y) = true := h
    rw [eq_of_beq h']
  · intro h; injection h with h; subst h; exact (beq_self_eq_true x)
def findS : List V → ByteArray → Option Bool
  | [], _ => some false
  | .str b :: ks, s => if s == b then some true else findS ks s
  | _ :: _, _ => none
theorem findS_strs (L : List ByteArray) (s : ByteArray) : findS (L.map .str) s = some (L.any fun b => s == b) := by
  induction L with
  | nil => rfl
  | cons b L ih =>
    simp only [List.map_cons, findS, List.any_cons]
    cases h : s == b
    · simp [ih]
    · simp
theorem findNow_sound : ∀ (ks : List V) (s : ByteArray) (es : List MapEntry) (i : Nat) (b : Bool), findS ks s = some b → es.length = ks.length → (∀ (j : Nat) (k : V) (e : MapEntry), ks[j]? = some k → es[j]? = some e → e.val = .bool true ∧ KeyV k e.key) →
    (b = false ∧ Instr.findNow .string (.string s) es i = some none) ∨ (b = true ∧ ∃ j e, es[j]? = some e ∧ e.key = .string s ∧ Instr.findNow .string (.string s) es i = some (some (i + j, .bool true)))
  | [], s, [], i, b, h, _, _ => by simp only [findS, Option.some.injEq] at h; exact .inl ⟨h.symm, rfl⟩
  | [], s, _ :: _, i, b, h, hl, _ => by simp at hl
  | k :: ks, s, [], i, b, h, hl, _ => by simp at hl
  | k :: ks, s, e :: es, i, b, h, hl, hr => by
    have h0 := hr 0 k e rfl rfl
    cases k with
    | str b' =>
      have hk : e.key = .string b' := h0.2
      have hst : Instr.sameNow .string (.string s) e.key = some (s == b') := by rw [hk]; rfl
      simp only [findS] at h
      cases he : s == b' with
      | true =>
        rw [he, if_pos rfl] at h
        simp only [Option.some.injEq] at h; subst h
        refine .inr ⟨rfl, 0, e, rfl, ?_, ?_⟩
        · rw [hk, ba_eq.1 he]
        · simp only [Instr.findNow, hst, he, h0.1]; rfl
      | false =>
        rw [he, if_neg (by simp)] at h
        rcases findNow_sound ks s es (i + 1) b h (by simpa using hl) (fun j k e hk he => hr (j + 1) k e (by simpa using hk) (by simpa using he)) with ⟨h2, h3⟩ | ⟨h2, j, e2, h4, h5, h6⟩
        · exact .inl ⟨h2, by simp only [Instr.findNow, hst, he]; exact h3⟩
        · refine .inr ⟨h2, j + 1, e2, by simpa using h4, h5, ?_⟩
          simp only [Instr.findNow, hst, he]
          rw [h6]; congr 3; omega
    | _ => simp [findS] at h
/-- A map of the call's own turns. -/
theorem Sim.setMap (hs : Sim w0 n ro lam st a w) {key b : Nat} {blk : Blk} {ks : List V} {o : Obj} {w' : World} (hk : st.heap key = some blk) (hl : lam key = some (none, b + 1)) (ho : SetR ks o)
    (e1 : w'.os = w.os) (e2 : w'.tape = w.tape) (e3 : w'.output = w.output) (e4 : w'.heap.size = w.heap.size) (e5 : w'.heap[b]? = some o) (e6 : ∀ k, k ≠ b → w'.heap[k]? = w.heap[k]?) :
    Sim w0 n ro lam { st with heap := upd st.heap key (some ⟨blk.ty, ks⟩) } a w' := by
  obtain ⟨⟨hb1, hb2, hb3⟩, hinj⟩ := hs.maps key b hl
  have hro : ∀ c, ro c → w'.heap[c]? = w.heap[c]? := fun c hc => e6 c (by rintro rfl; exact hb3 hc)
  have hm : ∀ {v x}, R w ro lam v x → R w' ro lam v x := fun hr => hr.mono hro (fun _ hb => hb) (fun _ _ hk => hk)
  refine ⟨hs.below.but e1 e2 e3 (by omega) (fun k _ hf => e6 k (by rintro rfl; exact hf hb1)), hs.dfr, hs.size, fun c hc => by rw [e4]; exact hs.rolt c hc, fun t => hm (hs.env t), fun k blk' hk' => ?_, fun k hk' => ?_,
    fun k b' m h => by rw [e4]; exact hs.own k b' m h, hs.inj, fun k b' h => by rw [e4]; exact hs.maps k b' h⟩
  · by_cases e : k = key
    · subst e
      simp only [upd_same, Option.some.injEq] at hk'
      subst hk'
      exact .inr (.inl ⟨b, o, hl, e5, ho⟩)
    · simp only [upd_ne _ _ e] at hk'
      rcases hs.heap k blk' hk' with hv | ⟨b', o', hl', hw, hso⟩ | ⟨b', m, arr, hl', hw, hsz, hle, hr⟩
      · exact .inl hv
      · refine .inr (.inl ⟨b', o', hl', ?_, hso⟩)
        rw [e6]; exact hw
        rintro rfl; exact e (hinj _ hl')
      · refine .inr (.inr ⟨b', m, arr, hl', ?_, hsz, hle, fun j c x hc hx => hm (hr j c x hc hx)⟩)
        rw [e6]; exact hw
        rintro rfl
        rcases hs.heap key blk hk with ⟨hv, _⟩ | ⟨b'', o', hv, hw', hso⟩ | ⟨b'', m'', arr'', hv, _⟩
        · rw [hl] at hv; cases hv
        · rw [hl] at hv
          simp only [Option.some.injEq, Prod.mk.injEq, true_and] at hv
          have : b'' = b' := by omega
          subst this
          exact hs.notMap hl' hw' hso
        · rw [hl] at hv; cases hv
  · by_cases e : k = key
    · subst e; simp only [upd_same] at hk'; cases hk'
    · simp only [upd_ne _ _ e] at hk'; exact hs.dead k hk'
/-- A new map. -/
theorem Sim.allocMap (h : Sim w0 n ro lam st a w) {d : Nat} {ty : TypeId} (hd : st.heap d = none) :
    Sim w0 n ro (upd lam d (some (none, w.heap.size + 1))) { st with heap := upd st.heap d (some ⟨ty, []⟩) } a (w.alloc (.map #[] 0)) := by
  have hb : Below w.heap.size w (w.alloc (.map #[] 0)) := (Below.refl _ _).alloc (Nat.le_refl _) _
  have h' := h.world hb
  have hdl : lam d = none := h.dead d hd
  have hlam : ∀ k y, lam k = some y → upd lam d (some (none, w.heap.size + 1)) k = some y := fun k y hk => by
    rw [upd_ne]; exact hk
    rintro rfl; rw [hdl] at hk; cases hk
  have hm : ∀ {v x}, R (w.alloc (.map #[] 0)) ro lam v x → R (w.alloc (.map #[] 0)) ro (upd lam d (some (none, w.heap.size + 1))) v x :=
    fun hr => hr.mono (fun _ _ => rfl) (fun _ hb => hb) hlam
  have hold : ∀ k b m, upd lam d (some (none, w.heap.size + 1)) k = some (some b, m) → lam k = some (some b, m) := fun k b m hk => by
    by_cases e : k = d
    · subst e; rw [upd_same] at hk; cases hk
    · rwa [upd_ne _ _ e] at hk
  have holdm : ∀ k b, upd lam d (some (none, w.heap.size + 1)) k = some (none, b + 1) → (k = d ∧ b = w.heap.size) ∨ (k ≠ d ∧ lam k = some (none, b + 1)) := fun k b hk => by
    by_cases e : k = d
    · subst e; rw [upd_same] at hk; simp only [Option.some.injEq, Prod.mk.injEq, true_and] at hk; exact .inl ⟨rfl, by omega⟩
    · rw [upd_ne _ _ e] at hk; exact .inr ⟨e, hk⟩
  refine ⟨h'.below, h'.dfr, h'.size, h'.rolt, fun t => hm (h'.env t), fun key blk hk => ?_, fun key hk => ?_, fun key b m hl => h'.own key b m (hold key b m hl), fun k1 k2 b m1 m2 e1 e2 => h'.inj k1 k2 b m1 m2 (hold _ _ _ e1) (hold _ _ _ e2), fun key b hl => ?_⟩
  · by_cases e : key = d
    · subst e
      simp only [upd_same, Option.some.injEq] at hk
      subst hk
      exact .inr (.inl ⟨w.heap.size, _, upd_same _ _ _, heap_alloc_new w _, #[], 0, rfl, rfl, by simp⟩)
    · simp only [upd_ne _ _ e] at hk
      rcases h'.heap key blk hk with ⟨hv, hc⟩ | ⟨b, o, hl, hw, hs⟩ | ⟨b, m, arr', hl, hw, hs, hle', hr'⟩
      · exact .inl ⟨hlam _ _ hv, hc⟩
      · exact .inr (.inl ⟨b, o, hlam _ _ hl, hw, hs⟩)
      · exact .inr (.inr ⟨b, m, arr', hlam _ _ hl, hw, hs, hle', fun j c x hc hx => hm (hr' j c x hc hx)⟩)
  · by_cases e : key = d
    · subst e; simp only [upd_same] at hk; cases hk
    · simp only [upd_ne _ _ e] at hk ⊢; exact h.dead key hk
  · rcases holdm key b hl with ⟨rfl, rfl⟩ | ⟨hne, hl'⟩
    · refine ⟨⟨.inr h.below.size, by simp, fun hr => by have := h.rolt _ hr; omega⟩, fun key' hk' => ?_⟩
      rcases holdm key' _ hk' with ⟨e, _⟩ | ⟨_, hl2⟩
      · exact e
      · have := (h.maps key' _ hl2).1.2.1; omega
    · refine ⟨(h'.maps key b hl').1, fun key' hk' => ?_⟩
      rcases holdm key' _ hk' with ⟨rfl, rfl⟩ | ⟨_, hl2⟩
      · have := (h.maps key _ hl').1.2.1; omega
      · exact (h'.maps key b hl').2 key' hl2
theorem run_checkKeyS {kt : TypeId} {s : ByteArray} (h2 : P.underlying kt = some .string) (em : Bool) (m : Nat) : (Instr.checkKey em (m + 1) kt (.string s)).run P w = .ok () w := by
  unfold Instr.checkKey
  simp only [Sem.run_bind, run_underlying h2, Result.andThen_ok]
  rfl
/-! ### sets of pairs of numbers -/
def nodK (c : Int × Int) : V := .val (.agg #[.int .i64 c.1, .int .i64 c.2])
def unK : V → Option (Int × Int)
  | .val (.agg ⟨[.int .i64 a, .int .i64 b]⟩) => some (a, b)
  | _ => none
theorem unK_some {k : V} {c : Int × Int} (h : unK k = some c) : k = nodK c := by
  unfold unK at h
  split at h
  · cases h; rfl
  · cases h
def findN : List V → Int → Int → Option Bool
  | [], _, _ => some false
  | k :: ks, a, b => match unK k with
    | some c => if (ieq a c.1 && ieq b c.2) = true then some true else findN ks a b
    | none => none
def memN (L : List (Int × Int)) (a b : Int) : Bool := L.any fun c => ieq a c.1 && ieq b c.2
theorem findN_nodes (L : List (Int × Int)) (a b : Int) : findN (L.map nodK) a b = some (memN L a b) := by
  induction L with
  | nil => rfl
  | cons c L ih =>
    have : unK (nodK c) = some c := rfl
    simp only [List.map_cons, findN, this, memN, List.any_cons]
    cases h : (ieq a c.1 && ieq b c.2)
    · simp only [Bool.false_or]; rw [if_neg (by simp)]; exact ih
    · simp
/-- Is a type a map from a struct of two numbers to bool? -/
def mtdN (P : Program) (t : TypeId) : Bool := match P.underlying t with
  | some (.map k e) => (match P.underlying k, P.info? e with
    | some (.struct ⟨[f, g]⟩), some i => (match P.underlying f.type, P.underlying g.type, partD P f.type, partD P g.type, i.zero with
      | some (.int _), some (.int _), some (1, false), some (1, false), some (.bool false) => f.name != "_" && (g.name != "_" && (f.offset == 0 && (g.offset == 1 && !P.stoodInHeld k)))
      | _, _, _, _, _ => false)
    | _, _ => false)
  | _ => false
theorem mtdN_some {t : TypeId} (h : mtdN P t = true) : ∃ k e i f g kf kg, P.underlying t = some (.map k e) ∧ P.underlying k = some (.struct #[f, g]) ∧ P.info? e = some i ∧ i.zero = some (.bool false) ∧ P.underlying f.type = some (.int kf) ∧ P.underlying g.type = some (.int kg) ∧
    partD P f.type = some (1, false) ∧ partD P g.type = some (1, false) ∧ f.name ≠ "_" ∧ g.name ≠ "_" ∧ f.offset = 0 ∧ g.offset = 1 ∧ P.stoodInHeld k = false := by
  unfold mtdN at h
  split at h
  · rename_i k e hu
    split at h
    · rename_i f g i h1 h2
      split at h
      · rename_i kf kg h3 h4 h5 h6 h7
        simp only [Bool.and_eq_true, bne_iff_ne, ne_eq, beq_iff_eq, Bool.not_eq_true'] at h
        exact ⟨k, e, i, f, g, kf, kg, hu, h1, h2, h7, h3, h4, h5, h6, h.1, h.2.1, h.2.2.1, h.2.2.2.1, h.2.2.2.2⟩
      · cases h
    · cases h
  · cases h
def ndV (a b : Int) : Value := .agg #[.int .i64 a, .int .i64 b]
theorem ndV_R {w : World} {ro : Nat → Prop} {lam : Lam} (a b : Int) : R w ro lam (.agg [.int .i64 a, .int .i64 b]) (ndV a b) := by
  refine .agg _ _ rfl fun j c x hc hx => ?_
  match j with
  | 0 => simp at hc hx; subst hc; subst hx; exact .pure _ _ (.int _ _)
  | 1 => simp at hc hx; subst hc; subst hx; exact .pure _ _ (.int _ _)
  | j + 2 => simp at hc
theorem ndV_of {w : World} {ro : Nat → Prop} {lam : Lam} {a b : Int} {x : Value} (h : R w ro lam (.agg [.int .i64 a, .int .i64 b]) x) : x = ndV a b := by
  obtain ⟨arr, rfl, hl, hr⟩ := h.agg_inv
  have hl' : arr.size = 2 := hl
  have e0 : arr[0] = .int .i64 a := (hr 0 _ _ rfl (Array.getElem?_eq_getElem (by omega))).int_inv
  have e1 : arr[1] = .int .i64 b := (hr 1 _ _ rfl (Array.getElem?_eq_getElem (by omega))).int_inv
  unfold ndV
  congr 1
  apply Array.ext
  · simpa using hl'
  · intro i h1 h2
    match i with
    | 0 => simpa using e0
    | 1 => simpa using e1
    | i + 2 => simp at h2; omega
theorem run_equalN {k : TypeId} {f g : Field} {kf kg : IntKind} (h2 : P.underlying k = some (.struct #[f, g])) (h5 : P.underlying f.type = some (.int kf)) (h6 : P.underlying g.type = some (.int kg)) (h7 : partD P f.type = some (1, false)) (h8 : partD P g.type = some (1, false))
    (h9 : f.name ≠ "_") (h10 : g.name ≠ "_") (h11 : f.offset = 0) (h12 : g.offset = 1) (h13 : P.stoodInHeld k = false) (a b c d : Int) : (Op.equal k (ndV a b) (ndV c d)).run P w = .ok (ieq a c && ieq b d) w := by
  have he : eqV P 2 k (.agg [.int .i64 a, .int .i64 b]) (.agg [.int .i64 c, .int .i64 d]) = some (ieq a c && ieq b d) := by
    have n1 : (f.name != "_") = true := by simpa using h9
    have n2 : (g.name != "_") = true := by simpa using h10
    simp [eqV, h2, h13, eqF, n1, n2, h7, h8, h11, h12, partV, h5, h6, ieq]
  exact eqV_sound (P := P) (w := w) (ro := fun _ => False) (lam := fun _ => none) 9998 2 k _ _ _ _ _ he (ndV_R a b) (ndV_R c d) w
theorem run_partN {t : TypeId} {xs : Array Value} {off : Nat} {x : Value} (h7 : partD P t = some (1, false)) (hx : xs[off]? = some x) : (part t xs off).run P w = .ok x w := by
  obtain ⟨i, d, h1, h2, h3, h4⟩ := partD_some h7
  simp [part, run_isAgg h2, h4, hx]
theorem run_checkKeyI {kt : TypeId} {kf : IntKind} {x : Value} (h2 : P.underlying kt = some (.int kf)) (em : Bool) (m : Nat) : (Instr.checkKey em (m + 1) kt x).run P w = .ok () w := by
  unfold Instr.checkKey
  simp only [Sem.run_bind, run_underlying h2, Result.andThen_ok]
  rfl
theorem run_checkKeyN {k : TypeId} {f g : Field} {kf kg : IntKind} (h2 : P.underlying k = some (.struct #[f, g])) (h5 : P.underlying f.type = some (.int kf)) (h6 : P.underlying g.type = some (.int kg)) (h7 : partD P f.type = some (1, false)) (h8 : partD P g.type = some (1, false))
    (h9 : f.name ≠ "_") (h10 : g.name ≠ "_") (h11 : f.offset = 0) (h12 : g.offset = 1) (a b : Int) (em : Bool) : (Instr.checkKey em 10000 k (ndV a b)).run P w = .ok () w := by
  have p1 : (part f.type #[.int .i64 a, .int .i64 b] 0).run P w = .ok (.int .i64 a) w := run_partN h7 rfl
  have p2 : (part g.type #[.int .i64 a, .int .i64 b] 1).run P w = .ok (.int .i64 b) w := run_partN h8 rfl
  have c1 : (Instr.checkKey em 9999 f.type (.int .i64 a)).run P w = .ok () w := run_checkKeyI h5 em 9998
  have c2 : (Instr.checkKey em 9999 g.type (.int .i64 b)).run P w = .ok () w := run_checkKeyI h6 em 9998
  unfold Instr.checkKey ndV
  simp [run_underlying h2, h9, h10, h11, h12, p1, p2, c1, c2]
theorem findAsk_sound {k : TypeId} (heq : ∀ a b c d : Int, (Op.equal k (ndV a b) (ndV c d)).run P w = .ok (ieq a c && ieq b d) w) : ∀ (ks : List V) (a b : Int) (es : List MapEntry) (i : Nat) (r : Bool), findN ks a b = some r → es.length = ks.length → (∀ (j : Nat) (k : V) (e : MapEntry), ks[j]? = some k → es[j]? = some e → e.val = .bool true ∧ KeyV k e.key) →
    (r = false ∧ (Instr.findAsking k (ndV a b) es i).run P w = .ok none w) ∨ (r = true ∧ ∃ j e, es[j]? = some e ∧ e.key = ndV a b ∧ (Instr.findAsking k (ndV a b) es i).run P w = .ok (some (i + j, .bool true)) w)
  | [], a, b, [], i, r, h, _, _ => by simp only [findN, Option.some.injEq] at h; exact .inl ⟨h.symm, rfl⟩
  | [], a, b, _ :: _, i, r, h, hl, _ => by simp at hl
  | k :: ks, a, b, [], i, r, h, hl, _ => by simp at hl
  | k :: ks, a, b, e :: es, i, r, h, hl, hr => by
    have h0 := hr 0 k e rfl rfl
    simp only [findN] at h
    split at h
    · rename_i c hc
      have hk := unK_some hc
      subst hk
      have hkey : e.key = ndV c.1 c.2 := h0.2
      have hst := heq a b c.1 c.2
      rw [← hkey] at hst
      cases he : (ieq a c.1 && ieq b c.2) with
      | true =>
        rw [he, if_pos rfl] at h
        simp only [Option.some.injEq] at h; subst h
        refine .inr ⟨rfl, 0, e, rfl, ?_, ?_⟩
        · simp only [Bool.and_eq_true, ieq, beq_iff_eq] at he
          rw [hkey, he.1, he.2]
        · rw [he] at hst
          simp [Instr.findAsking, hst, h0.1]
      | false =>
        rw [he, if_neg (by simp)] at h
        rw [he] at hst
        rcases findAsk_sound heq ks a b es (i + 1) r h (by simpa using hl) (fun j k e hk he => hr (j + 1) k e (by simpa using hk) (by simpa using he)) with ⟨h2, h3⟩ | ⟨h2, j, e2, h4, h5, h6⟩
        · exact .inl ⟨h2, by simp [Instr.findAsking, hst, h3]⟩
        · refine .inr ⟨h2, j + 1, e2, by simpa using h4, h5, ?_⟩
          simp only [Instr.findAsking, Sem.run_bind, hst, Result.andThen_ok]
          rw [if_neg (by simp), h6, show i + 1 + j = i + (j + 1) from by omega]
    · cases h
theorem findNow_struct {fs : Array Field} {k : Value} : ∀ (es : List MapEntry) (i : Nat), es ≠ [] → Instr.findNow (.struct fs) k es i = none
  | [], _, h => (h rfl).elim
  | e :: es, i, _ => by simp [Instr.findNow, Instr.sameNow]
theorem findKey_sound {kt : TypeId} {fs : Array Field} (hu : P.underlying kt = some (.struct fs)) (heq : ∀ a b c d : Int, (Op.equal kt (ndV a b) (ndV c d)).run P w = .ok (ieq a c && ieq b d) w) {ks : List V} {a b : Int} {es : List MapEntry} {r : Bool} (h : findN ks a b = some r) (hl : es.length = ks.length) (hr : ∀ (j : Nat) (k : V) (e : MapEntry), ks[j]? = some k → es[j]? = some e → e.val = .bool true ∧ KeyV k e.key) :
    (r = false ∧ (Instr.findKey kt (ndV a b) es).run P w = .ok none w) ∨ (r = true ∧ ∃ j e, es[j]? = some e ∧ e.key = ndV a b ∧ (Instr.findKey kt (ndV a b) es).run P w = .ok (some (j, .bool true)) w) := by
  by_cases he : es = []
  · subst he
    have : ks = [] := List.eq_nil_of_length_eq_zero (by simpa using hl.symm)
    subst this
    simp only [findN, Option.some.injEq] at h
    exact .inl ⟨h.symm, by simp [Instr.findKey, run_underlying hu, Instr.findNow]⟩
  · have hn := findNow_struct (fs := fs) (k := ndV a b) es 0 he
    rcases findAsk_sound heq ks a b es 0 r h hl hr with ⟨h2, h3⟩ | ⟨h2, j, e2, h4, h5, h6⟩
    · exact .inl ⟨h2, by simp [Instr.findKey, run_underlying hu, hn, h3]⟩
    · refine .inr ⟨h2, j, e2, h4, h5, ?_⟩
      simp only [Nat.zero_add] at h6
      simp [Instr.findKey, run_underlying hu, hn, h6]
def lookV (P : Program) (h : Nat → Option Blk) (t : TypeId) (x k : V) : Option V := bif mtd P t then (match x, k with
  | .mp key, .str s => (match h key with
    | some blk => (findS blk.cells s).map .bool
    | none => none)
  | .rset ks, .str s => (findS ks s).map .bool
  | _, _ => none) else bif mtdN P t then (match x, k with
  | .mp key, .agg [.int .i64 a, .int .i64 b] => (match h key with
    | some blk => (findN blk.cells a b).map .bool
    | none => none)
  | .rset ks, .agg [.int .i64 a, .int .i64 b] => (findN ks a b).map .bool
  | .val (.map none), .agg [.int .i64 _, .int .i64 _] => some (.bool false)
  | _, _ => none) else none
theorem lookS {t : TypeId} {b : Nat} {o : Obj} {ks : List V} {s : ByteArray} {bb : Bool} (hmt : mtd P t = true) (hw : w.heap[b]? = some o) (ho : SetR ks o) (hf : findS ks s = some bb) : (Instr.lookup t (.map (some b)) (.string s) false).run P w = .ok (.bool bb) w := by
  obtain ⟨kt, et, i, h1, h2, h3, h4⟩ := mtd_some hmt
  obtain ⟨ents, clk, rfl, hsz, hr⟩ := ho
  have hobj : (getObj b).run P w = .ok (.map ents clk) w := by simp [getObj, Sem.run, hw]
  have hck : ∀ em, (Instr.checkKey em 10000 kt (.string s)).run P w = .ok () w := fun em => run_checkKeyS h2 em 9999
  rcases findNow_sound ks s ents.toList 0 bb hf (by simpa using hsz) (fun j k e hk he => hr j k e hk (by simpa using he)) with ⟨rfl, hn⟩ | ⟨rfl, j, e, he, hek, hn⟩
  · simp [Instr.lookup, run_underlying h1, hobj, hck, Instr.findKey, run_underlying h2, hn, zeroValue, typeInfo, h3, h4]
  · simp [Instr.lookup, run_underlying h1, hobj, hck, Instr.findKey, run_underlying h2, hn]
theorem lookN {t : TypeId} {bo : Nat} {o : Obj} {ks : List V} {a b : Int} {bb : Bool} (hmt : mtdN P t = true) (hw : w.heap[bo]? = some o) (ho : SetR ks o) (hf : findN ks a b = some bb) : (Instr.lookup t (.map (some bo)) (ndV a b) false).run P w = .ok (.bool bb) w := by
  obtain ⟨kt, et, i, f, g, kf, kg, h1, h2, h3, h4, h5, h6, h7, h8, h9, h10, h11, h12, h13⟩ := mtdN_some hmt
  obtain ⟨ents, clk, rfl, hsz, hr⟩ := ho
  have hobj : (getObj bo).run P w = .ok (.map ents clk) w := by simp [getObj, Sem.run, hw]
  have hck : ∀ em, (Instr.checkKey em 10000 kt (ndV a b)).run P w = .ok () w := fun em => run_checkKeyN h2 h5 h6 h7 h8 h9 h10 h11 h12 a b em
  rcases findKey_sound (w := w) h2 (run_equalN h2 h5 h6 h7 h8 h9 h10 h11 h12 h13) hf (es := ents.toList) (by simpa using hsz) (fun j k e hk he => hr j k e hk (by simpa using he)) with ⟨rfl, hn⟩ | ⟨rfl, j, e, he, hek, hn⟩
  · simp [Instr.lookup, run_underlying h1, hobj, hck, hn, zeroValue, typeInfo, h3, h4]
  · simp [Instr.lookup, run_underlying h1, hobj, hck, hn]
theorem lookNil {t : TypeId} {a b : Int} (hmt : mtdN P t = true) : (Instr.lookup t (.map none) (ndV a b) false).run P w = .ok (.bool false) w := by
  obtain ⟨kt, et, i, f, g, kf, kg, h1, h2, h3, h4, h5, h6, h7, h8, h9, h10, h11, h12, h13⟩ := mtdN_some hmt
  have hck : ∀ em, (Instr.checkKey em 10000 kt (ndV a b)).run P w = .ok () w := fun em => run_checkKeyN h2 h5 h6 h7 h8 h9 h10 h11 h12 a b em
  simp [Instr.lookup, run_underlying h1, hck, Instr.findKey, run_underlying h2, Instr.findNow, zeroValue, typeInfo, h3, h4]
theorem lookV_sound (hs : Sim w0 n ro lam st a w) {t : TypeId} {x k v : V} {X K : Value} (h : lookV P st.heap t x k = some v) (hx : R w ro lam x X) (hk : R w ro lam k K) : ∃ z, (Instr.lookup t X K false).run P w = .ok z w ∧ R w ro lam v z := by
  unfold lookV at h
  simp only [cond_eq_ite] at h
  split at h
  · rename_i hmt
    split at h
    · rename_i key s
      obtain ⟨b, hlb, rfl⟩ := hx.mp_inv
      have := hk.str_inv; subst this
      split at h
      · rename_i blk hblk
        simp only [Option.map_eq_some_iff] at h
        obtain ⟨bb, hf, rfl⟩ := h
        rcases hs.heap key blk hblk with ⟨hv, _⟩ | ⟨b', o, hv, hw, hso⟩ | ⟨b', m, arr, hv, _⟩
        · rw [hlb] at hv; cases hv
        · rw [hlb] at hv
          simp only [Option.some.injEq, Prod.mk.injEq, true_and] at hv
          have : b' = b := by omega
          subst this
          exact ⟨_, lookS hmt hw hso hf, .pure _ _ (.bool _)⟩
        · rw [hlb] at hv; cases hv
      · cases h
    · rename_i ks s
      simp only [Option.map_eq_some_iff] at h
      obtain ⟨bb, hf, rfl⟩ := h
      have := hk.str_inv; subst this
      cases hx with
      | pure _ _ hx => cases hx with | rset _ b o hro hw hso => exact ⟨_, lookS hmt hw hso hf, .pure _ _ (.bool _)⟩
    · cases h
  · split at h
    · rename_i hmt
      split at h
      · rename_i key ka kb
        obtain ⟨b, hlb, rfl⟩ := hx.mp_inv
        have := ndV_of hk; subst this
        split at h
        · rename_i blk hblk
          simp only [Option.map_eq_some_iff] at h
          obtain ⟨bb, hf, rfl⟩ := h
          rcases hs.heap key blk hblk with ⟨hv, _⟩ | ⟨b', o, hv, hw, hso⟩ | ⟨b', m, arr, hv, _⟩
          · rw [hlb] at hv; cases hv
          · rw [hlb] at hv
            simp only [Option.some.injEq, Prod.mk.injEq, true_and] at hv
            have : b' = b := by omega
            subst this
            exact ⟨_, lookN hmt hw hso hf, .pure _ _ (.bool _)⟩
          · rw [hlb] at hv; cases hv
        · cases h
      · rename_i ks ka kb
        simp only [Option.map_eq_some_iff] at h
        obtain ⟨bb, hf, rfl⟩ := h
        have := ndV_of hk; subst this
        cases hx with
        | pure _ _ hx => cases hx with | rset _ b o hro hw hso => exact ⟨_, lookN hmt hw hso hf, .pure _ _ (.bool _)⟩
      · rename_i ka kb
        cases h
        have := ndV_of hk; subst this
        cases hx with
        | pure _ _ hx => cases hx; exact ⟨_, lookNil hmt, .pure _ _ (.bool _)⟩
      · cases h
    · cases h
def mupdV (P : Program) (h : Nat → Option Blk) (t : TypeId) (x k v : V) : Option (Nat → Option Blk) := bif mtd P t then (match x, k, v with
  | .mp key, .str s, .bool true => (match h key with
    | some blk => (match findS blk.cells s with
      | some false => some (upd h key (some ⟨blk.ty, blk.cells ++ [.str s]⟩))
      | _ => none)
    | none => none)
  | _, _, _ => none) else bif mtdN P t then (match x, k, v with
  | .mp key, .agg [.int .i64 a, .int .i64 b], .bool true => (match h key with
    | some blk => (match findN blk.cells a b with
      | some r => some (upd h key (some ⟨blk.ty, bif r then blk.cells else blk.cells ++ [nodK (a, b)]⟩))
      | none => none)
    | none => none)
  | _, _, _ => none) else none
theorem mupdV_sound (hs : Sim w0 n ro lam st a w) {t : TypeId} {x k v : V} {X K Y : Value} {h' : Nat → Option Blk} (h : mupdV P st.heap t x k v = some h') (hx : R w ro lam x X) (hk : R w ro lam k K) (hv : R w ro lam v Y) :
    ∃ w', (Instr.mapUpdate t X K Y).run P w = .ok () w' ∧ Sim w0 n ro lam { st with heap := h' } a w' := by
  unfold mupdV at h
  simp only [cond_eq_ite] at h
  split at h
  · rename_i hmt
    obtain ⟨kt, et, i, h1, h2, h3, h4⟩ := mtd_some hmt
    split at h
    · rename_i key s
      obtain ⟨b, hlb, rfl⟩ := hx.mp_inv
      have := hk.str_inv; subst this
      have := hv.bool_inv; subst this
      split at h
      · rename_i blk hblk
        split at h
        · rename_i hf
          simp only [Option.some.injEq] at h; subst h
          rcases hs.heap key blk hblk with ⟨hv, _⟩ | ⟨b', o, hv, hw, ents, clk, rfl, hsz, hr⟩ | ⟨b', m, arr, hv, _⟩
          · rw [hlb] at hv; cases hv
          · rw [hlb] at hv
            simp only [Option.some.injEq, Prod.mk.injEq, true_and] at hv
            have : b' = b := by omega
            subst this
            have hobj : (getObj b').run P w = .ok (.map ents clk) w := by simp [getObj, Sem.run, hw]
            have hlt : b' < w.heap.size := (Array.getElem?_eq_some_iff.1 hw).1
            have hset : ∀ o, (setObj b' o).run P w = .ok () { w with heap := w.heap.setIfInBounds b' o } := fun o => by simp [setObj, Sem.run, hw]
            have hck : (Instr.checkKey false 10000 kt (.string s)).run P w = .ok () w := run_checkKeyS h2 false 9999
            have hsim : ∀ (ks : List V) (o : Obj), SetR ks o → Sim w0 n ro lam { st with heap := upd st.heap key (some ⟨blk.ty, ks⟩) } a { w with heap := w.heap.setIfInBounds b' o } := fun ks o ho =>
              hs.setMap hblk hlb ho rfl rfl rfl (by simp) (by simp [hlt]) (fun k hk => by simp [Array.getElem?_setIfInBounds_ne (Ne.symm hk)])
            rcases findNow_sound blk.cells s ents.toList 0 false hf (by simpa using hsz) (fun j k e hk he => hr j k e hk (by simpa using he)) with ⟨_, hn⟩ | ⟨hb, _⟩
            · refine ⟨{ w with heap := w.heap.setIfInBounds b' (.map (ents.push { key := .string s, val := .bool true, born := clk }) (clk + 1)) }, ?_, hsim _ _ ⟨_, _, rfl, by simp [hsz], fun j k e hk he => ?_⟩⟩
              · simp [Instr.mapUpdate, run_underlying h1, hobj, hck, Instr.findKey, run_underlying h2, hn, hset]
              · by_cases hj : j < blk.cells.length
                · rw [List.getElem?_append_left hj] at hk
                  rw [Array.getElem?_push_lt (by omega)] at he
                  exact hr j k e hk (by rw [Array.getElem?_eq_getElem (by omega)]; exact he)
                · have hjl : j = blk.cells.length := by
                    have := (List.getElem?_eq_some_iff.1 hk).1
                    simp at this; omega
                  subst hjl
                  rw [List.getElem?_append_right (Nat.le_refl _)] at hk
                  rw [← hsz, Array.getElem?_push_size] at he
                  simp at hk he
                  subst hk; subst he
                  exact ⟨rfl, rfl⟩
            · cases hb
          · rw [hlb] at hv; cases hv
        · cases h
      · cases h
    · cases h
  · split at h
    · rename_i hmt
      obtain ⟨kt, et, i, f, g, kf, kg, h1, h2, h3, h4, h5, h6, h7, h8, h9, h10, h11, h12, h13⟩ := mtdN_some hmt
      split at h
      · rename_i key ka kb
        obtain ⟨b, hlb, rfl⟩ := hx.mp_inv
        have := ndV_of hk; subst this
        have := hv.bool_inv; subst this
        split at h
        · rename_i blk hblk
          split at h
          · rename_i r hf
            simp only [Option.some.injEq] at h; subst h
            rcases hs.heap key blk hblk with ⟨hv, _⟩ | ⟨b', o, hv, hw, ents, clk, rfl, hsz, hr⟩ | ⟨b', m, arr, hv, _⟩
            · rw [hlb] at hv; cases hv
            · rw [hlb] at hv
              simp only [Option.some.injEq, Prod.mk.injEq, true_and] at hv
              have : b' = b := by omega
              subst this
              have hobj : (getObj b').run P w = .ok (.map ents clk) w := by simp [getObj, Sem.run, hw]
              have hlt : b' < w.heap.size := (Array.getElem?_eq_some_iff.1 hw).1
              have hset : ∀ o, (setObj b' o).run P w = .ok () { w with heap := w.heap.setIfInBounds b' o } := fun o => by simp [setObj, Sem.run, hw]
              have hck : (Instr.checkKey false 10000 kt (ndV ka kb)).run P w = .ok () w := run_checkKeyN h2 h5 h6 h7 h8 h9 h10 h11 h12 ka kb false
              have hsim : ∀ (ks : List V) (o : Obj), SetR ks o → Sim w0 n ro lam { st with heap := upd st.heap key (some ⟨blk.ty, ks⟩) } a { w with heap := w.heap.setIfInBounds b' o } := fun ks o ho =>
                hs.setMap hblk hlb ho rfl rfl rfl (by simp) (by simp [hlt]) (fun k hk => by simp [Array.getElem?_setIfInBounds_ne (Ne.symm hk)])
              rcases findKey_sound (w := w) h2 (run_equalN h2 h5 h6 h7 h8 h9 h10 h11 h12 h13) hf (es := ents.toList) (by simpa using hsz) (fun j k e hk he => hr j k e hk (by simpa using he)) with ⟨rfl, hn⟩ | ⟨rfl, j, e, he, hek, hn⟩
              · refine ⟨{ w with heap := w.heap.setIfInBounds b' (.map (ents.push { key := ndV ka kb, val := .bool true, born := clk }) (clk + 1)) }, ?_, hsim _ _ ⟨_, _, rfl, by simp [hsz], fun j k e hk he => ?_⟩⟩
                · simp [Instr.mapUpdate, run_underlying h1, hobj, hck, hn, hset]
                · rw [if_neg (by simp)] at hk
                  by_cases hj : j < blk.cells.length
                  · rw [List.getElem?_append_left hj] at hk
                    rw [Array.getElem?_push_lt (by omega)] at he
                    exact hr j k e hk (by rw [Array.getElem?_eq_getElem (by omega)]; exact he)
                  · have hjl : j = blk.cells.length := by
                      have := (List.getElem?_eq_some_iff.1 hk).1
                      simp at this; omega
                    subst hjl
                    rw [List.getElem?_append_right (Nat.le_refl _)] at hk
                    rw [← hsz, Array.getElem?_push_size] at he
                    simp at hk he
                    subst hk; subst he
                    exact ⟨rfl, rfl⟩
              · have he' : ents[j]? = some e := by simpa using he
                have hsame : Instr.sameBits 10000 (ndV ka kb) (ndV ka kb) = true := by simp [ndV, Instr.sameBits]
                refine ⟨{ w with heap := w.heap.setIfInBounds b' (.map (ents.modify j fun e => { e with key := ndV ka kb, val := .bool true }) clk) }, ?_, hsim _ _ ⟨_, _, rfl, by simp [hsz], fun j' k' e' hk' he2 => ?_⟩⟩
                · simp [Instr.mapUpdate, run_underlying h1, hobj, hck, hn, hset, Instr.keyThatStays, he', hek, hsame]
                · rw [if_pos rfl] at hk'
                  rw [Array.getElem?_modify] at he2
                  split at he2
                  · rename_i hjj
                    subst hjj
                    rw [he'] at he2
                    simp only [Option.map_some, Option.some.injEq] at he2
                    subst he2
                    have := hr j k' e hk' he'
                    rw [hek] at this
                    exact ⟨rfl, this.2⟩
                  · exact hr j' k' e' hk' he2
            · rw [hlb] at hv; cases hv
          · cases h
        · cases h
      · cases h
    · cases h
end
end Go.Pv
