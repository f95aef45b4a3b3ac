/-
  Part 8: slices, lending, publishing, calls.
-/
import Derived.Test.YtacmchjaldljjaaPv7
namespace Go.Pv
open Go.RowKit
set_option linter.unusedSimpArgs false

/-- What a call answers, for pure arguments: in every memory in which the arguments read so, the call returns a value that reads so, and turns nothing that was there. -/
def PCall (P : Program) (f : FuncId) (vs : List V) (v : V) : Prop :=
  ∀ (w : World) (ro : Nat → Prop) (args : Array Value), (∀ b, ro b → b < w.heap.size) → args.size = vs.length →
    (∀ (j : Nat) (c : V) (x : Value), vs[j]? = some c → args[j]? = some x → R0 w ro c x) →
    Calls P f args w fun e w' => ∃ rv ro', e = .returned rv ∧ Below w.heap.size w w' ∧ (∀ b, ro b → ro' b) ∧ (∀ b, ro' b → ro b ∨ w.heap.size ≤ b) ∧ (∀ b, ro' b → b < w'.heap.size) ∧ R0 w' ro' v rv

/-- So, and what it returns lies in memory that the call made. -/
def PFresh (P : Program) (f : FuncId) (vs : List V) (v : V) : Prop :=
  ∀ (w : World) (ro : Nat → Prop) (args : Array Value), (∀ b, ro b → b < w.heap.size) → args.size = vs.length →
    (∀ (j : Nat) (c : V) (x : Value), vs[j]? = some c → args[j]? = some x → R0 w ro c x) →
    Calls P f args w fun e w' => ∃ rv, e = .returned rv ∧ Below w.heap.size w w' ∧ R0 w' (fun b => w.heap.size ≤ b ∧ b < w'.heap.size) v rv
theorem PFresh.pcall {P : Program} {f : FuncId} {vs : List V} {v : V} (h : PFresh P f vs v) : PCall P f vs v := by
  intro w ro args hro hsz hr
  refine (h w ro args hro hsz hr).mono fun e w' hh => ?_
  obtain ⟨rv, rfl, hb, hv⟩ := hh
  refine ⟨rv, fun b => ro b ∨ (w.heap.size ≤ b ∧ b < w'.heap.size), rfl, hb, fun b h => .inl h, fun b h => h.imp id And.left, fun b h => ?_, hv.mono (fun _ _ => rfl) (fun b h => .inr h)⟩
  rcases h with h | h
  · exact Nat.lt_of_lt_of_le (hro b h) hb.size
  · exact h.2

/-- A table of answers; of which functions what they return is new memory. -/
structure Tab where
  at' : FuncId → List V → Option V
  fr : FuncId → Bool
def callable (P : Program) (f : FuncId) : Bool := match P.funcs[f]? with
  | some fn => !(fn.name == "runtime.NumGoroutine") && fn.body.isSome
  | none => false
/-- What a function without a Go body answers: a value without memory, in the world that it got. -/
def PExt (P : Program) (f : FuncId) (vs : List V) (v : V) : Prop :=
  ∀ (w : World) (ro : Nat → Prop) (args : Array Value), args.size = vs.length →
    (∀ (j : Nat) (c : V) (x : Value), vs[j]? = some c → args[j]? = some x → R0 w ro c x) → ∃ x, (callFunc f args).run P w = .ok (.value x) w ∧ R0 w ro v x
def TabC (P : Program) (Γ : Tab) (f : FuncId) (vs : List V) (v : V) : Prop := callable P f = true ∧ PCall P f vs v ∧ (Γ.fr f = true → PFresh P f vs v)
def extFlat : V → Bool
  | .bool _ | .int .. | .str _ => true
  | .tup vs => vs.all fun c => match c with
    | .bool _ | .int .. | .str _ => true
    | _ => false
  | _ => false
def TabOK (P : Program) (Γ : Tab) : Prop := ∀ f vs v, Γ.at' f vs = some v → TabC P Γ f vs v ∨ (extFlat v = true ∧ PExt P f vs v)

section
variable {w0 : Base} {n : Nat} {ro : Nat → Prop} {lam : Lam} {st : St} {a : Act} {w : World} {P : Program}

/-! ### s[lo:hi] -/
def bndV (x : Option V) (dflt : Nat) : Option Nat := match x with
  | none => some dflt
  | some (.int _ i) => bif decide (0 ≤ i) then some i.toNat else none
  | _ => none
def sliceV (P : Program) (h : Nat → Option Blk) (t : TypeId) (x : V) (lo hi : Option V) : Option V := match td P t with
  | some d => (match d.slc with
    | some (_, s) => (match x with
      | .list sz xs => (match bndV lo 0, bndV hi xs.length with
        | some l, some u => bif decide (s = sz) && (decide (l ≤ u) && decide (u ≤ xs.length)) then some (bif decide (l = u) then .list sz [] else .list sz ((xs.drop l).take (u - l))) else none
        | _, _ => none)
      | .sl key off len sz => (match bndV lo 0, bndV hi len with
        | some l, some u => bif decide (s = sz) && (decide (l ≤ u) && decide (u ≤ len)) then some (bif decide (l = u) then .list sz [] else .sl key (off + l * sz) (u - l) sz) else none
        | _, _ => none)
      | .nils => (match bndV lo 0, bndV hi 0 with
        | some 0, some 0 => some .nils
        | _, _ => none)
      | _ => none)
    | none => (match d.arr, x with
      | some (m, s, _), .ptr key off => (match bndV lo 0, bndV hi m, h key with
        | some l, some u, some blk => bif decide (l < u) && (decide (u ≤ m) && (decide (off + m * s ≤ blk.cells.length) && decide (m ≤ 9223372036854775807))) then some (.sl key (off + l * s) (u - l) s) else none
        | _, _, _ => none)
      | _, _ => none))
  | none => none

theorem bnd_sound {x : Option V} {X : Option Value} {dflt l y : Nat} {code : BoundsCode} (h : bndV x dflt = some l) (hx : ∀ v, x = some v → ∃ z, X = some z ∧ R w ro lam v z) (hn : x = none → X = none) (hle : l ≤ y) :
    (X = none ∧ l = dflt) ∨ ∃ z, X = some z ∧ (Instr.sliceBound z y code).run P w = .ok l w := by
  unfold bndV at h
  split at h
  · simp only [Option.some.injEq] at h; exact .inl ⟨hn rfl, h.symm⟩
  · rename_i k i
    simp only [cond_eq_ite, decide_eq_true_eq] at h
    split at h
    · rename_i h0
      simp only [Option.some.injEq] at h
      obtain ⟨z, hz, hr⟩ := hx _ rfl
      have := hr.int_inv; subst this
      refine .inr ⟨_, hz, ?_⟩
      have hle' : i ≤ (y : Int) := by omega
      simp [Instr.sliceBound, asIntOf, h0, hle', h]
    · cases h
  · cases h

theorem bounds_sound {lo hi : Option V} {Lo Hi : Option Value} {len cap l u : Nat} {sl : Bool} (hl : bndV lo 0 = some l) (hu : bndV hi len = some u) (h1 : l ≤ u) (h2 : u ≤ len) (h3 : len ≤ cap)
    (xl : ∀ v, lo = some v → ∃ z, Lo = some z ∧ R w ro lam v z) (nl : lo = none → Lo = none) (xh : ∀ v, hi = some v → ∃ z, Hi = some z ∧ R w ro lam v z) (nh : hi = none → Hi = none) :
    (Instr.sliceBounds sl len cap Lo Hi none).run P w = .ok (l, u, cap) w := by
  have hb := bnd_sound (P := P) (y := cap) (code := if sl then .sliceAcap else .sliceAlen) hu xh nh (by omega)
  have hb' := bnd_sound (P := P) (y := u) (code := .sliceB) hl xl nl h1
  rcases hb with ⟨rfl, rfl⟩ | ⟨z, rfl, hz⟩ <;> rcases hb' with ⟨rfl, rfl⟩ | ⟨y, rfl, hy⟩ <;> simp [Instr.sliceBounds, *]

theorem sliceV_sound (hs : Sim w0 n ro lam st a w) {t : TypeId} {x v : V} {X : Value} {lo hi : Option V} {Lo Hi : Option Value} (h : sliceV P st.heap t x lo hi = some v) (hx : R w ro lam x X)
    (xl : ∀ v, lo = some v → ∃ z, Lo = some z ∧ R w ro lam v z) (nl : lo = none → Lo = none) (xh : ∀ v, hi = some v → ∃ z, Hi = some z ∧ R w ro lam v z) (nh : hi = none → Hi = none) :
    ∃ z, (Instr.sliceAt t X Lo Hi none).run P w = .ok z w ∧ R w ro lam v z := by
  unfold sliceV at h
  split at h
  · rename_i d hd
    split at h
    · rename_i e s hslc
      obtain ⟨hu, ag, hp⟩ := td_slc' hd hslc
      obtain ⟨ie, De, e1, e2, e3, e4⟩ := partD_some hp
      split at h
      · rename_i sz xs
        split at h
        · rename_i l u hl hu'
          simp only [cond_eq_ite, Bool.and_eq_true, decide_eq_true_eq] at h
          split at h
          · rename_i hc
            obtain ⟨rfl, h1, h2⟩ := hc
            simp only [Option.some.injEq] at h
            rcases hx.list_inv with ⟨rfl, ad, cap, rfl⟩ | ⟨ad, cap, g, rfl, hro, huni, hcap, hg, hr⟩
            · have hb := bounds_sound (P := P) (cap := cap) (sl := true) hl hu' h1 h2 (by simp) xl nl xh nh
              simp only [List.length_nil] at hb h2
              have h0 : u = 0 := by omega
              have h0' : l = 0 := by omega
              subst h0; subst h0'
              simp only [if_true] at h
              subst h
              exact ⟨_, by (simp [Instr.sliceAt, Instr.slice, run_underlying hu, hb, run_sizeOf' e1]) <;> first | exact ⟨rfl, rfl⟩ | rfl, .pure _ _ (.list0 _ _ _)⟩
            · have hb := bounds_sound (P := P) (cap := cap) (sl := true) hl hu' h1 h2 hcap xl nl xh nh
              split at h
              · rename_i hlu
                subst hlu; subst h
                refine ⟨_, by (simp [Instr.sliceAt, Instr.slice, run_underlying hu, hb, run_sizeOf' e1, e3]) <;> first | exact ⟨rfl, rfl⟩ | rfl, .pure _ _ ?_⟩
                exact .list0 _ _ _
              · rename_i hlu
                subst h
                have hne : ¬ cap = l := by omega
                refine ⟨.slice (some (ad.add (l * s))) (u - l) (cap - l), by simp [Instr.sliceAt, Instr.slice, run_underlying hu, hb, run_sizeOf' e1, e3, hne], .pure _ _ ?_⟩
                have hlen : ((xs.drop l).take (u - l)).length = u - l := by simp; omega
                have hat : ∀ i c, ((xs.drop l).take (u - l))[i]? = some c → xs[l + i]? = some c := fun i c hc => by
                  rw [List.getElem?_take] at hc
                  split at hc
                  · simpa using hc
                  · cases hc
                suffices hkey : R0 w ro (.list s ((xs.drop l).take (u - l))) (.slice (some (ad.add (l * s))) ((xs.drop l).take (u - l)).length (cap - l)) by rw [hlen] at hkey; exact hkey
                refine .list s _ _ _ (fun i j => g (l + i) j) (by rw [block_add]; exact hro) (fun c hc => huni c (List.mem_of_mem_drop (List.mem_of_mem_take hc))) (by rw [hlen]; omega) (fun i j c y hc hy => ?_) (fun i j c y hc hy => hr _ _ c y (hat i c hc) hy)
                rw [add_add, show l * s + (i * s + j) = (l + i) * s + j from by rw [Nat.add_mul]; omega]
                exact hg _ _ c y (hat i c hc) hy
          · cases h
        · cases h
      · rename_i key off len sz
        split at h
        · rename_i l u hl hu'
          simp only [cond_eq_ite, Bool.and_eq_true, decide_eq_true_eq] at h
          split at h
          · rename_i hc
            obtain ⟨rfl, h1, h2⟩ := hc
            simp only [Option.some.injEq] at h
            rcases hx.sl_inv with ⟨hv, rfl, rfl, rfl⟩ | ⟨b, m, cap, hlm, hm, hlc, hcm, rfl⟩
            · have hb := bounds_sound (P := P) (cap := 0) (sl := true) hl hu' h1 h2 (Nat.le_refl _) xl nl xh nh
              have h0 : u = 0 := by omega
              have h0' : l = 0 := by omega
              subst h0; subst h0'
              simp only [if_true] at h
              subst h
              exact ⟨_, by (simp [Instr.sliceAt, Instr.slice, run_underlying hu, hb, run_sizeOf' e1]) <;> first | exact ⟨rfl, rfl⟩ | rfl, .pure _ _ (.list0 _ _ _)⟩
            · have hb := bounds_sound (P := P) (cap := cap) (sl := true) hl hu' h1 h2 hlc xl nl xh nh
              split at h
              · rename_i hlu
                subst hlu; subst h
                refine ⟨_, by (simp [Instr.sliceAt, Instr.slice, run_underlying hu, hb, run_sizeOf' e1, e3]) <;> first | exact ⟨rfl, rfl⟩ | rfl, .pure _ _ ?_⟩
                exact .list0 _ _ _
              · rename_i hlu
                subst h
                have hne : ¬ cap = l := by omega
                refine ⟨.slice (some ⟨b, off + l * s, none⟩) (u - l) (cap - l), by simp [Instr.sliceAt, Instr.slice, run_underlying hu, hb, run_sizeOf' e1, e3, hne, add_lit], .sl key (off + l * s) (u - l) s b m (cap - l) hlm ?_ (by omega) (by omega)⟩
                rw [Nat.add_assoc, ← Nat.add_mul, show l + (cap - l) = cap from by omega]
                exact hm
          · cases h
        · cases h
      · have := hx.nils_inv; subst this
        split at h
        · rename_i hl hu'
          have hb := bounds_sound (P := P) (len := 0) (cap := 0) (sl := true) hl hu' (Nat.le_refl _) (Nat.le_refl _) (Nat.le_refl _) xl nl xh nh
          simp only [Option.some.injEq] at h; subst h
          exact ⟨_, by simp [Instr.sliceAt, Instr.slice, run_underlying hu, hb, run_sizeOf' e1], .pure _ _ .nils⟩
        · cases h
      · cases h
    · split at h
      · rename_i m s ag key off harr
        obtain ⟨e, hu, hp⟩ := td_arr hd harr
        obtain ⟨ie, De, e1, e2, e3, e4⟩ := partD_some hp
        split at h
        · rename_i l u blk hl hu' hk
          simp only [cond_eq_ite, Bool.and_eq_true, decide_eq_true_eq] at h
          split at h
          · rename_i hc
            obtain ⟨h1, h2, h3, h4⟩ := hc
            simp only [Option.some.injEq] at h; subst h
            obtain ⟨b, m', hlm, rfl⟩ := hx.ptr_inv
            have hb := bounds_sound (P := P) (cap := m) (sl := false) hl hu' (by omega) h2 (Nat.le_refl _) xl nl xh nh
            have hne : ¬ m = l := by omega
            have hbm : blk.cells.length ≤ m' := by
              rcases hs.heap key blk hk with ⟨hv, _⟩ | ⟨b', m'', arr, hl', _, _, hle, _⟩
              · rw [hlm] at hv; cases hv
              · rw [hlm] at hl'; simp only [Option.some.injEq, Prod.mk.injEq] at hl'; rw [hl'.2]; exact hle
            refine ⟨.slice (some ⟨b, off + l * s, none⟩) (u - l) (m - l), by simp [Instr.sliceAt, run_underlying hu, Instr.sureAddr, hb, run_sizeOf' e1, e3, hne, add_lit], .sl key (off + l * s) (u - l) s b m' (m - l) hlm ?_ (by omega) (by simp only [maxLen]; omega)⟩
            rw [Nat.add_assoc, ← Nat.add_mul, show l + (m - l) = m from by omega]
            omega
          · cases h
        · cases h
      · cases h
  · cases h

/-! ### lending -/
def chunks (sz : Nat) : Nat → List V → List (List V)
  | 0, _ => []
  | m + 1, cs => cs.take sz :: chunks sz m (cs.drop sz)
theorem length_chunks (sz : Nat) : ∀ (m : Nat) (cs : List V), (chunks sz m cs).length = m
  | 0, _ => rfl
  | m + 1, cs => by simp [chunks, length_chunks sz m]
theorem chunks_at (sz : Nat) : ∀ (m : Nat) (cs : List V) (i : Nat) (c : List V), (chunks sz m cs)[i]? = some c → i < m ∧ c = (cs.drop (i * sz)).take sz
  | 0, _, i, c, h => by simp [chunks] at h
  | m + 1, cs, 0, c, h => by simp [chunks] at h; exact ⟨by omega, by simp [h]⟩
  | m + 1, cs, i + 1, c, h => by
    simp only [chunks, List.getElem?_cons_succ] at h
    obtain ⟨h1, h2⟩ := chunks_at sz m (cs.drop sz) i c h
    refine ⟨by omega, ?_⟩
    rw [h2, List.drop_drop, show sz + i * sz = (i + 1) * sz from by rw [Nat.succ_mul]; omega]

def lendC (h : Nat → Option Blk) : V → Option V
  | .sl key off len sz => (match h key with
    | some blk => bif decide (off + len * sz ≤ blk.cells.length) && !(blk.cells.any ownC) then some (.list sz (chunks sz len (blk.cells.drop off))) else none
    | none => none)
  | .ptr key off => (match h key with
    | some blk => bif blk.cells.any ownC then none else some (.rp (blk.cells.drop off))
    | none => none)
  | .agg _ | .tup _ | .vptr .. => none
  | v => some v
def lendL (h : Nat → Option Blk) : List V → Option (List V)
  | [] => some []
  | v :: vs => match lendC h v, lendL h vs with
    | some u, some us => some (u :: us)
    | _, _ => none
def lendA (h : Nat → Option Blk) : V → Option V
  | .agg cs => (lendL h cs).map .agg
  | v => lendC h v
def lendAs (h : Nat → Option Blk) : List V → Option (List V)
  | [] => some []
  | v :: vs => match lendA h v, lendAs h vs with
    | some u, some us => some (u :: us)
    | _, _ => none

/-- Read-only or own. -/
def roOwn (ro : Nat → Prop) (lam : Lam) (b : Nat) : Prop := ro b ∨ ∃ key m, lam key = some (some b, m)

theorem R0_more {v : V} {x : Value} (h : R0 w ro v x) : R0 w (roOwn ro lam) v x := h.mono (fun _ _ => rfl) (fun _ h => .inl h)

theorem lendC_sound (hs : Sim w0 n ro lam st a w) {v u : V} {x : Value} (h : lendC st.heap v = some u) (hx : R w ro lam v x) : R0 w (roOwn ro lam) u x := by
  cases v with
  | sl key off len sz =>
    simp only [lendC] at h
    split at h
    · rename_i blk hk
      simp only [cond_eq_ite, Bool.and_eq_true, decide_eq_true_eq] at h
      split at h
      · rename_i hc
        obtain ⟨hle, hpure⟩ := hc
        have hpure' : blk.cells.any ownC = false := by simpa using hpure
        simp only [Option.some.injEq] at h; subst h
        rcases hx.sl_inv with ⟨hv, rfl, rfl, rfl⟩ | ⟨b, m, cap, hl, _, hlc, _, rfl⟩
        · exact .list0 _ _ _
        · rcases hs.heap key blk hk with ⟨hv, _⟩ | ⟨b', m', arr, hl', hw, hsz, hle', hr⟩
          · rw [hl] at hv; cases hv
          · rw [hl] at hl'
            simp only [Option.some.injEq, Prod.mk.injEq] at hl'
            obtain ⟨rfl, rfl⟩ := hl'
            have hlen := length_chunks sz len (blk.cells.drop off)
            have hat : ∀ i j c y, (chunks sz len (blk.cells.drop off))[i]? = some c → c[j]? = some y → blk.cells[off + (i * sz + j)]? = some y ∧ off + (i * sz + j) < arr.size := fun i j c y hc hy => by
              obtain ⟨h1, rfl⟩ := chunks_at sz len _ i c hc
              rw [List.getElem?_take] at hy
              split at hy
              · rw [List.getElem?_drop, List.getElem?_drop] at hy
                refine ⟨by rw [← hy], ?_⟩
                have := (List.getElem?_eq_some_iff.1 hy).1
                omega
              · cases hy
            have key' : R0 w (roOwn ro lam) (.list sz (chunks sz len (blk.cells.drop off))) (.slice (some ⟨b, off, none⟩) (chunks sz len (blk.cells.drop off)).length cap) := by
              refine .list sz _ ⟨b, off, none⟩ cap (fun i j => arr.getD (off + (i * sz + j)) Go.undef) (.inr ⟨key, _, hl⟩) (fun c hc => ?_) (by rw [hlen]; exact hlc) (fun i j c y hc hy => ?_) (fun i j c y hc hy => ?_)
              · obtain ⟨i, hi, rfl⟩ := List.mem_iff_getElem.1 hc
                obtain ⟨h1, h2⟩ := chunks_at sz len _ i _ (List.getElem?_eq_getElem hi)
                rw [h2]
                simp only [List.length_take, List.length_drop]
                have : (i + 1) * sz ≤ len * sz := Nat.mul_le_mul_right _ h1
                rw [Nat.succ_mul] at this
                omega
              · obtain ⟨h1, h2⟩ := hat i j c y hc hy
                rw [add_lit, cell_of_row w b _ arr blk.ty (0, 0) hw]
                simp [Array.getD_eq_getD_getElem?, Array.getElem?_eq_getElem h2]
              · obtain ⟨h1, h2⟩ := hat i j c y hc hy
                have h3 := hr _ y _ h1 (Array.getElem?_eq_getElem h2)
                have h4 := R0_more (lam := lam) (h3.pureC (any_at hpure' h1))
                simpa [Array.getD_eq_getD_getElem?, Array.getElem?_eq_getElem h2] using h4
            rw [hlen] at key'
            exact key'
      · cases h
    · cases h
  | ptr key off =>
    simp only [lendC] at h
    split at h
    · rename_i blk hk
      simp only [cond_eq_ite] at h
      split at h
      · cases h
      · rename_i hpure
        have hpure' : blk.cells.any ownC = false := by simpa using hpure
        simp only [Option.some.injEq] at h; subst h
        obtain ⟨b, m, hl, rfl⟩ := hx.ptr_inv
        rcases hs.heap key blk hk with ⟨hv, _⟩ | ⟨b', m', arr, hl', hw, hsz, hle', hr⟩
        · rw [hl] at hv; cases hv
        · rw [hl] at hl'
          simp only [Option.some.injEq, Prod.mk.injEq] at hl'
          obtain ⟨rfl, rfl⟩ := hl'
          have hat : ∀ j y, (blk.cells.drop off)[j]? = some y → blk.cells[off + j]? = some y ∧ off + j < arr.size := fun j y hy => by
            rw [List.getElem?_drop] at hy
            have := (List.getElem?_eq_some_iff.1 hy).1
            exact ⟨hy, by omega⟩
          refine .rp _ ⟨b, off, none⟩ (fun j => arr.getD (off + j) Go.undef) (.inr ⟨key, _, hl⟩) (fun j y hy => ?_) (fun j y hy => ?_)
          · obtain ⟨h1, h2⟩ := hat j y hy
            rw [add_lit, cell_of_row w b _ arr blk.ty (0, 0) hw]
            simp [Array.getD_eq_getD_getElem?, Array.getElem?_eq_getElem h2]
          · obtain ⟨h1, h2⟩ := hat j y hy
            have h3 := hr _ y _ h1 (Array.getElem?_eq_getElem h2)
            have h4 := R0_more (lam := lam) (h3.pureC (any_at hpure' h1))
            simpa [Array.getD_eq_getD_getElem?, Array.getElem?_eq_getElem h2] using h4
    · cases h
  | agg _ => simp [lendC] at h
  | tup _ => simp [lendC] at h
  | vptr _ _ _ => simp [lendC] at h
  | _ => simp only [lendC, Option.some.injEq] at h; subst h; exact R0_more (hx.pureC rfl)

theorem lendL_at (h : Nat → Option Blk) : ∀ (vs us : List V), lendL h vs = some us → us.length = vs.length ∧ ∀ (j : Nat) (u : V), us[j]? = some u → ∃ v, vs[j]? = some v ∧ lendC h v = some u
  | [], us, e => by simp only [lendL, Option.some.injEq] at e; subst e; simp
  | v :: vs, us, e => by
    unfold lendL at e
    split at e
    · rename_i u us' h1 h2
      simp only [Option.some.injEq] at e; subst e
      obtain ⟨i1, i2⟩ := lendL_at h vs us' h2
      refine ⟨by simp [i1], fun j x hj => ?_⟩
      cases j with
      | zero => simp at hj; subst hj; exact ⟨v, rfl, h1⟩
      | succ j => simpa using i2 j x (by simpa using hj)
    · cases e
theorem lendA_sound (hs : Sim w0 n ro lam st a w) {v u : V} {x : Value} (h : lendA st.heap v = some u) (hx : R w ro lam v x) : R0 w (roOwn ro lam) u x := by
  cases v with
  | agg cs =>
    simp only [lendA, Option.map_eq_some_iff] at h
    obtain ⟨us, hus, rfl⟩ := h
    obtain ⟨arr, rfl, hl, hr⟩ := hx.agg_inv
    obtain ⟨i1, i2⟩ := lendL_at _ cs us hus
    refine .agg _ _ (by rw [hl, i1]) fun j c y hc hy => ?_
    obtain ⟨v, hv, hvc⟩ := i2 j c hc
    exact lendC_sound hs hvc (hr j v y hv hy)
  | _ => simp only [lendA] at h; exact lendC_sound hs h hx
theorem lendAs_at (h : Nat → Option Blk) : ∀ (vs us : List V), lendAs h vs = some us → us.length = vs.length ∧ ∀ (j : Nat) (u : V), us[j]? = some u → ∃ v, vs[j]? = some v ∧ lendA h v = some u
  | [], us, e => by simp only [lendAs, Option.some.injEq] at e; subst e; simp
  | v :: vs, us, e => by
    unfold lendAs at e
    split at e
    · rename_i u us' h1 h2
      simp only [Option.some.injEq] at e; subst e
      obtain ⟨i1, i2⟩ := lendAs_at h vs us' h2
      refine ⟨by simp [i1], fun j x hj => ?_⟩
      cases j with
      | zero => simp at hj; subst hj; exact ⟨v, rfl, h1⟩
      | succ j => simpa using i2 j x (by simpa using hj)
    · cases e

/-- No memory in it at all. -/
def flatC : V → Bool
  | .list .. | .sl .. | .ptr .. | .vptr .. | .rp _ | .vrp .. | .agg _ | .tup _ => false
  | _ => true
def flatA : V → Bool
  | .agg cs => cs.all flatC
  | v => flatC v
def flatT : V → Bool
  | .tup vs => vs.all flatA
  | v => flatA v
theorem all_at {α : Type} {p : α → Bool} {l : List α} (h : l.all p = true) {j : Nat} {c : α} (hj : l[j]? = some c) : p c = true :=
  List.all_eq_true.1 h c (List.mem_of_getElem? hj)
theorem R0.flatC {w' : World} {ro' : Nat → Prop} {v : V} {x : Value} (h : R0 w ro v x) (hf : flatC v = true) : R0 w' ro' v x := by
  cases h with
  | undef => exact .undef
  | junk x => exact .junk x
  | val x => exact .val x
  | bool b => exact .bool b
  | int k m => exact .int k m
  | str s => exact .str s
  | nils => exact .nils
  | _ => simp [Pv.flatC] at hf
theorem R0.flatA {w' : World} {ro' : Nat → Prop} {v : V} {x : Value} (h : R0 w ro v x) (hf : flatA v = true) : R0 w' ro' v x := by
  cases v with
  | agg cs => cases h with | agg _ arr hl hr => exact .agg _ arr hl fun j c y hc hy => (hr j c y hc hy).flatC (all_at hf hc)
  | _ => exact h.flatC hf
theorem R0.flatT {w' : World} {ro' : Nat → Prop} {v : V} {x : Value} (h : R0 w ro v x) (hf : flatT v = true) : R0 w' ro' v x := by
  cases v with
  | tup cs => cases h with | tup _ arr hl hr => exact .tup _ arr hl fun j c y hc hy => (hr j c y hc hy).flatA (all_at hf hc)
  | agg cs => exact h.flatA hf
  | _ => exact h.flatC hf

/-- More memory that is only read. -/
theorem Sim.more (hs : Sim w0 n ro lam st a w) {ro' : Nat → Prop} (h1 : ∀ b, ro b → ro' b) (h2 : ∀ b, ro' b → b < w.heap.size) (h3 : ∀ key b m, lam key = some (some b, m) → ¬ ro' b) : Sim w0 n ro' lam st a w := by
  have hm : ∀ {v x}, R w ro lam v x → R w ro' lam v x := fun h => h.mono (fun _ _ => rfl) h1 (fun _ _ h => h)
  refine ⟨hs.below, hs.dfr, hs.size, h2, fun t => hm (hs.env t), fun key blk hk => ?_, hs.dead, fun key b m hl => ⟨(hs.own key b m hl).1, (hs.own key b m hl).2.1, h3 key b m hl⟩, hs.inj⟩
  rcases hs.heap key blk hk with hv | ⟨b, m, arr, hl, hw, hsz, hle, hr⟩
  · exact .inl hv
  · exact .inr ⟨b, m, arr, hl, hw, hsz, hle, fun j c x hc hx => hm (hr j c x hc hx)⟩

def callV (Γ : Tab) (h : Nat → Option Blk) (f : FuncId) (xs : List V) : Option V := match lendAs h xs with
  | some vs => (match Γ.at' f vs with
    | some v => bif xs.all (fun x => !ownA x) || flatT v || Γ.fr f then some v else none
    | none => none)
  | none => none

/-- How read-only memory may grow: by what is new. -/
def Ext (w0 : Base) (ro ro' : Nat → Prop) : Prop := (∀ b, ro b → ro' b) ∧ ∀ b, ro' b → ro b ∨ w0.w.heap.size ≤ b
theorem Ext.refl (w0 : Base) (ro : Nat → Prop) : Ext w0 ro ro := ⟨fun _ h => h, fun _ h => .inl h⟩
theorem Ext.trans {ro1 ro2 : Nat → Prop} (h : Ext w0 ro ro1) (k : Ext w0 ro1 ro2) : Ext w0 ro ro2 :=
  ⟨fun b hb => k.1 b (h.1 b hb), fun b hb => (k.2 b hb).elim (h.2 b) .inr⟩

theorem R0.extFlat {w' : World} {ro' : Nat → Prop} {v : V} {x : Value} (h : R0 w ro v x) (hf : extFlat v = true) : R0 w' ro' v x := by
  cases h with
  | bool b => exact .bool b
  | int k n => exact .int k n
  | str s => exact .str s
  | tup vs arr hl hr =>
    refine .tup vs arr hl fun j c x hc hx => ?_
    have hcf := List.all_eq_true.1 (by simpa [Pv.extFlat] using hf) c (List.mem_of_getElem? hc)
    have h1 := hr j c x hc hx
    cases h1 with
    | bool b => exact .bool b
    | int k n => exact .int k n
    | str s => exact .str s
    | _ => simp at hcf
  | _ => simp [Pv.extFlat] at hf
theorem callV_sound {Γ : Tab} (hΓ : TabOK P Γ) (hs : Sim w0 n ro lam st a w) {f : FuncId} {xs : List V} {v : V} {args : Array Value} (h : callV Γ st.heap f xs = some v) (hl : args.size = xs.length)
    (hr : ∀ (j : Nat) (c : V) (x : Value), xs[j]? = some c → args[j]? = some x → R w ro lam c x) :
    (callable P f = true ∧ Calls P f args w fun e w' => ∃ rv ro', e = .returned rv ∧ Ext w0 ro ro' ∧ Sim w0 n ro' lam st a w' ∧ R w' ro' lam v rv) ∨ (∃ x, (callFunc f args).run P w = .ok (.value x) w ∧ R w ro lam v x) := by
  unfold callV at h
  split at h
  · rename_i vs hvs
    split at h
    · rename_i v' hv'
      simp only [cond_eq_ite, Bool.or_eq_true] at h
      split at h
      · rename_i hc
        simp only [Option.some.injEq] at h; subst h
        obtain ⟨i1, i2⟩ := lendAs_at _ xs vs hvs
        rcases hΓ f vs v' hv' with ⟨hcall, hp, hfr⟩ | ⟨hflat, hp⟩
        case inr =>
          obtain ⟨x, hx, hrx⟩ := hp w (roOwn ro lam) args (by rw [hl, i1]) fun j c x hc hx => by
            obtain ⟨u, hu, huc⟩ := i2 j c hc
            exact lendA_sound hs huc (hr j u x hu hx)
          exact .inr ⟨x, hx, .pure _ _ (hrx.extFlat hflat)⟩
        refine .inl ⟨hcall, ?_⟩
        by_cases hpure : xs.all (fun x => !ownA x) = true
        · -- nothing of the call's own is handed over
          have hsame : ∀ c, ownA c = false → lendA st.heap c = some c := by
            intro c hc
            cases c with
            | agg cs =>
              have : ∀ l : List V, l.any ownC = false → lendL st.heap l = some l := by
                intro l
                induction l with
                | nil => intro _; rfl
                | cons y ys ih =>
                  intro hy
                  simp only [List.any_cons, Bool.or_eq_false_iff] at hy
                  simp only [lendL, ih hy.2]
                  cases y <;> simp [ownC] at hy <;> rfl
              simp only [lendA, this cs hc, Option.map_some]
            | sl _ _ _ _ => simp [ownA, ownC] at hc
            | ptr _ _ => simp [ownA, ownC] at hc
            | vptr _ _ _ => simp [ownA, ownC] at hc
            | tup _ => simp [ownA, ownC] at hc
            | _ => rfl
          have hargs : ∀ (j : Nat) (c : V) (x : Value), vs[j]? = some c → args[j]? = some x → R0 w ro c x := fun j c x hc hx => by
            obtain ⟨u, hu, huc⟩ := i2 j c hc
            have hpu : ownA u = false := by simpa using all_at hpure hu
            rw [hsame u hpu] at huc
            simp only [Option.some.injEq] at huc
            subst huc
            exact (hr j u x hu hx).pureA hpu
          refine (hp w ro args hs.rolt (by rw [hl, i1]) hargs).mono fun e w' hh => ?_
          obtain ⟨rv, ro', rfl, hb, k1, k2, k3, hrv⟩ := hh
          have hs' := hs.world hb
          refine ⟨rv, ro', rfl, ⟨k1, fun b hb' => (k2 b hb').imp id (fun h => Nat.le_trans hs.below.size h)⟩, hs'.more k1 k3 (fun key b m hlm hro => ?_), .pure _ _ hrv⟩
          obtain ⟨_, o2, o3⟩ := hs.own key b m hlm
          rcases k2 b hro with h | h
          · exact o3 h
          · omega
        · skip
          have hrolt : ∀ b, roOwn ro lam b → b < w.heap.size := fun b hb => by
            rcases hb with h | ⟨key, m, h⟩
            · exact hs.rolt b h
            · exact (hs.own key b m h).2.1
          have hargs : ∀ (j : Nat) (c : V) (x : Value), vs[j]? = some c → args[j]? = some x → R0 w (roOwn ro lam) c x := fun j c x hc hx => by
            obtain ⟨u, hu, huc⟩ := i2 j c hc
            exact lendA_sound hs huc (hr j u x hu hx)
          rcases hc with (h | hflat) | hf
          · exact absurd h hpure
          · refine (hp w (roOwn ro lam) args hrolt (by rw [hl, i1]) hargs).mono fun e w' hh => ?_
            obtain ⟨rv, ro', rfl, hb, k1, k2, k3, hrv⟩ := hh
            exact ⟨rv, ro, rfl, Ext.refl _ _, hs.world hb, .pure _ _ (hrv.flatT hflat)⟩
          · refine (hfr hf w (roOwn ro lam) args hrolt (by rw [hl, i1]) hargs).mono fun e w' hh => ?_
            obtain ⟨rv, rfl, hb, hrv⟩ := hh
            have hs' := hs.world hb
            refine ⟨rv, fun b => ro b ∨ (w.heap.size ≤ b ∧ b < w'.heap.size), rfl, ⟨fun b h => .inl h, fun b h => h.imp id fun h => Nat.le_trans hs.below.size h.1⟩, hs'.more (fun b h => .inl h) (fun b h => ?_) (fun key b m hlm hro => ?_), .pure _ _ (hrv.mono (fun _ _ => rfl) (fun b h => .inr h))⟩
            · rcases h with h | h
              · exact Nat.lt_of_lt_of_le (hs.rolt b h) hb.size
              · exact h.2
            · obtain ⟨_, o2, o3⟩ := hs.own key b m hlm
              rcases hro with h | h
              · exact o3 h
              · omega
      · cases h
    · cases h
  · cases h

/-! ### what is new -/
def ownP (lam : Lam) (b : Nat) : Prop := ∃ key m, lam key = some (some b, m)
def rowFlat : V → Bool
  | .list _ xs => xs.all (fun c => c.all flatC)
  | v => flatC v
def frC (u v : V) : Bool := match u with
  | .sl .. => rowFlat v
  | _ => flatC v
def frL : List V → List V → Bool
  | [], [] => true
  | u :: us, v :: vs => frC u v && frL us vs
  | _, _ => false
def frA (u v : V) : Bool := match u, v with
  | .agg cs, .agg vs => frL cs vs
  | .agg _, _ => false
  | u, v => frC u v
def frAs : List V → List V → Bool
  | [], [] => true
  | u :: us, v :: vs => frA u v && frAs us vs
  | _, _ => false
theorem frC_sound (hs : Sim w0 n ro lam st a w) {u v : V} {x : Value} (h : lendC st.heap u = some v) (hx : R w ro lam u x) (hf : frC u v = true) : R0 w (ownP lam) v x := by
  have h0 := lendC_sound hs h hx
  have hne : (∀ key off len sz, u ≠ .sl key off len sz) → flatC v = true := by
    intro hne
    unfold frC at hf
    split at hf
    · rename_i key off len sz; exact absurd rfl (hne key off len sz)
    · exact hf
  cases u with
  | sl key off len sz =>
    have hrf : rowFlat v = true := hf
    rcases hx.sl_inv with ⟨hv, rfl, rfl, rfl⟩ | ⟨b, m, cap, hl, _, hlc, _, rfl⟩
    · cases h0 with
      | list0 => exact .list0 _ _ _
      | junk => exact .junk _
      | val => exact .val _
      | nils => exact .nils
    · cases h0 with
      | list0 => exact .list0 _ _ _
      | junk => exact .junk _
      | val => exact .val _
      | list sz xs a cap g hro hsz hcap hg hr =>
        refine .list sz xs ⟨b, off, none⟩ cap g ⟨key, m, hl⟩ hsz hcap hg (fun i j c y hi hj => (hr i j c y hi hj).flatC ?_)
        have hrf' : xs.all (fun c => c.all Pv.flatC) = true := hrf
        exact all_at (all_at hrf' hi) hj
  | _ => exact h0.flatC (hne (by intros; simp))
theorem frL_sound (hs : Sim w0 n ro lam st a w) : ∀ (us vs : List V), lendL st.heap us = some vs → frL us vs = true → ∀ (xs : List Value), xs.length = us.length → (∀ (j : Nat) (c : V) (x : Value), us[j]? = some c → xs[j]? = some x → R w ro lam c x) →
    vs.length = us.length ∧ ∀ (j : Nat) (c : V) (x : Value), vs[j]? = some c → xs[j]? = some x → R0 w (ownP lam) c x
  | [], vs, h, hf, xs, hl, hr => by
    simp only [lendL, Option.some.injEq] at h; subst h; simp
  | u :: us, vs, h, hf, xs, hl, hr => by
    unfold lendL at h
    split at h
    · rename_i v vs' h1 h2
      simp only [Option.some.injEq] at h; subst h
      simp only [frL, Bool.and_eq_true] at hf
      cases xs with
      | nil => simp at hl
      | cons x xs =>
        obtain ⟨i1, i2⟩ := frL_sound hs us vs' h2 hf.2 xs (by simpa using hl) (fun j c y hc hy => hr (j + 1) c y (by simpa using hc) (by simpa using hy))
        refine ⟨by simp [i1], fun j c y hc hy => ?_⟩
        cases j with
        | zero => simp at hc hy; subst hc; subst hy; exact frC_sound hs h1 (hr 0 u x rfl rfl) hf.1
        | succ j => exact i2 j c y (by simpa using hc) (by simpa using hy)
    · cases h
theorem frA_sound (hs : Sim w0 n ro lam st a w) {u v : V} {x : Value} (h : lendA st.heap u = some v) (hx : R w ro lam u x) (hf : frA u v = true) : R0 w (ownP lam) v x := by
  cases u with
  | agg cs =>
    simp only [lendA, Option.map_eq_some_iff] at h
    obtain ⟨vs, hvs, rfl⟩ := h
    have hx' : ∃ arr : Array Value, x = .agg arr ∧ arr.size = cs.length ∧ ∀ (j : Nat) (c : V) (y : Value), cs[j]? = some c → arr[j]? = some y → R w ro lam c y := by
      cases hx with
      | pure _ _ h0 => cases h0 with | agg _ arr hl hr => exact ⟨arr, rfl, hl, fun j c y hc hy => .pure _ _ (hr j c y hc hy)⟩
      | agg _ arr hl hr => exact ⟨arr, rfl, hl, hr⟩
    obtain ⟨arr, rfl, hl, hr⟩ := hx'
    obtain ⟨i1, i2⟩ := frL_sound hs cs vs hvs hf arr.toList (by simpa using hl) (fun j c y hc hy => hr j c y hc (by simpa using hy))
    exact .agg vs arr (by omega) fun j c y hc hy => i2 j c y hc (by simpa using hy)
  | _ => exact frC_sound (u := _) hs (by simpa only [lendA] using h) hx hf
theorem frAs_at (hs : Sim w0 n ro lam st a w) : ∀ (us vs : List V), lendAs st.heap us = some vs → frAs us vs = true → ∀ (xs : List Value), xs.length = us.length → (∀ (j : Nat) (c : V) (x : Value), us[j]? = some c → xs[j]? = some x → R w ro lam c x) →
    ∀ (j : Nat) (c : V) (x : Value), vs[j]? = some c → xs[j]? = some x → R0 w (ownP lam) c x
  | [], vs, h, hf, xs, hl, hr => by simp only [lendAs, Option.some.injEq] at h; subst h; simp
  | u :: us, vs, h, hf, xs, hl, hr => by
    unfold lendAs at h
    split at h
    · rename_i v vs' h1 h2
      simp only [Option.some.injEq] at h; subst h
      simp only [frAs, Bool.and_eq_true] at hf
      cases xs with
      | nil => simp at hl
      | cons x xs =>
        have i2 := frAs_at hs us vs' h2 hf.2 xs (by simpa using hl) (fun j c y hc hy => hr (j + 1) c y (by simpa using hc) (by simpa using hy))
        intro j c y hc hy
        cases j with
        | zero => simp at hc hy; subst hc; subst hy; exact frA_sound hs h1 (hr 0 u x rfl rfl) hf.1
        | succ j => exact i2 j c y (by simpa using hc) (by simpa using hy)
    · cases h
end
end Go.Pv
