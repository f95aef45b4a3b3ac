/-
  Part 4: building, memory of the call's own: read, made, written.
-/
import Derived.Test.YtcbddoopmkhlfaaPv3
import Derived.Laws.Append
namespace Go.Pv
open Go.RowKit
set_option linter.unusedSimpArgs false

section
variable {w0 : Base} {n : Nat} {ro : Nat → Prop} {lam : Lam} {st : St} {a : Act} {w : World} {P : Program}

/-- Cells, one by one. -/
def RA (w : World) (ro : Nat → Prop) (lam : Lam) (cs : List V) (arr : Array Value) : Prop :=
  arr.size = cs.length ∧ ∀ (j : Nat) (c : V) (x : Value), cs[j]? = some c → arr[j]? = some x → R w ro lam c x

def cellsV : V → Option (List V)
  | .agg cs => some cs
  | .val (.map m) => some [.val (.map m)]
  | .val (.func f a b) => some [.val (.func f a b)]
  | .tup _ | .undef | .junk | .val _ | .vrp .. | .vptr .. => none
  | v => some [v]
theorem cellsV_sound {v : V} {x : Value} {cs : List V} (h : cellsV v = some cs) (hx : R w ro lam v x) : RA w ro lam cs x.cells := by
  have one : ∀ {v x}, R w ro lam v x → x.cells = #[x] → RA w ro lam [v] x.cells := by
    intro v x hx hc
    rw [hc]
    refine ⟨rfl, fun j c y hj hy => ?_⟩
    cases j with
    | zero => simp at hj hy; subst hj; subst hy; exact hx
    | succ j => simp at hj
  cases v with
  | agg cs' =>
    simp only [cellsV, Option.some.injEq] at h; subst h
    obtain ⟨arr, rfl, hl, hr⟩ := hx.agg_inv
    exact ⟨hl, hr⟩
  | tup _ => simp [cellsV] at h
  | undef => simp [cellsV] at h
  | junk => simp [cellsV] at h
  | val y =>
    have e : x = y := by cases hx with | pure _ _ hx => cases hx; rfl
    subst e
    cases x with
    | map m => simp only [cellsV, Option.some.injEq] at h; subst h; exact one hx rfl
    | func f a b => simp only [cellsV, Option.some.injEq] at h; subst h; exact one hx rfl
    | _ => simp [cellsV] at h
  | vrp _ _ => simp [cellsV] at h
  | rset ks =>
    simp only [cellsV, Option.some.injEq] at h; subst h
    have e : ∃ b, x = .map (some b) := by cases hx with | pure _ _ hx => cases hx; exact ⟨_, rfl⟩
    obtain ⟨b, rfl⟩ := e
    exact one hx rfl
  | as z sz xs =>
    simp only [cellsV, Option.some.injEq] at h; subst h
    have hx' : R w ro lam (.list sz xs) x := by cases hx with | pure _ _ hx => cases hx with | as _ _ _ hx => exact .pure _ _ hx
    rcases hx'.list_inv with ⟨rfl, ad, cap, rfl⟩ | ⟨ad, cap, g, rfl, _⟩ <;> exact one hx rfl
  | mp key => simp only [cellsV, Option.some.injEq] at h; subst h; have ⟨b, _, e⟩ := hx.mp_inv; subst e; exact one hx rfl
  | vptr _ _ _ => simp [cellsV] at h
  | bool b => simp only [cellsV, Option.some.injEq] at h; subst h; have := hx.bool_inv; subst this; exact one hx rfl
  | int k m => simp only [cellsV, Option.some.injEq] at h; subst h; have := hx.int_inv; subst this; exact one hx rfl
  | str s => simp only [cellsV, Option.some.injEq] at h; subst h; have := hx.str_inv; subst this; exact one hx rfl
  | nils => simp only [cellsV, Option.some.injEq] at h; subst h; have := hx.nils_inv; subst this; exact one hx rfl
  | list sz xs =>
    simp only [cellsV, Option.some.injEq] at h; subst h
    rcases hx.list_inv with ⟨rfl, ad, cap, rfl⟩ | ⟨ad, cap, g, rfl, _⟩ <;> exact one hx rfl
  | sl key off len sz =>
    simp only [cellsV, Option.some.injEq] at h; subst h
    rcases hx.sl_inv with ⟨_, rfl, rfl, rfl⟩ | ⟨b, m, cap, _, _, _, _, rfl⟩ <;> exact one hx rfl
  | ptr key off =>
    simp only [cellsV, Option.some.injEq] at h; subst h
    obtain ⟨b, m, _, rfl⟩ := hx.ptr_inv; exact one hx rfl
  | rp cs' =>
    simp only [cellsV, Option.some.injEq] at h; subst h
    obtain ⟨ad, g, rfl, _⟩ := hx.rp_inv; exact one hx rfl

/-- Values that fill one cell. -/
def oneV : V → Bool
  | .val (.map _) => true
  | .val (.func ..) => true
  | .agg _ | .tup _ | .undef | .junk | .val _ | .vrp .. | .vptr .. => false
  | _ => true
theorem oneV_sound {v : V} {x : Value} (h : oneV v = true) (hx : R w ro lam v x) : x.oneCell' = true := by
  cases v with
  | agg _ => simp [oneV] at h
  | tup _ => simp [oneV] at h
  | undef => simp [oneV] at h
  | junk => simp [oneV] at h
  | val y =>
    have e : x = y := by cases hx with | pure _ _ hx => cases hx; rfl
    subst e
    cases x <;> first | rfl | simp [oneV] at h
  | vrp _ _ => simp [oneV] at h
  | rset ks => cases hx with | pure _ _ hx => cases hx; rfl
  | as z sz xs =>
    have hx' : R w ro lam (.list sz xs) x := by cases hx with | pure _ _ hx => cases hx with | as _ _ _ hx => exact .pure _ _ hx
    rcases hx'.list_inv with ⟨rfl, ad, cap, rfl⟩ | ⟨ad, cap, g, rfl, _⟩ <;> rfl
  | vptr _ _ _ => simp [oneV] at h
  | bool b => have := hx.bool_inv; subst this; rfl
  | int k m => have := hx.int_inv; subst this; rfl
  | str s => have := hx.str_inv; subst this; rfl
  | nils => have := hx.nils_inv; subst this; rfl
  | list sz xs => rcases hx.list_inv with ⟨rfl, ad, cap, rfl⟩ | ⟨ad, cap, g, rfl, _⟩ <;> rfl
  | sl key off len sz => rcases hx.sl_inv with ⟨_, rfl, rfl, rfl⟩ | ⟨b, m, cap, _, _, _, _, rfl⟩ <;> rfl
  | ptr key off => obtain ⟨b, m, _, rfl⟩ := hx.ptr_inv; rfl
  | mp key => obtain ⟨b, _, rfl⟩ := hx.mp_inv; rfl
  | rp cs' => obtain ⟨ad, g, rfl, _⟩ := hx.rp_inv; rfl

/-! ### building an aggregate -/
def setsV : List V → Nat → List V → List V
  | cs, _, [] => cs
  | cs, off, v :: vs => setsV (cs.set off v) (off + 1) vs
def setsA : Array Value → Nat → List Value → Array Value
  | arr, _, [] => arr
  | arr, off, v :: vs => setsA (arr.setIfInBounds off v) (off + 1) vs
theorem length_setsV : ∀ (vs cs : List V) (off : Nat), (setsV cs off vs).length = cs.length
  | [], _, _ => rfl
  | v :: vs, cs, off => by simp [setsV, length_setsV vs]
theorem size_setsA : ∀ (vs : List Value) (arr : Array Value) (off : Nat), (setsA arr off vs).size = arr.size
  | [], _, _ => rfl
  | v :: vs, arr, off => by simp [setsA, size_setsA vs]
theorem RA.set {cs : List V} {arr : Array Value} (h : RA w ro lam cs arr) {off : Nat} {v : V} {x : Value} (hx : R w ro lam v x) : RA w ro lam (cs.set off v) (arr.setIfInBounds off x) := by
  refine ⟨by simp [h.1], fun j c y hc hy => ?_⟩
  rw [List.getElem?_set] at hc
  rw [Array.getElem?_setIfInBounds] at hy
  by_cases e : off = j
  · subst e
    simp only [if_true] at hc hy
    split at hc
    · split at hy
      · simp only [Option.some.injEq] at hc hy; subst hc; subst hy; exact hx
      · cases hy
    · cases hc
  · simp only [e, if_false] at hc hy; exact h.2 j c y hc hy
theorem RA.sets : ∀ (vs : List V) (Vs : List Value) {cs : List V} {arr : Array Value} (off : Nat), RA w ro lam cs arr → RA w ro lam vs Vs.toArray → RA w ro lam (setsV cs off vs) (setsA arr off Vs)
  | [], Vs, cs, arr, off, h, hv => by
    have : Vs = [] := List.eq_nil_of_length_eq_zero (by simpa using hv.1)
    subst this; exact h
  | v :: vs, Vs, cs, arr, off, h, hv => by
    obtain ⟨X, Xs, rfl⟩ : ∃ X Xs, Vs = X :: Xs := by cases Vs with | nil => simp [RA] at hv | cons X Xs => exact ⟨X, Xs, rfl⟩
    refine RA.sets vs Xs (off + 1) (h.set (hv.2 0 v X rfl (by simp))) ⟨by simpa using hv.1, fun j c y hc hy => hv.2 (j + 1) c y (by simpa using hc) (by simpa using hy)⟩
theorem foldl_sets (off : Nat) : ∀ (vs : List Value) (k : Nat) (arr : Array Value), (vs.zipIdx k).foldl (fun cs (p : Value × Nat) => cs.setIfInBounds (off + p.2) p.1) arr = setsA arr (off + k) vs
  | [], _, _ => rfl
  | v :: vs, k, arr => by
    simp only [List.zipIdx_cons, List.foldl_cons, setsA]
    rw [foldl_sets off vs (k + 1)]
    rfl

def fillV (place : Nat → Option (Nat × Nat)) : List V → List (Nat × V) → Option (List V)
  | cs, [] => some cs
  | cs, (i, v) :: rest => match place i, cellsV v with
    | some (off, size), some vs => bif decide (vs.length = size) && decide (off + vs.length ≤ cs.length) then fillV place (setsV cs off vs) rest else none
    | _, _ => none
theorem fillV_sound {place : Nat → Option (Nat × Nat)} : ∀ (ps : List (Nat × V)) (Ps : List (Nat × Value)) (cs : List V) (arr : Array Value) (cs' : List V), fillV place cs ps = some cs' → RA w ro lam cs arr →
    Ps.length = ps.length → (∀ (j : Nat) (p : Nat × V) (q : Nat × Value), ps[j]? = some p → Ps[j]? = some q → p.1 = q.1 ∧ R w ro lam p.2 q.2) →
    ∃ arr', Instr.fill place arr Ps = some arr' ∧ RA w ro lam cs' arr'
  | [], Ps, cs, arr, cs', h, hra, hl, _ => by
    have : Ps = [] := List.eq_nil_of_length_eq_zero (by simpa using hl)
    subst this
    simp only [fillV, Option.some.injEq] at h; subst h
    exact ⟨arr, rfl, hra⟩
  | (i, v) :: ps, Ps, cs, arr, cs', h, hra, hl, hr => by
    obtain ⟨⟨i', X⟩, Xs, rfl⟩ : ∃ X Xs, Ps = X :: Xs := by cases Ps with | nil => simp at hl | cons X Xs => exact ⟨X, Xs, rfl⟩
    obtain ⟨hi, hx⟩ := hr 0 (i, v) (i', X) rfl rfl
    simp only at hi hx
    subst hi
    unfold fillV at h
    split at h
    · rename_i off size vs hp hv
      simp only [cond_eq_ite, Bool.and_eq_true, decide_eq_true_eq] at h
      split at h
      · rename_i hc
        obtain ⟨hs, hle⟩ := hc
        have hcv := cellsV_sound hv hx
        have hsz : X.cells.size = size := by rw [hcv.1, hs]
        have hfold : X.cells.zipIdx.foldl (fun cs (x : Value × Nat) => cs.setIfInBounds (off + x.2) x.1) arr = setsA arr off X.cells.toList := by
          rw [← Array.foldl_toList, Array.toList_zipIdx, foldl_sets]; rfl
        obtain ⟨arr', hf, hra'⟩ := fillV_sound ps Xs (setsV cs off vs) (setsA arr off X.cells.toList) cs' h (hra.sets vs X.cells.toList off (by simpa using hcv)) (by simpa using hl)
          (fun j p q hp hq => hr (j + 1) p q (by simpa using hp) (by simpa using hq))
        refine ⟨arr', ?_, hra'⟩
        have hno : ¬ (off + X.cells.size > arr.size) := by rw [hcv.1, hra.1]; omega
        simp only [Instr.fill, hp, hsz, ne_eq, not_true_eq_false, decide_false, Bool.false_or]
        rw [hsz] at hno
        simp only [gt_iff_lt] at hno
        simp only [hno, decide_false, Bool.false_eq_true, if_false, gt_iff_lt]
        rw [hfold]
        exact hf
      · cases h
    · cases h

def placeAt (l : List (Option (Nat × Nat × Bool))) (i : Nat) : Option (Nat × Nat) := match l[i]? with
  | some (some (off, size, _)) => some (off, size)
  | _ => none
def buildV (P : Program) (t : TypeId) (ps : List (Nat × V)) : Option V := match td P t with
  | some d => (match d.zero with
    | some z => (match d.arr with
      | some (_, s, _) => (fillV (fun i => some (i * s, s)) z ps).map .agg
      | none => bif d.strct && d.fields.all (·.isSome) then (fillV (placeAt d.fields) z ps).map .agg else none)
    | none => none)
  | none => none
theorem td_zero {t : TypeId} {d : Td} {zs : List V} (h : td P t = some d) (hz : d.zero = some zs) : ∃ i z, P.info? t = some i ∧ i.zero = some z ∧ RA w ro lam zs z.cells ∧ i.size = d.size ∧ i.bytes = d.bytes := by
  obtain ⟨i, D, h1, h2⟩ := td_some h
  simp only [td, h1, h2, Option.some.injEq] at h
  subst h
  simp only [Option.map_eq_some_iff] at hz
  obtain ⟨z, hz1, rfl⟩ := hz
  refine ⟨i, z, h1, hz1, ⟨by simp, fun j c x hc hx => ?_⟩, rfl, rfl⟩
  simp only [List.getElem?_map, Array.getElem?_toList, hx, Option.map_some, Option.some.injEq] at hc
  subst hc
  exact .pure _ _ (R0_cv1 _)
theorem td_struct {t : TypeId} {d : Td} (h : td P t = some d) (hs : d.strct = true) : ∃ fs, P.underlying t = some (.struct fs) ∧ d.fields = fs.toList.map (fun f => (partD P f.type).map (fun p => (f.offset, p.1, p.2))) := by
  obtain ⟨i, D, h1, h2⟩ := td_some h
  simp only [td, h1, h2, Option.some.injEq] at h
  subst h
  cases D with
  | struct fs => exact ⟨fs, h2, rfl⟩
  | _ => simp at hs
theorem mapM_places : ∀ (fs : List Field), (fs.map (fun f => (partD P f.type).map (fun p => (f.offset, p.1, p.2)))).all (·.isSome) = true →
    ∃ pl : List (Nat × Nat), fs.mapM (fun f => (P.info? f.type).map fun i => (f.offset, i.size)) = some pl ∧
      ∀ i, pl[i]? = placeAt (fs.map (fun f => (partD P f.type).map (fun p => (f.offset, p.1, p.2)))) i
  | [], _ => ⟨[], by simp, by simp [placeAt]⟩
  | f :: fs, h => by
    simp only [List.map_cons, List.all_cons, Bool.and_eq_true, Option.isSome_map] at h
    obtain ⟨h1, h2⟩ := h
    obtain ⟨⟨s, ag⟩, hp⟩ := Option.isSome_iff_exists.1 h1
    obtain ⟨i, D, e1, e2, e3, e4⟩ := partD_some hp
    obtain ⟨pl, hpl, hat⟩ := mapM_places fs h2
    refine ⟨(f.offset, s) :: pl, by simp [List.mapM_cons, e1, e3, hpl], fun i => ?_⟩
    cases i with
    | zero => simp [placeAt, hp]
    | succ i => have := hat i; simp only [placeAt] at this; simpa [placeAt] using this
theorem buildV_sound {t : TypeId} {ps : List (Nat × V)} {Ps : Array (Nat × Value)} {v : V} (h : buildV P t ps = some v) (hl : Ps.size = ps.length)
    (hr : ∀ (j : Nat) (p : Nat × V) (q : Nat × Value), ps[j]? = some p → Ps[j]? = some q → p.1 = q.1 ∧ R w ro lam p.2 q.2) : ∃ z, (Instr.build t Ps).run P w = .ok z w ∧ R w ro lam v z := by
  unfold buildV at h
  split at h
  · rename_i d hd
    split at h
    · rename_i zs hz
      obtain ⟨i, z, h1, h2, hra, _, _⟩ := td_zero (w := w) (ro := ro) (lam := lam) hd hz
      split at h
      · rename_i m s ag ha
        obtain ⟨e, hu, hp⟩ := td_arr hd ha
        obtain ⟨ie, de, e1, e2, e3, e4⟩ := partD_some hp
        simp only [Option.map_eq_some_iff] at h
        obtain ⟨cs, hc, rfl⟩ := h
        obtain ⟨arr', hf, hra'⟩ := fillV_sound ps Ps.toList zs z.cells cs hc hra (by simpa using hl) (fun j p q hp hq => hr j p q hp (by simpa using hq))
        refine ⟨.agg arr', run_build w t Ps arr' ?_, .agg _ _ hra'.1 hra'.2⟩
        simp only [Program.built, h1, hu, h2, e1, e3]
        exact hf
      · simp only [cond_eq_ite, Bool.and_eq_true] at h
        split at h
        · rename_i harr hc
          obtain ⟨hag, hall⟩ := hc
          simp only [Option.map_eq_some_iff] at h
          obtain ⟨cs, hc, rfl⟩ := h
          obtain ⟨fs, hu, hfs⟩ := td_struct hd hag
          rw [hfs] at hall hc
          obtain ⟨pl, hpl, hat⟩ := mapM_places fs.toList hall
          have hplace : (fun j => pl.toArray[j]?) = placeAt (fs.toList.map (fun f => (partD P f.type).map (fun p => (f.offset, p.1, p.2)))) := by
            funext j
            simp only [List.getElem?_toArray, hat]
          obtain ⟨arr', hf, hra'⟩ := fillV_sound ps Ps.toList zs z.cells cs hc hra (by simpa using hl) (fun j p q hp hq => hr j p q hp (by simpa using hq))
          refine ⟨.agg arr', run_build w t Ps arr' ?_, .agg _ _ hra'.1 hra'.2⟩
          simp only [Program.built, h1, hu, h2, hpl]
          rw [hplace]
          exact hf
        · cases h
    · cases h
  · cases h
end
end Go.Pv
