/-
  Part 15: rows of equal length in a block; weaker contracts; what is forgotten.
-/
import Derived.Test.YtcbddoopmkhlfaaPv14
namespace Go.Pv
open Go.RowKit
set_option linter.unusedSimpArgs false
set_option linter.unusedVariables false

/-- n rows, by a function. -/
def rowsF (n : Nat) (f : Nat → List V) : List (List V) := (List.range n).map f
theorem length_rowsF (n : Nat) (f : Nat → List V) : (rowsF n f).length = n := by simp [rowsF]
theorem rowsF_at (n : Nat) (f : Nat → List V) (i : Nat) : (rowsF n f)[i]? = if i < n then some (f i) else none := by
  unfold rowsF
  by_cases h : i < n
  · simp [h]
  · simp [h]
theorem rowsF_congr {n : Nat} {f g : Nat → List V} (h : ∀ i, i < n → f i = g i) : rowsF n f = rowsF n g := by
  unfold rowsF
  apply List.map_congr_left
  intro i hi
  exact h i (by simpa using hi)
theorem rowsF_succ (n : Nat) (f : Nat → List V) : rowsF (n + 1) f = rowsF n f ++ [f n] := by simp [rowsF, List.range_succ]
theorem length_flatten_rows {sz : Nat} : ∀ (xs : List (List V)), (∀ c ∈ xs, c.length = sz) → xs.flatten.length = xs.length * sz
  | [], _ => by simp
  | c :: xs, h => by
    rw [List.flatten_cons, List.length_append, length_flatten_rows xs fun d hd => h d (by simp [hd]), h c (by simp), List.length_cons, Nat.add_mul, Nat.one_mul, Nat.add_comm]
theorem length_flatten_rowsF {sz n : Nat} {f : Nat → List V} (h : ∀ i, (f i).length = sz) : (rowsF n f).flatten.length = n * sz := by
  rw [length_flatten_rows (sz := sz) _ (fun c hc => by simp only [rowsF, List.mem_map] at hc; obtain ⟨i, _, rfl⟩ := hc; exact h i), length_rowsF]
theorem chunks_rows {sz : Nat} : ∀ (xs : List (List V)), (∀ c ∈ xs, c.length = sz) → chunks sz xs.length xs.flatten = xs
  | [], _ => rfl
  | c :: xs, h => by
    have hc : c.length = sz := h c (by simp)
    rw [List.length_cons, chunks, List.flatten_cons, List.take_append_of_le_length (by omega), List.drop_append_of_le_length (by omega), ← hc, List.take_length, List.drop_length, List.nil_append, hc, chunks_rows xs fun d hd => h d (by simp [hd])]
theorem chunks_rowsF {sz n : Nat} {f : Nat → List V} (h : ∀ i, (f i).length = sz) : chunks sz n (rowsF n f).flatten = rowsF n f := by
  have := chunks_rows (sz := sz) (rowsF n f) (fun c hc => by simp only [rowsF, List.mem_map] at hc; obtain ⟨i, _, rfl⟩ := hc; exact h i)
  rwa [length_rowsF] at this
theorem setsV_append : ∀ (vs a b : List V) (k : Nat), setsV (a ++ b) (a.length + k) vs = a ++ setsV b k vs
  | [], a, b, k => by simp [setsV]
  | v :: vs, a, b, k => by
    rw [setsV, setsV, List.set_append_right _ _ (by omega), show a.length + k - a.length = k from by omega, Nat.add_assoc, setsV_append vs a (b.set k v) (k + 1)]
theorem setsV_over : ∀ (vs c b : List V), vs.length = c.length → setsV (c ++ b) 0 vs = vs ++ b
  | [], c, b, h => by
    have : c = [] := List.eq_nil_of_length_eq_zero (by simpa using h.symm)
    subst this; rfl
  | v :: vs, [], b, h => by simp at h
  | v :: vs, d :: c, b, h => by
    rw [setsV, List.cons_append, List.set_cons_zero]
    have := setsV_append vs [v] (c ++ b) 0
    simp only [List.length_singleton, Nat.add_zero, List.singleton_append] at this
    rw [Nat.zero_add, this, setsV_over vs c b (by simpa using h)]
    rfl
theorem setsV_rows {sz : Nat} : ∀ (xs : List (List V)) (i : Nat) (r : List V), (∀ c ∈ xs, c.length = sz) → r.length = sz → i < xs.length → setsV xs.flatten (i * sz) r = (xs.set i r).flatten
  | [], i, r, _, _, hi => by simp at hi
  | c :: xs, 0, r, h, hr, _ => by
    rw [Nat.zero_mul, List.flatten_cons, setsV_over r c xs.flatten (by rw [hr, h c (by simp)]), List.set_cons_zero, List.flatten_cons]
  | c :: xs, i + 1, r, h, hr, hi => by
    have hc : c.length = sz := h c (by simp)
    rw [List.flatten_cons, List.set_cons_succ, List.flatten_cons, ← setsV_rows xs i r (fun d hd => h d (by simp [hd])) hr (by simpa using hi), ← setsV_append, hc, Nat.add_mul, Nat.one_mul, Nat.add_comm]
theorem set_rowsF {n i : Nat} {f : Nat → List V} {r : List V} : (rowsF n f).set i r = rowsF n (fun j => if j = i then r else f j) := by
  apply List.ext_getElem?
  intro j
  rw [List.getElem?_set, rowsF_at, length_rowsF, rowsF_at]
  by_cases h : i = j
  · subst h
    by_cases hj : i < n <;> simp [hj]
  · have h' : ¬ j = i := fun e => h e.symm
    simp [h, h']
theorem setsV_rowsF {sz n i : Nat} {f : Nat → List V} {r : List V} (h : ∀ i, (f i).length = sz) (hr : r.length = sz) (hi : i < n) :
    setsV (rowsF n f).flatten (i * sz) r = (rowsF n (fun j => if j = i then r else f j)).flatten := by
  rw [← set_rowsF]
  exact setsV_rows _ i r (fun c hc => by simp only [rowsF, List.mem_map] at hc; obtain ⟨i, _, rfl⟩ := hc; exact h i) hr (by rw [length_rowsF]; exact hi)
theorem replicate_rowsF (n : Nat) (z : List V) : (List.replicate n z) = rowsF n (fun _ => z) := by
  apply List.ext_getElem?
  intro j
  rw [rowsF_at, List.getElem?_replicate]
theorem any_rowsF {n : Nat} {f : Nat → List V} {p : V → Bool} (h : ∀ i, (f i).any p = false) : (rowsF n f).flatten.any p = false := by
  rw [List.any_eq_false]
  intro v hv
  simp only [List.mem_flatten, rowsF, List.mem_map] at hv
  obtain ⟨_, ⟨i, _, rfl⟩, hv⟩ := hv
  exact List.any_eq_false.1 (h i) v hv
theorem scrC_pure {key : Nat} {v : V} (h : ownC v = false) : scrC key v = v := by
  cases v <;> simp [ownC] at h <;> rfl
theorem scrC_cells {key : Nat} {cs : List V} (h : cs.any ownC = false) : cs.map (scrC key) = cs := by
  have : ∀ v ∈ cs, scrC key v = v := fun v hv => scrC_pure (by simpa using List.any_eq_false.1 h v hv)
  conv => rhs; rw [← List.map_id cs]
  exact List.map_congr_left this

section
variable {P : Program}
/-- A weaker view of a contract's arguments and of its result. -/
def Wk (u u' : V) : Prop := ∀ (w : World) (ro : Nat → Prop) (x : Value), R0 w ro u x → R0 w ro u' x
theorem Wk.refl (u : V) : Wk u u := fun _ _ _ h => h
theorem Wk.nils (sz : Nat) : Wk .nils (.list sz []) := fun w ro x h => by cases h; exact .list0 _ _ _
def WkL (us us' : List V) : Prop := us.length = us'.length ∧ ∀ (j : Nat) (u u' : V), us[j]? = some u → us'[j]? = some u' → Wk u u'
theorem WkL.nil : WkL [] [] := ⟨rfl, by simp⟩
theorem WkL.cons {u u' : V} {us us' : List V} (h : Wk u u') (k : WkL us us') : WkL (u :: us) (u' :: us') := ⟨by simp [k.1], fun j a b ha hb => by
  cases j with
  | zero => simp at ha hb; subst ha; subst hb; exact h
  | succ j => exact k.2 j a b (by simpa using ha) (by simpa using hb)⟩
theorem PCall.weaken {f : FuncId} {vs vs' : List V} {v v' : V} (h : PCall P f vs' v) (hv : WkL vs vs') (hr : Wk v v') : PCall P f vs v' := by
  intro w ro args hro hsz hargs
  refine (h w ro args hro (by rw [hsz, hv.1]) (fun j c x hc hx => ?_)).mono fun e w' hh => ?_
  · have hj : j < vs.length := by rw [hv.1]; exact (List.getElem?_eq_some_iff.1 hc).1
    exact hv.2 j _ c (List.getElem?_eq_getElem hj) hc w ro x (hargs j _ x (List.getElem?_eq_getElem hj) hx)
  · obtain ⟨rv, ro', h1, h2, h3, h4, h5, h6⟩ := hh
    exact ⟨rv, ro', h1, h2, h3, h4, h5, hr _ _ _ h6⟩
theorem PFresh.weaken {f : FuncId} {vs vs' : List V} {v v' : V} (h : PFresh P f vs' v) (hv : WkL vs vs') (hr : Wk v v') : PFresh P f vs v' := by
  intro w ro args hro hsz hargs
  refine (h w ro args hro (by rw [hsz, hv.1]) (fun j c x hc hx => ?_)).mono fun e w' hh => ?_
  · have hj : j < vs.length := by rw [hv.1]; exact (List.getElem?_eq_some_iff.1 hc).1
    exact hv.2 j _ c (List.getElem?_eq_getElem hj) hc w ro x (hargs j _ x (List.getElem?_eq_getElem hj) hx)
  · obtain ⟨rv, h1, h2, h3⟩ := hh
    exact ⟨rv, h1, h2, hr _ _ _ h3⟩
theorem PFresh.nils {f : FuncId} {vs : List V} (sz : Nat) (h : PFresh P f vs .nils) : PFresh P f vs (.list sz []) := h.weaken ⟨rfl, fun j u u' h h' => by rw [h] at h'; cases h'; exact Wk.refl _⟩ (Wk.nils sz)
theorem WkL.refl (us : List V) : WkL us us := ⟨rfl, fun j u u' h h' => by rw [h] at h'; cases h'; exact Wk.refl _⟩
theorem Wk.tup {us us' : List V} (h : WkL us us') : Wk (.tup us) (.tup us') := by
  intro w ro x hx
  cases hx with
  | tup _ arr hl hr =>
    refine .tup _ _ (by rw [hl, h.1]) fun j c x hc hx => ?_
    have hj : j < us.length := by rw [h.1]; exact (List.getElem?_eq_some_iff.1 hc).1
    exact h.2 j _ c (List.getElem?_eq_getElem hj) hc w ro x (hr j _ x (List.getElem?_eq_getElem hj) hx)
theorem flat_rowsF {n : Nat} {f : Nat → List V} (h : ∀ i, (f i).all flatC = true) : (rowsF n f).all (fun c => c.all flatC) = true := by
  rw [List.all_eq_true]
  intro c hc
  simp only [rowsF, List.mem_map] at hc
  obtain ⟨i, _, rfl⟩ := hc
  exact h i
theorem PCall.nils {f : FuncId} {vs : List V} (sz : Nat) (h : PCall P f vs .nils) : PCall P f vs (.list sz []) := h.weaken ⟨rfl, fun j u u' h h' => by rw [h] at h'; cases h'; exact Wk.refl _⟩ (Wk.nils sz)
end
theorem ieq_self (a : Int) : ieq a a = true := by simp [ieq]
theorem ilt_self (a : Int) : ilt a a = false := by simp [ilt]
attribute [simp] length_rowsF ieq_self ilt_self
end Go.Pv
