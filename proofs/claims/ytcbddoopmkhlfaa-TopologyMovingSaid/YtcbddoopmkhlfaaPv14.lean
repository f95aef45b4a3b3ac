/-
  Part 14: what a call's arguments are, as pure values: out of the readings that a statement grants.
-/
import Derived.Test.YtcbddoopmkhlfaaPv13
import Derived.WalkKit
import Derived.ProofKit
import Derived.OpenShut
import Derived.ShutString
import Derived.ChangeOld
import Derived.Carry
import Derived.Handed
import Derived.DataElems
namespace Go.Pv
open Go.RowKit Go.ChangeShapes Go.WideShapes Go.ChangeAt
set_option linter.unusedSimpArgs false
set_option linter.unusedVariables false

/-- A type, written out. -/
inductive Ty where
  | bool
  | int (k : IntKind)
  | str
  | slice (e : Ty)
  | struct (fs : List Ty)

mutual
def tsz : Ty → Nat
  | .bool => 1
  | .int _ => 1
  | .str => 1
  | .slice _ => 1
  | .struct fs => tszL fs
def tszL : List Ty → Nat
  | [] => 0
  | f :: fs => tsz f + tszL fs
end

def tyFs (P : Program) (r : TypeId → Option Ty) : Nat → List Field → Option (List Ty)
  | _, [] => some []
  | o, f :: fs => match r f.type with
    | some ty => bif f.offset == o && P.cellsOf f.type == tsz ty then (tyFs P r (o + tsz ty) fs).map (ty :: ·) else none
    | none => none
def tyOf (P : Program) : Nat → TypeId → Option Ty
  | 0, _ => none
  | m + 1, t => match P.underlying t with
    | some .bool => some .bool
    | some (.int k) => some (.int k)
    | some .string => some .str
    | some (.slice e) => (match tyOf P m e with
      | some ty => bif P.cellsOf e == tsz ty && !(tsz ty == 0) then some (.slice ty) else none
      | none => none)
    | some (.struct fs) => (match tyFs P (tyOf P m) 0 fs.toList with
      | some tys => bif P.cellsOf t == tszL tys then some (.struct tys) else none
      | none => none)
    | some (.array n e) => (match tyOf P m e with
      | some ty => bif P.cellsOf e == tsz ty && P.cellsOf t == n * tsz ty then some (.struct (List.replicate n ty)) else none
      | none => none)
    | _ => none

mutual
/-- The cells of a value of a type. -/
def HasC : Ty → List V → Prop
  | .bool, cs => ∃ b, cs = [.bool b]
  | .int k, cs => ∃ n, cs = [.int k n] ∧ k.min ≤ n ∧ n ≤ k.max
  | .str, cs => ∃ s, cs = [.str s] ∧ s.size ≤ maxLen
  | .slice e, cs => ∃ xs : List (List V), cs = [.list (tsz e) xs] ∧ xs.length ≤ maxLen ∧ ∀ x ∈ xs, HasC e x
  | .struct fs, cs => HasL fs cs
def HasL : List Ty → List V → Prop
  | [], cs => cs = []
  | f :: fs, cs => ∃ a b, cs = a ++ b ∧ HasC f a ∧ HasL fs b
end

mutual
theorem HasC.len : ∀ (ty : Ty) (cs : List V), HasC ty cs → cs.length = tsz ty
  | .bool, cs, h => by simp only [HasC] at h; obtain ⟨b, rfl⟩ := h; rfl
  | .int k, cs, h => by simp only [HasC] at h; obtain ⟨b, rfl, _⟩ := h; rfl
  | .str, cs, h => by simp only [HasC] at h; obtain ⟨b, rfl, _⟩ := h; rfl
  | .slice e, cs, h => by simp only [HasC] at h; obtain ⟨b, rfl, _⟩ := h; rfl
  | .struct fs, cs, h => by simp only [HasC] at h; simpa [tsz] using HasL.len fs cs h
theorem HasL.len : ∀ (fs : List Ty) (cs : List V), HasL fs cs → cs.length = tszL fs
  | [], cs, h => by simp only [HasL] at h; subst h; rfl
  | f :: fs, cs, h => by
    simp only [HasL] at h
    obtain ⟨a, b, rfl, h1, h2⟩ := h
    simp [tszL, HasC.len f a h1, HasL.len fs b h2]
end

/-- Rows of cells. -/
def RL (w : World) (ro : Nat → Prop) (vs : List V) (cs : List Value) : Prop := vs.length = cs.length ∧ ∀ (j : Nat) (v : V) (c : Value), vs[j]? = some v → cs[j]? = some c → R0 w ro v c
section
variable {w : World} {ro : Nat → Prop}
theorem RL.nil : RL w ro [] [] := ⟨rfl, by simp⟩
theorem RL.one {v : V} {c : Value} (h : R0 w ro v c) : RL w ro [v] [c] := ⟨rfl, fun j u x hu hx => by
  cases j with
  | zero => simp at hu hx; subst hu; subst hx; exact h
  | succ j => simp at hu⟩
theorem RL.append {vs us : List V} {cs ds : List Value} (h : RL w ro vs cs) (k : RL w ro us ds) : RL w ro (vs ++ us) (cs ++ ds) := by
  refine ⟨by simp [h.1, k.1], fun j v c hv hc => ?_⟩
  by_cases hj : j < vs.length
  · rw [List.getElem?_append_left hj] at hv
    rw [List.getElem?_append_left (by rw [← h.1]; exact hj)] at hc
    exact h.2 j v c hv hc
  · rw [List.getElem?_append_right (by omega)] at hv
    rw [List.getElem?_append_right (by rw [← h.1]; omega), ← h.1] at hc
    exact k.2 _ v c hv hc
end

theorem mapM_mem {α β : Type} {f : α → Option β} : ∀ {l : List α} {ys : List β}, l.mapM f = some ys → ∀ x ∈ l, ∃ y, f x = some y
  | [], _, _, x, hx => by cases hx
  | a :: l, ys, h, x, hx => by
    rw [List.mapM_cons] at h
    simp only [Option.bind_eq_bind, Option.bind_eq_some_iff] at h
    obtain ⟨y, hy, ys', hys, _⟩ := h
    rcases List.mem_cons.1 hx with rfl | hx
    · exact ⟨y, hy⟩
    · exact mapM_mem hys x hx
theorem mapM_at {α β : Type} {f : α → Option β} : ∀ {l : List α} {ys : List β}, l.mapM f = some ys → l.length = ys.length ∧ ∀ (j : Nat) (x : α) (y : β), l[j]? = some x → ys[j]? = some y → f x = some y
  | [], ys, h => by simp at h; subst h; simp
  | a :: l, ys, h => by
    rw [List.mapM_cons] at h
    simp only [Option.bind_eq_bind, Option.bind_eq_some_iff, Option.pure_def, Option.some.injEq] at h
    obtain ⟨y, hy, ys', hys, rfl⟩ := h
    obtain ⟨h1, h2⟩ := mapM_at hys
    refine ⟨by simp [h1], fun j x z hx hz => ?_⟩
    cases j with
    | zero => simp at hx hz; subst hx; subst hz; exact hy
    | succ j => exact h2 j x z (by simpa using hx) (by simpa using hz)
theorem choose_list {α : Type} (n : Nat) (Q : Nat → α → Prop) (h : ∀ i, i < n → ∃ x, Q i x) : ∃ xs : List α, xs.length = n ∧ ∀ (i : Nat) (x : α), xs[i]? = some x → Q i x := by
  induction n with
  | zero => exact ⟨[], rfl, by simp⟩
  | succ n ih =>
    obtain ⟨xs, h1, h2⟩ := ih fun i hi => h i (by omega)
    obtain ⟨x, hx⟩ := h n (by omega)
    refine ⟨xs ++ [x], by simp [h1], fun i y hy => ?_⟩
    by_cases hi : i < xs.length
    · rw [List.getElem?_append_left hi] at hy; exact h2 i y hy
    · rw [List.getElem?_append_right (by omega)] at hy
      have : i - xs.length = 0 := by
        rcases Nat.eq_zero_or_pos (i - xs.length) with h0 | h0
        · exact h0
        · rw [List.getElem?_eq_none (by simp; omega)] at hy; cases hy
      rw [this] at hy
      simp at hy; subst hy
      have : i = n := by omega
      subst this; exact hx

section
variable {H : Type} {enc : TypeId × Value → H} {P : Program} {W : World} {sp : Nat → Bool}
theorem cell_lt {a : Addr} {c : Value} (h : W.cell? a = some c) : a.block < W.heap.size := by
  apply Classical.byContradiction
  intro hn
  have : W.heap[a.block]? = none := by simp; omega
  simp [World.cell?, this] at h

theorem trod_bool {fuel : Nat} {t : TypeId} {cs : List Value} {x : DataW H × List MemPlace} (hu : P.underlying t = some .bool) (h : DataW.trod enc P W 0 sp true (fuel + 1) t cs = some x) : ∃ b, cs = [.bool b] := by
  rcases cs with _ | ⟨c, _ | ⟨c', cs⟩⟩
  · simp [DataW.trod, hu] at h
  · cases c <;> simp [DataW.trod, hu] at h ⊢
  · simp [DataW.trod, hu] at h
theorem trod_str {fuel : Nat} {t : TypeId} {cs : List Value} {x : DataW H × List MemPlace} (hu : P.underlying t = some .string) (h : DataW.trod enc P W 0 sp true (fuel + 1) t cs = some x) : ∃ s, cs = [.string s] ∧ s.size ≤ maxLen := by
  rcases cs with _ | ⟨c, _ | ⟨c', cs⟩⟩
  · simp [DataW.trod, hu] at h
  · cases c <;> simp [DataW.trod, hu] at h ⊢
    exact h.1
  · simp [DataW.trod, hu] at h
theorem trod_int {fuel : Nat} {t : TypeId} {k : IntKind} {cs : List Value} {x : DataW H × List MemPlace} (hu : P.underlying t = some (.int k)) (h : DataW.trod enc P W 0 sp true (fuel + 1) t cs = some x) : ∃ n, cs = [.int k n] ∧ (Lit.int k n).wf = true := by
  rcases cs with _ | ⟨c, _ | ⟨c', cs⟩⟩
  · simp [DataW.trod, hu] at h
  · cases c <;> simp [DataW.trod, hu] at h ⊢
    exact ⟨_, ⟨h.1.1, rfl⟩, h.1.2⟩
  · simp [DataW.trod, hu] at h
theorem trod_slice {fuel : Nat} {t e : TypeId} {cs : List Value} {x : DataW H × List MemPlace} (hu : P.underlying t = some (.slice e)) (h : DataW.trod enc P W 0 sp true (fuel + 1) t cs = some x) :
    cs = [.slice none 0 0] ∨ ∃ a len cap elems, cs = [.slice (some a) len cap] ∧ len ≤ cap ∧ cap ≤ maxLen ∧ (List.range len).mapM (fun i => (W.cells? 0 (a.add (i * P.cellsOf e)) (P.cellsOf e)).bind (DataW.trod enc P W 0 sp true fuel e)) = some elems := by
  rcases cs with _ | ⟨c, _ | ⟨c', cs⟩⟩
  · simp [DataW.trod, hu] at h
  · cases c with
    | slice a len cap =>
      cases a with
      | none =>
        cases len with
        | zero => cases cap with
          | zero => exact .inl rfl
          | succ cap => simp [DataW.trod, hu] at h
        | succ len => simp [DataW.trod, hu] at h
      | some a =>
        right
        simp only [DataW.trod, hu] at h
        split at h
        · rename_i hc
          simp only [Option.bind_eq_some_iff] at h
          obtain ⟨elems, hel, _⟩ := h
          exact ⟨a, len, cap, elems, rfl, hc.2.1, hc.2.2, hel⟩
        · cases h
    | _ => simp [DataW.trod, hu] at h
  · simp [DataW.trod, hu] at h
theorem trod_struct {fuel : Nat} {t : TypeId} {fs : Array Field} {cs : List Value} {x : DataW H × List MemPlace} (hu : P.underlying t = some (.struct fs)) (h : DataW.trod enc P W 0 sp true (fuel + 1) t cs = some x) :
    cs.length = P.cellsOf t ∧ ∃ ys, (fs.toList.mapM fun f => DataW.trod enc P W 0 sp true fuel f.type ((cs.drop f.offset).take (P.cellsOf f.type))) = some ys := by
  simp only [DataW.trod, hu] at h
  split at h
  · rename_i hl
    simp only [Option.map_eq_some_iff] at h
    obtain ⟨ys, hys, _⟩ := h
    exact ⟨hl, ys, hys⟩
  · cases h

theorem trod_array {fuel : Nat} {t : TypeId} {n : Nat} {e : TypeId} {cs : List Value} {x : DataW H × List MemPlace} (hu : P.underlying t = some (.array n e)) (h : DataW.trod enc P W 0 sp true (fuel + 1) t cs = some x) :
    cs.length = P.cellsOf t ∧ ∃ ys, ((List.range n).mapM fun i => DataW.trod enc P W 0 sp true fuel e ((cs.drop (i * P.cellsOf e)).take (P.cellsOf e))) = some ys := by
  simp only [DataW.trod, hu] at h
  split at h
  · rename_i hl
    simp only [Option.map_eq_some_iff] at h
    obtain ⟨ys, hys, _⟩ := h
    exact ⟨hl, ys, hys⟩
  · cases h
theorem arr_has {ty : Ty} : ∀ (n : Nat) (cs : List Value), cs.length = n * tsz ty → (∀ i, i < n → ∃ vs, HasC ty vs ∧ RL W (fun b => b < W.heap.size) vs ((cs.drop (i * tsz ty)).take (tsz ty))) →
    ∃ vs, HasL (List.replicate n ty) vs ∧ RL W (fun b => b < W.heap.size) vs cs
  | 0, cs, hl, _ => by
    have : cs = [] := List.length_eq_zero_iff.1 (by omega)
    subst this
    exact ⟨[], by simp [HasL], RL.nil⟩
  | n + 1, cs, hl, h => by
    obtain ⟨va, ha1, ha2⟩ := h 0 (by omega)
    rw [Nat.succ_mul] at hl
    obtain ⟨vb, hb1, hb2⟩ := arr_has (ty := ty) n (cs.drop (tsz ty)) (by rw [List.length_drop]; omega) (fun i hi => by
      obtain ⟨vs, h1, h2⟩ := h (i + 1) (by omega)
      refine ⟨vs, h1, ?_⟩
      rw [List.drop_drop, show tsz ty + i * tsz ty = (i + 1) * tsz ty by rw [Nat.succ_mul]; omega]
      exact h2)
    refine ⟨va ++ vb, by rw [List.replicate_succ]; simp only [HasL]; exact ⟨va, vb, rfl, ha1, hb1⟩, ?_⟩
    have e : cs = cs.take (tsz ty) ++ cs.drop (tsz ty) := by rw [List.take_append_drop]
    rw [e]
    simp only [Nat.zero_mul, List.drop_zero] at ha2
    exact ha2.append hb2

theorem trod_has : ∀ (m : Nat) (t : TypeId) (ty : Ty) (fuel : Nat) (cs : List Value) (x : DataW H × List MemPlace), tyOf P m t = some ty → DataW.trod enc P W 0 sp true fuel t cs = some x →
    ∃ vs, HasC ty vs ∧ RL W (fun b => b < W.heap.size) vs cs
  | 0, t, ty, fuel, cs, x, ht, _ => by simp [tyOf] at ht
  | m + 1, t, ty, 0, cs, x, ht, h => by simp [DataW.trod] at h
  | m + 1, t, ty, fuel + 1, cs, x, ht, h => by
    unfold tyOf at ht
    split at ht
    · rename_i hu
      cases ht
      obtain ⟨b, rfl⟩ := trod_bool hu h
      exact ⟨_, by simp only [HasC]; exact ⟨_, rfl⟩, RL.one (.bool _)⟩
    · rename_i k hu
      cases ht
      obtain ⟨n, rfl, hw⟩ := trod_int hu h
      refine ⟨_, by simp only [HasC]; exact ⟨_, rfl, by simpa [Lit.wf] using hw⟩, RL.one (.int _ _)⟩
    · rename_i hu
      cases ht
      obtain ⟨s, rfl, hw⟩ := trod_str hu h
      exact ⟨_, by simp only [HasC]; exact ⟨_, rfl, hw⟩, RL.one (.str _)⟩
    · rename_i e hu
      split at ht
      · rename_i ety hety
        simp only [cond_eq_ite, Bool.and_eq_true, beq_iff_eq, Bool.not_eq_true', beq_eq_false_iff_ne] at ht
        split at ht
        · rename_i hh
          obtain ⟨hsz, hpos⟩ := hh
          cases ht
          rcases trod_slice hu h with rfl | ⟨a, len, cap, elems, rfl, hlc, hcm, hel⟩
          · exact ⟨[.list (tsz ety) []], by simp only [HasC]; exact ⟨[], rfl, by simp, by simp⟩, RL.one (.list0 _ _ _)⟩
          · obtain ⟨xs, hxl, hxs⟩ := choose_list len (fun i (vs : List V) => HasC ety vs ∧ ∃ cl, W.cells? 0 (a.add (i * tsz ety)) (tsz ety) = some cl ∧ RL W (fun b => b < W.heap.size) vs cl) (fun i hi => by
              obtain ⟨y, hy⟩ := mapM_mem hel i (by simpa using hi)
              simp only [Option.bind_eq_some_iff] at hy
              obtain ⟨cl, hcl, hy⟩ := hy
              obtain ⟨vs, h1, h2⟩ := trod_has m e ety fuel cl y hety hy
              exact ⟨vs, h1, cl, by rw [← hsz]; exact hcl, h2⟩)
            have hcell : ∀ (i j : Nat) (c : List V) (x : V), xs[i]? = some c → c[j]? = some x → ∃ y, W.cell? (a.add (i * tsz ety + j)) = some y ∧ R0 W (fun b => b < W.heap.size) x y := by
              intro i j c x hi hj
              obtain ⟨hc, cl, hcl, hrl⟩ := hxs i c hi
              have hjl : j < c.length := (List.getElem?_eq_some_iff.1 hj).1
              have hlen := HasC.len _ _ hc
              simp only [World.cells?, Nat.zero_le, if_true] at hcl
              obtain ⟨hl1, hl2⟩ := mapM_at hcl
              have hjc : j < cl.length := by rw [← hrl.1]; exact hjl
              have := hl2 j j (cl[j]) (List.getElem?_range (by omega)) (List.getElem?_eq_getElem hjc)
              rw [Addr.add_add] at this
              exact ⟨_, this, hrl.2 j x _ hj (List.getElem?_eq_getElem hjc)⟩
            refine ⟨[.list (tsz ety) xs], by simp only [HasC]; exact ⟨xs, rfl, by omega, fun x hx => by obtain ⟨i, hi⟩ := List.mem_iff_getElem?.1 hx; exact (hxs i x hi).1⟩, RL.one ?_⟩
            · by_cases h0 : xs = []
              · subst h0
                simp at hxl; subst hxl
                exact .list0 _ _ _
              · have hb : a.block < W.heap.size := by
                  cases xs with
                  | nil => exact (h0 rfl).elim
                  | cons c xs =>
                    obtain ⟨hc, _⟩ := hxs 0 c rfl
                    have hl := HasC.len _ _ hc
                    cases c with
                    | nil => simp at hl; omega
                    | cons x c =>
                      obtain ⟨y, hy, _⟩ := hcell 0 0 (x :: c) x rfl rfl
                      have := cell_lt hy
                      rwa [block_add] at this
                subst hxl
                refine .list (tsz ety) xs a cap (fun i j => (W.cell? (a.add (i * tsz ety + j))).getD Go.undef) hb (fun c hc => ?_) hlc (fun i j c x hi hj => ?_) (fun i j c x hi hj => ?_)
                · obtain ⟨i, hi⟩ := List.mem_iff_getElem?.1 hc
                  exact HasC.len _ _ (hxs i c hi).1
                · obtain ⟨y, hy, _⟩ := hcell i j c x hi hj
                  simp [hy]
                · obtain ⟨y, hy, hr⟩ := hcell i j c x hi hj
                  simpa [hy] using hr
        · cases ht
      · cases ht
    · rename_i fs hu
      split at ht
      · rename_i tys htys
        simp only [cond_eq_ite, beq_iff_eq] at ht
        split at ht
        · rename_i hsz
          cases ht
          obtain ⟨hlen, ys, hys⟩ := trod_struct hu h
          have key : ∀ (l : List Field) (o : Nat) (tys : List Ty) (ys : List (DataW H × List MemPlace)), tyFs P (tyOf P m) o l = some tys → (l.mapM fun f => DataW.trod enc P W 0 sp true fuel f.type ((cs.drop f.offset).take (P.cellsOf f.type))) = some ys →
              cs.length = o + tszL tys → ∃ vs, HasL tys vs ∧ RL W (fun b => b < W.heap.size) vs (cs.drop o) := by
            intro l
            induction l with
            | nil =>
              intro o tys ys h1 _ h3
              simp [tyFs] at h1; subst h1
              refine ⟨[], by simp [HasL], ?_⟩
              rw [List.drop_eq_nil_of_le (by simp [tszL] at h3; omega)]
              exact RL.nil
            | cons f l ih =>
              intro o tys ys h1 h2 h3
              unfold tyFs at h1
              split at h1
              · rename_i ty hty
                simp only [cond_eq_ite, Bool.and_eq_true, beq_iff_eq] at h1
                split at h1
                · rename_i ho
                  obtain ⟨ho, hs⟩ := ho
                  simp only [Option.map_eq_some_iff] at h1
                  obtain ⟨tys', h1, rfl⟩ := h1
                  rw [List.mapM_cons] at h2
                  simp only [Option.bind_eq_bind, Option.bind_eq_some_iff] at h2
                  obtain ⟨y, hy, ys', hys', _⟩ := h2
                  obtain ⟨va, ha1, ha2⟩ := trod_has m f.type ty fuel _ y hty hy
                  obtain ⟨vb, hb1, hb2⟩ := ih (o + tsz ty) tys' ys' h1 hys' (by simp [tszL] at h3; omega)
                  refine ⟨va ++ vb, by simp only [HasL]; exact ⟨va, vb, rfl, ha1, hb1⟩, ?_⟩
                  have : cs.drop o = (cs.drop o).take (tsz ty) ++ cs.drop (o + tsz ty) := by
                    rw [← List.drop_drop, List.take_append_drop]
                  rw [this]
                  rw [ho, hs] at ha2
                  exact ha2.append hb2
                · cases h1
              · cases h1
          obtain ⟨vs, h1, h2⟩ := key fs.toList 0 tys ys htys hys (by omega)
          exact ⟨vs, by simpa [HasC] using h1, by simpa using h2⟩
        · cases ht
      · cases ht
    · rename_i n e hu
      split at ht
      · rename_i ety hety
        simp only [cond_eq_ite, Bool.and_eq_true, beq_iff_eq] at ht
        split at ht
        · rename_i hh
          obtain ⟨hse, hst⟩ := hh
          cases ht
          obtain ⟨hlen, ys, hys⟩ := trod_array hu h
          obtain ⟨vs, h1, h2⟩ := arr_has (ty := ety) n cs (by rw [hlen, hst]) (fun i hi => by
            obtain ⟨y, hy⟩ := mapM_mem hys i (by simpa using hi)
            rw [hse] at hy
            exact trod_has m e ety fuel _ y hety hy)
          exact ⟨vs, by simpa [HasC] using h1, h2⟩
        · cases ht
      · cases ht
    · cases ht

/-- A value of a type. -/
def HasV : Ty → V → Prop
  | .struct fs, u => ∃ cs, u = .agg cs ∧ HasL fs cs
  | ty, u => HasC ty [u]

theorem okWide_arr {n : Nat} {e t : TypeId} {r : Reach} {base : Nat} {v : Value} (hu : P.underlying t = some (.array n e)) (hv : Value.okWide P W r base t v) : ∃ cs, v = .agg cs ∧ cs.size = P.cellsOf t := by
  unfold Value.okWide at hv
  simp only [hu] at hv
  obtain ⟨cs, h1, h2, _⟩ := hv
  exact ⟨cs, h1, h2⟩
theorem open_any {m : Nat} {t : TypeId} {ty : Ty} {r : Reach} {base : Nat} {v : Value} {d : DataW H} {ps : List MemPlace} (ht : tyOf P m t = some ty) (hv : Value.okWide P W r base t v)
    (h : DataW.Trod enc P W 0 sp true t v d ps) : ∃ u, HasV ty u ∧ R0 W (fun b => b < W.heap.size) u v := by
  obtain ⟨fuel, h⟩ := h
  obtain ⟨vs, h1, h2⟩ := trod_has m t ty fuel _ _ ht h
  have hc : ∀ x, v = x → x.cells = #[x] → (∃ u, vs = [u] ∧ R0 W (fun b => b < W.heap.size) u v) := by
    intro x hx hxc
    subst hx
    rw [hxc] at h2
    obtain ⟨u, rfl⟩ := List.length_eq_one_iff.1 (by simpa using h2.1)
    exact ⟨u, rfl, h2.2 0 u v rfl rfl⟩
  cases m with
  | zero => simp [tyOf] at ht
  | succ m =>
    unfold tyOf at ht
    split at ht
    · rename_i hu; cases ht
      obtain ⟨b, rfl⟩ := okWide_bool hu hv
      obtain ⟨u, rfl, hr⟩ := hc _ rfl rfl
      exact ⟨u, h1, hr⟩
    · rename_i hu; cases ht
      obtain ⟨b, rfl⟩ := okWide_int hu hv
      obtain ⟨u, rfl, hr⟩ := hc _ rfl rfl
      exact ⟨u, h1, hr⟩
    · rename_i hu; cases ht
      obtain ⟨b, rfl⟩ := okWide_string hu hv
      obtain ⟨u, rfl, hr⟩ := hc _ rfl rfl
      exact ⟨u, h1, hr⟩
    · rename_i e hu
      obtain ⟨a, l, c, rfl⟩ := okWide_slice hu hv
      obtain ⟨u, rfl, hr⟩ := hc _ rfl rfl
      split at ht
      · simp only [cond_eq_ite] at ht
        split at ht
        · cases ht; exact ⟨u, h1, hr⟩
        · cases ht
      · cases ht
    · rename_i fs hu
      obtain ⟨cs, rfl, _⟩ := okWide_struct hu hv
      split at ht
      · simp only [cond_eq_ite] at ht
        split at ht
        · cases ht
          refine ⟨.agg vs, ⟨vs, rfl, by simpa [HasC] using h1⟩, ?_⟩
          have h2' : RL W (fun b => b < W.heap.size) vs cs.toList := h2
          exact .agg vs cs (by simpa using h2'.1.symm) fun j c x hc hx => h2'.2 j c x hc (by simpa using hx)
        · cases ht
      · cases ht
    · rename_i n e hu
      obtain ⟨cs, rfl, _⟩ := okWide_arr hu hv
      split at ht
      · simp only [cond_eq_ite] at ht
        split at ht
        · cases ht
          refine ⟨.agg vs, ⟨vs, rfl, by simpa [HasC] using h1⟩, ?_⟩
          have h2' : RL W (fun b => b < W.heap.size) vs cs.toList := h2
          exact .agg vs cs (by simpa using h2'.1.symm) fun j c x hc hx => h2'.2 j c x hc (by simpa using hx)
        · cases ht
      · cases ht
    · cases ht

def HasAll : List Ty → List V → Prop
  | [], us => us = []
  | t :: ts, us => ∃ u us', us = u :: us' ∧ HasV t u ∧ HasAll ts us'
def tysOf (P : Program) (m : Nat) : List TypeId → Option (List Ty)
  | [] => some []
  | t :: ts => match tyOf P m t, tysOf P m ts with
    | some ty, some tys => some (ty :: tys)
    | _, _ => none

theorem open_all {m : Nat} {base : Nat} : ∀ {ts : List TypeId} {tys : List Ty} {vs : List Value} {ds : List (DataW H)} {ps : List MemPlace}, tysOf P m ts = some tys →
    (∀ (j : Nat) t v, ts[j]? = some t → vs[j]? = some v → Value.okWide P W .any base t v) → DataW.TrodAll enc P W 0 sp true ts vs ds ps →
    ∃ us, HasAll tys us ∧ RL W (fun b => b < W.heap.size) us vs
  | [], tys, vs, ds, ps, h1, h2, h3 => by
    simp [tysOf] at h1; subst h1
    obtain ⟨rfl, rfl, rfl⟩ := trodAll_nil h3
    exact ⟨[], rfl, RL.nil⟩
  | t :: ts, tys, vs, ds, ps, h1, h2, h3 => by
    unfold tysOf at h1
    split at h1
    · rename_i ty tys' e1 e2
      cases h1
      obtain ⟨v, vs', d, ds', p, q, rfl, rfl, rfl, ht, hts⟩ := trodAll_cons h3
      obtain ⟨u, hu, hr⟩ := open_any e1 (h2 0 t v rfl rfl) ht
      obtain ⟨us, hus, hrs⟩ := open_all e2 (fun j t v h h' => h2 (j + 1) t v (by simpa using h) (by simpa using h')) hts
      refine ⟨u :: us, ⟨u, us, rfl, hu, hus⟩, ?_⟩
      exact (RL.one hr).append hrs
    · cases h1

def readB (P : Program) (ts : List TypeId) : Bool := ts.all fun t => P.readableRec t && decide (t < P.types.size)
theorem carry_all (hl : laidOutB P = true) {W' : World} (hb : Below W.heap.size W W') : ∀ {ts : List TypeId} {vs : List Value} {ds : List (DataW H)} {ps : List MemPlace}, readB P ts = true →
    DataW.TrodAll enc P W 0 (fun _ => true) true ts vs ds ps → DataW.TrodAll enc P W' 0 (fun b => decide (b < W.heap.size)) true ts vs ds ps
  | [], vs, ds, ps, _, h => by obtain ⟨rfl, rfl, rfl⟩ := trodAll_nil h; exact trodAll_mk0
  | t :: ts, vs, ds, ps, hB, h => by
    simp only [readB, List.all_cons, Bool.and_eq_true, decide_eq_true_eq] at hB
    obtain ⟨v, vs', d, ds', p, q, rfl, rfl, rfl, ht, hts⟩ := trodAll_cons h
    have lt : ∀ x ∈ p, x.block < W.heap.size := by obtain ⟨m, hm⟩ := ht; exact DataW.trod_lt m _ _ _ hm
    exact trodAll_cons_mk (Below.trod hl hB.1.1 hB.1.2 ht hb lt) (carry_all hl hb (by simpa [readB] using hB.2) hts)
theorem trodAll_len : ∀ {ts : List TypeId} {vs : List Value} {ds : List (DataW H)} {ps : List MemPlace}, DataW.TrodAll enc P W 0 sp true ts vs ds ps → ds.length = ts.length
  | [], _, _, _, h => by obtain ⟨_, rfl, _⟩ := trodAll_nil h; rfl
  | t :: ts, _, _, _, h => by obtain ⟨_, _, _, ds', _, _, _, rfl, _, _, h⟩ := trodAll_cons h; simp [trodAll_len h]
end

/-- From a law's contract to what a row asks of the call. -/
theorem lift {H : Type} {enc : TypeId × Value → H} {C : Checked} {os : Os} {f : FuncId} {fn : Func} {s : ChangeSpec} {ps : Array TypeId} {tb : TypeId} {m : Nat} {tys : List Ty}
    (own : ownKnob C.prog.godebug = none) (laidOut : laidOutB C.prog = true) (started : os.Started) (noInit : C.prog.inits.idxOf? f = none) (hfn : C.prog.funcs[f]? = some fn)
    (witness : ∃ (w : World) (tape : Tape) (i : Input), w.os = os ∧ (w.forCall tape i).Shaped C.prog ∧ i.vars = [] ∧ Input.okWide C.prog (w.forCall tape i) .any w.heap.size f i ∧
      s.pre6 enc C.prog fn [] false (w.forCall tape i).memory i.args ∧ ({} : Assume).holds C.prog (lone (Frame.enter C.prog f i.args .normal) [] (w.forCall tape i)))
    (hps : fn.params = ps) (hrs : fn.resultTypes = #[tb]) (htb : C.prog.underlying tb = some .bool) (hvars : s.vars = []) (htys : tysOf C.prog m ps.toList = some tys) (hread : readB C.prog ps.toList = true)
    (hs : ∀ ds : List (DataW H), ds.length = ps.size → s.fn H ds = { results := [.lit (.bool true)], args := ds })
    (law : ∀ us, HasAll tys us → PCall C.prog f us (.bool true)) :
    ReturnsInHanded {} C os f .any (s.pre6 enc C.prog fn [] false) (s.post enc C.prog fn false true false false) := by
  refine returnsInHanded_of_change own started noInit hfn witness ?_
  intro W base args ds gs before hval hW _ _
  subst hps
  have hW' := hW
  obtain ⟨p, q, hA, hV, rfl, hfz, hnd⟩ := hW
  rw [hvars] at hV
  obtain ⟨rfl, rfl⟩ := trodVars_none hV
  obtain ⟨us, hus, hrl⟩ := open_all htys (fun j t v h h' => hval j t v (by simpa using h) (by simpa using h')) hA
  have hlen := trodAll_len hA
  refine (law us hus W (fun b => b < W.heap.size) args (fun _ h => h) (by simpa using hrl.1.symm) (fun j c x hc hx => hrl.2 j c x hc (by simpa using hx))).mono fun e W' hh => ?_
  obtain ⟨rv, ro', rfl, bel, _, _, _, hr⟩ := hh
  have hrv : rv = .bool true := by cases hr; rfl
  subst hrv
  have hsd := hs ds (by simpa using hlen)
  refine ⟨_, rfl, ds, [], _, [], p, [], hW', ?_, ?_, ?_, bel.frame _, fun h => by cases h⟩
  · rw [List.append_nil, hsd, hrs]
    exact trodAll_mk1 (shut_bool htb _)
  · rw [List.append_nil, hsd]
    exact carry_all laidOut bel hread hA
  · rw [List.append_nil, hsd, hvars]
    rfl
end Go.Pv
