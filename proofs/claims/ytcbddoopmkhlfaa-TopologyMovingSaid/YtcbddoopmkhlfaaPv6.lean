/-
  Part 6: stores, appends, slices, what is lent to a call, and what is published at its end.
-/
import Derived.Test.YtcbddoopmkhlfaaPv5
namespace Go.Pv
open Go.RowKit
set_option linter.unusedSimpArgs false

section
variable {w0 : Base} {n : Nat} {ro : Nat → Prop} {lam : Lam} {st : St} {a : Act} {w : World} {P : Program}

/-! ### store -/
def storeV (P : Program) (h : Nat → Option Blk) (t : TypeId) (x v : V) : Option (Nat → Option Blk) := match td P t, x with
  | some d, .ptr key off => (match h key, cellsV v with
    | some blk, some vs => bif decide (vs.length = d.size) && (decide (off + vs.length ≤ blk.cells.length) && vs.all oneV) then some (upd h key (some ⟨blk.ty, setsV blk.cells off vs⟩)) else none
    | _, _ => none)
  | _, _ => none

theorem upd_upd {α : Type} (e : Nat → α) (d : Nat) (u v : α) : upd (upd e d u) d v = upd e d v := by
  funext t; by_cases h : t = d <;> simp [upd, h]

theorem storeCells_sound {key b m : Nat} : ∀ (vs : List V) (Vs : List Value) (i off : Nat) (w : World) (st : St) (blk : Blk), Sim w0 n ro lam st a w → st.heap key = some blk → lam key = some (some b, m) →
    off + i + vs.length ≤ blk.cells.length → RA w ro lam vs Vs.toArray → vs.all oneV = true →
    ∃ w', (storeCells ⟨b, off, none⟩ Vs i).run P w = .ok () w' ∧ Sim w0 n ro lam { st with heap := upd st.heap key (some ⟨blk.ty, setsV blk.cells (off + i) vs⟩) } a w'
  | [], Vs, i, off, w, st, blk, hs, hk, hl, _, hra, _ => by
    have : Vs = [] := List.eq_nil_of_length_eq_zero (by simpa using hra.1)
    subst this
    refine ⟨w, by simp [storeCells], ?_⟩
    have : upd st.heap key (some ⟨blk.ty, setsV blk.cells (off + i) []⟩) = st.heap := by
      funext t; by_cases h : t = key
      · subst h; simp [upd, setsV, hk]
      · simp [upd, h]
    rw [this]; exact hs
  | v :: vs, Vs, i, off, w, st, blk, hs, hk, hl, hle, hra, hone => by
    obtain ⟨X, Xs, rfl⟩ : ∃ X Xs, Vs = X :: Xs := by cases Vs with | nil => simp [RA] at hra | cons X Xs => exact ⟨X, Xs, rfl⟩
    simp only [List.length_cons] at hle
    simp only [List.all_cons, Bool.and_eq_true] at hone
    have hx := hra.2 0 v X rfl (by simp)
    have h1 := oneV_sound hone.1 hx
    have hset := hs.setCell (key := key) (off := off + i) hk hl (by omega) hx
    obtain ⟨hb1, hb2, hb3⟩ := hs.own key b m hl
    have hcell : ∃ u, w.cell? ⟨b, off + i, none⟩ = some u ∧ w.frozen? ⟨b, off + i, none⟩ = false := by
      rcases hs.heap key blk hk with ⟨hv, _⟩ | ⟨b', o, hv, _⟩ | ⟨b', m', arr, hl', hw, hsz, hle', _⟩
      · rw [hl] at hv; cases hv
      · rw [hl] at hv; cases hv
      · rw [hl] at hl'
        simp only [Option.some.injEq, Prod.mk.injEq] at hl'
        obtain ⟨rfl, rfl⟩ := hl'
        have hlt : off + i < arr.size := by omega
        exact ⟨arr[off + i], by rw [cell_of_row w b (off + i) arr blk.ty (0, 0) hw]; exact Array.getElem?_eq_getElem hlt, frozen_of_row w b (off + i) arr blk.ty hw⟩
    obtain ⟨u, hu, hfz⟩ := hcell
    have hra' : RA (w.setCell ⟨b, off + i, none⟩ X) ro lam vs Xs.toArray := by
      refine ⟨by simpa using hra.1, fun j c y hc hy => ?_⟩
      refine (hra.2 (j + 1) c y (by simpa using hc) (by simpa using hy)).mono (fun c hc => ?_) (fun _ h => h) (fun _ _ h => h)
      exact Below.heap_setCell _ _ _ _ (by rintro rfl; exact hb3 hc)
    obtain ⟨w', hrun, hsim⟩ := storeCells_sound vs Xs (i + 1) off _ _ ⟨blk.ty, blk.cells.set (off + i) v⟩ hset (upd_same _ _ _) hl (by simp; omega) hra' hone.2
    refine ⟨w', ?_, ?_⟩
    · simp only [storeCells, Sem.run_bind, add_lit, run_store P w _ X _ h1, hu, hfz, Result.andThen_ok]
      simpa using hrun
    · simp only [upd_upd] at hsim
      have e : off + (i + 1) = off + i + 1 := by omega
      rw [e] at hsim
      simpa [setsV] using hsim

theorem storeV_sound (hs : Sim w0 n ro lam st a w) {t : TypeId} {x v : V} {X Y : Value} {h' : Nat → Option Blk} (h : storeV P st.heap t x v = some h') (hx : R w ro lam x X) (hv : R w ro lam v Y) :
    ∃ w', (Instr.storeAt t X Y).run P w = .ok () w' ∧ Sim w0 n ro lam { st with heap := h' } a w' := by
  unfold storeV at h
  split at h
  · rename_i d key off hd
    split at h
    · rename_i blk vs hk hc
      simp only [cond_eq_ite, Bool.and_eq_true, decide_eq_true_eq] at h
      split at h
      · rename_i hcond
        obtain ⟨hsz, hle, hone⟩ := hcond
        simp only [Option.some.injEq] at h; subst h
        obtain ⟨b, m, hl, rfl⟩ := hx.ptr_inv
        have hra := cellsV_sound hc hv
        obtain ⟨i, D, h1, h2, h3, h4⟩ := td_part hd
        obtain ⟨w', hrun, hsim⟩ := storeCells_sound (P := P) vs Y.cells.toList 0 off w st blk hs hk hl (by omega) (by simpa using hra) hone
        refine ⟨w', ?_, by simpa using hsim⟩
        have hsz' : Y.cells.size = i.size := by rw [hra.1, hsz, h3]
        simp [Instr.storeAt, Instr.sureAddr, storeVar, run_sizeOf' h1, hsz', hrun]
      · cases h
    · cases h
  · cases h

/-! ### a key is forgotten: what mentions it is junk from now on -/
def scrC (key : Nat) : V → V
  | .sl k o l s => bif k == key then .junk else .sl k o l s
  | .ptr k o => bif k == key then .junk else .ptr k o
  | .vptr b k o => bif k == key then .junk else .vptr b k o
  | .mp k => bif k == key then .junk else .mp k
  | .agg _ | .tup _ => .junk
  | v => v
def usesC (key : Nat) : V → Bool
  | .sl k _ _ _ | .ptr k _ | .vptr _ k _ | .mp k => k == key
  | .agg _ | .tup _ => true
  | _ => false
def usesA (key : Nat) : V → Bool
  | .agg cs => cs.any (usesC key)
  | v => usesC key v
def scr (key : Nat) (v : V) : V := match v with
  | .sl k o l s => bif k == key then .junk else .sl k o l s
  | .ptr k o => bif k == key then .junk else .ptr k o
  | .vptr b k o => bif k == key then .junk else .vptr b k o
  | .mp k => bif k == key then .junk else .mp k
  | .agg cs => bif cs.any (usesC key) then .junk else .agg cs
  | .tup vs => bif vs.any (usesA key) then .junk else .tup vs
  | v => v

theorem R_usesC {key : Nat} {lam' : Lam} (hlam : ∀ k y, k ≠ key → lam k = some y → lam' k = some y) {v : V} {x : Value} (h : R w ro lam v x) (hu : usesC key v = false) : R w ro lam' v x := by
  cases h with
  | pure _ _ h => exact .pure _ _ h
  | slv k sz h => exact .slv k sz (hlam k _ (by simpa [usesC] using hu) h)
  | sl k off len sz b m cap h h1 h2 h3 => exact .sl k off len sz b m cap (hlam k _ (by simpa [usesC] using hu) h) h1 h2 h3
  | ptr k off b m h => exact .ptr k off b m (hlam k _ (by simpa [usesC] using hu) h)
  | vptr k off b m h => exact .vptr k off b m (hlam k _ (by simpa [usesC] using hu) h)
  | mp k b h => exact .mp k b (hlam k _ (by simpa [usesC] using hu) h)
  | agg _ _ _ _ => simp [usesC] at hu
  | tup _ _ _ _ => simp [usesC] at hu
theorem R_usesA {key : Nat} {lam' : Lam} (hlam : ∀ k y, k ≠ key → lam k = some y → lam' k = some y) {v : V} {x : Value} (h : R w ro lam v x) (hu : usesA key v = false) : R w ro lam' v x := by
  cases h with
  | pure _ _ h => exact .pure _ _ h
  | slv k sz h => exact R_usesC hlam (.slv k sz h) hu
  | sl k off len sz b m cap h h1 h2 h3 => exact R_usesC hlam (.sl k off len sz b m cap h h1 h2 h3) hu
  | ptr k off b m h => exact R_usesC hlam (.ptr k off b m h) hu
  | vptr k off b m h => exact R_usesC hlam (.vptr k off b m h) hu
  | mp k b h => exact R_usesC hlam (.mp k b h) hu
  | agg cs arr hl hr => exact .agg cs arr hl fun j c x hc hx => R_usesC hlam (hr j c x hc hx) (any_at hu hc)
  | tup _ _ _ _ => simp [usesA, usesC] at hu
theorem R_scrC {key : Nat} {lam' : Lam} (hlam : ∀ k y, k ≠ key → lam k = some y → lam' k = some y) {v : V} {x : Value} (h : R w ro lam v x) : R w ro lam' (scrC key v) x := by
  by_cases hu : usesC key v = true
  · have : scrC key v = .junk := by
      cases v <;> simp [usesC] at hu <;> simp [scrC, hu]
    rw [this]; exact .pure _ _ (.junk _)
  · have hu' : usesC key v = false := by simpa using hu
    have : scrC key v = v := by
      cases v <;> simp [usesC] at hu' <;> simp [scrC, hu', cond_eq_ite]
    rw [this]; exact R_usesC hlam h hu'
theorem R_scr {key : Nat} {lam' : Lam} (hlam : ∀ k y, k ≠ key → lam k = some y → lam' k = some y) {v : V} {x : Value} (h : R w ro lam v x) : R w ro lam' (scr key v) x := by
  cases v with
  | sl k o l s =>
    simp only [scr, cond_eq_ite]; split
    · exact .pure _ _ (.junk _)
    · rename_i hk; exact R_usesC hlam h (by simpa [usesC] using hk)
  | ptr k o =>
    simp only [scr, cond_eq_ite]; split
    · exact .pure _ _ (.junk _)
    · rename_i hk; exact R_usesC hlam h (by simpa [usesC] using hk)
  | vptr b k o =>
    simp only [scr, cond_eq_ite]; split
    · exact .pure _ _ (.junk _)
    · rename_i hk; exact R_usesC hlam h (by simpa [usesC] using hk)
  | mp k =>
    simp only [scr, cond_eq_ite]; split
    · exact .pure _ _ (.junk _)
    · rename_i hk; exact R_usesC hlam h (by simpa [usesC] using hk)
  | agg cs =>
    simp only [scr, cond_eq_ite]; split
    · exact .pure _ _ (.junk _)
    · rename_i hk; exact R_usesA hlam h (by simpa [usesA] using hk)
  | tup vs =>
    simp only [scr, cond_eq_ite]; split
    · exact .pure _ _ (.junk _)
    · rename_i hk
      obtain ⟨arr, rfl, hl, hr⟩ := h.tup_inv
      exact .tup _ _ hl fun j c x hc hx => R_usesA hlam (hr j c x hc hx) (any_at (by simpa using hk) hc)
  | _ => exact R_usesC hlam h rfl

theorem KeyV.scrC {k : V} {x : Value} (h : KeyV k x) (key : Nat) : KeyV (scrC key k) x := by
  cases k <;> first | exact h | (simp only [Pv.scrC, cond_eq_ite]; split <;> trivial) | trivial
theorem SetR.scr {ks : List V} {o : Obj} (h : SetR ks o) (key : Nat) : SetR (ks.map (scrC key)) o := by
  obtain ⟨ents, clk, rfl, hl, hr⟩ := h
  refine ⟨ents, clk, rfl, by simpa using hl, fun j k e hk he => ?_⟩
  simp only [List.getElem?_map, Option.map_eq_some_iff] at hk
  obtain ⟨k', hk', rfl⟩ := hk
  exact ⟨(hr j k' e hk' he).1, KeyV.scrC (hr j k' e hk' he).2 key⟩

/-- The state without a key. -/
def St.forget (st : St) (key : Nat) : St :=
  { env := fun t => scr key (st.env t), heap := fun k => bif k == key then none else (st.heap k).map fun blk => ⟨blk.ty, blk.cells.map (scrC key)⟩ }

theorem Sim.forget (hs : Sim w0 n ro lam st a w) (key : Nat) : Sim w0 n ro (upd lam key none) (st.forget key) a w := by
  have hlam : ∀ k y, k ≠ key → lam k = some y → upd lam key none k = some y := fun k y hk h => by rw [upd_ne _ _ hk]; exact h
  have hback : ∀ k y, upd lam key none k = some y → k ≠ key ∧ lam k = some y := fun k y h => by
    by_cases e : k = key
    · subst e; rw [upd_same] at h; cases h
    · rw [upd_ne _ _ e] at h; exact ⟨e, h⟩
  refine ⟨hs.below, hs.dfr, hs.size, hs.rolt, fun t => R_scr hlam (hs.env t), fun k blk hk => ?_, fun k hk => ?_, fun k b m hl => hs.own k b m (hback k _ hl).2, fun k1 k2 b m1 m2 h1 h2 => hs.inj k1 k2 b m1 m2 (hback _ _ h1).2 (hback _ _ h2).2, fun k b h => ⟨(hs.maps k b (hback _ _ h).2).1, fun k' h' => (hs.maps k b (hback _ _ h).2).2 k' (hback _ _ h').2⟩⟩
  · simp only [St.forget, cond_eq_ite] at hk
    split at hk
    · cases hk
    · rename_i hne
      have hne' : k ≠ key := by simpa using hne
      simp only [Option.map_eq_some_iff] at hk
      obtain ⟨blk', hk', rfl⟩ := hk
      rcases hs.heap k blk' hk' with ⟨hv, hc⟩ | ⟨b, o, hl, hw, hso⟩ | ⟨b, m, arr, hl, hw, hsz, hle, hr⟩
      · exact .inl ⟨hlam k _ hne' hv, by simp [hc]⟩
      · exact .inr (.inl ⟨b, o, hlam k _ hne' hl, hw, hso.scr key⟩)
      · refine .inr <| .inr ⟨b, m, arr, hlam k _ hne' hl, hw, hsz, by simpa using hle, fun j c x hc hx => ?_⟩
        simp only [List.getElem?_map, Option.map_eq_some_iff] at hc
        obtain ⟨c', hc', rfl⟩ := hc
        exact R_scrC hlam (hr j c' x hc' hx)
  · simp only [St.forget, cond_eq_ite] at hk
    by_cases e : k = key
    · subst e; exact upd_same _ _ _
    · rw [upd_ne _ _ e]
      have : (k == key) = false := by simpa using e
      simp only [this, Bool.false_eq_true, if_false, Option.map_eq_none_iff] at hk
      exact hs.dead k hk

/-- A nil slice as an own block without cells. -/
theorem Sim.nilOwn (hs : Sim w0 n ro lam st a w) {t key sz : Nat} {ty : TypeId} (ht : st.env t = .nils) (hk : st.heap key = none) :
    Sim w0 n ro (upd lam key (some (none, 0))) { env := upd st.env t (.sl key 0 0 sz), heap := upd st.heap key (some ⟨ty, []⟩) } a w := by
  have hdl := hs.dead key hk
  have hlam : ∀ k y, lam k = some y → upd lam key (some (none, 0)) k = some y := fun k y h => by
    rw [upd_ne]; exact h
    rintro rfl; rw [hdl] at h; cases h
  have hback : ∀ k b m, upd lam key (some (none, 0)) k = some (some b, m) → lam k = some (some b, m) := fun k b m h => by
    by_cases e : k = key
    · subst e; rw [upd_same] at h; cases h
    · rw [upd_ne _ _ e] at h; exact h
  have hbackm : ∀ k b, upd lam key (some (none, 0)) k = some (none, b + 1) → lam k = some (none, b + 1) := fun k b h => by
    by_cases e : k = key
    · subst e; rw [upd_same] at h; cases h
    · rw [upd_ne _ _ e] at h; exact h
  have hm : ∀ {v x}, R w ro lam v x → R w ro (upd lam key (some (none, 0))) v x := fun h => h.mono (fun _ _ => rfl) (fun _ h => h) hlam
  refine ⟨hs.below, hs.dfr, hs.size, hs.rolt, fun t' => ?_, fun k blk hk' => ?_, fun k hk' => ?_, fun k b m hl => hs.own k b m (hback k b m hl), fun k1 k2 b m1 m2 h1 h2 => hs.inj k1 k2 b m1 m2 (hback _ _ _ h1) (hback _ _ _ h2), fun k b h => ⟨(hs.maps k b (hbackm _ _ h)).1, fun k' h' => (hs.maps k b (hbackm _ _ h)).2 k' (hbackm _ _ h')⟩⟩
  · by_cases e : t' = t
    · subst e
      have h := hs.env t'
      rw [ht] at h
      simp only [upd_same, h.nils_inv]
      exact .slv _ _ (upd_same _ _ _)
    · simp only [upd_ne _ _ e]; exact hm (hs.env t')
  · by_cases e : k = key
    · subst e
      simp only [upd_same, Option.some.injEq] at hk'
      subst hk'
      exact .inl ⟨upd_same _ _ _, rfl⟩
    · simp only [upd_ne _ _ e] at hk'
      rcases hs.heap k blk hk' with ⟨hv, hc⟩ | ⟨b, o, hl, hw, hso⟩ | ⟨b, m, arr, hl, hw, hsz, hle, hr⟩
      · exact .inl ⟨hlam _ _ hv, hc⟩
      · exact .inr (.inl ⟨b, o, hlam _ _ hl, hw, hso⟩)
      · exact .inr <| .inr ⟨b, m, arr, hlam _ _ hl, hw, hsz, hle, fun j c x hc hx => hm (hr j c x hc hx)⟩
  · by_cases e : k = key
    · subst e; simp only [upd_same] at hk'; cases hk'
    · simp only [upd_ne _ _ e] at hk' ⊢; exact hs.dead k hk'
end
end Go.Pv
