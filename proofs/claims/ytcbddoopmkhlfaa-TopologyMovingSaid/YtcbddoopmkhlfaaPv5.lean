/-
  Part 5: memory: loads, new blocks, stores.
-/
import Derived.Test.YtcbddoopmkhlfaaPv4
namespace Go.Pv
open Go.RowKit
set_option linter.unusedSimpArgs false

section
variable {w0 : Base} {n : Nat} {ro : Nat → Prop} {lam : Lam} {st : St} {a : Act} {w : World} {P : Program}

/-! ### load -/
def loadV (P : Program) (h : Nat → Option Blk) (t : TypeId) (x : V) : Option V := match td P t with
  | some d => (match x with
    | .ptr key off => (match h key with
      | some blk => partV blk.cells off d.size d.agg
      | none => none)
    | .rp cs => partV cs 0 d.size d.agg
    | .vrp _ cs => partV cs 0 d.size d.agg
    | _ => none)
  | none => none

theorem td_part {t : TypeId} {d : Td} (h : td P t = some d) : ∃ i D, P.info? t = some i ∧ P.underlying t = some D ∧ i.size = d.size ∧ isAggD D = d.agg := by
  obtain ⟨i, D, h1, h2⟩ := td_some h
  simp only [td, h1, h2, Option.some.injEq] at h
  subst h
  exact ⟨i, D, h1, h2, rfl, rfl⟩

/-- Reading at an address, one cell or several. -/
theorem read_sound {t : TypeId} {d : Td} {cs : List V} {off : Nat} {v : V} {ad : Addr} {g : Nat → Value} (hd : td P t = some d) (h : partV cs off d.size d.agg = some v)
    (hg : ∀ (j : Nat) (c : V), cs[off + j]? = some c → w.cell? (ad.add j) = some (g j)) (hr : ∀ (j : Nat) (c : V), cs[off + j]? = some c → R w ro lam c (g j)) :
    ∃ z, (Instr.loadAt t (.pointer (some ad))).run P w = .ok z w ∧ R w ro lam v z := by
  obtain ⟨i, D, h1, h2, h3, h4⟩ := td_part hd
  unfold partV at h
  cases hag : d.agg with
  | true =>
    simp only [hag, cond_true] at h
    simp only [cond_eq_ite, decide_eq_true_eq] at h
    split at h
    · rename_i hle
      simp only [Option.some.injEq] at h; subst h
      have hcell : ∀ j, j < d.size → w.cell? (ad.add j) = some (g j) := fun j hj => hg j _ (List.getElem?_eq_getElem (by omega))
      have hload := run_loadCells (P := P) w ad d.size g hcell
      refine ⟨.agg ((List.range d.size).map g).toArray, ?_, .agg _ _ ?_ ?_⟩
      · simp [Instr.loadAt, Instr.sureAddr, loadVar, run_isAgg h2, h4, hag, run_sizeOf' h1, h3, hload]
      · simp; omega
      · intro j c x hc hx
        rw [List.getElem?_take] at hc
        split at hc
        · rename_i hj
          rw [List.getElem?_drop] at hc
          simp only [List.getElem?_toArray, List.getElem?_map, List.getElem?_range hj, Option.map_some, Option.some.injEq] at hx
          subst hx
          exact hr j c hc
        · cases hc
    · cases h
  | false =>
    simp only [hag, cond_false] at h
    refine ⟨g 0, ?_, hr 0 v (by simpa using h)⟩
    have hc := hg 0 v (by simpa using h)
    have ha : ad.add 0 = ad := by simp [Addr.add]
    rw [ha] at hc
    simp [Instr.loadAt, Instr.sureAddr, loadVar, run_isAgg h2, h4, hag, hc]

theorem loadV_sound (hs : Sim w0 n ro lam st a w) {t : TypeId} {x v : V} {X : Value} (h : loadV P st.heap t x = some v) (hx : R w ro lam x X) :
    ∃ z, (Instr.loadAt t X).run P w = .ok z w ∧ R w ro lam v z := by
  unfold loadV at h
  split at h
  · rename_i d hd
    split at h
    · rename_i key off
      split at h
      · rename_i blk hk
        obtain ⟨b, m, hl, rfl⟩ := hx.ptr_inv
        rcases hs.heap key blk hk with ⟨hv, _⟩ | ⟨b', o, hv, _⟩ | ⟨b', m', arr, hl', hw, hsz, hle, hr⟩
        · rw [hl] at hv; cases hv
        · rw [hl] at hv; cases hv
        · rw [hl] at hl'
          simp only [Option.some.injEq, Prod.mk.injEq] at hl'
          obtain ⟨rfl, rfl⟩ := hl'
          have harr : ∀ j c, blk.cells[off + j]? = some c → arr[off + j]? = some (arr.getD (off + j) Go.undef) := fun j c hc => by
            have hlt : off + j < arr.size := by have := (List.getElem?_eq_some_iff.1 hc).1; omega
            simp [Array.getD_eq_getD_getElem?, Array.getElem?_eq_getElem hlt]
          refine read_sound (cs := blk.cells) (off := off) (g := fun j => arr.getD (off + j) Go.undef) hd h (fun j c hc => ?_) (fun j c hc => hr _ c _ hc (harr j c hc))
          rw [add_lit, cell_of_row w b (off + j) arr blk.ty (0, 0) hw]
          exact harr j c hc
      · cases h
    · rename_i cs
      obtain ⟨ad, g, rfl, hro, hg, hr⟩ := hx.rp_inv
      exact read_sound (cs := cs) (off := 0) (g := g) hd h (fun j c hc => hg j c (by simpa using hc)) (fun j c hc => .pure _ _ (hr j c (by simpa using hc)))
    · rename_i cs
      obtain ⟨ad, g, rfl, hro, hg, hr⟩ := hx.vrp_rp.2.rp_inv
      exact read_sound (cs := cs) (off := 0) (g := g) hd h (fun j c hc => hg j c (by simpa using hc)) (fun j c hc => .pure _ _ (hr j c (by simpa using hc)))
    · cases h
  · cases h

/-! ### new blocks -/
def boxV (elem : TypeId) (x : V) : Option Blk := (cellsV x).map fun cs => ⟨elem, cs⟩
def allocV (P : Program) (elem : TypeId) : Option Blk := match td P elem with
  | some d => d.zero.map fun z => ⟨elem, z⟩
  | none => none

theorem RA.mono_new {cs : List V} {arr : Array Value} (h : RA w ro lam cs arr) : cs.length ≤ arr.size := by rw [h.1]; exact Nat.le_refl _

theorem boxV_sound (hs : Sim w0 n ro lam st a w) {d : Nat} {elem : TypeId} {x : V} {X : Value} {blk : Blk} (hd : st.heap d = none) (h : boxV elem x = some blk) (hx : R w ro lam x X) :
    ∃ w' lam', (Instr.box elem X).run P w = .ok (.pointer (some ⟨w.heap.size, 0, none⟩)) w' ∧ Sim w0 n ro lam' { st with heap := upd st.heap d (some blk) } a w' ∧ R w' ro lam' (.ptr d 0) (.pointer (some ⟨w.heap.size, 0, none⟩)) := by
  simp only [boxV, Option.map_eq_some_iff] at h
  obtain ⟨cs, hc, rfl⟩ := h
  have hra := cellsV_sound hc hx
  refine ⟨w.alloc (.cells X.cells elem), _, by simp [Instr.box, newVar, newRow], hs.alloc hd hra.mono_new hra.2, .ptr _ _ _ _ (upd_same _ _ _)⟩
theorem allocV_sound (hs : Sim w0 n ro lam st a w) {d : Nat} {elem : TypeId} {blk : Blk} (hd : st.heap d = none) (h : allocV P elem = some blk) :
    ∃ w' lam', (Instr.alloc elem true (.tuple #[])).run P w = .ok (.pointer (some ⟨w.heap.size, 0, none⟩)) w' ∧ Sim w0 n ro lam' { st with heap := upd st.heap d (some blk) } a w' ∧ R w' ro lam' (.ptr d 0) (.pointer (some ⟨w.heap.size, 0, none⟩)) := by
  unfold allocV at h
  split at h
  · rename_i dd hdd
    simp only [Option.map_eq_some_iff] at h
    obtain ⟨zs, hz, rfl⟩ := h
    obtain ⟨i, z, h1, h2, hra, _, _⟩ := td_zero (w := w) (ro := ro) (lam := lam) hdd hz
    refine ⟨w.alloc (.cells z.cells elem), _, by simp [Instr.alloc, zeroValue, typeInfo, h1, h2, newVar, newRow], hs.alloc hd hra.mono_new hra.2, .ptr _ _ _ _ (upd_same _ _ _)⟩
  · cases h

/-- 'make([]T, l, c)': the block's cells up to the length. -/
def makeV (P : Program) (t : TypeId) (l c : V) : Option (Nat × Blk × Nat) := match td P t, l, c with
  | some d, .int _ l, .int _ c => (match d.slc with
    | some (e, s) => (match td P e with
      | some de => (match de.zero with
        | some z => bif decide (z.length = s) && (decide (0 ≤ l) && (decide (l ≤ c) && (decide ((de.bytes : Int) * c ≤ 281474976710656) && decide (c ≤ 9223372036854775807)))) then
            some (l.toNat, ⟨e, (List.replicate l.toNat z).flatten⟩, s) else none
        | none => none)
      | none => none)
    | none => none)
  | _, _, _ => none

theorem getElem?_replicate_flatten {α : Type} (z : List α) : ∀ (k j : Nat) (c : α), (List.replicate k z).flatten[j]? = some c → z[j % z.length]? = some c ∧ j < k * z.length
  | 0, j, c, h => by simp at h
  | k + 1, j, c, h => by
    simp only [List.replicate_succ, List.flatten_cons, List.getElem?_append] at h
    split at h
    · rename_i hj
      rw [Nat.mod_eq_of_lt hj]
      exact ⟨h, by rw [Nat.succ_mul]; omega⟩
    · rename_i hj
      obtain ⟨h1, h2⟩ := getElem?_replicate_flatten z k _ c h
      rw [Nat.mod_eq_sub_mod (by omega)]
      exact ⟨h1, by rw [Nat.succ_mul]; omega⟩
theorem length_replicate_flatten {α : Type} (z : List α) (k : Nat) : ((List.replicate k z).flatten).length = k * z.length := by
  induction k with
  | zero => simp
  | succ k ih => rw [List.replicate_succ, List.flatten_cons, List.length_append, ih, Nat.succ_mul]; omega

theorem makeV_sound (hs : Sim w0 n ro lam st a w) {d : Nat} {t : TypeId} {l c : V} {L C : Value} {blk : Blk} {k s : Nat} (hd : st.heap d = none) (h : makeV P t l c = some (k, blk, s)) (hl : R w ro lam l L) (hc : R w ro lam c C) :
    ∃ z w' lam', (Instr.makeSlice t L C).run P w = .ok z w' ∧ Sim w0 n ro lam' { st with heap := upd st.heap d (some blk) } a w' ∧ R w' ro lam' (.sl d 0 k s) z := by
  unfold makeV at h
  split at h
  · rename_i dd kl lv kc cvv hdd
    have := hl.int_inv; subst this
    have := hc.int_inv; subst this
    split at h
    · rename_i e s' hslc
      split at h
      · rename_i de hde
        split at h
        · rename_i zs hz
          simp only [cond_eq_ite, Bool.and_eq_true, decide_eq_true_eq] at h
          split at h
          · rename_i hcond
            obtain ⟨hzl, h0, hle, hby, h63⟩ := hcond
            simp only [Option.some.injEq, Prod.mk.injEq] at h
            obtain ⟨rfl, rfl, rfl⟩ := h
            obtain ⟨hu, ag, hp⟩ := td_slc' hdd hslc
            obtain ⟨ie, De, e1, e2, e3, e4⟩ := partD_some hp
            obtain ⟨i, z, h1, h2, hra, hsz, hbs⟩ := td_zero (w := w) (ro := ro) (lam := lam) hde hz
            rw [e1] at h1
            simp only [Option.some.injEq] at h1
            subst h1
            have hrun := run_make (P := P) w t e ie z hu e1 h2 kl kc lv cvv h0 hle (by rw [hbs]; exact hby) h63
            have hzs : z.cells.size = s' := by rw [hra.1, hzl]
            have harrsz : (madeCells z.cells (cvv.toNat * ie.size)).size = cvv.toNat * s' := by rw [size_madeCells, e3]
            have hlen : ((List.replicate lv.toNat zs).flatten).length ≤ (madeCells z.cells (cvv.toNat * ie.size)).size := by
              rw [harrsz, length_replicate_flatten, hzl]
              exact Nat.mul_le_mul_right _ (by omega)
            refine ⟨_, _, _, hrun, hs.alloc hd hlen ?_, .sl d 0 lv.toNat s' w.heap.size _ cvv.toNat (upd_same _ _ _) (by rw [harrsz]; omega) (by omega) (by simp only [maxLen]; omega)⟩
            · intro j c x hc hx
              obtain ⟨hj1, hj2⟩ := getElem?_replicate_flatten zs lv.toNat j c hc
              have hzp : 0 < zs.length := by
                rcases Nat.eq_zero_or_pos zs.length with h0' | h0'
                · rw [h0'] at hj2; omega
                · exact h0'
              have hjm : j % zs.length < z.cells.size := by rw [hra.1]; exact Nat.mod_lt _ hzp
              have hjlt : j < cvv.toNat * ie.size := by
                have := (Array.getElem?_eq_some_iff.1 hx).1
                rwa [size_madeCells] at this
              have hx' : x = z.cells[j % z.cells.size]! := by
                simp only [madeCells, Array.getElem?_map, Array.getElem?_range, hjlt, if_true, Option.map_some, Option.some.injEq] at hx
                exact hx.symm
              refine hra.2 _ c x hj1 ?_
              rw [hx', hra.1]
              rw [getElem!_pos z.cells _ hjm]
              exact Array.getElem?_eq_getElem hjm
          · cases h
        · cases h
      · cases h
    · cases h
  · cases h

/-- A slice literal. -/
def buildSliceV (P : Program) (t : TypeId) (len : Nat) (ps : List (Nat × V)) : Option (Blk × Nat) := match td P t with
  | some d => (match d.slc with
    | some (e, s) => (match td P e with
      | some de => (match de.zero with
        | some z => bif decide (z.length = s) && (decide (0 < s) && decide (len * s ≤ 16777216)) then (fillV (fun i => some (i * s, s)) ((List.replicate len z).flatten) ps).map (fun cs => (⟨e, cs⟩, s)) else none
        | none => none)
      | none => none)
    | none => none)
  | none => none
theorem length_fillV {place : Nat → Option (Nat × Nat)} : ∀ (ps : List (Nat × V)) (cs cs' : List V), fillV place cs ps = some cs' → cs'.length = cs.length
  | [], cs, cs', h => by simp only [fillV, Option.some.injEq] at h; rw [h]
  | (i, v) :: ps, cs, cs', h => by
    unfold fillV at h
    split at h
    · simp only [cond_eq_ite] at h
      split at h
      · rw [length_fillV ps _ _ h, length_setsV]
      · cases h
    · cases h
theorem buildSliceV_sound (hs : Sim w0 n ro lam st a w) {d : Nat} {t : TypeId} {len s : Nat} {ps : List (Nat × V)} {Ps : Array (Nat × Value)} {blk : Blk} (hd : st.heap d = none) (h : buildSliceV P t len ps = some (blk, s)) (hl : Ps.size = ps.length)
    (hr : ∀ (j : Nat) (p : Nat × V) (q : Nat × Value), ps[j]? = some p → Ps[j]? = some q → p.1 = q.1 ∧ R w ro lam p.2 q.2) :
    ∃ z w' lam', (Instr.buildSlice t len Ps).run P w = .ok z w' ∧ Sim w0 n ro lam' { st with heap := upd st.heap d (some blk) } a w' ∧ R w' ro lam' (.sl d 0 len s) z := by
  unfold buildSliceV at h
  split at h
  · rename_i dd hdd
    split at h
    · rename_i e s' hslc
      split at h
      · rename_i de hde
        split at h
        · rename_i zs hz
          simp only [cond_eq_ite, Bool.and_eq_true, decide_eq_true_eq] at h
          split at h
          · rename_i hcond
            obtain ⟨hzl, hsp, h24⟩ := hcond
            simp only [Option.map_eq_some_iff, Prod.mk.injEq] at h
            obtain ⟨cs, hcs, rfl, rfl⟩ := h
            obtain ⟨hu, ag, hp⟩ := td_slc' hdd hslc
            obtain ⟨ie, De, e1, e2, e3, e4⟩ := partD_some hp
            obtain ⟨i, z, h1, h2, hra, hsz, hbs⟩ := td_zero (w := w) (ro := ro) (lam := lam) hde hz
            rw [e1] at h1
            simp only [Option.some.injEq] at h1
            subst h1
            have hzs : z.cells.size = s' := by rw [hra.1, hzl]
            have hra0 : RA w ro lam ((List.replicate len zs).flatten) ((Array.range (len * s')).map (z.cells[· % z.cells.size]!)) := by
              refine ⟨by simp [length_replicate_flatten, hzl], fun j c x hc hx => ?_⟩
              obtain ⟨hj1, hj2⟩ := getElem?_replicate_flatten zs len j c hc
              have hzp : 0 < zs.length := by
                rcases Nat.eq_zero_or_pos zs.length with h0' | h0'
                · rw [h0'] at hj2; omega
                · exact h0'
              have hjm : j % zs.length < z.cells.size := by rw [hra.1]; exact Nat.mod_lt _ hzp
              have hjlt : j < len * s' := by rw [hzl] at hj2; exact hj2
              have hx' : x = z.cells[j % z.cells.size]! := by
                simp only [Array.getElem?_map, Array.getElem?_range, hjlt, if_true, Option.map_some, Option.some.injEq] at hx
                exact hx.symm
              refine hra.2 _ c x hj1 ?_
              rw [hx', hra.1, getElem!_pos z.cells _ hjm]
              exact Array.getElem?_eq_getElem hjm
            obtain ⟨arr', hf, hra'⟩ := fillV_sound ps Ps.toList _ _ cs hcs hra0 (by simpa using hl) (fun j p q hp hq => hr j p q hp (by simpa using hq))
            have hsz' : arr'.size = len * s' := by rw [hra'.1, length_fillV ps _ _ hcs, length_replicate_flatten, hzl]
            have hml : len ≤ maxLen := by
              have : len * 1 ≤ len * s' := Nat.mul_le_mul_left _ hsp
              simp only [maxLen]; omega
            have hrun : (Instr.buildSlice t len Ps).run P w = .ok (.slice (some ⟨w.heap.size, 0, none⟩) len len) (w.alloc (.cells arr' e)) := by
              have h24' : ¬ (16777216 < len * ie.size) := by rw [e3]; omega
              by_cases h0 : len * s' = 0
              · have hf0 : Instr.fill (fun i => some (i * s', s')) #[] Ps.toList = some arr' := by
                  rw [h0] at hf; simpa [Array.range_zero'] using hf
                simp [Instr.buildSlice, run_underlying hu, run_sizeOf' e1, e3, h0, newRow, hf0, Array.range_zero']
              · simp [Instr.buildSlice, run_underlying hu, run_sizeOf' e1, e3, h0, newRow, zeroValue, typeInfo, e1, h2, hf, show ¬ (16777216 < len * s') from by omega]
            exact ⟨_, _, _, hrun, hs.alloc hd (by rw [hra'.1]; exact Nat.le_refl _) hra'.2, .sl d 0 len s' w.heap.size _ len (upd_same _ _ _) (by rw [hsz']; omega) (Nat.le_refl _) hml⟩
          · cases h
        · cases h
      · cases h
    · cases h
  · cases h
end
end Go.Pv
