/-
  Part 7: append, and slices of slices.
-/
import Derived.Test.YtcbddoopmkhlfaaPv6
namespace Go.Pv
open Go.RowKit
set_option linter.unusedSimpArgs false

section
variable {w0 : Base} {n : Nat} {ro : Nat → Prop} {lam : Lam} {st : St} {a : Act} {w : World} {P : Program}

/-! ### a source of cells -/
def srcCells (h : Nat → Option Blk) (s : Nat) (x : V) : Option (Nat × List V) := match x with
  | .nils => some (0, [])
  | .list sz xs => bif decide (sz = s) then some (xs.length, xs.flatten) else none
  | .sl key off len sz => (match h key with
    | some blk => bif decide (sz = s) && decide (off + len * sz ≤ blk.cells.length) then some (len, (blk.cells.drop off).take (len * sz)) else none
    | none => none)
  | .val (.slice _ 0 _) => some (0, [])
  | _ => none

theorem flatten_at {α : Type} {sz : Nat} (hs : 0 < sz) : ∀ (xs : List (List α)), (∀ c ∈ xs, c.length = sz) → ∀ (j : Nat) (y : α), xs.flatten[j]? = some y → ∃ c, xs[j / sz]? = some c ∧ c[j % sz]? = some y
  | [], _, j, y, h => by simp at h
  | c :: xs, hc, j, y, h => by
    have hcl : c.length = sz := hc c (by simp)
    simp only [List.flatten_cons, List.getElem?_append] at h
    split at h
    · rename_i hj
      rw [hcl] at hj
      exact ⟨c, by rw [Nat.div_eq_of_lt hj]; rfl, by rw [Nat.mod_eq_of_lt hj]; exact h⟩
    · rename_i hj
      rw [hcl] at hj h
      obtain ⟨c', h1, h2⟩ := flatten_at hs xs (fun c hc' => hc c (by simp [hc'])) (j - sz) y h
      refine ⟨c', ?_, ?_⟩
      · rw [Nat.div_eq_sub_div hs (by omega)]; simpa using h1
      · rw [Nat.mod_eq_sub_mod (by omega)]; exact h2
theorem length_flatten_uniform {α : Type} {sz : Nat} : ∀ (xs : List (List α)), (∀ c ∈ xs, c.length = sz) → xs.flatten.length = xs.length * sz
  | [], _ => by simp
  | c :: xs, hc => by
    rw [List.flatten_cons, List.length_append, hc c (by simp), length_flatten_uniform xs (fun c hc' => hc c (by simp [hc'])), List.length_cons, Nat.succ_mul]; omega

theorem src_sound (hs : Sim w0 n ro lam st a w) {s m : Nat} {x : V} {X : Value} {cs : List V} (hsp : 0 < s) (h : srcCells st.heap s x = some (m, cs)) (hx : R w ro lam x X) :
    ∃ A c Vs, X = .slice A m c ∧ cs.length = m * s ∧ RA w ro lam cs (Vs : List Value).toArray ∧ (∀ ad, A = some ad → ∀ j u, Vs[j]? = some u → w.cell? (ad.add j) = some u) ∧ (A = none → m = 0) := by
  unfold srcCells at h
  split at h
  · simp only [Option.some.injEq, Prod.mk.injEq] at h
    obtain ⟨rfl, rfl⟩ := h
    have := hx.nils_inv; subst this
    exact ⟨none, 0, [], rfl, by simp, ⟨rfl, by simp⟩, by simp, fun _ => rfl⟩
  · rename_i sz xs
    simp only [cond_eq_ite, decide_eq_true_eq] at h
    split at h
    · rename_i hsz
      subst hsz
      simp only [Option.some.injEq, Prod.mk.injEq] at h
      obtain ⟨rfl, rfl⟩ := h
      rcases hx.list_inv with ⟨rfl, ad, cap, rfl⟩ | ⟨ad, cap, g, rfl, hro, huni, hcap, hg, hr⟩
      · exact ⟨ad, cap, [], rfl, by simp, ⟨rfl, by simp⟩, by simp, fun _ => rfl⟩
      · have hlen := length_flatten_uniform xs huni
        have hat : ∀ j, j < xs.flatten.length → ∃ c y, xs[j / sz]? = some c ∧ c[j % sz]? = some y ∧ xs.flatten[j]? = some y := fun j hj => by
          obtain ⟨c, h1, h2⟩ := flatten_at hsp xs huni j _ (List.getElem?_eq_getElem hj)
          exact ⟨c, _, h1, h2, List.getElem?_eq_getElem hj⟩
        refine ⟨some ad, cap, (List.range xs.flatten.length).map (fun j => g (j / sz) (j % sz)), rfl, hlen, ⟨by simp, fun j c y hc hy => ?_⟩, fun ad' had j u hu => ?_, by simp⟩
        · have hj := (List.getElem?_eq_some_iff.1 hc).1
          obtain ⟨c', y', h1, h2, h3⟩ := hat j hj
          rw [hc] at h3
          simp only [Option.some.injEq] at h3
          subst h3
          simp only [List.getElem?_toArray, List.getElem?_map, List.getElem?_range hj, Option.map_some, Option.some.injEq] at hy
          subst hy
          exact .pure _ _ (hr _ _ c' c h1 h2)
        · simp only [Option.some.injEq] at had
          subst had
          have hj : j < xs.flatten.length := by
            have := (List.getElem?_eq_some_iff.1 hu).1
            simpa using this
          simp only [List.getElem?_map, List.getElem?_range hj, Option.map_some, Option.some.injEq] at hu
          subst hu
          obtain ⟨c', y', h1, h2, h3⟩ := hat j hj
          have := hg _ _ c' y' h1 h2
          rwa [Nat.div_add_mod' j sz] at this
    · cases h
  · rename_i key off len sz
    split at h
    · rename_i blk hk
      simp only [cond_eq_ite, Bool.and_eq_true, decide_eq_true_eq] at h
      split at h
      · rename_i hc
        obtain ⟨rfl, hle⟩ := hc
        simp only [Option.some.injEq, Prod.mk.injEq] at h
        obtain ⟨rfl, rfl⟩ := h
        rcases hx.sl_inv with ⟨hv, rfl, rfl, rfl⟩ | ⟨b, m', cap, hl, _, _, _, rfl⟩
        · exact ⟨none, 0, [], rfl, by simp, ⟨by simp, by simp⟩, by simp, fun _ => rfl⟩
        · rcases hs.heap key blk hk with ⟨hv, _⟩ | ⟨b', o, hv, _⟩ | ⟨b', m'', arr, hl', hw, hsz, hle', hr⟩
          · rw [hl] at hv; cases hv
          · rw [hl] at hv; cases hv
          · rw [hl] at hl'
            simp only [Option.some.injEq, Prod.mk.injEq] at hl'
            obtain ⟨rfl, rfl⟩ := hl'
            have hlen : ((blk.cells.drop off).take (len * sz)).length = len * sz := by simp; omega
            have harr : ∀ j, j < len * sz → arr[off + j]? = some (arr.getD (off + j) Go.undef) := fun j hj => by
              have hlt : off + j < arr.size := by omega
              simp [Array.getD_eq_getD_getElem?, Array.getElem?_eq_getElem hlt]
            refine ⟨some ⟨b, off, none⟩, cap, (List.range (len * sz)).map (fun j => arr.getD (off + j) Go.undef), rfl, hlen, ⟨by rw [hlen]; simp, fun j c y hc hy => ?_⟩, fun ad' had j u hu => ?_, by simp⟩
            · have hj : j < len * sz := by have := (List.getElem?_eq_some_iff.1 hc).1; rwa [hlen] at this
              rw [List.getElem?_take, if_pos hj, List.getElem?_drop] at hc
              simp only [List.getElem?_toArray, List.getElem?_map, List.getElem?_range hj, Option.map_some, Option.some.injEq] at hy
              subst hy
              exact hr _ c _ hc (harr j hj)
            · simp only [Option.some.injEq] at had
              subst had
              have hj : j < len * sz := by
                have := (List.getElem?_eq_some_iff.1 hu).1
                simpa using this
              simp only [List.getElem?_map, List.getElem?_range hj, Option.map_some, Option.some.injEq] at hu
              subst hu
              rw [add_lit, cell_of_row w b (off + j) arr blk.ty (0, 0) hw]
              exact harr j hj
      · cases h
    · cases h
  · rename_i A c
    simp only [Option.some.injEq, Prod.mk.injEq] at h
    obtain ⟨rfl, rfl⟩ := h
    have hX : X = .slice A 0 c := by cases hx with | pure _ _ hx => cases hx; rfl
    subst hX
    exact ⟨A, c, [], rfl, by simp, ⟨rfl, by simp⟩, by simp, fun _ => rfl⟩
  · cases h

/-- The block of a key has moved, or has turned. -/
theorem Sim.replace (hs : Sim w0 n ro lam st a w) {key b : Nat} {e : TypeId} {arr : Array Value} {cells : List V} {w' : World} (hos : w'.os = w.os) (htp : w'.tape = w.tape) (hout : w'.output = w.output) (hsize : w.heap.size ≤ w'.heap.size)
    (hkeep : ∀ k, k < w.heap.size → (∀ m, lam key ≠ some (some k, m)) → w'.heap[k]? = w.heap[k]?)
    (hb : w0.Free b ∧ b < w'.heap.size ∧ ¬ ro b) (hnew : (∃ m, lam key = some (some b, m)) ∨ w.heap.size ≤ b)
    (hw : w'.heap[b]? = some (.cells arr e (0, 0))) (hle : cells.length ≤ arr.size)
    (hr : ∀ (j : Nat) (c : V) (x : Value), cells[j]? = some c → arr[j]? = some x → R w ro lam c x) :
    Sim w0 n ro (upd lam key (some (some b, arr.size))) { env := (st.forget key).env, heap := upd (st.forget key).heap key (some ⟨e, cells.map (scrC key)⟩) } a w' := by
  have hlam : ∀ k y, k ≠ key → lam k = some y → upd lam key (some (some b, arr.size)) k = some y := fun k y hk h => by rw [upd_ne _ _ hk]; exact h
  have hro : ∀ c, ro c → w'.heap[c]? = w.heap[c]? := fun c hc => hkeep c (hs.rolt c hc) (fun m hm => (hs.own key c m hm).2.2 hc)
  have hm : ∀ {v x}, R w ro (upd lam key (some (some b, arr.size))) v x → R w' ro (upd lam key (some (some b, arr.size))) v x := fun h => h.mono hro (fun _ h => h) (fun _ _ h => h)
  have hback : ∀ k c m, upd lam key (some (some b, arr.size)) k = some (some c, m) → (k = key ∧ c = b) ∨ (k ≠ key ∧ lam k = some (some c, m)) := fun k c m h => by
    by_cases e : k = key
    · subst e; rw [upd_same] at h; simp only [Option.some.injEq, Prod.mk.injEq] at h; exact .inl ⟨rfl, h.1.symm⟩
    · rw [upd_ne _ _ e] at h; exact .inr ⟨e, h⟩
  have hother : ∀ k m, k ≠ key → lam k = some (some b, m) → False := fun k m hk h => by
    rcases hnew with ⟨m', hm'⟩ | hnew
    · exact hk (hs.inj _ _ _ _ _ h hm')
    · have := (hs.own k b m h).2.1; omega
  refine ⟨hs.below.but hos htp hout hsize (fun k hk hf => hkeep k hk (fun m hm' => hf (hs.own key k m hm').1)), hs.dfr, hs.size, fun c hc => Nat.lt_of_lt_of_le (hs.rolt c hc) hsize,
    fun t => hm (R_scr hlam (hs.env t)), fun k blk hk => ?_, fun k hk => ?_, fun k c m hl => ?_, fun k1 k2 c m1 m2 h1 h2 => ?_, fun k c hl => ?_⟩
  · by_cases ek : k = key
    · subst ek
      simp only [upd_same, Option.some.injEq] at hk
      subst hk
      refine .inr <| .inr ⟨b, arr.size, arr, upd_same _ _ _, hw, rfl, by simpa using hle, fun j c x hc hx => ?_⟩
      simp only [List.getElem?_map, Option.map_eq_some_iff] at hc
      obtain ⟨c', hc', rfl⟩ := hc
      exact hm (R_scrC hlam (hr j c' x hc' hx))
    · simp only [upd_ne _ _ ek, St.forget, cond_eq_ite] at hk
      have hne : (k == key) = false := by simpa using ek
      simp only [hne, Bool.false_eq_true, if_false, Option.map_eq_some_iff] at hk
      obtain ⟨blk', hk', rfl⟩ := hk
      rcases hs.heap k blk' hk' with ⟨hv, hc⟩ | ⟨b', o, hl, hw', hso⟩ | ⟨b', m, arr', hl, hw', hsz, hle', hr'⟩
      · exact .inl ⟨hlam k _ ek hv, by simp [hc]⟩
      · refine .inr (.inl ⟨b', o, hlam k _ ek hl, ?_, hso.scr key⟩)
        rw [hkeep b' (hs.maps k b' hl).1.2.1 (fun m' hm' => hs.notMap hm' hw' hso)]; exact hw'
      · refine .inr <| .inr ⟨b', m, arr', hlam k _ ek hl, ?_, hsz, by simpa using hle', fun j c x hc hx => ?_⟩
        · rw [hkeep b' (hs.own k b' m hl).2.1 (fun m' hm' => ek (hs.inj _ _ _ _ _ hl hm'))]; exact hw'
        · simp only [List.getElem?_map, Option.map_eq_some_iff] at hc
          obtain ⟨c', hc', rfl⟩ := hc
          exact hm (R_scrC hlam (hr' j c' x hc' hx))
  · by_cases ek : k = key
    · subst ek; simp only [upd_same] at hk; cases hk
    · simp only [upd_ne _ _ ek, St.forget, cond_eq_ite] at hk
      have hne : (k == key) = false := by simpa using ek
      simp only [hne, Bool.false_eq_true, if_false, Option.map_eq_none_iff] at hk
      rw [upd_ne _ _ ek]; exact hs.dead k hk
  · rcases hback k c m hl with ⟨rfl, rfl⟩ | ⟨_, h⟩
    · exact hb
    · obtain ⟨h1, h2, h3⟩ := hs.own k c m h
      exact ⟨h1, Nat.lt_of_lt_of_le h2 hsize, h3⟩
  · rcases hback k1 c m1 h1 with ⟨rfl, rfl⟩ | ⟨n1, l1⟩
    · rcases hback k2 _ m2 h2 with ⟨rfl, _⟩ | ⟨n2, l2⟩
      · rfl
      · exact (hother k2 m2 n2 l2).elim
    · rcases hback k2 c m2 h2 with ⟨rfl, rfl⟩ | ⟨n2, l2⟩
      · exact (hother k1 m1 n1 l1).elim
      · exact hs.inj k1 k2 c m1 m2 l1 l2
  · have hmb : ∀ k, upd lam key (some (some b, arr.size)) k = some (none, c + 1) → lam k = some (none, c + 1) := fun k hk => by
      by_cases e : k = key
      · subst e; rw [upd_same] at hk; cases hk
      · rwa [upd_ne _ _ e] at hk
    have h0 := hs.maps k c (hmb k hl)
    exact ⟨⟨h0.1.1, Nat.lt_of_lt_of_le h0.1.2.1 hsize, h0.1.2.2⟩, fun k' hk' => h0.2 k' (hmb k' hk')⟩

/-! ### append -/
def appendV (P : Program) (st : St) (d : Nat) (t : TypeId) (base x : V) : Option (V × St) := match td P t with
  | some dd => (match dd.slc with
    | some (e, s) => (match td P e, srcCells st.heap s x with
      | some de, some (m, news) => (match de.zero with
        | some z => bif decide (0 < s) && (decide (z.length = s) && news.all oneV) then (match base with
          | .nils => bif decide (m = 0) then some (.nils, st) else (match st.heap d with
            | none => bif decide (m * de.bytes ≤ 140737488355328) && decide (m ≤ 9223372036854775807) then some (.sl d 0 m s, { st with heap := upd st.heap d (some ⟨e, news⟩) }) else none
            | some _ => none)
          | .sl key 0 len sz => (match st.heap key with
            | some blk => bif decide (sz = s) && (decide (blk.ty = e) && (decide (blk.cells.length = len * s) && (decide ((len + m) * de.bytes ≤ 140737488355328) && decide (len + m ≤ 9223372036854775807)))) then
                some (.sl key 0 (len + m) s, { env := (st.forget key).env, heap := upd (st.forget key).heap key (some ⟨e, (blk.cells ++ news).map (scrC key)⟩) }) else none
            | none => none)
          | _ => none) else none
        | none => none)
      | _, _ => none)
    | none => none)
  | none => none

theorem run_append_zero {t ty e : TypeId} {i : TypeInfo} (ht : P.underlying t = some (.slice e)) (hi : P.info? e = some i) (base : Option Addr) (l c : Nat) (hlc : l ≤ c) (A : Option Addr) (ca : Nat) :
    (Builtin.append_ #[t, t] ty #[.slice base l c, .slice A 0 ca]).run P w = .ok (.slice base l c) w := by
  cases base <;> cases A <;> simp [Builtin.append_, run_underlying ht, sizeOf, typeInfo, hi, Builtin.lenOf, Builtin.firstCells, loadCells, loadCellsFrom, storeCells, hlc]

theorem all_oneV {w : World} {ro : Nat → Prop} {lam : Lam} {cs : List V} {Vs : List Value} (h : cs.all oneV = true) (hr : RA w ro lam cs Vs.toArray) : ∀ u ∈ Vs, u.oneCell' = true := by
  intro u hu
  obtain ⟨j, hj, rfl⟩ := List.mem_iff_getElem.1 hu
  have hl : cs.length = Vs.length := by have := hr.1; simpa using this.symm
  have hc : cs[j]? = some (cs[j]'(by omega)) := List.getElem?_eq_getElem (by omega)
  refine oneV_sound ?_ (hr.2 j _ _ hc (by simp [hj]))
  exact List.all_eq_true.1 h _ (List.mem_of_getElem? hc)

theorem RA.append {cs ds : List V} {Cs Ds : List Value} (h : RA w ro lam cs Cs.toArray) (k : RA w ro lam ds Ds.toArray) : RA w ro lam (cs ++ ds) (Cs ++ Ds).toArray := by
  have hl : Cs.length = cs.length := by simpa using h.1
  have kl : Ds.length = ds.length := by simpa using k.1
  refine ⟨by simp [hl, kl], fun j c x hc hx => ?_⟩
  simp only [List.getElem?_toArray] at hx
  rw [List.getElem?_append] at hc hx
  rw [hl] at hx
  split at hc
  · rename_i hj; rw [if_pos hj] at hx; exact h.2 j c x hc (by simpa using hx)
  · rename_i hj; rw [if_neg hj] at hx; exact k.2 _ c x hc (by simpa using hx)

theorem RA.front {cs : List V} {Cs : List Value} (h : RA w ro lam cs Cs.toArray) (more : Array Value) : ∀ (j : Nat) (c : V) (x : Value), cs[j]? = some c → (Cs.toArray ++ more)[j]? = some x → R w ro lam c x := by
  intro j c x hc hx
  have hj : j < Cs.length := by
    have h1 := (List.getElem?_eq_some_iff.1 hc).1
    have h2 : Cs.length = cs.length := by simpa using h.1
    omega
  refine h.2 j c x hc ?_
  rw [Array.getElem?_append_left (by simpa using hj)] at hx
  exact hx

theorem appendV_sound (hs : Sim w0 n ro lam st a w) {d : Nat} {t ty : TypeId} {base x v : V} {B X : Value} {st' : St} (h : appendV P st d t base x = some (v, st')) (hB : R w ro lam base B) (hX : R w ro lam x X) :
    ∃ z w' lam', (Builtin.append_ #[t, t] ty #[B, X]).run P w = .ok z w' ∧ Sim w0 n ro lam' st' a w' ∧ R w' ro lam' v z := by
  unfold appendV at h
  split at h
  · rename_i dd hdd
    split at h
    · rename_i e s hslc
      obtain ⟨hu, ag, hp⟩ := td_slc' hdd hslc
      obtain ⟨ie, De, e1, e2, e3, e4⟩ := partD_some hp
      split at h
      · rename_i de m news hde hsrc
        split at h
        · rename_i zs hz
          obtain ⟨i, z, h1, h2, hra, hsz, hbs⟩ := td_zero (w := w) (ro := ro) (lam := lam) hde hz
          rw [e1] at h1
          simp only [Option.some.injEq] at h1
          subst h1
          simp only [cond_eq_ite, Bool.and_eq_true, decide_eq_true_eq] at h
          split at h
          · rename_i hcond
            obtain ⟨hsp, hzl, hone⟩ := hcond
            obtain ⟨A, c, Vs, rfl, hnl, hrv, hcell, hnone⟩ := src_sound hs hsp hsrc hX
            have hVl : Vs.length = m * ie.size := by have := hrv.1; simp at this; rw [this, hnl, e3]
            have hV1 := all_oneV hone hrv
            have hzs : z.cells.size = ie.size := by rw [hra.1, hzl, e3]
            split at h
            · have := hB.nils_inv; subst this
              split at h
              · rename_i hm
                subst hm
                simp only [Option.some.injEq, Prod.mk.injEq] at h
                obtain ⟨rfl, rfl⟩ := h
                exact ⟨_, w, lam, run_append_zero hu e1 none 0 0 (Nat.le_refl _) A c, hs, .pure _ _ .nils⟩
              · rename_i hm
                obtain ⟨ad, rfl⟩ : ∃ ad, A = some ad := by
                  cases A with
                  | none => exact absurd (hnone rfl) hm
                  | some ad => exact ⟨ad, rfl⟩
                split at h
                · rename_i hd
                  split at h
                  · rename_i hb
                    obtain ⟨hb1, hb2⟩ := hb
                    simp only [Option.some.injEq, Prod.mk.injEq] at h
                    obtain ⟨rfl, rfl⟩ := h
                    have hrun := run_append_nil (P := P) w t ty e ie z hu e1 h2 ad m c Vs hVl (hcell ad rfl) (by omega) (by omega) (by rw [hbs]; omega)
                    have hs1 : Sim w0 n ro lam st a w.drew := hs.world ((Below.refl _ _).drew)
                    have hge := grownCap_ge w m 0 e
                    have hcm := grownCap_le_maxLen w m 0 e (by simp only [maxLen]; omega)
                    have hasz : (Vs.toArray ++ Builtin.zeroCells z.cells (grownCap w m 0 e - m)).size = grownCap w m 0 e * s := by
                      simp only [Array.size_append, List.size_toArray, size_zeroCells, hzs, hVl, e3, ← Nat.add_mul]
                      congr 1; omega
                    have hsim := hs1.alloc (d := d) (ty := e) (arr := Vs.toArray ++ Builtin.zeroCells z.cells (grownCap w m 0 e - m)) (cells := news) hd (by rw [hasz, hnl]; exact Nat.mul_le_mul_right _ hge)
                      (fun j c x hc hx => R.mono (w := w) (fun _ _ => rfl) (fun _ h => h) (fun _ _ h => h) (hrv.front _ j c x hc hx))
                    exact ⟨_, _, _, hrun, hsim, .sl d 0 m s w.heap.size _ (grownCap w m 0 e) (upd_same _ _ _) (by rw [hasz]; omega) hge hcm⟩
                  · cases h
                · cases h
            · rename_i key len sz
              split at h
              · rename_i blk hk
                split at h
                · rename_i hb
                  obtain ⟨rfl, hty, hcl, hby, h63⟩ := hb
                  simp only [Option.some.injEq, Prod.mk.injEq] at h
                  obtain ⟨rfl, rfl⟩ := h
                  rcases hB.sl_inv with ⟨hv, _, rfl, rfl⟩ | ⟨b, m', cap, hl, hcap, hlc, hcm, rfl⟩
                  · -- a nil slice so far
                    have hcn : blk.cells = [] := List.eq_nil_of_length_eq_zero (by simpa using hcl)
                    by_cases hm : m = 0
                    · subst hm
                      have hnn : news = [] := List.eq_nil_of_length_eq_zero (by simpa using hnl)
                      subst hnn
                      have hf := hs.forget key
                      have hrun := run_append_zero (w := w) (P := P) (ty := ty) hu e1 none 0 0 (Nat.le_refl _) A c
                      have hback : ∀ k b m, upd lam key (some (none, 0)) k = some (some b, m) → upd lam key none k = some (some b, m) := fun k b m h => by
                        by_cases e : k = key
                        · subst e; rw [upd_same] at h; cases h
                        · rw [upd_ne _ _ e] at h ⊢; exact h
                      have hbackm : ∀ k b, upd lam key (some (none, 0)) k = some (none, b + 1) → upd lam key none k = some (none, b + 1) := fun k b h => by
                        by_cases e : k = key
                        · subst e; rw [upd_same] at h; cases h
                        · rw [upd_ne _ _ e] at h ⊢; exact h
                      have hlam : ∀ k y, upd lam key none k = some y → upd lam key (some (none, 0)) k = some y := fun k y h => by
                        by_cases e : k = key
                        · subst e; rw [upd_same] at h; cases h
                        · rw [upd_ne _ _ e] at h ⊢; exact h
                      have hm : ∀ {v x}, R w ro (upd lam key none) v x → R w ro (upd lam key (some (none, 0))) v x := fun h => h.mono (fun _ _ => rfl) (fun _ h => h) hlam
                      refine ⟨_, w, upd lam key (some (none, 0)), hrun, ⟨hf.below, hf.dfr, hf.size, hf.rolt, fun t => hm (hf.env t), fun k blk' hk' => ?_, fun k hk' => ?_, fun k b m hl => hf.own k b m (hback k b m hl), fun k1 k2 b m1 m2 h1 h2 => hf.inj k1 k2 b m1 m2 (hback _ _ _ h1) (hback _ _ _ h2), fun k b h => ⟨(hf.maps k b (hbackm _ _ h)).1, fun k' h' => (hf.maps k b (hbackm _ _ h)).2 k' (hbackm _ _ h')⟩⟩, .slv _ _ (upd_same _ _ _)⟩
                      · by_cases ek : k = key
                        · subst ek
                          simp only [upd_same, Option.some.injEq] at hk'
                          subst hk'
                          exact .inl ⟨upd_same _ _ _, by simp [hcn]⟩
                        · simp only [upd_ne _ _ ek] at hk'
                          rcases hf.heap k blk' hk' with ⟨hv', hc'⟩ | ⟨b, o, hl, hw, hso⟩ | ⟨b, m, arr, hl, hw, hsz', hle, hr⟩
                          · exact .inl ⟨hlam _ _ hv', hc'⟩
                          · exact .inr (.inl ⟨b, o, hlam _ _ hl, hw, hso⟩)
                          · exact .inr <| .inr ⟨b, m, arr, hlam _ _ hl, hw, hsz', hle, fun j c x hc hx => hm (hr j c x hc hx)⟩
                      · by_cases ek : k = key
                        · subst ek; simp only [upd_same] at hk'; cases hk'
                        · simp only [upd_ne _ _ ek] at hk' ⊢
                          have := hf.dead k hk'
                          rwa [upd_ne _ _ ek] at this
                    · obtain ⟨ad, rfl⟩ : ∃ ad, A = some ad := by
                        cases A with
                        | none => exact absurd (hnone rfl) hm
                        | some ad => exact ⟨ad, rfl⟩
                      simp only [Nat.zero_add] at hby h63
                      have hrun := run_append_nil (P := P) w t ty e ie z hu e1 h2 ad m c Vs hVl (hcell ad rfl) (by omega) (by omega) (by rw [hbs]; omega)
                      have hge := grownCap_ge w m 0 e
                      have hcm := grownCap_le_maxLen w m 0 e (by simp only [maxLen]; omega)
                      have hasz : (Vs.toArray ++ Builtin.zeroCells z.cells (grownCap w m 0 e - m)).size = grownCap w m 0 e * sz := by
                        simp only [Array.size_append, List.size_toArray, size_zeroCells, hzs, hVl, e3, ← Nat.add_mul]
                        congr 1; omega
                      have hsim := hs.replace (key := key) (b := w.heap.size) (e := e) (arr := Vs.toArray ++ Builtin.zeroCells z.cells (grownCap w m 0 e - m)) (cells := blk.cells ++ news) (w' := w.drew.alloc (.cells (Vs.toArray ++ Builtin.zeroCells z.cells (grownCap w m 0 e - m)) e))
                        rfl rfl rfl (by simp) (fun k hk _ => heap_alloc_old w.drew _ k hk) ⟨.inr hs.below.size, by simp, fun h => by have := hs.rolt _ h; omega⟩ (.inr (Nat.le_refl _)) (heap_alloc_new w.drew _)
                        (by rw [hasz, hcn]; simp only [List.nil_append]; rw [hnl]; exact Nat.mul_le_mul_right _ hge) (by rw [hcn]; exact hrv.front _)
                      refine ⟨_, _, _, hrun, hsim, ?_⟩
                      rw [Nat.zero_add]
                      exact .sl key 0 m sz w.heap.size _ (grownCap w m 0 e) (upd_same _ _ _) (by rw [hasz]; omega) hge hcm
                  · rcases hs.heap key blk hk with ⟨hv, _⟩ | ⟨b', o, hv, _⟩ | ⟨b', m'', arr, hl', hw, hsz', hle', hr⟩
                    · rw [hl] at hv; cases hv
                    · rw [hl] at hv; cases hv
                    rw [hl] at hl'
                    simp only [Option.some.injEq, Prod.mk.injEq] at hl'
                    obtain ⟨rfl, rfl⟩ := hl'
                    have hbown := hs.own key b _ hl
                    simp only [Nat.zero_add] at hcap
                    by_cases hm : m = 0
                    · subst hm
                      have hnn : news = [] := List.eq_nil_of_length_eq_zero (by simpa using hnl)
                      subst hnn
                      have hrun := run_append_zero (w := w) (P := P) (ty := ty) hu e1 (some ⟨b, 0, none⟩) len cap hlc A c
                      have hsim := hs.replace (key := key) (b := b) (e := e) (arr := arr) (cells := blk.cells ++ []) (w' := w) rfl rfl rfl (Nat.le_refl _) (fun _ _ _ => rfl) hbown (.inl ⟨_, hl⟩) (by rw [← hty]; exact hw) (by simp; omega) (by simpa using hr)
                      exact ⟨_, _, _, hrun, hsim, .sl key 0 len sz b _ cap (upd_same _ _ _) (by omega) hlc hcm⟩
                    · obtain ⟨ad, rfl⟩ : ∃ ad, A = some ad := by
                        cases A with
                        | none => exact absurd (hnone rfl) hm
                        | some ad => exact ⟨ad, rfl⟩
                      have hOl : len * ie.size ≤ arr.size := by rw [e3]; omega
                      have holds : RA w ro lam blk.cells (arr.toList.take (len * sz)).toArray := by
                        refine ⟨by simp; omega, fun j c x hc hx => hr j c x hc ?_⟩
                        simp only [List.getElem?_toArray, List.getElem?_take] at hx
                        split at hx
                        · simpa using hx
                        · cases hx
                      have hall := holds.append hrv
                      by_cases hroom : len + m ≤ cap
                      · have hfit : len * ie.size + Vs.length ≤ arr.size := by
                          rw [hVl, e3, ← Nat.add_mul]
                          exact Nat.le_trans (Nat.mul_le_mul_right _ hroom) (by omega)
                        have hrun := run_append_room (P := P) w t ty e ie hu e1 b len cap arr (by rw [← hty]; exact hw) ad m c Vs hVl (hcell ad rfl) hV1 hroom hfit
                        rw [e3] at hrun hfit
                        have hsz2 : ((arr.toList.take (len * sz) ++ Vs ++ arr.toList.drop (len * sz + Vs.length)).toArray).size = arr.size := by
                          simp only [List.size_toArray, List.length_append, List.length_take, List.length_drop, Array.length_toList]; omega
                        have hsim := hs.replace (key := key) (b := b) (e := e) (arr := (arr.toList.take (len * sz) ++ Vs ++ arr.toList.drop (len * sz + Vs.length)).toArray) (cells := blk.cells ++ news)
                          (w' := w.setRow b (arr.toList.take (len * sz) ++ Vs ++ arr.toList.drop (len * sz + Vs.length)).toArray) rfl rfl rfl (by simp) (fun k _ hk => setRow_other w b k _ (fun e => hk _ (e ▸ hl))) (by simpa using hbown) (.inl ⟨_, hl⟩)
                          (setRow_heap w b arr _ e _ (by rw [← hty]; exact hw)) (by rw [hsz2, List.length_append, hcl, hnl, ← Nat.add_mul]; exact Nat.le_trans (Nat.mul_le_mul_right _ hroom) (by omega))
                          (fun j c x hc hx => by
                            refine hall.front (arr.toList.drop (len * sz + Vs.length)).toArray j c x hc ?_
                            simpa using hx)
                        exact ⟨_, _, _, hrun, hsim, .sl key 0 (len + m) sz b _ cap (upd_same _ _ _) (by rw [hsz2]; omega) hroom hcm⟩
                      · have holdc : ∀ j v, (arr.toList.take (len * sz))[j]? = some v → w.cell? ((⟨b, 0, none⟩ : Addr).add j) = some v := fun j v hv => by
                          rw [add_lit, Nat.zero_add, cell_of_row w b j arr blk.ty (0, 0) hw]
                          rw [List.getElem?_take] at hv
                          split at hv
                          · simpa using hv
                          · cases hv
                        have hrun := run_append_grow (P := P) w t ty e ie z hu e1 h2 ⟨b, 0, none⟩ len cap (arr.toList.take (len * sz)) (by rw [e3, List.length_take, Array.length_toList]; omega) holdc ad m c Vs hVl (hcell ad rfl) (by omega) (by omega) (growslice_fits (by omega) (by rw [hbs]; exact hby))
                        have hge := grownCap_ge w (len + m) cap e
                        have hcm' := grownCap_le_maxLen w (len + m) cap e (by simp only [maxLen]; omega)
                        have htl : (arr.toList.take (len * sz)).length = len * sz := by simp; omega
                        have hasz : ((arr.toList.take (len * sz)).toArray ++ Vs.toArray ++ Builtin.zeroCells z.cells (grownCap w (len + m) cap e - (len + m))).size = grownCap w (len + m) cap e * sz := by
                          simp only [Array.size_append, List.size_toArray, size_zeroCells, hzs, hVl, e3, htl, ← Nat.add_mul]
                          congr 1; omega
                        have hsim := hs.replace (key := key) (b := w.heap.size) (e := e) (arr := (arr.toList.take (len * sz)).toArray ++ Vs.toArray ++ Builtin.zeroCells z.cells (grownCap w (len + m) cap e - (len + m))) (cells := blk.cells ++ news)
                          (w' := w.drew.alloc (.cells ((arr.toList.take (len * sz)).toArray ++ Vs.toArray ++ Builtin.zeroCells z.cells (grownCap w (len + m) cap e - (len + m))) e))
                          rfl rfl rfl (by simp) (fun k hk _ => heap_alloc_old w.drew _ k hk) ⟨.inr hs.below.size, by simp, fun h => by have := hs.rolt _ h; omega⟩ (.inr (Nat.le_refl _)) (heap_alloc_new w.drew _)
                          (by rw [hasz, List.length_append, hcl, hnl, ← Nat.add_mul]; exact Nat.mul_le_mul_right _ hge)
                          (fun j c x hc hx => by
                            refine hall.front (Builtin.zeroCells z.cells (grownCap w (len + m) cap e - (len + m))) j c x hc ?_
                            simpa using hx)
                        exact ⟨_, _, _, hrun, hsim, .sl key 0 (len + m) sz w.heap.size _ (grownCap w (len + m) cap e) (upd_same _ _ _) (by rw [hasz]; omega) hge hcm'⟩
                · cases h
              · cases h
            · cases h
          · cases h
        · cases h
      · cases h
    · cases h
  · cases h
end
end Go.Pv
