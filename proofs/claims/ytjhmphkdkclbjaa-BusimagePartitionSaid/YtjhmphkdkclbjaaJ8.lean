/-
  Two keys of the heap change places: what a round made is named anew.
  copy from what may be read into a block of the call's own, of the same length.
  Positions: Resolve gives its memory.
  Views: look gives its groups; the groups are new memory.
  Groups of buses: what they are like, and how closing what moves merges them.
  A copy of a position, given; one of its rows (the one that is named) is kept apart, so that it can be written.
  A copy of a position, given: the walk.
  Interlocked switching: what is asked of an operation; two buses at the same potential.
  Interlocked switching: two buses at the same potential.
  Interlocked switching: copies with one row that is written; bays that a coupler's opening would leave transferred.
  Interlocked switching: bays that a coupler's opening would leave transferred; operations of breakers.
-/
import Derived.Test.YtjhmphkdkclbjaaJ3
import Derived.Laws.IdiomCopy
import Derived.Test.YtjhmphkdkclbjaaJ5
import Derived.Test.YtjhmphkdkclbjaaJ6
section
namespace Go.Pv
open Go.RowKit
set_option linter.unusedSimpArgs false
set_option linter.unusedVariables false

def rnC (f : Nat → Nat) : V → V
  | .sl k o l s => .sl (f k) o l s
  | .ptr k o => .ptr (f k) o
  | .mp k => .mp (f k)
  | .vptr .. | .agg _ | .tup _ => .junk
  | v => v
def rnA (f : Nat → Nat) : V → V
  | .agg cs => .agg (cs.map (rnC f))
  | v => rnC f v
def rnT (f : Nat → Nat) : V → V
  | .tup vs => .tup (vs.map (rnA f))
  | v => rnA f v
section
variable {P : Program} {Γ : Tab} {n : Nat} {w0 : Base} {ro : Nat → Prop} {lam : Lam} {st : St} {a : Act} {w : World}
theorem R_rnC {f : Nat → Nat} {lam' lamN : Lam} (hl : ∀ k y, lam' k = some y → lamN (f k) = some y) {v : V} {x : Value} (h : R w ro lam' v x) : R w ro lamN (rnC f v) x := by
  cases v with
  | sl k o l s =>
    rcases h.sl_inv with ⟨hv, rfl, rfl, rfl⟩ | ⟨b, m, cap, h1, h2, h3, h4, rfl⟩
    · exact .slv _ _ (hl _ _ hv)
    · exact .sl _ _ _ _ b m cap (hl _ _ h1) h2 h3 h4
  | ptr k o => obtain ⟨b, m, h1, rfl⟩ := h.ptr_inv; exact .ptr _ _ b m (hl _ _ h1)
  | mp k => obtain ⟨b, h1, rfl⟩ := h.mp_inv; exact .mp _ b (hl _ _ h1)
  | vptr _ _ _ => exact .pure _ _ (.junk _)
  | agg _ => exact .pure _ _ (.junk _)
  | tup _ => exact .pure _ _ (.junk _)
  | _ => exact .pure _ _ (h.pureC rfl)
theorem R_rnA {f : Nat → Nat} {lam' lamN : Lam} (hl : ∀ k y, lam' k = some y → lamN (f k) = some y) {v : V} {x : Value} (h : R w ro lam' v x) : R w ro lamN (rnA f v) x := by
  cases v with
  | agg cs =>
    obtain ⟨arr, rfl, h1, h2⟩ := h.agg_inv
    refine .agg _ _ (by simpa using h1) fun j v y hv hy => ?_
    simp only [List.getElem?_map, Option.map_eq_some_iff] at hv
    obtain ⟨v', hv', rfl⟩ := hv
    exact R_rnC hl (h2 j v' y hv' hy)
  | _ => exact R_rnC hl h
theorem R_rnT {f : Nat → Nat} {lam' lamN : Lam} (hl : ∀ k y, lam' k = some y → lamN (f k) = some y) {v : V} {x : Value} (h : R w ro lam' v x) : R w ro lamN (rnT f v) x := by
  cases v with
  | tup cs =>
    obtain ⟨arr, rfl, h1, h2⟩ := h.tup_inv
    refine .tup _ _ (by simpa using h1) fun j v y hv hy => ?_
    simp only [List.getElem?_map, Option.map_eq_some_iff] at hv
    obtain ⟨v', hv', rfl⟩ := hv
    exact R_rnA hl (h2 j v' y hv' hy)
  | agg cs => exact R_rnA hl h
  | _ => exact R_rnC hl h
theorem KeyV_rn {f : Nat → Nat} {k : V} {x : Value} (h : KeyV k x) : KeyV (rnC f k) x := by
  cases k <;> simp_all [KeyV, rnC]
end
/-- The state with its keys named by an involution. -/
def St.rn (f : Nat → Nat) (st : St) : St := ⟨fun t => rnT f (st.env t), fun key => (st.heap (f key)).map fun b => ⟨b.ty, b.cells.map (rnC f)⟩⟩
theorem Sim.rn {n : Nat} {w0 : Base} {ro : Nat → Prop} {lam : Lam} {st : St} {a : Act} {w : World} {f : Nat → Nat} (hf : ∀ k, f (f k) = k) (hs : Sim w0 n ro lam st a w) : Sim w0 n ro (fun k => lam (f k)) (st.rn f) a w := by
  have hl : ∀ k y, lam k = some y → (fun k => lam (f k)) (f k) = some y := fun k y h => by simp only [hf]; exact h
  have fi : ∀ a b, f a = f b → a = b := fun a b e => by rw [← hf a, e, hf]
  refine ⟨hs.below, hs.dfr, hs.size, hs.rolt, fun t => R_rnT (f := f) hl (hs.env t), fun key blk hb => ?_, fun key hk => ?_, fun key b m h => hs.own _ b m h, fun k1 k2 b m1 m2 h1 h2 => fi _ _ (hs.inj _ _ b m1 m2 h1 h2), fun key b h => ?_⟩
  · simp only [St.rn, Option.map_eq_some_iff] at hb
    obtain ⟨b0, hb0, rfl⟩ := hb
    rcases hs.heap _ _ hb0 with ⟨h1, h2⟩ | ⟨b, o, h1, h2, h3⟩ | ⟨b, m, arr, h1, h2, h3, h4, h5⟩
    · exact .inl ⟨h1, by simp [h2]⟩
    · refine .inr (.inl ⟨b, o, h1, h2, ?_⟩)
      obtain ⟨ents, clk, rfl, he, hk⟩ := h3
      refine ⟨ents, clk, rfl, by simpa using he, fun j k e hj hje => ?_⟩
      simp only [List.getElem?_map, Option.map_eq_some_iff] at hj
      obtain ⟨k0, hk0, rfl⟩ := hj
      exact ⟨(hk j k0 e hk0 hje).1, KeyV_rn (hk j k0 e hk0 hje).2⟩
    · refine .inr (.inr ⟨b, m, arr, h1, h2, h3, by simpa using h4, fun j c x hj hx => ?_⟩)
      simp only [List.getElem?_map, Option.map_eq_some_iff] at hj
      obtain ⟨c0, hc0, rfl⟩ := hj
      exact R_rnC (f := f) hl (h5 j c0 x hc0 hx)
  · simp only [St.rn, Option.map_eq_none_iff] at hk
    exact hs.dead _ hk
  · obtain ⟨h1, h2⟩ := hs.maps _ b h
    exact ⟨h1, fun key' hk' => fi _ _ (h2 _ hk')⟩
theorem View.rn (n : Nat) (st : St) {f : Nat → Nat} (hf : ∀ k, f (f k) = k) : View n st (st.rn f) := fun _ ro _ _ _ hs => ⟨ro, _, Ext.refl _ _, hs.rn hf⟩
end Go.Pv
end
section
namespace Go.Pv
open Go.RowKit
set_option linter.unusedSimpArgs false
set_option linter.unusedVariables false
section
variable {P : Program} {n : Nat} {w0 : Base} {ro : Nat → Prop} {lam : Lam} {st : St} {a : Act} {w : World}
theorem copyV_sound (hs : Sim w0 n ro lam st a w) {t ty e : TypeId} {i : TypeInfo} (hu : P.underlying t = some (.slice e)) (hi : P.info? e = some i) (hsz : i.size = 1) {key len : Nat} {blk : Blk} {x : V} {cs : List V} {B X : Value}
    (hk : st.heap key = some blk) (hle : len ≤ blk.cells.length) (hB : R w ro lam (.sl key 0 len 1) B) (hX : R w ro lam x X) (hsrc : srcCells st.heap 1 x = some (len, cs)) (hone : cs.all oneV = true) :
    ∃ w', (Builtin.copy_ #[t, t] ty #[B, X]).run P w = .ok (goInt len) w' ∧ Sim w0 n ro lam { st with heap := upd st.heap key (some ⟨blk.ty, setsV blk.cells 0 cs⟩) } a w' := by
  obtain ⟨A, c, Vs, rfl, hcl, hra, hcell, hnone⟩ := src_sound hs (by omega) hsrc hX
  have hVl : Vs.length = len := by have := hra.1; simp at this; omega
  by_cases h0 : len = 0
  · subst h0
    have hcs : cs = [] := List.eq_nil_of_length_eq_zero (by omega)
    subst hcs
    have heq : upd st.heap key (some ⟨blk.ty, setsV blk.cells 0 []⟩) = st.heap := by
      funext t; by_cases h : t = key
      · subst h; simp [upd, setsV, hk]
      · simp [upd, h]
    rw [heq]
    rcases hB.sl_inv with ⟨_, _, _, rfl⟩ | ⟨b, m, cap, _, _, _, _, rfl⟩
    · exact ⟨w, run_copy_none w t t ty e _ _ _ _ _ _ hu (by simp [hi, hsz]) (by simp), hs⟩
    · exact ⟨w, run_copy_none w t t ty e _ _ _ _ _ _ hu (by simp [hi, hsz]) (by simp), hs⟩
  · obtain ⟨ad, rfl⟩ : ∃ ad, A = some ad := by
      cases A with
      | none => exact absurd (hnone rfl) h0
      | some ad => exact ⟨ad, rfl⟩
    rcases hB.sl_inv with ⟨_, _, hl0, rfl⟩ | ⟨b, m, cap, hl, _, _, _, rfl⟩
    · exact absurd hl0 h0
    · obtain ⟨w', hrun, hsim⟩ := storeCells_sound (P := P) cs Vs 0 0 w st blk hs hk hl (by omega) hra hone
      have hld := run_loadCells_list (P := P) w ad Vs (hcell ad rfl)
      rw [hVl] at hld
      refine ⟨w', ?_, by simpa using hsim⟩
      simp [Builtin.copy_, run_underlying hu, Builtin.lenOf, Builtin.firstCells, sizeOf, typeInfo, hi, hsz, hld, hrun]
theorem copy_wp {o : Oper} {d s : Operand} {t e : TypeId} {i : TypeInfo} (ho : o.op = .call { callee := .builtin .copy, args := #[d, s], argTypes := #[t, t] }) (hu : P.underlying t = some (.slice e)) (hi : P.info? e = some i) (hsz : i.size = 1)
    (hs : Sim w0 n ro lam st a w) {key len : Nat} {blk : Blk} {x : V} {cs : List V} (hk : st.heap key = some blk) (hle : len ≤ blk.cells.length) (hB : R w ro lam (.sl key 0 len 1) (a.eval d)) (hX : R w ro lam x (a.eval s)) (hsrc : srcCells st.heap 1 x = some (len, cs)) (hone : cs.all oneV = true)
    (hd : fits n o.dst = true) {next : Act → World → Prop} {Q : Exit → Act → World → Prop}
    (h : ∀ a' w', Sim w0 n ro lam (St.put { st with heap := upd st.heap key (some ⟨blk.ty, setsV blk.cells 0 cs⟩) } o.dst (.int .i64 len)) a' w' → next a' w') : o.wp P a w next Q := by
  obtain ⟨w', hrun, hsim⟩ := copyV_sound (ty := o.type) hs hu hi hsz hk hle hB hX hsrc hone
  unfold Oper.wp
  simp [execOp, ho, resolve, invoke, builtin, hrun, Result.andThen]
  exact h _ _ (hsim.put hd (.pure _ _ (.int _ _)))
end
end Go.Pv
end
section
namespace Go.Proofs.Ytjhmphkdkclbjaa
open Go.Pv Go.RowKit
set_option linter.unusedSimpArgs false
set_option linter.unusedVariables false
set_option maxRecDepth 100000
set_option maxHeartbeats 4000000
attribute [-simp] Tpchk TcI TcB

theorem cloneBg (x : Bool) (l : List Bool) (hl : l.length ≤ 1000) : PGive Try.prog 70 [.list 1 ((x :: l).map b1)] (.sl 5 0 (l.length + 1) 1) [(5, ⟨4, (x :: l).map V.bool⟩)] := by
  have f5 : (l.length + 1) * 1 ≤ 140737488355328 := by omega
  have f6 : l.length + 1 ≤ 9223372036854775807 := by omega
  refine pgive_cx noTab_ok mixed (fun _ => none) Try.func70 rfl Try.ntmps70 Try.results70 (by simp) (by kernel_rfl) ?_
  have f7 : l.length ≤ 140737488355327 := by omega
  repeat' first
    | (with_reducible refine gw_bool (fun _ => ?_) (fun _ => ?_))
    | (with_reducible refine condw_bool (fun _ => ?_) (fun _ => ?_))
    | simp [*, appendV, srcCells, flat_b1, b1, scrC, scrB_comp, List.map_map, Function.comp_def, ownC, KeepBl, closedB, inT, inA, inC, blkOf]
def TcBg : List V → Option (V × List (Nat × Blk))
  | [.list 1 xs] => (match decL unB1 xs with
    | some (x :: l) => if l.length ≤ 1000 then some (.sl 5 0 (l.length + 1) 1, [(5, ⟨4, (x :: l).map V.bool⟩)]) else none
    | _ => none)
  | _ => none
theorem TcBg_at {l : List Bool} (h0 : l ≠ []) (h : l.length ≤ 1000) : TcBg [.list 1 (l.map b1)] = some (.sl 5 0 l.length 1, [(5, ⟨4, l.map V.bool⟩)]) := by
  match l, h0 with
  | x :: l, _ =>
    have := decL_map unB1_cs (x :: l)
    have h1 : l.length ≤ 1000 := by simp at h; omega
    simp only [TcBg, this]
    simp [h1]
theorem cBg_tab : ∀ vs u bl, TcBg vs = some (u, bl) → PGive Try.prog 70 vs u bl := by
  intro vs u bl h; unfold TcBg at h; split at h
  · split at h
    · rename_i h1; split at h
      · rename_i hl; cases h; rw [decL_inv unB1_inv _ _ h1]; exact cloneBg _ _ hl
      · cases h
    · cases h
  · cases h
def DG : Tab := addG 71 TcI (addG 70 TcBg (D1))
theorem DG_at (f : FuncId) (vs : List V) : DG.at' f vs = D1.at' f vs := rfl
theorem DG_fr (f : FuncId) : DG.fr f = D1.fr f := rfl
theorem DG_gb (f : FuncId) : DG.gb f = if f = 71 then true else if f = 70 then true else D1.gb f := rfl
theorem DG_gv (f : FuncId) (vs : List V) : DG.gv f vs = if f = 71 then TcI vs else if f = 70 then TcBg vs else D1.gv f vs := rfl
attribute [simp] DG_at DG_fr DG_gb DG_gv TcBg TcI
theorem DG_ok : TabOK Try.prog DG := by
  refine addG_ok (addG_ok (D1_ok) (by kernel_rfl) ?_) (by kernel_rfl) ?_
  · exact cBg_tab
  · exact cI_tab
attribute [-simp] TcI TcBg
attribute [simp] TcBg_at
theorem resolveG_ok (p : Pos) (h0 : p.cl ≠ []) (h1 : p.cl.length ≤ 1000) (h2 : p.lk.length ≤ 1000) (h3 : ∀ l ∈ p.lk, l.length ≤ 1000) : PGive Try.prog 38 [.agg p.cs, .bool false] (.agg [.sl 150005 0 p.cl.length 1, .sl 43 0 p.lk.length 1]) [(150005, ⟨4, p.cl.map V.bool⟩), (43, ⟨42, (p.lk.map (fun l => l.map (resF 0))).map r0⟩)] := by
  obtain ⟨n, hn⟩ : ∃ n, p.lk.length = n := ⟨_, rfl⟩
  rw [hn] at h2
  have hTc := TcBg_at h0 h1
  obtain ⟨nc, hnc⟩ : ∃ n, p.cl.length = n := ⟨_, rfl⟩
  rw [hnc] at hTc h1
  rw [hn, hnc]
  clear h0
  have hpR := pure_r0 (p.lk.map (fun l => l.map (resF 0)))
  obtain ⟨RR, hRR⟩ : ∃ RR, (p.lk.map (fun l => l.map (resF 0))).map r0 = RR := ⟨_, rfl⟩
  rw [hRR] at hpR ⊢
  replace hRR : Hid ((p.lk.map (fun l => l.map (resF 0))).map r0 = RR) := hRR
  have hpB := pure_b1 p.cl
  have hBl : (p.cl.map V.bool).length = nc := by simp [hnc]
  have hhB : ∀ c, (p.cl.map V.bool).map (shC c) = p.cl.map V.bool := fun c => by rw [List.map_map]; rfl
  generalize p.cl.map V.bool = CB at hTc hpB hBl hhB ⊢
  have hsB : ∀ k, CB.map (scrC k) = CB := fun k => scrC_cells hpB
  have hbB : ∀ k b, CB.map (pubC k b) = CB := fun k b => pub_cells hpB
  refine pgive_cx DG_ok mixed (fun _ => none) Try.func38 rfl Try.ntmps38 Try.results38 (by simp) (by kernel_rfl) ?_
  repeat' first
    | (with_reducible refine gw_bool (fun _ => ?_) (fun _ => ?_))
    | (with_reducible refine condw_bool (fun _ => ?_) (fun _ => ?_))
    | simp [*, Pos.cs]
  refine lp_view (View.nilAt _ (t := 6) (o := 0) (key := 6) (key' := 43) (i := 1) (blk := ⟨31, [.sl 150005 0 nc 1, .nils]⟩) 1 42 (by simp) (by simp) (by simp) (by simp)) ?_
  refine lp_go (D := (fun _ => none)) DG_ok mixed (by kernel_rfl) [4, 5, 6, 17, 18] [2, 4, 42, 250005, 150005] (α := Nat) (fun i e h => i ≤ n ∧ e 19 = .int .i64 i ∧ h 6 = some ⟨31, [.sl 150005 0 nc 1, .sl 43 0 i 1]⟩ ∧ h 43 = some ⟨42, ((p.lk.take i).map (fun l => l.map (resF 0))).map r0⟩) (fun i => n - i) 0 ?_ ?_
  · refine ⟨by omega, by simp, by simp, by simp⟩
  · rintro i e h hk hkh ⟨hi, g7, g6, g43⟩
    simp [Keep] at hk
    simp [KeepH] at hkh
    by_cases hlt : i < n
    · obtain ⟨l, hl, hl'⟩ := at_ex (l := p.lk) (i := i) (by omega)
      have f1 : ilt (i : Int) (n : Int) = true := ilt_t (by omega)
      have w1 : IntKind.i64.wrap ((i : Int) + 1) = ((i + 1 : Nat) : Int) := wrap_succ (by omega)
      have hlm : l.length ≤ 1000 := h3 l (List.mem_of_getElem? hl)
      have f5 : (i + 1) * 24 ≤ 140737488355328 := by omega
      have f6 : i + 1 ≤ 9223372036854775807 := by omega
      have hnx : ((p.lk.take (i + 1)).map (fun l => l.map (resF 0))).map r0 = ((p.lk.take i).map (fun l => l.map (resF 0))).map r0 ++ [r0 (l.map (resF 0))] := by rw [take_snoc hl]; simp
      have hln : (((p.lk.take i).map (fun l => l.map (resF 0))).map r0).length = i := by simp; omega
      generalize hCC : ((p.lk.take i).map (fun l => l.map (resF 0))).map r0 = CC at g43 hnx hln
      have hpC : CC.any ownC = false := by rw [← hCC]; exact pure_r0 _
      have hsC : ∀ k, CC.map (scrC k) = CC := fun k => scrC_cells hpC
      have hbC : ∀ k b, CC.map (pubC k b) = CC := fun k b => pub_cells hpC
      replace hnx : Hid (((p.lk.take (i + 1)).map (fun l => l.map (resF 0))).map r0 = CC ++ [r0 (l.map (resF 0))]) := hnx
      clear hCC
      have hlt2 : i < p.lk.length := by omega
      cases l with
      | nil =>
        repeat' first
          | (with_reducible refine gw_bool (fun _ => ?_) (fun _ => ?_))
          | (with_reducible refine condw_bool (fun _ => ?_) (fun _ => ?_))
          | simp [*, r1, appendV, srcCells, St.forget, scr, scrC]
        refine lp_unroll (D := (fun _ => none)) DG_ok mixed (by kernel_rfl) ?_
        repeat' first
          | (with_reducible refine gw_bool (fun _ => ?_) (fun _ => ?_))
          | (with_reducible refine condw_bool (fun _ => ?_) (fun _ => ?_))
          | simp [*, r1, appendV, srcCells, St.forget, scr, scrC]
        refine nxt_go (i + 1) ((View.forget _ _ 42)) (by omega) (by simp [*, Keep, St.forget, scr, scrC]) (by simp [*, KeepH, St.forget, scr, scrC]) ?_
        refine ⟨by omega, ?_, ?_, ?_⟩
        · simp [*, St.forget, scr, scrC]
        · simp [*, St.forget, scr, scrC]
        · rw [hnx.out]; simp [*, St.forget, scr, scrC, r0]
      | cons x t =>
        have hlm' : t.length ≤ 1000 := by simp at hlm; omega
        obtain ⟨m, hm⟩ : ∃ m, t.length + 1 = m := ⟨_, rfl⟩
        have hmc : ((t.length : Int) + 1) = (m : Int) := by omega
        have hhl : (x :: t).length = m := hm
        repeat' first
          | (with_reducible refine gw_bool (fun _ => ?_) (fun _ => ?_))
          | (with_reducible refine condw_bool (fun _ => ?_) (fun _ => ?_))
          | simp [*, r1, appendV, srcCells, St.forget, scr, scrC]
        refine lp_go (D := (fun _ => none)) DG_ok mixed (by kernel_rfl) [4, 5, 6, 8, 17, 18, 19, 20, 21, 22, 23, 24, 25, 26] [2, 4, 6, 42, 43, 150005] (α := Nat) (fun j e h => j ≤ m ∧ e 27 = .int .i64 j ∧ h 250005 = some ⟨3, (half 0 (x :: t) j).map (V.int .i64)⟩) (fun j => m - j) 0 ?_ ?_
        · refine ⟨by omega, by simp, by simp [half]⟩
        · have hk0 := hk
          have hkh0 := hkh
          have g0 := g7
          clear hk hkh g7
          rintro j e h hk hkh ⟨hj, g7, gK⟩
          simp [Keep, hk0, hkh0, g0, hm, hmc] at hk
          simp [KeepH, hk0, hkh0, g6, g43] at hkh
          have hCl : (half 0 (x :: t) j).length = m := by rw [half_len _ _ _ (by omega)]; exact hm
          by_cases hjlt : j < m
          · obtain ⟨y, hy, -⟩ := at_ex (l := x :: t) (i := j) (by omega)
            have f2 : ilt (j : Int) (m : Int) = true := ilt_t (by omega)
            have w2 : IntKind.i64.wrap ((j : Int) + 1) = ((j + 1 : Nat) : Int) := wrap_succ (by omega)
            have hC1 := half_at (z := 0) hy
            cases hq : ieq y 2
            · have hnj : Hid (half 0 (x :: t) (j + 1) = half 0 (x :: t) j) := half_same hy hq
              generalize half 0 (x :: t) j = C at gK hCl hC1 hnj
              have hC2 : ∀ h : j < C.length, C[j] = y := fun h => by rw [List.getElem?_eq_getElem h] at hC1; exact Option.some.inj hC1
              clear hy hl hl' hnx
              repeat' first
                | (with_reducible refine gw_bool (fun _ => ?_) (fun _ => ?_))
                | (with_reducible refine condw_bool (fun _ => ?_) (fun _ => ?_))
                | simp [*, St.forget, scr, scrC]
              refine nxt_go (j + 1) (View.refl _ _) (by omega) (by simp [*, Keep, St.forget, scr, scrC]) (by simp [*, KeepH, St.forget, scr, scrC]) ?_
              refine ⟨by omega, by simp [*], ?_⟩
              rw [hnj.out]; simp [*]
            · have hnj : half 0 (x :: t) (j + 1) = (half 0 (x :: t) j).set j 0 := by rw [half_step hy]; simp [resF, hq]
              replace hnj : Hid (half 0 (x :: t) (j + 1) = (half 0 (x :: t) j).set j 0) := hnj
              generalize half 0 (x :: t) j = C at gK hCl hC1 hnj
              have hC2 : ∀ h : j < C.length, C[j] = y := fun h => by rw [List.getElem?_eq_getElem h] at hC1; exact Option.some.inj hC1
              clear hy hl hl' hnx
              have hj1 : j + 1 ≤ m := by omega
              repeat' first
                | (with_reducible refine gw_bool (fun _ => ?_) (fun _ => ?_))
                | (with_reducible refine condw_bool (fun _ => ?_) (fun _ => ?_))
                | simp [*, St.forget, scr, scrC, setsV]
              refine nxt_go (j + 1) (View.refl _ _) (by omega) (by simp [*, Keep, St.forget, scr, scrC]) (by simp [*, KeepH, St.forget, scr, scrC]) ?_
              refine ⟨by omega, by simp [*], ?_⟩
              rw [hnj.out]; simp [*, setsV, List.map_set]
          · have f2 : ilt (j : Int) (m : Int) = false := ilt_f (by omega)
            have e2 : j = (x :: t).length := by rw [hhl]; omega
            rw [e2, half_end] at gK
            rw [e2, half_end] at hCl
            have hch := chunks_i1 ((x :: t).map (resF 0))
            have hcp := pure_i1 ((x :: t).map (resF 0))
            rw [hCl] at hch
            have hnx' := hnx.out
            generalize (x :: t).map (resF 0) = C at gK hCl hch hnx' hcp
            replace hnx' : Hid (List.map r0 (List.map (fun l => List.map (resF 0) l) (List.take (i + 1) p.lk)) = CC ++ [r0 C]) := hnx'
            replace hch : Hid (chunks 1 m (C.map (V.int .i64)) = C.map i1) := hch
            have hcs : ∀ k, (C.map (V.int .i64)).map (scrC k) = C.map (V.int .i64) := fun k => scrC_cells hcp
            have hmm : m ≤ C.length := by omega
            clear hnx hl hl' e2
            repeat' first
              | (with_reducible refine gw_bool (fun _ => ?_) (fun _ => ?_))
              | (with_reducible refine condw_bool (fun _ => ?_) (fun _ => ?_))
              | simp [*, appendV, srcCells, St.forget, scr, scrC]
            refine nxt_go (i + 1) ((View.forget _ _ 42).trans (View.pub _ (key := 250005) (blk := ⟨3, C.map (V.int .i64)⟩) ?_ hcp)) (by omega) ?_ ?_ ?_
            · simp [*, St.forget, scrC, scrI_comp]
            · simp [*, Keep, St.forget, scr, scrC, St.pub, pubT, pubA, pubC]
            · simp [*, KeepH, St.forget, scr, scrC, St.pub, pubC]
            · refine ⟨by omega, ?_, ?_, ?_⟩
              · simp [*, St.forget, scr, scrC, St.pub, pubT, pubA, pubC]
              · simp [*, St.forget, scr, scrC, St.pub, pubC]
              · rw [hnx'.out]; simp [*, St.forget, scr, scrC, St.pub, pubC, r0, hch.out]
    · have f1 : ilt (i : Int) (n : Int) = false := ilt_f (by omega)
      have e1 : i = n := by omega
      subst e1
      have ht : p.lk.take i = p.lk := by rw [← hn]; exact List.take_length
      rw [ht, hRR.out] at g43
      clear hRR ht
      repeat' first
        | (with_reducible refine gw_bool (fun _ => ?_) (fun _ => ?_))
        | (with_reducible refine condw_bool (fun _ => ?_) (fun _ => ?_))
        | simp [*, Pos.cs, ownC, KeepBl, closedB, inT, inA, inC, blkOf]
end Go.Proofs.Ytjhmphkdkclbjaa
end
section
namespace Go.Proofs.Ytjhmphkdkclbjaa
open Go.Pv Go.RowKit
set_option linter.unusedSimpArgs false
set_option linter.unusedVariables false
set_option maxRecDepth 100000
set_option maxHeartbeats 4000000
attribute [-simp] Tclo_at Tgrp_at Tchk Tpchk TcI TcB Tclo Tgrp Tsid Tnod Tlook Tbnd Tres TSd TBd TcBg

theorem lookG_ok {s : Stn} {p : Pos} (h1 : chkF s = 0) (h2 : posE s p = 0) : PGive Try.prog 55 [.agg s.cs, .agg p.cs] (.tup [.agg [.str s.nm, .list 1 (s.bs.map s1), .list 5 (s.ls.map Ln.cs), .list 6 (s.ss.map Sr.cs), .list 12 (s.qs.map By.cs), .list 1 (p.cl.map b1), .list 1 (p.lk.map r1), .sl 39 0 s.bs.length 1], .bool true]) [(39, ⟨3, (grp s p).map (V.int .i64)⟩)] := by
  have hF := fine_of h1
  have hP := pfine_of h2
  have hw := wf_of hF hP
  have hlb := lenB_of hF hP
  obtain ⟨nb, hnb⟩ : ∃ n, s.bs.length = n := ⟨_, rfl⟩
  obtain ⟨n, hn⟩ : ∃ n, s.qs.length = n := ⟨_, rfl⟩
  have hn16 : n ≤ 16 := by have := hF.nq; omega
  have hnb4 : nb ≤ 4 := by have := hF.nb; omega
  have hkn : p.lk.length = n := by have := hP.nk; omega
  have hch := chunks_i1 (grp s p)
  have hpu := pure_i1 (grp s p)
  have hgl : (grp s p).length = nb := by rw [grp, grpN_len]; exact hnb
  obtain ⟨R, hR⟩ : ∃ R, grp s p = R := ⟨_, rfl⟩
  rw [hR] at hch hpu hgl
  rw [hR, hnb]
  rw [hgl] at hch
  replace hR : Hid (grpN s p n = R) := by rw [grp, hn] at hR; exact hR
  rw [hnb] at hw
  refine pgive_cx D4_ok mixed (fun _ => none) Try.func55 rfl Try.ntmps55 Try.results55 (by simp) (by kernel_rfl) ?_
  repeat' first
    | (with_reducible refine gw_bool (fun _ => ?_) (fun _ => ?_))
    | (with_reducible refine condw_bool (fun _ => ?_) (fun _ => ?_))
    | simp [*, Stn.cs, Pos.cs]
  refine lp_view (View.nilAt _ (t := 6) (o := 0) (key := 6) (key' := 39) (i := 7) (blk := ⟨101, [.str s.nm, .list 1 (s.bs.map s1), .list 5 (s.ls.map Ln.cs), .list 6 (s.ss.map Sr.cs), .list 12 (s.qs.map By.cs), .list 1 (p.cl.map b1), .list 1 (p.lk.map r1), .nils]⟩) 1 3 (by simp) (by simp) (by simp) (by simp)) ?_
  refine lp_go (D := (fun _ => none)) D4_ok mixed (by kernel_rfl) [2, 4, 6, 31] [2, 3, 4, 9, 38] (α := Nat) (fun i e h => i ≤ nb ∧ e 32 = .int .i64 i ∧ h 6 = some ⟨101, [.str s.nm, .list 1 (s.bs.map s1), .list 5 (s.ls.map Ln.cs), .list 6 (s.ss.map Sr.cs), .list 12 (s.qs.map By.cs), .list 1 (p.cl.map b1), .list 1 (p.lk.map r1), .sl 39 0 i 1]⟩ ∧ h 39 = some ⟨3, (ini0 i).map (V.int .i64)⟩) (fun i => nb - i) 0 ?_ ?_
  · refine ⟨by omega, by simp, by simp, by simp [ini0]⟩
  · rintro i e h hk hkh ⟨hi, g7, g6, g39⟩
    simp [Keep] at hk
    simp [KeepH] at hkh
    by_cases hlt : i < nb
    · have f1 : ilt (i : Int) (nb : Int) = true := ilt_t (by omega)
      have w1 : IntKind.i64.wrap ((i : Int) + 1) = ((i + 1 : Nat) : Int) := wrap_succ (by omega)
      have f5 : (i + 1) * 8 ≤ 140737488355328 := by omega
      have f6 : i + 1 ≤ 9223372036854775807 := by omega
      have hst : Hid (ini0 (i + 1) = ini0 i ++ [(i : Int)]) := ini0_step i
      have hl0 := ini0_len i
      generalize ini0 i = C at g39 hst hl0
      clear hR hch hpu hgl hw h2
      repeat' first
        | (with_reducible refine gw_bool (fun _ => ?_) (fun _ => ?_))
        | (with_reducible refine condw_bool (fun _ => ?_) (fun _ => ?_))
        | simp [*, appendV, srcCells, St.forget, scr, scrC, scrI_comp]
      refine nxt_go (i + 1) ((View.forget _ _ 38)) (by omega) (by simp [*, Keep, St.forget, scr, scrC]) (by simp [*, KeepH, St.forget, scr, scrC]) ?_
      refine ⟨by omega, by simp [*, St.forget, scr, scrC], by simp [*, St.forget, scr, scrC], ?_⟩
      rw [hst.out]; simp [*, St.forget, scr, scrC, scrI_comp]
    · have f1 : ilt (i : Int) (nb : Int) = false := ilt_f (by omega)
      have e1 : i = nb := by omega
      subst e1
      have hin : grpN s p 0 = ini0 i := by simp [grpN, hnb]
      rw [← hin] at g39
      clear hin
      repeat' first
        | (with_reducible refine gw_bool (fun _ => ?_) (fun _ => ?_))
        | (with_reducible refine condw_bool (fun _ => ?_) (fun _ => ?_))
        | simp [*]
      refine lp_go (D := (fun _ => none)) D4_ok mixed (by kernel_rfl) [4, 6, 43, 44] [2, 3, 4, 6, 9, 38] (α := Nat) (fun k e h => k ≤ n ∧ e 45 = .int .i64 k ∧ h 39 = some ⟨3, (grpN s p k).map (V.int .i64)⟩) (fun k => n - k) 0 ?_ ?_
      · exact ⟨by omega, by simp, by simp [*]⟩
      · have hk0 := hk
        have hkh0 := hkh
        clear hk hkh g7 g39
        rintro k e h hk hkh ⟨hki, g7, g39⟩
        simp [Keep, hk0, hkh0] at hk
        simp [KeepH, hk0, hkh0, g6] at hkh
        by_cases hlt : k < n
        · obtain ⟨b, hb, hb'⟩ := at_ex (l := s.qs) (i := k) (by omega)
          obtain ⟨l, hl, hl'⟩ := at_ex (l := p.lk) (i := k) (by omega)
          obtain ⟨hll, -⟩ := hP.row k b l hb hl
          obtain ⟨hbus, -, hb1, hb2⟩ := hF.lk b (List.mem_of_getElem? hb)
          have f1 : ilt (k : Int) (n : Int) = true := ilt_t (by omega)
          have w1 : IntKind.i64.wrap ((k : Int) + 1) = ((k + 1 : Nat) : Int) := wrap_succ (by omega)
          have hst : Hid (grpN s p (k + 1) = stG (grpN s p k) b l) := grpN_step hb hl
          have hGl : (grpN s p k).length = i := by rw [grpN_len]; exact hnb
          have hGc := chunks_i1 (grpN s p k)
          have hGp := pure_i1 (grpN s p k)
          rw [hGl] at hGc
          generalize grpN s p k = G at g39 hst hGl hGc hGp
          clear hR hch hpu hgl hw h2 h1
          have hGs := scr_i1 G
          have hGm : ∀ q : Nat, scrC q ∘ V.int .i64 = V.int .i64 := scrI_comp
          cases hk3 : ieq b.kind 3
          · obtain ⟨lks, hlk⟩ : ∃ lks, b.lks = lks := ⟨_, rfl⟩
            rw [hlk] at hll hbus hb1 hb2
            match lks, hb1, hb2 with
            | [a], _, _ =>
              have hnx : stG G b l = G := by simp [stG, hk3, hlk]
              rw [hnx] at hst
              clear hnx hbus
              repeat' first
                | (with_reducible refine gw_bool (fun _ => ?_) (fun _ => ?_))
                | (with_reducible refine condw_bool (fun _ => ?_) (fun _ => ?_))
                | simp [*, By.cs]
              refine nxt_go (k + 1) ((View.forget _ _ 9)) (by omega) (by simp [*, Keep, St.forget, scr, scrC]) (by simp [*, KeepH, St.forget, scr, scrC]) ?_
              refine ⟨by omega, by simp [*, St.forget, scr, scrC], ?_⟩
              rw [hst.out]; simp [*, St.forget, scr, scrC, scrI_comp]
            | [a, c], _, _ =>
              match l, hll with
              | [x, y], _ =>
                have hc0 : clF p k 0 = some (ieq x 1) := by simp [clF, hl]
                have hc1 : clF p k 1 = some (ieq y 1) := by simp [clF, hl]
                cases hx : ieq x 1
                · have hnx : stG G b [x, y] = G := by simp [stG, hk3, hlk, hx]
                  rw [hnx] at hst
                  rw [hx] at hc0
                  clear hnx hbus
                  repeat' first
                    | (with_reducible refine gw_bool (fun _ => ?_) (fun _ => ?_))
                    | (with_reducible refine condw_bool (fun _ => ?_) (fun _ => ?_))
                    | simp [*, By.cs]
                  refine nxt_go (k + 1) ((View.forget _ _ 9)) (by omega) (by simp [*, Keep, St.forget, scr, scrC]) (by simp [*, KeepH, St.forget, scr, scrC]) ?_
                  refine ⟨by omega, by simp [*, St.forget, scr, scrC], ?_⟩
                  rw [hst.out]; simp [*, St.forget, scr, scrC, scrI_comp]
                cases hy : ieq y 1
                · have hnx : stG G b [x, y] = G := by simp [stG, hk3, hlk, hx, hy]
                  rw [hnx] at hst
                  rw [hx] at hc0
                  rw [hy] at hc1
                  clear hnx hbus
                  repeat' first
                    | (with_reducible refine gw_bool (fun _ => ?_) (fun _ => ?_))
                    | (with_reducible refine condw_bool (fun _ => ?_) (fun _ => ?_))
                    | simp [*, By.cs]
                  refine nxt_go (k + 1) ((View.forget _ _ 9)) (by omega) (by simp [*, Keep, St.forget, scr, scrC]) (by simp [*, KeepH, St.forget, scr, scrC]) ?_
                  refine ⟨by omega, by simp [*, St.forget, scr, scrC], ?_⟩
                  rw [hst.out]; simp [*, St.forget, scr, scrC, scrI_comp]
                obtain ⟨u, hu⟩ := Int.eq_ofNat_of_zero_le (hbus a (by simp)).1
                obtain ⟨w, hwc⟩ := Int.eq_ofNat_of_zero_le (hbus c (by simp)).1
                have hub : u < i := by have := (hbus a (by simp)).2; omega
                have hwb : w < i := by have := (hbus c (by simp)).2; omega
                obtain ⟨ga, hga, -⟩ := at_ex (l := G) (i := u) (by omega)
                obtain ⟨gc, hgc, -⟩ := at_ex (l := G) (i := w) (by omega)
                have hga2 : ∀ h : u < G.length, G[u] = ga := fun h => by rw [List.getElem?_eq_getElem h] at hga; exact Option.some.inj hga
                have hgc2 : ∀ h : w < G.length, G[w] = gc := fun h => by rw [List.getElem?_eq_getElem h] at hgc; exact Option.some.inj hgc
                have hnx : stG G b [x, y] = G.map (mgF (min ga gc) (max ga gc)) := by simp [stG, hk3, hlk, hx, hy, merge, g0, gAt, hu, hwc, hga, hgc]
                rw [hnx] at hst
                rw [hx] at hc0
                rw [hy] at hc1
                clear hnx hbus
                have hcu : (u : Int) < (i : Int) := by omega
                have hcw : (w : Int) < (i : Int) := by omega
                obtain ⟨lo, hlo⟩ : ∃ lo, min ga gc = lo := ⟨_, rfl⟩
                obtain ⟨top, hto⟩ : ∃ top, max ga gc = top := ⟨_, rfl⟩
                rw [hlo, hto] at hst
                repeat' first
                  | (with_reducible refine gw_bool (fun _ => ?_) (fun _ => ?_))
                  | (with_reducible refine condw_bool (fun _ => ?_) (fun _ => ?_))
                  | simp [*, By.cs, Lk.cs]
                refine lp_go (D := (fun _ => none)) D4_ok mixed (by kernel_rfl) [4, 6, 8, 9, 10, 11, 12, 13, 43, 44, 45, 46, 47, 48, 49, 50, 51, 52, 53, 54, 55, 56, 57, 58, 59, 60, 61, 62, 63, 64, 65, 66, 67, 68, 69, 70, 71, 72, 73, 74, 75, 76, 77, 78, 79, 80, 81, 82, 83, 84, 85, 86, 87, 88, 89, 90, 91, 92, 93, 94, 95, 96, 97] [2, 3, 4, 6, 9, 38] (α := Nat) (fun j e h => j ≤ i ∧ e 98 = .int .i64 j ∧ h 39 = some ⟨3, (hG (mgF lo top) G j).map (V.int .i64)⟩) (fun j => i - j) 0 ?_ ?_
                · exact ⟨by omega, by simp, by simp [*, hG]⟩
                · have hk1 := hk
                  have hkh1 := hkh
                  have g71 := g7
                  clear hk hkh g7 g39
                  rintro j e h hk hkh ⟨hji, g7, g39⟩
                  simp [Keep, hk1, hkh1, g71, hlo, hto] at hk
                  simp [KeepH, hk1, hkh1] at hkh
                  have hCl : (hG (mgF lo top) G j).length = i := by rw [hG_len _ _ _ (by omega)]; exact hGl
                  clear hga hgc hga2 hgc2 hGs
                  by_cases hjlt : j < i
                  · obtain ⟨z, hz, -⟩ := at_ex (l := G) (i := j) (by omega)
                    have f2 : ilt (j : Int) (i : Int) = true := ilt_t (by omega)
                    have w2 : IntKind.i64.wrap ((j : Int) + 1) = ((j + 1 : Nat) : Int) := wrap_succ (by omega)
                    have hC1 := hG_at (f := mgF lo top) hz
                    have hj1 : j + 1 ≤ i := by omega
                    cases hq : ieq z top
                    · have hnj : Hid (hG (mgF lo top) G (j + 1) = hG (mgF lo top) G j) := hG_same hz (by simp [mgF, hq])
                      generalize hG (mgF lo top) G j = C at g39 hCl hC1 hnj
                      have hC2 : ∀ h : j < C.length, C[j] = z := fun h => by rw [List.getElem?_eq_getElem h] at hC1; exact Option.some.inj hC1
                      clear hz hst hGl hGc hGp
                      repeat' first
                        | (with_reducible refine gw_bool (fun _ => ?_) (fun _ => ?_))
                        | (with_reducible refine condw_bool (fun _ => ?_) (fun _ => ?_))
                        | simp [*, St.forget, scr, scrC]
                      refine nxt_go (j + 1) (View.refl _ _) (by omega) (by simp [*, Keep, St.forget, scr, scrC]) (by simp [*, KeepH, St.forget, scr, scrC]) ?_
                      refine ⟨by omega, by simp [*], ?_⟩
                      rw [hnj.out]; simp [*]
                    · have hnj : hG (mgF lo top) G (j + 1) = (hG (mgF lo top) G j).set j lo := by rw [hG_step hz]; simp [mgF, hq]
                      replace hnj : Hid (hG (mgF lo top) G (j + 1) = (hG (mgF lo top) G j).set j lo) := hnj
                      generalize hG (mgF lo top) G j = C at g39 hCl hC1 hnj
                      have hC2 : ∀ h : j < C.length, C[j] = z := fun h => by rw [List.getElem?_eq_getElem h] at hC1; exact Option.some.inj hC1
                      clear hz hst hGl hGc hGp
                      repeat' first
                        | (with_reducible refine gw_bool (fun _ => ?_) (fun _ => ?_))
                        | (with_reducible refine condw_bool (fun _ => ?_) (fun _ => ?_))
                        | simp [*, St.forget, scr, scrC, setsV]
                      refine nxt_go (j + 1) (View.refl _ _) (by omega) (by simp [*, Keep, St.forget, scr, scrC]) (by simp [*, KeepH, St.forget, scr, scrC]) ?_
                      refine ⟨by omega, by simp [*], ?_⟩
                      rw [hnj.out]; simp [*, setsV, List.map_set]
                  · have f2 : ilt (j : Int) (i : Int) = false := ilt_f (by omega)
                    have e2 : j = G.length := by omega
                    rw [e2, hG_end] at g39
                    clear e2 hCl
                    have hst' := hst.out
                    generalize G.map (mgF lo top) = C at g39 hst'
                    replace hst' : Hid (grpN s p (k + 1) = C) := hst'
                    clear hst hGl hGc hGp
                    repeat' first
                      | (with_reducible refine gw_bool (fun _ => ?_) (fun _ => ?_))
                      | (with_reducible refine condw_bool (fun _ => ?_) (fun _ => ?_))
                      | simp [*, St.forget, scr, scrC]
                    refine nxt_go (k + 1) ((View.forget _ _ 9)) (by omega) (by simp [*, Keep, St.forget, scr, scrC]) (by simp [*, KeepH, St.forget, scr, scrC]) ?_
                    refine ⟨by omega, by simp [*, St.forget, scr, scrC], ?_⟩
                    rw [hst'.out]; simp [*, St.forget, scr, scrC, scrI_comp]
          · have hnx : stG G b l = G := by simp [stG, hk3]
            rw [hnx] at hst
            clear hnx hbus
            repeat' first
              | (with_reducible refine gw_bool (fun _ => ?_) (fun _ => ?_))
              | (with_reducible refine condw_bool (fun _ => ?_) (fun _ => ?_))
              | simp [*, By.cs]
            refine nxt_go (k + 1) ((View.forget _ _ 9)) (by omega) (by simp [*, Keep, St.forget, scr, scrC]) (by simp [*, KeepH, St.forget, scr, scrC]) ?_
            refine ⟨by omega, by simp [*, St.forget, scr, scrC], ?_⟩
            rw [hst.out]; simp [*, St.forget, scr, scrC, scrI_comp]
        · have f1 : ilt (k : Int) (n : Int) = false := ilt_f (by omega)
          have e1 : k = n := by omega
          rw [e1, hR.out] at g39
          clear hR
          repeat' first
            | (with_reducible refine gw_bool (fun _ => ?_) (fun _ => ?_))
            | (with_reducible refine condw_bool (fun _ => ?_) (fun _ => ?_))
            | simp [*, Vu.cs, ownC, KeepBl, closedB, inT, inA, inC, blkOf]
def TlookG : List V → Option (V × List (Nat × Blk))
  | [.agg a, .agg b] => (match unStn a, unPos b with
    | some s, some p => if okP s p = true then some (.tup [.agg [.str s.nm, .list 1 (s.bs.map s1), .list 5 (s.ls.map Ln.cs), .list 6 (s.ss.map Sr.cs), .list 12 (s.qs.map By.cs), .list 1 (p.cl.map b1), .list 1 (p.lk.map r1), .sl 39 0 s.bs.length 1], .bool true], [(39, ⟨3, (grp s p).map (V.int .i64)⟩)]) else none
    | _, _ => none)
  | _ => none
theorem TlookG_at {s : Stn} {p : Pos} (h : okP s p = true) : TlookG [.agg [.str s.nm, .list 1 (s.bs.map s1), .list 5 (s.ls.map Ln.cs), .list 6 (s.ss.map Sr.cs), .list 12 (s.qs.map By.cs)], .agg [.list 1 (p.cl.map b1), .list 1 (p.lk.map r1)]] = some (.tup [.agg [.str s.nm, .list 1 (s.bs.map s1), .list 5 (s.ls.map Ln.cs), .list 6 (s.ss.map Sr.cs), .list 12 (s.qs.map By.cs), .list 1 (p.cl.map b1), .list 1 (p.lk.map r1), .sl 39 0 s.bs.length 1], .bool true], [(39, ⟨3, (grp s p).map (V.int .i64)⟩)]) := by
  have e1 := unStn_cs s
  have e2 := unPos_cs p
  unfold Stn.cs at e1
  unfold Pos.cs at e2
  simp [TlookG, e1, e2, h]
theorem lookG_tab : ∀ vs u bl, TlookG vs = some (u, bl) → PGive Try.prog 55 vs u bl := by
  intro vs u bl h; unfold TlookG at h; split at h
  · split at h
    · rename_i h1 h2
      split at h
      · rename_i hl
        cases h
        rw [unStn_inv _ _ h1, unPos_inv _ _ h2]
        obtain ⟨a, b⟩ := okP_iff hl
        exact lookG_ok a b
      · cases h
    · cases h
  · cases h
def DL : Tab := addG 55 TlookG (D4)
theorem DL_at (f : FuncId) (vs : List V) : DL.at' f vs = D4.at' f vs := rfl
theorem DL_fr (f : FuncId) : DL.fr f = D4.fr f := rfl
theorem DL_gb (f : FuncId) : DL.gb f = if f = 55 then true else D4.gb f := rfl
theorem DL_gv (f : FuncId) (vs : List V) : DL.gv f vs = if f = 55 then TlookG vs else D4.gv f vs := rfl
attribute [simp] DL_at DL_fr DL_gb DL_gv TlookG
theorem DL_ok : TabOK Try.prog DL := by
  refine addG_ok (D4_ok) (by kernel_rfl) ?_
  · exact lookG_tab
attribute [-simp] TlookG
attribute [simp] TlookG_at
theorem GroupsF_ok {s : Stn} {p : Pos} (h : okP s p = true) : PFresh Try.prog 18 [.agg s.cs, .agg p.cs] (.list 1 ((grp s p).map i1)) := by
  have hch := chunks_i1 (grp s p)
  have hpu := pure_i1 (grp s p)
  have hgl : (grp s p).length = s.bs.length := by rw [grp, grpN_len]
  have hT := TlookG_at h
  generalize grp s p = G at hT hch hpu hgl ⊢
  have hsh : ∀ c, shC c ∘ V.int .i64 = V.int .i64 := fun c => rfl
  have hpo : G.any (ownC ∘ V.int .i64) = false := by rw [← List.any_map]; exact hpu
  have hfl : (G.map i1).all (fun c => c.all flatC) = true := by simp [i1, flatC]
  rw [hgl] at hch
  clear h
  refine pfresh_cx DL_ok mixed (fun _ => none) Try.func18 rfl Try.ntmps18 Try.results18 (by simp) (by kernel_rfl) ?_
  repeat' first
    | (with_reducible refine gw_bool (fun _ => ?_) (fun _ => ?_))
    | (with_reducible refine condw_bool (fun _ => ?_) (fun _ => ?_))
    | simp [*, Stn.cs, Pos.cs, Vu.cs]
end Go.Proofs.Ytjhmphkdkclbjaa
end
section
namespace Go.Proofs.Ytjhmphkdkclbjaa
open Go.Pv Go.RowKit
set_option linter.unusedSimpArgs false
set_option linter.unusedVariables false
set_option maxRecDepth 100000

theorem mgHit {x y z : Int} (h : (ieq z x || ieq z y) = true) : mgF (min x y) (max x y) z = min x y := by
  simp only [Bool.or_eq_true, ieq_iff] at h
  unfold mgF
  split
  · rfl
  · rename_i hh
    have : ¬ (z = max x y) := fun e => hh (ieq_t e)
    omega
theorem mgMiss {x y z : Int} (h : (ieq z x || ieq z y) = false) : mgF (min x y) (max x y) z = z := by
  simp only [Bool.or_eq_false_iff] at h
  have h1 := ieq_iff'.1 h.1
  have h2 := ieq_iff'.1 h.2
  unfold mgF
  rw [if_neg]
  intro hh
  have := ieq_iff.1 hh
  omega
/-- Each bus names the lowest bus of its group. -/
def Can (G : List Int) : Prop := ∀ (i : Nat) (x : Int), G[i]? = some x → ∃ u : Nat, x = u ∧ u ≤ i ∧ G[u]? = some x
/-- Each group of the first lies in one group of the second. -/
def Fin2 (A B : List Int) : Prop := ∀ (i : Nat) (x : Int), A[i]? = some x → ∃ u : Nat, x = u ∧ B[u]? = B[i]?
theorem can_ini (n : Nat) : Can (ini0 n) := by
  intro i x h
  have hi : i < n := by have := (List.getElem?_eq_some_iff.1 h).1; simpa [ini0] using this
  have hx : x = (i : Int) := by
    have : (ini0 n)[i]? = some (i : Int) := by simp [ini0, hi]
    rw [this] at h; exact (Option.some.inj h).symm
  exact ⟨i, hx, Nat.le_refl _, h⟩
theorem can_map {G : List Int} (h : Can G) {p q : Nat} {x y : Int} (hp : G[p]? = some x) (hq : G[q]? = some y) : Can (G.map (mgF (min x y) (max x y))) := by
  obtain ⟨u, hu, hup, hGu⟩ := h p x hp
  obtain ⟨v, hv, hvq, hGv⟩ := h q y hq
  intro i z hz
  simp only [List.getElem?_map, Option.map_eq_some_iff] at hz
  obtain ⟨z0, hz0, rfl⟩ := hz
  obtain ⟨t, ht, hti, hGt⟩ := h i z0 hz0
  cases hh : (ieq z0 x || ieq z0 y)
  · have hm := mgMiss hh
    rw [hm]
    exact ⟨t, ht, hti, by simp [hGt, hm]⟩
  · have hm := mgHit hh
    rw [hm]
    simp only [Bool.or_eq_true, ieq_iff] at hh
    rcases Int.le_total x y with hxy | hxy
    · refine ⟨u, by omega, by omega, ?_⟩
      have : mgF (min x y) (max x y) x = min x y := mgHit (by simp [ieq])
      simp only [List.getElem?_map, hGu, Option.map_some, this]
    · refine ⟨v, by omega, by omega, ?_⟩
      have : mgF (min x y) (max x y) y = min x y := mgHit (by simp [ieq])
      simp only [List.getElem?_map, hGv, Option.map_some, this]
theorem fin_right {A B : List Int} (h : Fin2 A B) (f : Int → Int) : Fin2 A (B.map f) := by
  intro i x hx
  obtain ⟨u, hu, hB⟩ := h i x hx
  exact ⟨u, hu, by simp [hB]⟩
theorem fin_both {A B : List Int} (h : Fin2 A B) {p q : Nat} {x y x' y' : Int} (hp : A[p]? = some x) (hq : A[q]? = some y) (hp' : B[p]? = some x') (hq' : B[q]? = some y') : Fin2 (A.map (mgF (min x y) (max x y))) (B.map (mgF (min x' y') (max x' y'))) := by
  obtain ⟨u, hu, hBu⟩ := h p x hp
  obtain ⟨v, hv, hBv⟩ := h q y hq
  rw [hp'] at hBu
  rw [hq'] at hBv
  have m1 : mgF (min x' y') (max x' y') x' = min x' y' := mgHit (by simp [ieq])
  have m2 : mgF (min x' y') (max x' y') y' = min x' y' := mgHit (by simp [ieq])
  intro i z hz
  simp only [List.getElem?_map, Option.map_eq_some_iff] at hz
  obtain ⟨z0, hz0, rfl⟩ := hz
  obtain ⟨t, ht, hBt⟩ := h i z0 hz0
  cases hh : (ieq z0 x || ieq z0 y)
  · rw [mgMiss hh]
    exact ⟨t, ht, by simp [hBt]⟩
  · rw [mgHit hh]
    simp only [Bool.or_eq_true, ieq_iff] at hh
    have hBi : (B.map (mgF (min x' y') (max x' y')))[i]? = some (min x' y') := by
      rcases hh with hh | hh
      · have : t = u := by omega
        rw [List.getElem?_map, ← hBt, this, hBu]; simp [m1]
      · have : t = v := by omega
        rw [List.getElem?_map, ← hBt, this, hBv]; simp [m2]
    rcases Int.le_total x y with hxy | hxy
    · refine ⟨u, by omega, ?_⟩
      rw [hBi, List.getElem?_map, hBu]; simp [m1]
    · refine ⟨v, by omega, ?_⟩
      rw [hBi, List.getElem?_map, hBv]; simp [m2]
/-- A bay's step. -/
theorem stG_cases (G : List Int) (b : By) (l : List Int) : (stG G b l = G ∧ ¬ (ieq b.kind 3 = false ∧ ∃ a c x y, b.lks = [a, c] ∧ l = [x, y] ∧ ieq x 1 = true ∧ ieq y 1 = true)) ∨ (ieq b.kind 3 = false ∧ ∃ a c x y, b.lks = [a, c] ∧ l = [x, y] ∧ ieq x 1 = true ∧ ieq y 1 = true ∧ stG G b l = merge G (g0 G a.bus) (g0 G c.bus)) := by
  cases h3 : ieq b.kind 3
  · obtain ⟨lks, hlk⟩ : ∃ lks, b.lks = lks := ⟨_, rfl⟩
    match lks, l with
    | [a, c], [x, y] =>
      cases hx : ieq x 1
      · left; refine ⟨by simp [stG, h3, hlk, hx], ?_⟩
        rintro ⟨_, a', c', x', y', h1, h2, h4, h5⟩
        simp at h2; rw [h2.1] at hx; rw [hx] at h4; cases h4
      · cases hy : ieq y 1
        · left; refine ⟨by simp [stG, h3, hlk, hx, hy], ?_⟩
          rintro ⟨_, a', c', x', y', h1, h2, h4, h5⟩
          simp at h2; rw [h2.2] at hy; rw [hy] at h5; cases h5
        · right; exact ⟨rfl, a, c, x, y, hlk, rfl, hx, hy, by simp [stG, h3, hlk, hx, hy]⟩
    | [], _ => left; refine ⟨by simp [stG, h3, hlk], ?_⟩; rintro ⟨_, a', c', x', y', h1, _⟩; rw [hlk] at h1; cases h1
    | [_], _ => left; refine ⟨by simp [stG, h3, hlk], ?_⟩; rintro ⟨_, a', c', x', y', h1, _⟩; rw [hlk] at h1; cases h1
    | _ :: _ :: _ :: _, _ => left; refine ⟨by simp [stG, h3, hlk], ?_⟩; rintro ⟨_, a', c', x', y', h1, _⟩; rw [hlk] at h1; cases h1
    | [a, c], [] => left; refine ⟨by simp [stG, h3, hlk], ?_⟩; rintro ⟨_, a', c', x', y', _, h2, _⟩; cases h2
    | [a, c], [_] => left; refine ⟨by simp [stG, h3, hlk], ?_⟩; rintro ⟨_, a', c', x', y', _, h2, _⟩; cases h2
    | [a, c], _ :: _ :: _ :: _ => left; refine ⟨by simp [stG, h3, hlk], ?_⟩; rintro ⟨_, a', c', x', y', _, h2, _⟩; cases h2
  · left; refine ⟨by simp [stG, h3], ?_⟩
    rintro ⟨h, _⟩; cases h
theorem g0_at {G : List Int} {b : Int} (h : 0 ≤ b ∧ b < G.length) : ∃ u : Nat, b = u ∧ u < G.length ∧ G[u]? = some (g0 G b) := by
  obtain ⟨u, rfl⟩ := Int.eq_ofNat_of_zero_le h.1
  have hu : u < G.length := by omega
  exact ⟨u, rfl, hu, by simp [g0, gAt, hu]⟩
theorem grpN_can {s : Stn} {p : Pos} (hF : Fine s) (hk : p.lk.length = s.qs.length) : ∀ k, k ≤ s.qs.length → Can (grpN s p k)
  | 0, _ => by simpa [grpN] using can_ini s.bs.length
  | k + 1, hle => by
    obtain ⟨b, hb, _⟩ := at_ex (l := s.qs) (i := k) (by omega)
    obtain ⟨l, hl, _⟩ := at_ex (l := p.lk) (i := k) (by omega)
    have ih := grpN_can hF hk k (by omega)
    rw [grpN_step hb hl]
    have hlen : (grpN s p k).length = s.bs.length := grpN_len s p k
    rcases stG_cases (grpN s p k) b l with ⟨h, _⟩ | ⟨_, a, c, x, y, hlk, _, _, _, h⟩
    · rw [h]; exact ih
    · rw [h]
      have hbus := (hF.lk b (List.mem_of_getElem? hb)).1
      obtain ⟨u, _, _, hu⟩ := g0_at (G := grpN s p k) (b := a.bus) (by rw [hlen]; exact hbus a (by simp [hlk]))
      obtain ⟨v, _, _, hv⟩ := g0_at (G := grpN s p k) (b := c.bus) (by rw [hlen]; exact hbus c (by simp [hlk]))
      exact can_map ih hu hv
theorem res01 {x : Int} (h : ieq (resF 0 x) 1 = true) : ieq (resF 1 x) 1 = true := by
  unfold resF at *
  split at h
  · cases h
  · rename_i hh; rw [if_neg hh]; exact h
theorem grpN_fin {s : Stn} {p : Pos} (hF : Fine s) (hk : p.lk.length = s.qs.length) : ∀ k, k ≤ s.qs.length → Fin2 (grpN s (resP p false) k) (grpN s (resP p true) k)
  | 0, _ => by
    intro i x hx
    obtain ⟨u, hu, hui, hGu⟩ := can_ini s.bs.length i x (by simpa [grpN] using hx)
    have hx' : (ini0 s.bs.length)[i]? = some x := by simpa [grpN] using hx
    exact ⟨u, hu, by simp only [grpN, List.take_zero, List.foldl_nil]; rw [hGu, hx']⟩
  | k + 1, hle => by
    obtain ⟨b, hb, _⟩ := at_ex (l := s.qs) (i := k) (by omega)
    obtain ⟨l, hl, _⟩ := at_ex (l := p.lk) (i := k) (by omega)
    have ih := grpN_fin hF hk k (by omega)
    have hl0 : (resP p false).lk[k]? = some (l.map (resF 0)) := by simp [resP, hl, resZ]
    have hl1 : (resP p true).lk[k]? = some (l.map (resF 1)) := by simp [resP, hl, resZ]
    rw [grpN_step hb hl0, grpN_step hb hl1]
    have hA : (grpN s (resP p false) k).length = s.bs.length := grpN_len _ _ _
    have hB : (grpN s (resP p true) k).length = s.bs.length := grpN_len _ _ _
    have hbus := (hF.lk b (List.mem_of_getElem? hb)).1
    rcases stG_cases (grpN s (resP p true) k) b (l.map (resF 1)) with ⟨h1, hno⟩ | ⟨h3, a, c, x, y, hlk, hll, hx, hy, h1⟩
    · rw [h1]
      rcases stG_cases (grpN s (resP p false) k) b (l.map (resF 0)) with ⟨h0, _⟩ | ⟨h3, a, c, x, y, hlk, hll, hx, hy, h0⟩
      · rw [h0]; exact ih
      · exfalso
        apply hno
        match l, hll with
        | [x', y'], hll =>
          simp at hll
          exact ⟨h3, a, c, _, _, hlk, rfl, res01 (by rw [hll.1]; exact hx), res01 (by rw [hll.2]; exact hy)⟩
    · rw [h1]
      obtain ⟨u, hu0, _, hu⟩ := g0_at (G := grpN s (resP p true) k) (b := a.bus) (by rw [hB]; exact hbus a (by simp [hlk]))
      obtain ⟨v, hv0, _, hv⟩ := g0_at (G := grpN s (resP p true) k) (b := c.bus) (by rw [hB]; exact hbus c (by simp [hlk]))
      rcases stG_cases (grpN s (resP p false) k) b (l.map (resF 0)) with ⟨h0, _⟩ | ⟨_, a', c', x', y', hlk', hll', hx', hy', h0⟩
      · rw [h0]; exact fin_right ih _
      · rw [h0]
        rw [hlk] at hlk'
        simp at hlk'
        obtain ⟨rfl, rfl⟩ := hlk'
        obtain ⟨u', hu0', _, hu'⟩ := g0_at (G := grpN s (resP p false) k) (b := a.bus) (by rw [hA]; exact hbus a (by simp [hlk]))
        obtain ⟨v', hv0', _, hv'⟩ := g0_at (G := grpN s (resP p false) k) (b := c.bus) (by rw [hA]; exact hbus c (by simp [hlk]))
        have eu : u' = u := by omega
        have ev : v' = v := by omega
        subst eu; subst ev
        exact fin_both ih hu' hv' hu hv
/-- What the law of moving links asks of a bus. -/
theorem moving_at {s : Stn} {p : Pos} (hF : Fine s) (hk : p.lk.length = s.qs.length) {i : Nat} (hi : i < s.bs.length) : ∃ u v : Nat, u ≤ i ∧ v ≤ u ∧ (grp s (resP p false))[i]? = some (u : Int) ∧ (grp s (resP p false))[u]? = some (u : Int) ∧ (grp s (resP p true))[i]? = some (v : Int) ∧ (grp s (resP p true))[u]? = some (v : Int) ∧ (grp s (resP p true))[v]? = some (v : Int) := by
  have hk0 : (resP p false).lk.length = s.qs.length := by simp [resP, hk]
  have hk1 : (resP p true).lk.length = s.qs.length := by simp [resP, hk]
  have cA : Can (grp s (resP p false)) := grpN_can hF hk0 _ (Nat.le_refl _)
  have cB : Can (grp s (resP p true)) := grpN_can hF hk1 _ (Nat.le_refl _)
  have fAB : Fin2 (grp s (resP p false)) (grp s (resP p true)) := grpN_fin hF hk _ (Nat.le_refl _)
  obtain ⟨x, hx, _⟩ := at_ex (l := grp s (resP p false)) (i := i) (by rw [grp, grpN_len]; exact hi)
  obtain ⟨y, hy, _⟩ := at_ex (l := grp s (resP p true)) (i := i) (by rw [grp, grpN_len]; exact hi)
  obtain ⟨u, hu, hui, hAu⟩ := cA i x hx
  obtain ⟨v, hv, hvi, hBv⟩ := cB i y hy
  obtain ⟨u', hu', hB⟩ := fAB i x hx
  have : u' = u := by omega
  subst this
  have hBu : (grp s (resP p true))[u']? = some y := by rw [hB]; exact hy
  obtain ⟨t, ht, htu, _⟩ := cB u' y hBu
  subst hu; subst hv
  exact ⟨u', v, hui, by omega, hx, hAu, hy, hBu, hBv⟩
end Go.Proofs.Ytjhmphkdkclbjaa
end
section
namespace Go.Proofs.Ytjhmphkdkclbjaa
open Go.Pv Go.RowKit
set_option linter.unusedSimpArgs false
set_option linter.unusedVariables false
set_option maxRecDepth 100000
set_option maxHeartbeats 4000000

theorem eg_wp0 {n : Nat} {K : St → Prop} {Γ : Tab} (hΓ : TabOK Try.prog Γ) {w0 : Base} {ops : Array Oper} {QQ : Exit → Act → World → Prop} {rest : List Oper} : ∀ (l' : List Oper) (st : St) (ro : Nat → Prop) (lam : Lam) (a : Act) (w : World), l'.all (fun o => fits n o.dst) = true →
    egX Try.prog Γ ops l' K st → Sim w0 n ro lam st a w → (∀ st' a' ro' lam' w', K st' → Ext w0 ro ro' → Sim w0 n ro' lam' st' a' w' → wpList Try.prog ops QQ rest a' w') → wpList Try.prog ops QQ (l' ++ rest) a w
  | [], st, ro, lam, a, w, _, h, hs, hK => hK _ _ _ _ _ h (Ext.refl _ _) hs
  | o :: l', st, ro, lam, a, w, hf, h, hs, hK => by
    simp only [List.all_cons, Bool.and_eq_true] at hf
    show if Region.wanted o (yielded ops a.tmps) then o.wp Try.prog a w (wpList Try.prog ops QQ (l' ++ rest)) QQ ∨ (o.asks Try.prog a w ∧ LetsOut QQ) else wpList Try.prog ops QQ (l' ++ rest) (a.put o.dst undef) w
    simp only [egX] at h
    cases hw : wantV ops st o.guard with
    | none => rw [hw] at h; exact h.elim
    | some b =>
      rw [hw] at h
      rw [wantV_sound hs hw]
      cases b with
      | true =>
        rw [if_pos rfl]
        exact .inl (swX_sound hΓ hs hf.1 h fun st' a' ro' lam' w' k hx hs' => eg_wp0 hΓ l' st' ro' lam' a' w' hf.2 k hs' fun st2 a2 ro2 lam2 w2 k e hs2 => hK st2 a2 ro2 lam2 w2 k (hx.trans e) hs2)
      | false =>
        rw [if_neg (by simp)]
        exact eg_wp0 hΓ l' _ ro lam _ w hf.2 h (hs.put hf.1 (.pure _ _ .undef)) hK
/-- A region that ends in a copy. -/
theorem cw_copy {n id : Nat} {ops : Array Oper} {Γ : Tab} (hΓ : TabOK Try.prog Γ) (k : Nat) {o : Oper} {x y : Nat} {t e : TypeId} {i : TypeInfo} (hops : ops.toList.drop k = [o]) (hg : o.guard = none) (ho : o.op = .call { callee := .builtin .copy, args := #[.tmp x, .tmp y], argTypes := #[t, t] })
    (hu : Try.prog.underlying t = some (.slice e)) (hi : Try.prog.info? e = some i) (hsz : i.size = 1) (hf : (ops.toList.take k).all (fun o => fits n o.dst) = true) (hfo : fits n o.dst = true) {Q : Exit → St → Prop} {st : St} (key len : Nat) (blk : Blk) (v : V) (cs : List V)
    (h : egX Try.prog Γ ops (ops.toList.take k) (fun s => s.env x = .sl key 0 len 1 ∧ s.env y = v ∧ s.heap key = some blk ∧ len ≤ blk.cells.length ∧ srcCells s.heap 1 v = some (len, cs) ∧ cs.all oneV = true ∧ Q .normal (St.put { s with heap := upd s.heap key (some ⟨blk.ty, setsV blk.cells 0 cs⟩) } o.dst (.int .i64 len))) st) : CW Try.prog n (.region id ops false) Q st := by
  intro w0 ro lam a w hs
  refine wp_region_list ?_
  rw [← List.take_append_drop k ops.toList, hops]
  refine eg_wp0 hΓ (n := n) _ _ _ _ _ _ hf h hs ?_
  rintro s a2 ro2 lam2 w2 ⟨q1, q2, q3, q4, q5, q6, q7⟩ hx2 hs2
  have p1 := hs2.env x
  rw [q1] at p1
  have p2 := hs2.env y
  rw [q2] at p2
  refine wpList_plain hg fun K2 hK2 => copy_wp ho hu hi hsz hs2 q3 q4 p1 p2 q5 q6 hfo fun a' w' hs3 => hK2 _ _ ?_
  exact ⟨_, ro2, lam2, q7, hx2, hs3⟩
theorem cut {n : Nat} {x y : Code} {Q : Exit → St → Prop} {K : St → Prop} {st : St} (hx : CW Try.prog n x (fun e s => e = .normal ∧ K s) st) (hy : ∀ s, K s → CW Try.prog n y Q s) : CW Try.prog n (.seq x y) Q st :=
  cw_seq (hx.mono fun e s ⟨h1, h2⟩ => by subst h1; exact hy s h2)
theorem pgive_of2 {f : FuncId} {fn : Func} {c : Code} {vs : List V} {u : V} {bl : List (Nat × Blk)} {n : Nat} {rs : Array ResultVar} (hf : Try.prog.funcs[f]? = some fn) (hb : fn.body = some c) (hn : fn.ntmps = n) (hrs : fn.results = rs) (hvs : vs.length ≤ n) (h : CW Try.prog n c (FinG Try.prog rs.toList u bl) ⟨ini 0 vs, fun _ => none⟩) : PGive Try.prog f vs u bl := by
  subst hn; subst hrs
  exact pgive_of hf hb hvs h
/-- A key's name is changed. -/
def swp (a b k : Nat) : Nat := if k = a then b else if k = b then a else k
theorem swp_swp (a b k : Nat) : swp a b (swp a b k) = k := by
  unfold swp
  by_cases h1 : k = a
  · by_cases h2 : b = a
    · simp [h1, h2]
    · simp [h1, h2]
  · by_cases h2 : k = b
    · simp [h1, h2]
    · simp [h1, h2]
theorem rnC_pure {f : Nat → Nat} {v : V} (h : ownC v = false) : rnC f v = v := by
  cases v <;> simp [ownC] at h <;> rfl
theorem rn_cells {f : Nat → Nat} {cs : List V} (h : cs.any ownC = false) : cs.map (rnC f) = cs := by
  have : ∀ v ∈ cs, rnC f v = v := fun v hv => rnC_pure (by simpa using List.any_eq_false.1 h v hv)
  conv => rhs; rw [← List.map_id cs]
  exact List.map_congr_left this

theorem setsV_all : ∀ (ys pre xs : List V), xs.length = ys.length → setsV (pre ++ xs) pre.length ys = pre ++ ys
  | [], pre, xs, h => by
    have : xs = [] := List.eq_nil_of_length_eq_zero (by simpa using h)
    subst this; rfl
  | y :: ys, pre, [], h => by simp at h
  | y :: ys, pre, x :: xs, h => by
    simp only [setsV]
    rw [List.set_append_right _ _ (Nat.le_refl _), Nat.sub_self, List.set_cons_zero]
    have := setsV_all ys (pre ++ [y]) xs (by simpa using h)
    simpa using this
theorem setsV_all0 {xs ys : List V} (h : xs.length = ys.length) : setsV xs 0 ys = ys := by simpa using setsV_all ys [] xs h

/-! ### the rows -/
/-- Row j of the copy: the row b lies apart. -/
def rwC (b : Nat) (lk : List (List Int)) (j : Nat) : V := if j = b then .sl 99 0 (lk.getD j []).length 1 else r0 (lk.getD j [])
def cloL (b : Nat) (lk : List (List Int)) (i : Nat) : List V := (List.range lk.length).map fun j => if j < i then rwC b lk j else .nils
theorem cloL_len (b : Nat) (lk : List (List Int)) (i : Nat) : (cloL b lk i).length = lk.length := by simp [cloL]
theorem cloL_zero (b : Nat) (lk : List (List Int)) : cloL b lk 0 = List.replicate lk.length .nils := by
  apply List.ext_getElem
  · simp [cloL]
  · intro j h1 h2; simp [cloL]
theorem cloL_step {b : Nat} {lk : List (List Int)} {i : Nat} (h : i < lk.length) : cloL b lk (i + 1) = (cloL b lk i).set i (rwC b lk i) := by
  apply List.ext_getElem
  · simp [cloL]
  · intro j h1 h2
    simp only [cloL, List.getElem_map, List.getElem_range, List.getElem_set]
    by_cases e : i = j
    · subst e; simp
    · rw [if_neg e]
      by_cases e2 : j < i
      · rw [if_pos (by omega), if_pos e2]
      · rw [if_neg (by omega), if_neg e2]
theorem cloL_at {b : Nat} {lk : List (List Int)} {i j : Nat} (h : j < lk.length) : (cloL b lk i)[j]? = some (if j < i then rwC b lk j else .nils) := by
  simp [cloL, h]
/-- Up to the row apart all is plain. -/
theorem cloL_pure {b : Nat} {lk : List (List Int)} {i : Nat} (h : i ≤ b) : (cloL b lk i).any ownC = false := by
  rw [List.any_eq_false]
  intro v hv
  simp only [cloL, List.mem_map, List.mem_range] at hv
  obtain ⟨j, hj, rfl⟩ := hv
  by_cases e : j < i
  · rw [if_pos e, rwC, if_neg (by omega)]; simp [r0, ownC]
  · rw [if_neg e]; simp [ownC]
theorem cloL_scr {b : Nat} {lk : List (List Int)} {i k : Nat} (hk : k ≠ 99) : (cloL b lk i).map (scrC k) = cloL b lk i := by
  have : ∀ v ∈ cloL b lk i, scrC k v = v := by
    intro v hv
    simp only [cloL, List.mem_map, List.mem_range] at hv
    obtain ⟨j, hj, rfl⟩ := hv
    by_cases e : j < i
    · rw [if_pos e, rwC]; split
      · have hk' : (99 == k) = false := by simpa using Ne.symm hk
        simp [scrC, hk']
      · rfl
    · rw [if_neg e]; rfl
  conv => rhs; rw [← List.map_id (cloL b lk i)]
  exact List.map_congr_left this
theorem cloL_pub {b : Nat} {lk : List (List Int)} {i k : Nat} {bl : Blk} (hk : k ≠ 99) : (cloL b lk i).map (pubC k bl) = cloL b lk i := by
  have : ∀ v ∈ cloL b lk i, pubC k bl v = v := by
    intro v hv
    simp only [cloL, List.mem_map, List.mem_range] at hv
    obtain ⟨j, hj, rfl⟩ := hv
    by_cases e : j < i
    · rw [if_pos e, rwC]; split
      · have hk' : (99 == k) = false := by simpa using Ne.symm hk
        simp [pubC, hk']
      · rfl
    · rw [if_neg e]; rfl
  conv => rhs; rw [← List.map_id (cloL b lk i)]
  exact List.map_congr_left this
theorem cloL_in {b : Nat} {lk : List (List Int)} {i : Nat} {bl : List (Nat × Blk)} (h : (blkOf bl 99).isSome = true) : (cloL b lk i).all (inC bl) = true := by
  rw [List.all_eq_true]
  intro v hv
  simp only [cloL, List.mem_map, List.mem_range] at hv
  obtain ⟨j, hj, rfl⟩ := hv
  by_cases e : j < i
  · rw [if_pos e, rwC]; split
    · simpa [inC] using h
    · rfl
  · rw [if_neg e]; rfl
end Go.Proofs.Ytjhmphkdkclbjaa
end
section
namespace Go.Proofs.Ytjhmphkdkclbjaa
open Go.Pv Go.RowKit
set_option linter.unusedSimpArgs false
set_option linter.unusedVariables false
set_option maxRecDepth 100000
set_option maxHeartbeats 4000000

/-- What stays in the loop. -/
def cB (p : Pos) (nc n i : Nat) (R : Option Blk) (s : St) : Prop :=
  s.env 1 = .ptr 1 0 ∧ s.env 2 = .ptr 2 0 ∧ s.env 3 = .ptr 3 0 ∧ s.env 21 = .list 1 (p.lk.map r1) ∧ s.env 22 = .int .i64 n ∧ s.env 23 = .int .i64 i ∧
  s.heap 1 = some ⟨31, [.list 1 (p.cl.map b1), .list 1 (p.lk.map r1)]⟩ ∧ s.heap 2 = some ⟨31, [.nils, .nils]⟩ ∧ s.heap 3 = some ⟨31, [.sl 9 0 nc 1, .sl 13 0 n 1]⟩ ∧ s.heap 9 = some ⟨4, p.cl.map V.bool⟩ ∧ s.heap 99 = R
theorem clone_gen (p : Pos) (b : Nat) (row : List Int) (hb : ∀ l, p.lk[b]? = some l → row = l) (hc : (p.cl.length : Int) ≤ 281474976710656) (hn0 : 24 * (p.lk.length : Int) ≤ 281474976710656) (hr : ∀ l ∈ p.lk, 8 * (l.length : Int) ≤ 281474976710656) : PGive Try.prog 67 [.agg p.cs] (.agg [.sl 9 0 p.cl.length 1, .sl 13 0 p.lk.length 1]) (if b < p.lk.length then [(9, ⟨4, p.cl.map V.bool⟩), (13, ⟨42, cloL b p.lk p.lk.length⟩), (99, ⟨3, row.map (V.int .i64)⟩)] else [(9, ⟨4, p.cl.map V.bool⟩), (13, ⟨42, cloL b p.lk p.lk.length⟩)]) := by
  obtain ⟨n, hn⟩ : ∃ n, p.lk.length = n := ⟨_, rfl⟩
  obtain ⟨nc, hnc⟩ : ∃ n, p.cl.length = n := ⟨_, rfl⟩
  rw [hn] at hn0
  rw [hnc] at hc
  have f1 : (nc : Int) ≤ 9223372036854775807 := by omega
  have f2 : (n : Int) ≤ 9223372036854775807 := by omega
  have hrep : (List.replicate nc [V.bool false]).flatten = (List.replicate nc false).map V.bool := by rw [← flat_b1, List.map_replicate]; rfl
  have hrepn : (List.replicate n [V.nils]).flatten = List.replicate n V.nils := by simp
  rw [hn, hnc]
  refine pgive_of2 Try.func67 rfl Try.ntmps67 Try.results67 (by simp) ?_
  refine cut (K := fun s => s.env 1 = .ptr 1 0 ∧ s.env 2 = .ptr 2 0 ∧ s.heap 1 = some ⟨31, p.cs⟩ ∧ s.heap 2 = some ⟨31, [.nils, .nils]⟩ ∧ s.heap 3 = none ∧ s.heap 9 = none ∧ s.heap 13 = none ∧ s.heap 33 = none ∧ s.heap 99 = none) ?_ ?_
  · refine CW.of_cx (D := (fun id => if id = 1 then some ⟨[(10, 3), (5003, 9)], [5]⟩ else none)) noTab_ok mixed _ _ _ (by kernel_rfl) ?_
    repeat' first
      | (with_reducible refine gw_bool (fun _ => ?_) (fun _ => ?_))
      | (with_reducible refine condw_bool (fun _ => ?_) (fun _ => ?_))
      | simp [*, Pos.cs]
  rintro ⟨e, h⟩ ⟨e1, e2, h1, h2, h3, h9, h13, h33, h99⟩
  simp only at e1 e2 h1 h2 h3 h9 h13 h33 h99
  rw [Pos.cs] at h1
  refine cut (K := fun s => s.env 1 = .ptr 1 0 ∧ s.env 2 = .ptr 2 0 ∧ s.env 3 = .ptr 3 0 ∧ s.heap 1 = some ⟨31, [.list 1 (p.cl.map b1), .list 1 (p.lk.map r1)]⟩ ∧ s.heap 2 = some ⟨31, [.nils, .nils]⟩ ∧ s.heap 3 = some ⟨31, [.sl 9 0 nc 1, .sl 13 0 n 1]⟩ ∧ s.heap 9 = some ⟨4, List.replicate nc (.bool false)⟩ ∧ s.heap 13 = some ⟨42, List.replicate n .nils⟩ ∧ s.heap 33 = none ∧ s.heap 99 = none) ?_ ?_
  · refine CW.of_cx (D := (fun id => if id = 1 then some ⟨[(10, 3), (5003, 9)], [5]⟩ else none)) noTab_ok mixed _ _ _ (by kernel_rfl) ?_
    repeat' first
      | (with_reducible refine gw_bool (fun _ => ?_) (fun _ => ?_))
      | (with_reducible refine condw_bool (fun _ => ?_) (fun _ => ?_))
      | simp [*, setsV]
  rintro ⟨e, h⟩ ⟨e1, e2, e3, h1, h2, h3, h9, h13, h33, h99⟩
  simp only at e1 e2 e3 h1 h2 h3 h9 h13 h33 h99
  have hfb := flat_b1 p.cl
  have hone : (p.cl.map V.bool).all oneV = true := by simp [oneV]
  have hset : setsV (List.replicate nc (V.bool false)) 0 (p.cl.map V.bool) = p.cl.map V.bool := setsV_all0 (by simp [hnc])
  obtain ⟨i4, hi4, hs4⟩ : ∃ i, Try.prog.info? 4 = some i ∧ i.size = 1 := ⟨_, rfl, rfl⟩
  refine cut (K := fun s => s.env 1 = .ptr 1 0 ∧ s.env 2 = .ptr 2 0 ∧ s.env 3 = .ptr 3 0 ∧ s.heap 1 = some ⟨31, [.list 1 (p.cl.map b1), .list 1 (p.lk.map r1)]⟩ ∧ s.heap 2 = some ⟨31, [.nils, .nils]⟩ ∧ s.heap 3 = some ⟨31, [.sl 9 0 nc 1, .sl 13 0 n 1]⟩ ∧ s.heap 9 = some ⟨4, p.cl.map V.bool⟩ ∧ s.heap 13 = some ⟨42, List.replicate n .nils⟩ ∧ s.heap 33 = none ∧ s.heap 99 = none) ?_ ?_
  · refine cw_copy noTab_ok 4 (by exact rfl) (by exact rfl) (by exact rfl) (by exact rfl) hi4 hs4 (by kernel_rfl) (by kernel_rfl) 9 nc ⟨4, List.replicate nc (.bool false)⟩ (.list 1 (p.cl.map b1)) (p.cl.map V.bool) ?_
    repeat' first
      | (with_reducible refine gw_bool (fun _ => ?_) (fun _ => ?_))
      | (with_reducible refine condw_bool (fun _ => ?_) (fun _ => ?_))
      | simp [*, srcCells, St.put]
  rintro ⟨e, h⟩ ⟨e1, e2, e3, h1, h2, h3, h9, h13, h33, h99⟩
  simp only at e1 e2 e3 h1 h2 h3 h9 h13 h33 h99
  clear hset hone hfb hrep hrepn
  obtain ⟨i3, hi3, hs3⟩ : ∃ i, Try.prog.info? 3 = some i ∧ i.size = 1 := ⟨_, rfl, rfl⟩
  refine cut (K := fun s => cB p nc n n (if b < n then some ⟨3, row.map (V.int .i64)⟩ else none) s ∧ s.heap 13 = some ⟨42, cloL b p.lk n⟩) ?_ ?_
  · refine cut (K := fun s => cB p nc n 0 none s ∧ s.heap 13 = some ⟨42, cloL b p.lk 0⟩ ∧ s.heap 33 = none) ?_ ?_
    · rw [cloL_zero, hn]
      refine CW.of_cx (D := (fun id => if id = 1 then some ⟨[(10, 3), (5003, 9)], [5]⟩ else none)) noTab_ok mixed _ _ _ (by kernel_rfl) ?_
      repeat' first
        | (with_reducible refine gw_bool (fun _ => ?_) (fun _ => ?_))
        | (with_reducible refine condw_bool (fun _ => ?_) (fun _ => ?_))
        | simp [*, cB]
    clear e1 e2 e3 h1 h2 h3 h9 h13 h33 h99 e h
    intro s hs
    refine cw_block (LH.cw (LH.inv (α := Nat) (fun i s => i ≤ n ∧ cB p nc n i (if b < i then some ⟨3, row.map (V.int .i64)⟩ else none) s ∧ s.heap 13 = some ⟨42, cloL b p.lk i⟩ ∧ s.heap 33 = none) (fun i => n - i) ?_ _ 0 s rfl ⟨by omega, by simpa using hs.1, hs.2⟩))
    clear hs s
    rintro i ⟨e, h⟩ ⟨hi, ⟨e1, e2, e3, e21, e22, e23, h1, h2, h3, h9, h99⟩, h13, h33⟩
    simp only at e1 e2 e3 e21 e22 e23 h1 h2 h3 h9 h99 h13 h33
    by_cases hlt : i < n
    · obtain ⟨l, hl, hl'⟩ := at_ex (l := p.lk) (i := i) (by omega)
      obtain ⟨m, hm⟩ : ∃ m, l.length = m := ⟨_, rfl⟩
      have q1 := hr l (List.mem_of_getElem? hl)
      rw [hm] at q1
      have q2 : (m : Int) ≤ 9223372036854775807 := by omega
      have q3 : ilt (i : Int) (n : Int) = true := ilt_t (by omega)
      have q4 : (i : Int) < n := by omega
      have q5 : i + 1 ≤ n := by omega
      have q6 : i < p.lk.length := by omega
      have w1 : IntKind.i64.wrap ((i : Int) + 1) = ((i + 1 : Nat) : Int) := wrap_succ (by omega)
      have hst : Hid (cloL b p.lk (i + 1) = (cloL b p.lk i).set i (rwC b p.lk i)) := cloL_step q6
      have hpp : Hid (i ≤ b → (cloL b p.lk i).any ownC = false) := fun h => cloL_pure h
      have hps : Hid (∀ (bl : Blk), (cloL b p.lk i).map (pubC 33 bl) = cloL b p.lk i) := fun bl => cloL_pub (by omega)
      have hCl := cloL_len b p.lk i
      rw [hn] at hCl
      have hfi := flat_i1 l
      have hoi : (l.map (V.int .i64)).all oneV = true := by simp [oneV]
      have hrm : (List.replicate m [V.int .i64 0]).flatten = List.replicate m (V.int .i64 0) := by simp
      have hsm : setsV (List.replicate m (V.int .i64 0)) 0 (l.map (V.int .i64)) = l.map (V.int .i64) := setsV_all0 (by simp [hm])
      generalize cloL b p.lk i = C at h13 hst hpp hps hCl
      generalize hR : (if b < i then some (⟨3, row.map (V.int .i64)⟩ : Blk) else none) = R at h99
      replace hR : Hid (_ = R) := hR
      refine cut (K := fun s => cB p nc n i R s ∧ s.env 24 = .bool true ∧ s.heap 13 = some ⟨42, C⟩ ∧ s.heap 33 = none) ?_ ?_
      · refine CW.of_cx (D := (fun id => if id = 1 then some ⟨[(10, 3), (5003, 9)], [5]⟩ else none)) noTab_ok mixed _ _ _ (by kernel_rfl) ?_
        repeat' first
          | (with_reducible refine gw_bool (fun _ => ?_) (fun _ => ?_))
          | (with_reducible refine condw_bool (fun _ => ?_) (fun _ => ?_))
          | simp [*, cB]
      clear e1 e2 e3 e21 e22 e23 h1 h2 h3 h9 h99 h13 h33 e h
      rintro ⟨e, h⟩ ⟨⟨e1, e2, e3, e21, e22, e23, h1, h2, h3, h9, h99⟩, e24, h13, h33⟩
      simp only at e1 e2 e3 e21 e22 e23 h1 h2 h3 h9 h99 e24 h13 h33
      refine cut (K := fun s => cB p nc n i R s ∧ s.heap 13 = some ⟨42, C⟩ ∧ s.heap 33 = none) ?_ ?_
      · refine CW.of_cx (D := (fun id => if id = 1 then some ⟨[(10, 3), (5003, 9)], [5]⟩ else none)) noTab_ok mixed _ _ _ (by kernel_rfl) ?_
        repeat' first
          | (with_reducible refine gw_bool (fun _ => ?_) (fun _ => ?_))
          | (with_reducible refine condw_bool (fun _ => ?_) (fun _ => ?_))
          | simp [*, cB]
      clear e1 e2 e3 e21 e22 e23 h1 h2 h3 h9 h99 e24 h13 h33 e h
      rintro ⟨e, h⟩ ⟨⟨e1, e2, e3, e21, e22, e23, h1, h2, h3, h9, h99⟩, h13, h33⟩
      simp only at e1 e2 e3 e21 e22 e23 h1 h2 h3 h9 h99 h13 h33
      refine cut (K := fun s => cB p nc n i R s ∧ s.heap 13 = some ⟨42, C.set i (.sl 33 0 m 1)⟩ ∧ s.heap 33 = some ⟨3, l.map (V.int .i64)⟩) ?_ ?_
      · refine cw_block ?_
        refine cut (K := fun s => cB p nc n i R s ∧ s.env 4 = .int .i64 i ∧ s.env 5 = .list 1 (l.map i1) ∧ s.heap 13 = some ⟨42, C⟩ ∧ s.heap 33 = none) ?_ ?_
        · refine CW.of_cx (D := (fun id => if id = 1 then some ⟨[(10, 3), (5003, 9)], [5]⟩ else none)) noTab_ok mixed _ _ _ (by kernel_rfl) ?_
          repeat' first
            | (with_reducible refine gw_bool (fun _ => ?_) (fun _ => ?_))
            | (with_reducible refine condw_bool (fun _ => ?_) (fun _ => ?_))
            | simp [*, cB, r1]
        clear e1 e2 e3 e21 e22 e23 h1 h2 h3 h9 h99 h13 h33 e h
        rintro ⟨e, h⟩ ⟨⟨e1, e2, e3, e21, e22, e23, h1, h2, h3, h9, h99⟩, e4, e5, h13, h33⟩
        simp only at e1 e2 e3 e21 e22 e23 h1 h2 h3 h9 h99 e4 e5 h13 h33
        refine cut (K := fun s => cB p nc n i R s ∧ s.env 4 = .int .i64 i ∧ s.env 5 = .list 1 (l.map i1) ∧ s.heap 13 = some ⟨42, C.set i (.sl 33 0 m 1)⟩ ∧ s.heap 33 = some ⟨3, List.replicate m (.int .i64 0)⟩) ?_ ?_
        · refine CW.of_cx (D := (fun id => if id = 1 then some ⟨[(10, 3), (5003, 9)], [5]⟩ else none)) noTab_ok mixed _ _ _ (by kernel_rfl) ?_
          repeat' first
            | (with_reducible refine gw_bool (fun _ => ?_) (fun _ => ?_))
            | (with_reducible refine condw_bool (fun _ => ?_) (fun _ => ?_))
            | simp [*, cB, r1, setsV]
        clear e1 e2 e3 e21 e22 e23 h1 h2 h3 h9 h99 e4 e5 h13 h33 e h
        rintro ⟨e, h⟩ ⟨⟨e1, e2, e3, e21, e22, e23, h1, h2, h3, h9, h99⟩, e4, e5, h13, h33⟩
        simp only at e1 e2 e3 e21 e22 e23 h1 h2 h3 h9 h99 e4 e5 h13 h33
        refine cw_copy noTab_ok 6 (by exact rfl) (by exact rfl) (by exact rfl) (by exact rfl) hi3 hs3 (by kernel_rfl) (by kernel_rfl) 33 m ⟨3, List.replicate m (.int .i64 0)⟩ (.list 1 (l.map i1)) (l.map (V.int .i64)) ?_
        repeat' first
          | (with_reducible refine gw_bool (fun _ => ?_) (fun _ => ?_))
          | (with_reducible refine condw_bool (fun _ => ?_) (fun _ => ?_))
          | simp [*, srcCells, St.put, cB, r1, Bk]
      clear e1 e2 e3 e21 e22 e23 h1 h2 h3 h9 h99 h13 h33 e h hfi hoi hrm hsm
      rintro ⟨e, h⟩ ⟨⟨e1, e2, e3, e21, e22, e23, h1, h2, h3, h9, h99⟩, h13, h33⟩
      simp only at e1 e2 e3 e21 e22 e23 h1 h2 h3 h9 h99 h13 h33
      refine CW.of_cx (D := (fun id => if id = 1 then some ⟨[(10, 3), (5003, 9)], [5]⟩ else none)) noTab_ok mixed _ _ _ (by kernel_rfl) ?_
      repeat' first
        | (with_reducible refine gw_bool (fun _ => ?_) (fun _ => ?_))
        | (with_reducible refine condw_bool (fun _ => ?_) (fun _ => ?_))
        | simp [*]
      by_cases hib : i = b
      · subst hib
        have hrl : row = l := hb l hl
        subst hrl
        have hpC := hpp.out (Nat.le_refl _)
        have hrn : C.map (rnC (swp 33 99)) = C := rn_cells hpC
        have hri : (row.map (V.int .i64)).map (rnC (swp 33 99)) = row.map (V.int .i64) := rn_cells (pure_i1 _)
        have hR' := hR.out
        rw [if_neg (by omega)] at hR'
        subst hR'
        have hgd : p.lk.getD i [] = row := by simp [hl]
        refine ⟨i + 1, _, View.rn _ _ (f := swp 33 99) (swp_swp 33 99), ⟨by omega, ?_, ?_, ?_⟩, by show n - (i + 1) < n - i; omega⟩
        · rw [if_pos (by omega)]
          simp [cB, St.rn, rnT, rnA, rnC, swp, *]
        · rw [hst.out, rwC, if_pos rfl, hgd]
          simp [St.rn, rnC, swp, List.map_set, *]
        · simp [St.rn, swp, *]
      · have hpl := pure_i1 l
        have hch := chunks_i1 l
        rw [hm] at hch
        have hp3 := hps.out ⟨3, l.map (V.int .i64)⟩
        have hgd : p.lk.getD i [] = l := by simp [hl]
        refine ⟨i + 1, _, View.pub _ (key := 33) (blk := ⟨3, l.map (V.int .i64)⟩) h33 hpl, ⟨by omega, ?_, ?_, ?_⟩, by show n - (i + 1) < n - i; omega⟩
        · have hR' := hR.out
          have e3 : (if b < i + 1 then some (⟨3, row.map (V.int .i64)⟩ : Blk) else none) = R := by
            rw [← hR']
            by_cases e : b < i
            · rw [if_pos e, if_pos (by omega)]
            · rw [if_neg e, if_neg (by omega)]
          rw [e3]
          have hRm : R.map (fun b => (⟨b.ty, b.cells.map (pubC 33 ⟨3, l.map (V.int .i64)⟩)⟩ : Blk)) = R := by
            rw [← hR']
            split
            · simp [pub_cells (pure_i1 row)]
            · rfl
          have hpB : (p.cl.map V.bool).map (pubC 33 ⟨3, l.map (V.int .i64)⟩) = p.cl.map V.bool := pub_cells (pure_b1 _)
          simp [cB, St.pub, pubT, pubA, pubC, *]
        · rw [hst.out, rwC, if_neg hib, hgd]
          simp [St.pub, pubC, List.map_set, r0, *]
        · simp [St.pub, *]
    · have q3 : ilt (i : Int) (n : Int) = false := ilt_f (by omega)
      have e1 : i = n := by omega
      subst e1
      generalize (if b < i then some (⟨3, row.map (V.int .i64)⟩ : Blk) else none) = R at h99 ⊢
      refine CW.of_cx (D := (fun id => if id = 1 then some ⟨[(10, 3), (5003, 9)], [5]⟩ else none)) noTab_ok mixed _ _ _ (by kernel_rfl) ?_
      repeat' first
        | (with_reducible refine gw_bool (fun _ => ?_) (fun _ => ?_))
        | (with_reducible refine condw_bool (fun _ => ?_) (fun _ => ?_))
        | simp [*, cB]
  rintro ⟨e, h⟩ ⟨⟨e1, e2, e3, e21, e22, e23, h1, h2, h3, h9, h99⟩, h13⟩
  simp only at e1 e2 e3 e21 e22 e23 h1 h2 h3 h9 h99 h13
  have hp1 := pure_b1 p.cl
  have hp2 := pure_i1 row
  by_cases hbn : b < n
  · rw [if_pos hbn] at h99 ⊢
    have hin := @cloL_in b p.lk n
    refine CW.of_cx (D := (fun id => if id = 1 then some ⟨[(10, 3), (5003, 9)], [5]⟩ else none)) noTab_ok mixed _ _ _ (by kernel_rfl) ?_
    repeat' first
      | (with_reducible refine gw_bool (fun _ => ?_) (fun _ => ?_))
      | (with_reducible refine condw_bool (fun _ => ?_) (fun _ => ?_))
      | simp [*, setsV]
  · rw [if_neg hbn] at h99 ⊢
    have hpu := @cloL_pure b p.lk n (by omega)
    refine CW.of_cx (D := (fun id => if id = 1 then some ⟨[(10, 3), (5003, 9)], [5]⟩ else none)) noTab_ok mixed _ _ _ (by kernel_rfl) ?_
    repeat' first
      | (with_reducible refine gw_bool (fun _ => ?_) (fun _ => ?_))
      | (with_reducible refine condw_bool (fun _ => ?_) (fun _ => ?_))
      | simp [*, setsV]
theorem clone_ok (p : Pos) (b : Nat) (row : List Int) (hb : p.lk[b]? = some row) (hc : (p.cl.length : Int) ≤ 281474976710656) (hn0 : 24 * (p.lk.length : Int) ≤ 281474976710656) (hr : ∀ l ∈ p.lk, 8 * (l.length : Int) ≤ 281474976710656) : PGive Try.prog 67 [.agg p.cs] (.agg [.sl 9 0 p.cl.length 1, .sl 13 0 p.lk.length 1]) [(9, ⟨4, p.cl.map V.bool⟩), (13, ⟨42, cloL b p.lk p.lk.length⟩), (99, ⟨3, row.map (V.int .i64)⟩)] := by
  have := clone_gen p b row (fun l hl => Option.some.inj (hb.symm.trans hl)) hc hn0 hr
  rwa [if_pos (List.getElem?_eq_some_iff.1 hb).1] at this
theorem cloL_full {b : Nat} {lk : List (List Int)} (h : lk.length ≤ b) : cloL b lk lk.length = lk.map r0 := by
  apply List.ext_getElem
  · simp [cloL]
  · intro j h1 h2
    have hj : j < lk.length := by simpa [cloL] using h1
    simp only [cloL, List.getElem_map, List.getElem_range, if_pos hj, rwC]
    rw [if_neg (by omega)]
    simp [List.getElem?_eq_getElem hj]
theorem clone_plain (p : Pos) (hc : (p.cl.length : Int) ≤ 281474976710656) (hn0 : 24 * (p.lk.length : Int) ≤ 281474976710656) (hr : ∀ l ∈ p.lk, 8 * (l.length : Int) ≤ 281474976710656) : PGive Try.prog 67 [.agg p.cs] (.agg [.sl 9 0 p.cl.length 1, .sl 13 0 p.lk.length 1]) [(9, ⟨4, p.cl.map V.bool⟩), (13, ⟨42, p.lk.map r0⟩)] := by
  have := clone_gen p p.lk.length [] (fun l hl => by simp at hl) hc hn0 hr
  rwa [if_neg (by omega), cloL_full (Nat.le_refl _)] at this
end Go.Proofs.Ytjhmphkdkclbjaa
end
section
namespace Go.Proofs.Ytjhmphkdkclbjaa
open Go.Pv Go.RowKit
set_option linter.unusedSimpArgs false
set_option linter.unusedVariables false
set_option maxRecDepth 100000
set_option maxHeartbeats 4000000
attribute [-simp] Tclo_at Tgrp_at Tchk Tpchk TcI TcB Tclo Tgrp Tsid Tnod Tlook Tbnd Tres TSd TBd Tix Tcon Tgps Tsg Tmv

/-- An operation. -/
structure Op' where
  bay : Int
  link : Int
  cl : Bool
def Op'.cs (o : Op') : List V := [.int .i64 o.bay, .int .i64 o.link, .bool o.cl]
def unOp : List V → Option Op'
  | [.int .i64 a, .int .i64 b, .bool c] => some ⟨a, b, c⟩
  | _ => none
theorem unOp_cs (o : Op') : unOp o.cs = some o := rfl
theorem unOp_inv : ∀ c o, unOp c = some o → c = Op'.cs o := by
  intro c o h; unfold unOp at h; split at h
  · cases h; rfl
  · cases h
def chkE (s : Stn) (p : Pos) : Int := if ieq (chkF s) 0 = true then posE s p else chkF s
theorem chkE_ok {s : Stn} {p : Pos} : ieq (chkE s p) 0 = okP s p := by
  cases h : ieq (chkF s) 0
  · have h1 : ¬ chkF s = 0 := by simpa [ieq] using h
    simp [chkE, h, okP, h1]
  · have h1 : chkF s = 0 := by simpa [ieq] using h
    simp [chkE, h, okP, h1, ieq]
    cases hq : posE s p == 0 <;> simp_all
theorem ickk_ok {s : Stn} {p : Pos} (hl : lenB s p = true) : PCall Try.prog 62 [.agg s.cs, .agg p.cs] (.int .i64 (chkE s p)) := by
  cases h : ieq (chkF s) 0
  · have hv : chkE s p = chkF s := by simp [chkE, h]
    rw [hv]
    refine pcall_cx HC_ok mixed (fun _ => none) Try.func62 rfl Try.ntmps62 Try.results62 (by simp) (by kernel_rfl) ?_
    repeat' first
      | (with_reducible refine gw_bool (fun _ => ?_) (fun _ => ?_))
      | (with_reducible refine condw_bool (fun _ => ?_) (fun _ => ?_))
      | simp [*, Stn.cs, Pos.cs]
  · have hv : chkE s p = posE s p := by simp [chkE, h]
    rw [hv]
    refine pcall_cx HC_ok mixed (fun _ => none) Try.func62 rfl Try.ntmps62 Try.results62 (by simp) (by kernel_rfl) ?_
    repeat' first
      | (with_reducible refine gw_bool (fun _ => ?_) (fun _ => ?_))
      | (with_reducible refine condw_bool (fun _ => ?_) (fun _ => ?_))
      | simp [*, Stn.cs, Pos.cs]
def Tck : List V → Option V
  | [.agg a, .agg b] => (match unStn a, unPos b with
    | some s, some p => if lenB s p = true then some (.int .i64 (chkE s p)) else none
    | _, _ => none)
  | _ => none
theorem Tck_at {s : Stn} {p : Pos} (h : lenB s p = true) : Tck [.agg [.str s.nm, .list 1 (s.bs.map s1), .list 5 (s.ls.map Ln.cs), .list 6 (s.ss.map Sr.cs), .list 12 (s.qs.map By.cs)], .agg [.list 1 (p.cl.map b1), .list 1 (p.lk.map r1)]] = some (.int .i64 (chkE s p)) := by
  have e1 := unStn_cs s
  have e2 := unPos_cs p
  unfold Stn.cs at e1
  unfold Pos.cs at e2
  simp [Tck, e1, e2, h]
theorem ck_tab : ∀ vs v, Tck vs = some v → PCall Try.prog 62 vs v := by
  intro vs v h; unfold Tck at h; split at h
  · split at h
    · rename_i h1 h2
      split at h
      · rename_i hl; cases h; rw [unStn_inv _ _ h1, unPos_inv _ _ h2]; exact ickk_ok hl
      · cases h
    · cases h
  · cases h
/-- The bay and the link of an operation exist. -/
def knwF (s : Stn) (o : Op') : Bool := if ilt o.bay 0 || !ilt o.bay s.qs.length then false else match s.qs[o.bay.toNat]? with
  | some b => !ilt o.link (-1) && ilt o.link b.lks.length
  | none => false
theorem knw_ok {s : Stn} {o : Op'} (h1 : s.qs.length ≤ 1000000) (h2 : ∀ b ∈ s.qs, b.lks.length ≤ 1000000) : PCall Try.prog 63 [.agg s.cs, .agg o.cs] (.bool (knwF s o)) := by
  obtain ⟨bay, lnk, c⟩ := o
  obtain ⟨n, hn⟩ : ∃ n, s.qs.length = n := ⟨_, rfl⟩
  rw [hn] at h1
  cases q1 : ilt bay 0
  · cases q2 : ilt bay (n : Int)
    · have hv : knwF s ⟨bay, lnk, c⟩ = false := by simp [knwF, q1, hn, q2]
      rw [hv]
      refine pcall_cx noTab_ok mixed (fun _ => none) Try.func63 rfl Try.ntmps63 Try.results63 (by simp) (by kernel_rfl) ?_
      repeat' first
        | (with_reducible refine gw_bool (fun _ => ?_) (fun _ => ?_))
        | (with_reducible refine condw_bool (fun _ => ?_) (fun _ => ?_))
        | simp [*, Stn.cs, Op'.cs]
    · have p1 := ilt_iff'.1 q1
      have p2 : bay < n := by simpa [ilt] using q2
      obtain ⟨k, rfl⟩ := Int.eq_ofNat_of_zero_le p1
      obtain ⟨b, hb, hb'⟩ := at_ex (l := s.qs) (i := k) (by omega)
      have hbl := h2 b (List.mem_of_getElem? hb)
      obtain ⟨m, hm⟩ : ∃ m, b.lks.length = m := ⟨_, rfl⟩
      rw [hm] at hbl
      have hv : knwF s ⟨k, lnk, c⟩ = (!ilt lnk (-1) && ilt lnk m) := by simp [knwF, q1, hn, q2, hb, hm]
      rw [hv]
      clear hv
      cases q3 : ilt lnk (-1)
      · refine pcall_cx noTab_ok mixed (fun _ => none) Try.func63 rfl Try.ntmps63 Try.results63 (by simp) (by kernel_rfl) ?_
        repeat' first
          | (with_reducible refine gw_bool (fun _ => ?_) (fun _ => ?_))
          | (with_reducible refine condw_bool (fun _ => ?_) (fun _ => ?_))
          | simp [*, Stn.cs, Op'.cs, By.cs]
      · refine pcall_cx noTab_ok mixed (fun _ => none) Try.func63 rfl Try.ntmps63 Try.results63 (by simp) (by kernel_rfl) ?_
        repeat' first
          | (with_reducible refine gw_bool (fun _ => ?_) (fun _ => ?_))
          | (with_reducible refine condw_bool (fun _ => ?_) (fun _ => ?_))
          | simp [*, Stn.cs, Op'.cs, By.cs]
  · have hv : knwF s ⟨bay, lnk, c⟩ = false := by simp [knwF, q1]
    rw [hv]
    refine pcall_cx noTab_ok mixed (fun _ => none) Try.func63 rfl Try.ntmps63 Try.results63 (by simp) (by kernel_rfl) ?_
    repeat' first
      | (with_reducible refine gw_bool (fun _ => ?_) (fun _ => ?_))
      | (with_reducible refine condw_bool (fun _ => ?_) (fun _ => ?_))
      | simp [*, Stn.cs, Op'.cs]
def Tkn : List V → Option V
  | [.agg a, .agg b] => (match unStn a, unOp b with
    | some s, some o => if s.qs.length ≤ 1000000 ∧ (s.qs.all fun b => decide (b.lks.length ≤ 1000000)) = true then some (.bool (knwF s o)) else none
    | _, _ => none)
  | _ => none
theorem Tkn_at {s : Stn} {o : Op'} (h : Fine s) : Tkn [.agg [.str s.nm, .list 1 (s.bs.map s1), .list 5 (s.ls.map Ln.cs), .list 6 (s.ss.map Sr.cs), .list 12 (s.qs.map By.cs)], .agg [.int .i64 o.bay, .int .i64 o.link, .bool o.cl]] = some (.bool (knwF s o)) := by
  have e1 := unStn_cs s
  unfold Stn.cs at e1
  have hq := h.nq
  have h2 : (s.qs.all fun b => decide (b.lks.length ≤ 1000000)) = true := by
    simp only [List.all_eq_true, decide_eq_true_eq]
    intro b hb
    have := (h.lk b hb).2.2.2
    omega
  have e2 : unOp [.int .i64 o.bay, .int .i64 o.link, .bool o.cl] = some o := rfl
  simp only [Tkn, e1, e2]
  exact if_pos ⟨by omega, h2⟩
theorem kn_tab : ∀ vs v, Tkn vs = some v → PCall Try.prog 63 vs v := by
  intro vs v h; unfold Tkn at h; split at h
  · split at h
    · rename_i h1 h2
      split at h
      · rename_i hl
        cases h; rw [unStn_inv _ _ h1, unOp_inv _ _ h2]
        refine knw_ok hl.1 ?_
        simpa using hl.2
      · cases h
    · cases h
  · cases h
def tgt (c : Bool) : Int := if c = true then 1 else 0
theorem tgt_ok (o : Op') : PCall Try.prog 65 [.agg o.cs] (.int .i64 (tgt o.cl)) := by
  obtain ⟨a, b, c⟩ := o
  cases c
  · refine pcall_cx noTab_ok mixed (fun _ => none) Try.func65 rfl Try.ntmps65 Try.results65 (by simp) (by kernel_rfl) ?_
    repeat' first
      | (with_reducible refine gw_bool (fun _ => ?_) (fun _ => ?_))
      | (with_reducible refine condw_bool (fun _ => ?_) (fun _ => ?_))
      | simp [*, Op'.cs, tgt]
  · refine pcall_cx noTab_ok mixed (fun _ => none) Try.func65 rfl Try.ntmps65 Try.results65 (by simp) (by kernel_rfl) ?_
    repeat' first
      | (with_reducible refine gw_bool (fun _ => ?_) (fun _ => ?_))
      | (with_reducible refine condw_bool (fun _ => ?_) (fun _ => ?_))
      | simp [*, Op'.cs, tgt]
def Ttg : List V → Option V
  | [.agg [.int .i64 a, .int .i64 b, .bool c]] => some (.int .i64 (tgt c))
  | _ => none
theorem tg_tab : ∀ vs v, Ttg vs = some v → PCall Try.prog 65 vs v := by
  intro vs v h; unfold Ttg at h; split at h
  · cases h; exact tgt_ok ⟨_, _, _⟩
  · cases h
def prF (x y a b : Int) : Bool := (ieq x a && ieq y b) || (ieq x b && ieq y a)
theorem pair_ok (x y a b : Int) : PCall Try.prog 69 [.int .i64 x, .int .i64 y, .int .i64 a, .int .i64 b] (.bool (prF x y a b)) := by
  have hv : prF x y a b = ((ieq x a && ieq y b) || (ieq x b && ieq y a)) := rfl
  rw [hv]
  cases q1 : ieq x a
  · cases q3 : ieq x b
    · refine pcall_cx noTab_ok mixed (fun _ => none) Try.func69 rfl Try.ntmps69 Try.results69 (by simp) (by kernel_rfl) ?_
      repeat' first
        | (with_reducible refine gw_bool (fun _ => ?_) (fun _ => ?_))
        | (with_reducible refine condw_bool (fun _ => ?_) (fun _ => ?_))
        | simp [*]
    · refine pcall_cx noTab_ok mixed (fun _ => none) Try.func69 rfl Try.ntmps69 Try.results69 (by simp) (by kernel_rfl) ?_
      repeat' first
        | (with_reducible refine gw_bool (fun _ => ?_) (fun _ => ?_))
        | (with_reducible refine condw_bool (fun _ => ?_) (fun _ => ?_))
        | simp [*]
  · cases q2 : ieq y b
    · cases q3 : ieq x b
      · refine pcall_cx noTab_ok mixed (fun _ => none) Try.func69 rfl Try.ntmps69 Try.results69 (by simp) (by kernel_rfl) ?_
        repeat' first
          | (with_reducible refine gw_bool (fun _ => ?_) (fun _ => ?_))
          | (with_reducible refine condw_bool (fun _ => ?_) (fun _ => ?_))
          | simp [*]
      · refine pcall_cx noTab_ok mixed (fun _ => none) Try.func69 rfl Try.ntmps69 Try.results69 (by simp) (by kernel_rfl) ?_
        repeat' first
          | (with_reducible refine gw_bool (fun _ => ?_) (fun _ => ?_))
          | (with_reducible refine condw_bool (fun _ => ?_) (fun _ => ?_))
          | simp [*]
    · refine pcall_cx noTab_ok mixed (fun _ => none) Try.func69 rfl Try.ntmps69 Try.results69 (by simp) (by kernel_rfl) ?_
      repeat' first
        | (with_reducible refine gw_bool (fun _ => ?_) (fun _ => ?_))
        | (with_reducible refine condw_bool (fun _ => ?_) (fun _ => ?_))
        | simp [*]
def Tpr : List V → Option V
  | [.int .i64 x, .int .i64 y, .int .i64 a, .int .i64 b] => some (.bool (prF x y a b))
  | _ => none
def HP : Tab := add 62 Tck (add 63 Tkn (add 65 Ttg (add 69 Tpr (HC))))
theorem HP_at (f : FuncId) (vs : List V) : HP.at' f vs = if f = 62 then Tck vs else if f = 63 then Tkn vs else if f = 65 then Ttg vs else if f = 69 then Tpr vs else HC.at' f vs := rfl
theorem HP_fr (f : FuncId) : HP.fr f = if f = 62 then false else if f = 63 then false else if f = 65 then false else if f = 69 then false else HC.fr f := rfl
theorem HP_gb (f : FuncId) : HP.gb f = HC.gb f := rfl
theorem HP_gv (f : FuncId) (vs : List V) : HP.gv f vs = HC.gv f vs := rfl
attribute [simp] HP_at HP_fr HP_gb HP_gv Tck Tkn Tpr Ttg
theorem HP_ok : TabOK Try.prog HP := by
  refine add_ok (add_ok (add_ok (add_ok (HC_ok) (by kernel_rfl) ?_) (by kernel_rfl) ?_) (by kernel_rfl) ?_) (by kernel_rfl) ?_
  · intro vs v h; unfold Tpr at h; split at h
    · cases h; apply pair_ok
    · cases h
  · exact tg_tab
  · exact kn_tab
  · exact ck_tab
attribute [-simp] Tck Tkn
attribute [simp] Tck_at Tkn_at
end Go.Proofs.Ytjhmphkdkclbjaa
end
section
namespace Go.Proofs.Ytjhmphkdkclbjaa
open Go.Pv Go.RowKit
set_option linter.unusedSimpArgs false
set_option linter.unusedVariables false
set_option maxRecDepth 100000
set_option maxHeartbeats 4000000
attribute [-simp] Tclo_at Tgrp_at Tchk Tpchk TcI TcB Tclo Tgrp Tsid Tnod Tlook Tbnd Tres TSd TBd Tix Tcon Tgps Tsg Tmv Tck Tkn

/-- A closed coupler between two groups. -/
def cupB (s : Stn) (p : Pos) (g : List Int) (x y : Int) (i : Nat) : Bool := match s.qs[i]?, p.cl[i]? with
  | some b, some c => ieq b.kind 3 && c && (match b.lks with
    | a :: d :: _ => prF (g0 g a.bus) (g0 g d.bus) x y
    | _ => false)
  | _, _ => false
def cupA (s : Stn) (p : Pos) (g : List Int) (x y : Int) : Bool := (List.range s.qs.length).any (cupB s p g x y)
def joiF (s : Stn) (p : Pos) (a b : Int) : Bool := (!ilt a 0 && ilt a s.bs.length) && (!ilt b 0 && ilt b s.bs.length) && (ieq (g0 (grp s p) a) (g0 (grp s p) b) || cupA s p (grp s p) (g0 (grp s p) a) (g0 (grp s p) b))
theorem cupA_t {s : Stn} {p : Pos} {g : List Int} {x y : Int} {i : Nat} (hi : i < s.qs.length) (h : cupB s p g x y i = true) : cupA s p g x y = true := by
  rw [cupA, List.any_eq_true]
  exact ⟨i, by simpa using hi, h⟩
theorem cupA_f {s : Stn} {p : Pos} {g : List Int} {x y : Int} (h : ∀ i, i < s.qs.length → cupB s p g x y i = false) : cupA s p g x y = false := by
  rw [cupA, List.any_eq_false]
  intro i hi
  have := h i (by simpa using hi)
  simp [this]
theorem sidF_at {s : Stn} {p : Pos} {i : Nat} {b : By} {l : List Int} (hF : Fine s) (hP : PFine s p) (hb : s.qs[i]? = some b) (hl : p.lk[i]? = some l) : sidF s p (grp s p) (i : Int) = some (sid (grp s p) b l) := by
  have hw := wf_of hF hP
  have hi := (List.getElem?_eq_some_iff.1 hb).1
  have hg : (grp s p).length = s.bs.length := grpN_len _ _ _
  rw [sidF, hg, if_pos hw, if_pos ⟨by omega, by omega⟩]
  simp [hb, hl]
theorem joi_out {s : Stn} {p : Pos} {a b : Int} (hok : okP s p = true) (h : ((!ilt a 0 && ilt a s.bs.length) && (!ilt b 0 && ilt b s.bs.length)) = false) : PCall Try.prog 33 [.agg s.cs, .agg p.cs, .int .i64 a, .int .i64 b] (.bool false) := by
  have hF := fine_of (okP_iff hok).1
  have hP := pfine_of (okP_iff hok).2
  have hT := Tck_at (lenB_of hF hP)
  have hE := @chkE_ok s p
  rw [hok] at hE
  obtain ⟨nb, hnb⟩ : ∃ n, s.bs.length = n := ⟨_, rfl⟩
  rw [hnb] at h
  have hnb4 := hF.nb
  rw [hnb] at hnb4
  cases q1 : ilt a 0
  · cases q2 : ilt a (nb : Int)
    · refine pcall_cx HP_ok mixed (fun _ => none) Try.func33 rfl Try.ntmps33 Try.results33 (by simp) (by kernel_rfl) ?_
      repeat' first
        | (with_reducible refine gw_bool (fun _ => ?_) (fun _ => ?_))
        | (with_reducible refine condw_bool (fun _ => ?_) (fun _ => ?_))
        | simp [*, Stn.cs, Pos.cs, i1]
    · cases q3 : ilt b 0
      · rw [q1, q2, q3] at h
        simp at h
        refine pcall_cx HP_ok mixed (fun _ => none) Try.func33 rfl Try.ntmps33 Try.results33 (by simp) (by kernel_rfl) ?_
        repeat' first
          | (with_reducible refine gw_bool (fun _ => ?_) (fun _ => ?_))
          | (with_reducible refine condw_bool (fun _ => ?_) (fun _ => ?_))
          | simp [*, Stn.cs, Pos.cs, i1]
      · refine pcall_cx HP_ok mixed (fun _ => none) Try.func33 rfl Try.ntmps33 Try.results33 (by simp) (by kernel_rfl) ?_
        repeat' first
          | (with_reducible refine gw_bool (fun _ => ?_) (fun _ => ?_))
          | (with_reducible refine condw_bool (fun _ => ?_) (fun _ => ?_))
          | simp [*, Stn.cs, Pos.cs, i1]
  · refine pcall_cx HP_ok mixed (fun _ => none) Try.func33 rfl Try.ntmps33 Try.results33 (by simp) (by kernel_rfl) ?_
    repeat' first
      | (with_reducible refine gw_bool (fun _ => ?_) (fun _ => ?_))
      | (with_reducible refine condw_bool (fun _ => ?_) (fun _ => ?_))
      | simp [*, Stn.cs, Pos.cs, i1]
theorem joi_in {s : Stn} {p : Pos} {a b : Nat} (hok : okP s p = true) (ha : a < s.bs.length) (hb : b < s.bs.length) : PCall Try.prog 33 [.agg s.cs, .agg p.cs, .int .i64 a, .int .i64 b] (.bool (ieq (g0 (grp s p) a) (g0 (grp s p) b) || cupA s p (grp s p) (g0 (grp s p) a) (g0 (grp s p) b))) := by
  have hF := fine_of (okP_iff hok).1
  have hP := pfine_of (okP_iff hok).2
  have hT := Tck_at (lenB_of hF hP)
  have hE := @chkE_ok s p
  rw [hok] at hE
  have hG := Tgps_at hok
  have hgl : (grp s p).length = s.bs.length := grpN_len _ _ _
  have hq := hF.nq
  have hnc := hP.nc
  have hnk := hP.nk
  have hS : Hid (∀ (i : Nat) (c : By) (l : List Int), s.qs[i]? = some c → p.lk[i]? = some l → TSd [.agg [.str s.nm, .list 1 (s.bs.map s1), .list 5 (s.ls.map Ln.cs), .list 6 (s.ss.map Sr.cs), .list 12 (s.qs.map By.cs)], .agg [.list 1 (p.cl.map b1), .list 1 (p.lk.map r1)], .int .i64 i] = some (.agg ((sid (grp s p) c l).map (V.int .i64)))) := show _ from fun i c l h1 h2 => TSd_at hok (sidF_at hF hP h1 h2)
  have hlk : Hid (∀ c ∈ s.qs, ieq c.kind 3 = true → ∃ u v, c.lks = [u, v]) := show _ from fun c hc h3 => by
    have := (hF.lk c hc).2.1 h3
    obtain ⟨lks, hl⟩ : ∃ lks, c.lks = lks := ⟨_, rfl⟩
    rw [hl] at this ⊢
    match lks, this with
    | [u, v], _ => exact ⟨u, v, rfl⟩
  have hct : Hid (∀ i, i < s.qs.length → cupB s p (grp s p) (g0 (grp s p) a) (g0 (grp s p) b) i = true → cupA s p (grp s p) (g0 (grp s p) a) (g0 (grp s p) b) = true) := show _ from fun i hi h => cupA_t hi h
  have hcf : Hid ((∀ i, i < s.qs.length → cupB s p (grp s p) (g0 (grp s p) a) (g0 (grp s p) b) i = false) → cupA s p (grp s p) (g0 (grp s p) a) (g0 (grp s p) b) = false) := show _ from cupA_f
  have hnb4 := hF.nb
  obtain ⟨nb, hnb⟩ : ∃ n, s.bs.length = n := ⟨_, rfl⟩
  obtain ⟨n, hn⟩ : ∃ n, s.qs.length = n := ⟨_, rfl⟩
  rw [hnb] at hgl hnb4 ha hb
  rw [hn] at hq hnc hnk hct hcf
  generalize hGG : grp s p = G at hG hgl hS hct hcf
  obtain ⟨x, hx, hx'⟩ := at_ex (l := G) (i := a) (by omega)
  obtain ⟨y, hy, hy'⟩ := at_ex (l := G) (i := b) (by omega)
  have gx : g0 G (a : Int) = x := by simp [g0, gAt, hx]
  have gy : g0 G (b : Int) = y := by simp [g0, gAt, hy]
  rw [gx, gy] at hct hcf ⊢
  clear gx gy hGG
  have a1 : ilt (a : Int) 0 = false := ilt_f (by omega)
  have a2 : ilt (a : Int) (nb : Int) = true := ilt_t (by omega)
  have b1' : ilt (b : Int) 0 = false := ilt_f (by omega)
  have b2 : ilt (b : Int) (nb : Int) = true := ilt_t (by omega)
  have a3 : (a : Int) < nb := by omega
  have b3 : (b : Int) < nb := by omega
  cases hxy : ieq x y
  · obtain ⟨R, hR⟩ : ∃ R, cupA s p G x y = R := ⟨_, rfl⟩
    rw [hR] at hct hcf ⊢
    clear hR
    refine pcall_cx HP_ok mixed (fun _ => none) Try.func33 rfl Try.ntmps33 Try.results33 (by simp) (by kernel_rfl) ?_
    repeat' first
      | (with_reducible refine gw_bool (fun _ => ?_) (fun _ => ?_))
      | (with_reducible refine condw_bool (fun _ => ?_) (fun _ => ?_))
      | simp [*, Stn.cs, Pos.cs, i1]
    refine lp_go (D := (fun _ => none)) HP_ok mixed (by kernel_rfl) [2, 3, 4, 5, 9, 52, 53] [4, 5, 11, 12] (α := Nat) (fun i e h => i ≤ n ∧ e 54 = .int .i64 i ∧ ∀ j, j < i → cupB s p G x y j = false) (fun i => n - i) 0 ?_ ?_
    · exact ⟨by omega, by simp, fun j hj => by omega⟩
    rintro i e h hk hkh ⟨hi, g54, hold⟩
    replace hold : Hid (_) := hold
    simp [Keep] at hk
    simp [KeepH] at hkh
    by_cases hlt : i < n
    · obtain ⟨c, hc, hc'⟩ := at_ex (l := s.qs) (i := i) (by omega)
      obtain ⟨l, hl, hl'⟩ := at_ex (l := p.lk) (i := i) (by omega)
      obtain ⟨z, hz, hz'⟩ := at_ex (l := p.cl) (i := i) (by omega)
      have f1 : ilt (i : Int) (n : Int) = true := ilt_t (by omega)
      have w1 : IntKind.i64.wrap ((i : Int) + 1) = ((i + 1 : Nat) : Int) := wrap_succ (by omega)
      have hTS := hS.out i c l hc hl
      have hstep : Hid (cupB s p G x y i = false → ∀ j, j < i + 1 → cupB s p G x y j = false) := show _ from fun h j hj => by
        by_cases e : j = i
        · subst e; exact h
        · exact hold.out j (by omega)
      cases k3 : ieq c.kind 3
      · have hcb : cupB s p G x y i = false := by simp [cupB, hc, hz, k3]
        have hnx : Hid (_) := hstep.out hcb
        clear hct hcf hS hold hstep hTS hcb hlk
        repeat' first
          | (with_reducible refine gw_bool (fun _ => ?_) (fun _ => ?_))
          | (with_reducible refine condw_bool (fun _ => ?_) (fun _ => ?_))
          | simp [*, By.cs, i1, b1]
        refine nxt_go (i + 1) ((View.forget _ _ 11)) (by omega) (by simp [*, Keep, St.forget, scr, scrC, usesC, usesA]) (by simp [*, KeepH, St.forget, scr, scrC]) ?_
        exact ⟨by omega, by simp [*, St.forget, scr, scrC], hnx.out⟩
      · obtain ⟨u, v, huv⟩ := hlk.out c (List.mem_of_getElem? hc) k3
        cases z
        · have hcb : cupB s p G x y i = false := by simp [cupB, hc, hz, k3]
          have hnx : Hid (_) := hstep.out hcb
          clear hct hcf hS hold hstep hTS hcb hlk
          repeat' first
            | (with_reducible refine gw_bool (fun _ => ?_) (fun _ => ?_))
            | (with_reducible refine condw_bool (fun _ => ?_) (fun _ => ?_))
            | simp [*, By.cs, i1, b1]
          refine nxt_go (i + 1) ((View.forget _ _ 11)) (by omega) (by simp [*, Keep, St.forget, scr, scrC, usesC, usesA]) (by simp [*, KeepH, St.forget, scr, scrC]) ?_
          exact ⟨by omega, by simp [*, St.forget, scr, scrC], hnx.out⟩
        · have hcb : cupB s p G x y i = prF (g0 G u.bus) (g0 G v.bus) x y := by simp [cupB, hc, hz, k3, huv]
          have hsd : sid G c l = [1, g0 G u.bus, 1, g0 G v.bus] := by simp [sid, k3, huv]
          rw [hsd] at hTS
          simp only [List.map_cons, List.map_nil] at hTS
          cases hpr : prF (g0 G u.bus) (g0 G v.bus) x y
          · rw [hpr] at hcb
            have hnx : Hid (_) := hstep.out hcb
            generalize g0 G u.bus = gu at hTS hpr
            generalize g0 G v.bus = gv at hTS hpr
            clear hct hcf hS hold hstep hcb hsd hlk huv
            repeat' first
              | (with_reducible refine gw_bool (fun _ => ?_) (fun _ => ?_))
              | (with_reducible refine condw_bool (fun _ => ?_) (fun _ => ?_))
              | simp [*, By.cs, i1, b1]
            refine nxt_go (i + 1) ((View.forget _ _ 11).trans ((View.forget _ _ 12))) (by omega) (by simp [*, Keep, St.forget, scr, scrC, usesC, usesA]) (by simp [*, KeepH, St.forget, scr, scrC]) ?_
            exact ⟨by omega, by simp [*, St.forget, scr, scrC], hnx.out⟩
          · rw [hpr] at hcb
            have hRt := hct.out i hlt hcb
            subst hRt
            generalize g0 G u.bus = gu at hTS hpr
            generalize g0 G v.bus = gv at hTS hpr
            clear hct hcf hS hold hstep hcb hsd hlk huv
            repeat' first
              | (with_reducible refine gw_bool (fun _ => ?_) (fun _ => ?_))
              | (with_reducible refine condw_bool (fun _ => ?_) (fun _ => ?_))
              | simp [*, By.cs, i1, b1]
    · have f1 : ilt (i : Int) (n : Int) = false := ilt_f (by omega)
      have e1 : i = n := by omega
      subst e1
      have hRf := hcf.out hold.out
      subst hRf
      clear hct hcf hS hold hlk
      repeat' first
        | (with_reducible refine gw_bool (fun _ => ?_) (fun _ => ?_))
        | (with_reducible refine condw_bool (fun _ => ?_) (fun _ => ?_))
        | simp [*]
  · clear hct hcf hS hlk
    refine pcall_cx HP_ok mixed (fun _ => none) Try.func33 rfl Try.ntmps33 Try.results33 (by simp) (by kernel_rfl) ?_
    repeat' first
      | (with_reducible refine gw_bool (fun _ => ?_) (fun _ => ?_))
      | (with_reducible refine condw_bool (fun _ => ?_) (fun _ => ?_))
      | simp [*, Stn.cs, Pos.cs, i1]
theorem joined_ok {s : Stn} {p : Pos} {a b : Int} (hok : okP s p = true) : PCall Try.prog 33 [.agg s.cs, .agg p.cs, .int .i64 a, .int .i64 b] (.bool (joiF s p a b)) := by
  cases h : ((!ilt a 0 && ilt a s.bs.length) && (!ilt b 0 && ilt b s.bs.length))
  · rw [joiF, h, Bool.false_and]
    exact joi_out hok h
  · rw [joiF, h, Bool.true_and]
    simp only [Bool.and_eq_true, Bool.not_eq_true'] at h
    obtain ⟨⟨h1, h2⟩, h3, h4⟩ := h
    have p1 := ilt_iff'.1 h1
    have p3 := ilt_iff'.1 h3
    obtain ⟨k, rfl⟩ := Int.eq_ofNat_of_zero_le p1
    obtain ⟨m, rfl⟩ := Int.eq_ofNat_of_zero_le p3
    simp only [ilt, decide_eq_true_eq] at h2 h4
    exact joi_in hok (by omega) (by omega)
def Tjo : List V → Option V
  | [.agg a, .agg b, .int .i64 x, .int .i64 y] => (match unStn a, unPos b with
    | some s, some p => if okP s p = true then some (.bool (joiF s p x y)) else none
    | _, _ => none)
  | _ => none
theorem Tjo_at {s : Stn} {p : Pos} {x y : Int} (h : okP s p = true) : Tjo [.agg [.str s.nm, .list 1 (s.bs.map s1), .list 5 (s.ls.map Ln.cs), .list 6 (s.ss.map Sr.cs), .list 12 (s.qs.map By.cs)], .agg [.list 1 (p.cl.map b1), .list 1 (p.lk.map r1)], .int .i64 x, .int .i64 y] = some (.bool (joiF s p x y)) := by
  have e1 := unStn_cs s
  have e2 := unPos_cs p
  unfold Stn.cs at e1
  unfold Pos.cs at e2
  simp [Tjo, e1, e2, h]
theorem jo_tab : ∀ vs v, Tjo vs = some v → PCall Try.prog 33 vs v := by
  intro vs v h; unfold Tjo at h; split at h
  · split at h
    · rename_i h1 h2
      split at h
      · rename_i hl; cases h; rw [unStn_inv _ _ h1, unPos_inv _ _ h2]; exact joined_ok hl
      · cases h
    · cases h
  · cases h
end Go.Proofs.Ytjhmphkdkclbjaa
end
section
namespace Go.Proofs.Ytjhmphkdkclbjaa
open Go.Pv Go.RowKit
set_option linter.unusedSimpArgs false
set_option linter.unusedVariables false
set_option maxRecDepth 100000
set_option maxHeartbeats 4000000
attribute [-simp] Tclo_at Tgrp_at Tchk Tpchk TcI TcB Tclo Tgrp Tsid Tnod Tlook Tbnd Tres TSd TBd Tix Tcon Tgps Tsg Tmv Tck Tkn

/-- Another row. -/
def setR (p : Pos) (b : Nat) (l : List Int) : Pos := ⟨p.cl, p.lk.set b l⟩
theorem pfine_set {s : Stn} {p : Pos} (h : PFine s p) {b : Nat} {x : By} (hb : s.qs[b]? = some x) {l : List Int} (hl : l.length = x.lks.length) (hk : ∀ y ∈ l, okL x.kind y = true) : PFine s (setR p b l) := by
  refine ⟨h.nc, by simp [setR, h.nk], fun i c r hc hr => ?_⟩
  simp only [setR, List.getElem?_set] at hr
  split at hr
  · rename_i e; subst e
    split at hr
    · cases hr
      rw [hb] at hc; cases hc
      exact ⟨hl, hk⟩
    · cases hr
  · exact h.row i c r hc hr
theorem okP_set {s : Stn} {p : Pos} (h : okP s p = true) {b : Nat} {x : By} (hb : s.qs[b]? = some x) {l : List Int} (hl : l.length = x.lks.length) (hk : ∀ y ∈ l, okL x.kind y = true) : okP s (setR p b l) = true := by
  obtain ⟨h1, h2⟩ := okP_iff h
  simp [okP, h1, posE_of (pfine_set (pfine_of h2) hb hl hk)]
/-- The rows of a copy; row b lies under the key K. -/
def cloK (K b : Nat) (lk : List (List Int)) : List V := (List.range lk.length).map fun j => if j = b then .sl K 0 (lk.getD j []).length 1 else r0 (lk.getD j [])
theorem cloK_sh {b c : Nat} {lk : List (List Int)} : (cloL b lk lk.length).map (shC c) = cloK (c + 99) b lk := by
  apply List.ext_getElem
  · simp [cloL, cloK]
  · intro j h1 h2
    have hj : j < lk.length := by simpa [cloK] using h2
    simp only [cloL, cloK, List.getElem_map, List.getElem_range, if_pos hj, rwC]
    split <;> simp [shC, r0]
theorem lend0L_pure {h : Nat → Option Blk} : ∀ {l : List V}, l.any ownC = false → lend0L h l = some l
  | [], _ => rfl
  | v :: l, hp => by
    simp only [List.any_cons, Bool.or_eq_false_iff] at hp
    have h1 : lend0 h v = some v := by cases v <;> simp [ownC] at hp <;> rfl
    simp only [lend0L, h1, lend0L_pure hp.2]
theorem lend0L_set {h : Nat → Option Blk} : ∀ {l : List V} {b : Nat} {x : V}, l.any ownC = false → b < l.length → lend0L h (l.set b x) = (lend0 h x).map (fun v => l.set b v)
  | v :: l, 0, x, hp, _ => by
    simp only [List.any_cons, Bool.or_eq_false_iff] at hp
    simp only [List.set_cons_zero, lend0L, lend0L_pure hp.2]
    cases lend0 h x <;> rfl
  | v :: l, b + 1, x, hp, hb => by
    simp only [List.any_cons, Bool.or_eq_false_iff] at hp
    have h1 : lend0 h v = some v := by cases v <;> simp [ownC] at hp <;> rfl
    simp only [List.set_cons_succ, lend0L, h1, lend0L_set hp.2 (by simpa using hb)]
    cases lend0 h x <;> rfl
theorem cloK_set {K b : Nat} {lk : List (List Int)} {row : List Int} (hb : lk[b]? = some row) : cloK K b lk = (lk.map r0).set b (.sl K 0 row.length 1) := by
  apply List.ext_getElem
  · simp [cloK]
  · intro j h1 h2
    have hj : j < lk.length := by simpa [cloK] using h1
    simp only [cloK, List.getElem_map, List.getElem_range, List.getElem_set]
    by_cases e : j = b
    · subst e
      have := (List.getElem?_eq_some_iff.1 hb).2
      simp [hj, this]
    · rw [if_neg e, if_neg (Ne.symm e)]
      simp [hj]
/-- What a caller must know of a copy. -/
structure Clo (c K b : Nat) (p : Pos) (row : List Int) (A L R C : List V) : Prop where
  a1 : A.map (shC c) = A
  a2 : A.any ownC = false
  a3 : A.length = p.cl.length
  a4 : chunks 1 p.cl.length A = p.cl.map b1
  l1 : L.map (shC c) = C
  r1 : R.map (shC c) = R
  r2 : R.any ownC = false
  r3 : R.length = row.length
  c1 : C.length = p.lk.length
  c2 : C.any ownC = true
  c3 : C[b]? = some (.sl K 0 row.length 1)
  c4 : ∀ h, lend0L h C = (lend0 h (.sl K 0 row.length 1)).map (fun v => (p.lk.map r0).set b v)
theorem sh_b1 (l : List Bool) (c : Nat) : (l.map V.bool).map (shC c) = l.map V.bool := sh_cells (pure_b1 l)
theorem sh_i1 (l : List Int) (c : Nat) : (l.map (V.int .i64)).map (shC c) = l.map (V.int .i64) := sh_cells (pure_i1 l)
theorem clo_pack {c K b : Nat} (hK : K = c + 99) {p : Pos} {row : List Int} (hb : p.lk[b]? = some row) : Clo c K b p row (p.cl.map V.bool) (cloL b p.lk p.lk.length) (row.map (V.int .i64)) (cloK K b p.lk) := by
  subst hK
  have hbl := (List.getElem?_eq_some_iff.1 hb).1
  refine ⟨sh_b1 _ _, pure_b1 _, by simp, chunks_b1 _, cloK_sh, sh_i1 _ _, pure_i1 _, by simp, by simp [cloK], ?_, ?_, ?_⟩
  · rw [cloK_set hb, List.any_eq_true]
    exact ⟨.sl (c + 99) 0 row.length 1, List.mem_iff_getElem?.2 ⟨b, by rw [List.getElem?_set]; simp [hbl]⟩, rfl⟩
  · rw [cloK_set hb, List.getElem?_set]; simp [hbl]
  · intro h
    rw [cloK_set hb]
    exact lend0L_set (pure_r0 _) (by simpa using hbl)
theorem set_r0 {lk : List (List Int)} {b : Nat} {row : List Int} : (lk.map r0).set b (.list 1 (row.map i1)) = (lk.set b row).map r0 := by rw [List.map_set]; rfl
theorem set_chunks {lk : List (List Int)} {b n : Nat} {row : List Int} (hn : lk.length = n) : chunks 1 n ((lk.map r0).set b (.list 1 (row.map i1))) = (lk.set b row).map r1 := by
  rw [set_r0]
  have := chunks_r0 (lk.set b row)
  rwa [List.length_set, hn] at this
def smC (p : Pos) : Bool := decide (p.cl.length ≤ 281474976710656) && (decide (24 * p.lk.length ≤ 281474976710656) && p.lk.all (fun l => decide (8 * l.length ≤ 281474976710656)))
theorem smC_of {s : Stn} {p : Pos} (h : okP s p = true) : smC p = true := by
  obtain ⟨h1, h2, h3⟩ := res_small h
  simp only [smC, Bool.and_eq_true, decide_eq_true_eq, List.all_eq_true]
  refine ⟨by omega, by omega, fun l hl => ?_⟩
  have := h3 l hl
  omega
def Tcl (b : Nat) : List V → Option (V × List (Nat × Blk))
  | [.agg a] => (match unPos a with
    | some p => (match p.lk[b]? with
      | some row => if smC p = true then some (.agg [.sl 9 0 p.cl.length 1, .sl 13 0 p.lk.length 1], [(9, ⟨4, p.cl.map V.bool⟩), (13, ⟨42, cloL b p.lk p.lk.length⟩), (99, ⟨3, row.map (V.int .i64)⟩)]) else none
      | none => none)
    | none => none)
  | _ => none
theorem Tcl_at {b : Nat} {p : Pos} {row : List Int} (h : smC p = true) (hb : p.lk[b]? = some row) : Tcl b [.agg [.list 1 (p.cl.map b1), .list 1 (p.lk.map r1)]] = some (.agg [.sl 9 0 p.cl.length 1, .sl 13 0 p.lk.length 1], [(9, ⟨4, p.cl.map V.bool⟩), (13, ⟨42, cloL b p.lk p.lk.length⟩), (99, ⟨3, row.map (V.int .i64)⟩)]) := by
  have e2 := unPos_cs p
  unfold Pos.cs at e2
  simp [Tcl, e2, h, hb]
theorem cl_tab (b : Nat) : ∀ vs u bl, Tcl b vs = some (u, bl) → PGive Try.prog 67 vs u bl := by
  intro vs u bl h; unfold Tcl at h; split at h
  · split at h
    · rename_i h1
      split at h
      · rename_i hb
        split at h
        · rename_i hl
          cases h; rw [unPos_inv _ _ h1]
          simp only [smC, Bool.and_eq_true, decide_eq_true_eq, List.all_eq_true] at hl
          obtain ⟨l1, l2, l3⟩ := hl
          exact clone_ok _ _ _ hb (by omega) (by omega) (fun l hl => by have := l3 l hl; omega)
        · cases h
      · cases h
    · cases h
  · cases h
theorem gpsF_tab : ∀ vs v, Tgps vs = some v → PFresh Try.prog 18 vs v := by
  intro vs v h; unfold Tgps at h; split at h
  · split at h
    · rename_i h1 h2
      split at h
      · rename_i hl; cases h; rw [unStn_inv _ _ h1, unPos_inv _ _ h2]; exact GroupsF_ok hl
      · cases h
    · cases h
  · cases h
def HQ : Tab := add 33 Tjo (addF 18 Tgps (HP))
theorem HQ_at (f : FuncId) (vs : List V) : HQ.at' f vs = if f = 33 then Tjo vs else if f = 18 then Tgps vs else HP.at' f vs := rfl
theorem HQ_fr (f : FuncId) : HQ.fr f = if f = 33 then false else if f = 18 then true else HP.fr f := rfl
theorem HQ_gb (f : FuncId) : HQ.gb f = HP.gb f := rfl
theorem HQ_gv (f : FuncId) (vs : List V) : HQ.gv f vs = HP.gv f vs := rfl
attribute [simp] HQ_at HQ_fr HQ_gb HQ_gv Tgps Tjo
theorem HQ_ok : TabOK Try.prog HQ := by
  refine add_ok (addF_ok (HP_ok) (by kernel_rfl) ?_) (by kernel_rfl) ?_
  · exact gpsF_tab
  · exact jo_tab
attribute [-simp] Tgps
attribute [-simp] Tjo
attribute [simp] Tjo_at
def HR (b : Nat) : Tab := addG 67 (Tcl b) HQ
theorem HR_at (b : Nat) (f : FuncId) (vs : List V) : (HR b).at' f vs = HQ.at' f vs := rfl
theorem HR_fr (b : Nat) (f : FuncId) : (HR b).fr f = HQ.fr f := rfl
theorem HR_gb (b : Nat) (f : FuncId) : (HR b).gb f = if f = 67 then true else HQ.gb f := rfl
theorem HR_gv (b : Nat) (f : FuncId) (vs : List V) : (HR b).gv f vs = if f = 67 then Tcl b vs else HQ.gv f vs := rfl
attribute [simp] HR_at HR_fr HR_gb HR_gv
theorem HR_ok (b : Nat) : TabOK Try.prog (HR b) := addG_ok HQ_ok (by kernel_rfl) (cl_tab b)
end Go.Proofs.Ytjhmphkdkclbjaa
end
section
namespace Go.Proofs.Ytjhmphkdkclbjaa
open Go.Pv Go.RowKit
set_option linter.unusedSimpArgs false
set_option linter.unusedVariables false
set_option maxRecDepth 100000
set_option maxHeartbeats 4000000
attribute [-simp] Tclo_at Tgrp_at Tchk Tpchk TcI TcB Tclo Tgrp Tsid Tnod Tlook Tbnd Tres TSd TBd Tix Tcon Tgps Tsg Tmv Tck Tkn Tjo

def traF (s : Stn) (p : Pos) (c b : Nat) : Bool := match s.qs[c]?, s.qs[b]?, p.lk[b]? with
  | some k, some x, some l => !ieq x.kind 3 && (match x.lks, l, k.lks with
    | [a, d], [u, v], m :: r :: _ => ieq u 1 && (ieq v 1 && prF (g0 (grp s (setR p b [0, 0])) m.bus) (g0 (grp s (setR p b [0, 0])) r.bus) (g0 (grp s (setR p b [0, 0])) a.bus) (g0 (grp s (setR p b [0, 0])) d.bus))
    | _, _, _ => false)
  | _, _, _ => false
theorem two_of {α : Type} {l : List α} (h : l.length = 2) : ∃ a b, l = [a, b] := by
  match l, h with
  | [a, b], _ => exact ⟨a, b, rfl⟩
theorem transferred_ok {s : Stn} {p : Pos} (hok : okP s p = true) {c b : Nat} {kc : By} (hc : s.qs[c]? = some kc) (k3 : ieq kc.kind 3 = true) (hbl : b < s.qs.length) : PCall Try.prog 88 [.agg s.cs, .agg p.cs, .int .i64 c, .int .i64 b] (.bool (traF s p c b)) := by
  have hF := fine_of (okP_iff hok).1
  have hP := pfine_of (okP_iff hok).2
  have hq := hF.nq
  have hnk := hP.nk
  obtain ⟨x, hb, hb'⟩ := at_ex (l := s.qs) (i := b) hbl
  obtain ⟨l, hl, hl'⟩ := at_ex (l := p.lk) (i := b) (by omega)
  obtain ⟨m, r, hkl⟩ := two_of ((hF.lk kc (List.mem_of_getElem? hc)).2.1 k3)
  obtain ⟨hll, hlo⟩ := hP.row b x l hb hl
  obtain ⟨hbus, hx3, hx1, hx2⟩ := hF.lk x (List.mem_of_getElem? hb)
  have hcl := (List.getElem?_eq_some_iff.1 hc).1
  obtain ⟨n, hn⟩ : ∃ n, s.qs.length = n := ⟨_, rfl⟩
  rw [hn] at hq hnk hbl hcl
  have b1' : (b : Int) < n := by omega
  have b2 : b + 1 ≤ n := by omega
  cases q3 : ieq x.kind 3
  · by_cases h2 : x.lks.length = 2
    · obtain ⟨a, d, had⟩ := two_of h2
      obtain ⟨u, v, huv⟩ := two_of (hll.trans h2)
      subst huv
      cases q1 : ieq u 1
      · have hv : traF s p c b = false := by simp [traF, hc, hb, hl, q3, had, q1, hkl]
        rw [hv]
        clear hbus hlo hv
        refine pcall_cx HQ_ok mixed (fun _ => none) Try.func88 rfl Try.ntmps88 Try.results88 (by simp) (by kernel_rfl) ?_
        repeat' first
          | (with_reducible refine gw_bool (fun _ => ?_) (fun _ => ?_))
          | (with_reducible refine condw_bool (fun _ => ?_) (fun _ => ?_))
          | simp [*, Stn.cs, Pos.cs, By.cs, Lk.cs, i1, r1]
      · cases q2 : ieq v 1
        · have hv : traF s p c b = false := by simp [traF, hc, hb, hl, q3, had, q1, hkl, q2]
          rw [hv]
          clear hbus hlo hv
          refine pcall_cx HQ_ok mixed (fun _ => none) Try.func88 rfl Try.ntmps88 Try.results88 (by simp) (by kernel_rfl) ?_
          repeat' first
            | (with_reducible refine gw_bool (fun _ => ?_) (fun _ => ?_))
            | (with_reducible refine condw_bool (fun _ => ?_) (fun _ => ?_))
            | simp [*, Stn.cs, Pos.cs, By.cs, Lk.cs, i1, r1]
        · have hok2 : okP s (setR p b [0, 0]) = true := okP_set hok hb (by simp [h2]) (by intro y hy; simp at hy; subst hy; simp [okL, q3])
          have hv : traF s p c b = prF (g0 (grp s (setR p b [0, 0])) m.bus) (g0 (grp s (setR p b [0, 0])) r.bus) (g0 (grp s (setR p b [0, 0])) a.bus) (g0 (grp s (setR p b [0, 0])) d.bus) := by simp [traF, hc, hb, hl, q3, had, q1, hkl, q2]
          have hg : (grp s (setR p b [0, 0])).length = s.bs.length := grpN_len _ _ _
          have hG := Tgps_at hok2
          obtain ⟨lc, hlc, _⟩ := at_ex (l := (setR p b [0, 0]).lk) (i := c) (by simp [setR]; omega)
          have hS := TSd_at hok2 (sidF_at hF (pfine_of (okP_iff hok2).2) hc hlc)
          have hsd : sid (grp s (setR p b [0, 0])) kc lc = [1, g0 (grp s (setR p b [0, 0])) m.bus, 1, g0 (grp s (setR p b [0, 0])) r.bus] := by simp [sid, k3, hkl]
          rw [hsd] at hS
          simp only [List.map_cons, List.map_nil] at hS
          have e1 : (setR p b [0, 0]).cl = p.cl := rfl
          have e2 : (setR p b [0, 0]).lk = p.lk.set b [0, 0] := rfl
          rw [e1, e2] at hG hS
          have hM := @set_chunks p.lk b n [0, 0] (by omega)
          simp only [List.map_cons, List.map_nil, i1] at hM
          rw [hv]
          generalize (p.lk.set b [0, 0]).map r1 = M at hM hG hS
          generalize grp s (setR p b [0, 0]) = G at hG hS hg ⊢
          generalize g0 G m.bus = gm at hS ⊢
          generalize g0 G r.bus = gr at hS ⊢
          obtain ⟨ua, hua, hua2, hga⟩ := g0_at (G := G) (b := a.bus) (by rw [hg]; exact hbus a (by simp [had]))
          obtain ⟨ud, hud, hud2, hgd⟩ := g0_at (G := G) (b := d.bus) (by rw [hg]; exact hbus d (by simp [had]))
          generalize g0 G a.bus = ga at hga ⊢
          generalize g0 G d.bus = gd at hgd ⊢
          have hga' := (List.getElem?_eq_some_iff.1 hga).2
          have hgd' := (List.getElem?_eq_some_iff.1 hgd).2
          have hT := Tcl_at (smC_of hok) hl
          obtain ⟨a1, a2, a3, a4, l1, r1', r2, r3, c1, c2, c3, c4⟩ := clo_pack (c := 480000) (K := 480099) rfl hl
          obtain ⟨nc, hnc⟩ : ∃ n, p.cl.length = n := ⟨_, rfl⟩
          generalize p.cl.map V.bool = A at hT a1 a2 a3 a4
          generalize cloL b p.lk p.lk.length = L at hT l1
          rw [hnc] at a3 a4 hT
          rw [hnk] at c1 hT
          generalize cloK 480099 b p.lk = C at l1 c1 c2 c3 c4
          have c3' : C[b]'(by omega) = .sl 480099 0 2 1 := (List.getElem?_eq_some_iff.1 c3).2
          have e3 := ieq_iff.1 q1
          have e4 := ieq_iff.1 q2
          subst e3
          subst e4
          simp only [List.map_cons, List.map_nil, shC] at hT
          simp only [List.length_cons, List.length_nil, Nat.zero_add, Nat.reduceAdd] at c3 c4
          clear hbus hlo hv hsd hok2 e1 e2 r2 r3 r1'
          have HX_ok := HR_ok b
          refine pcall_cx HX_ok mixed (fun _ => none) Try.func88 rfl Try.ntmps88 Try.results88 (by simp) (by kernel_rfl) ?_
          repeat' first
            | (with_reducible refine gw_bool (fun _ => ?_) (fun _ => ?_))
            | (with_reducible refine condw_bool (fun _ => ?_) (fun _ => ?_))
            | (refine lp_unroll (D := (fun _ => none)) HX_ok mixed (by kernel_rfl) ?_)
            | simp [*, Stn.cs, Pos.cs, By.cs, Lk.cs, i1, r1, setsV]
          done
    · have hv : traF s p c b = false := by
        simp only [traF, hc, hb, hl]
        match hk : x.lks, h2 with
        | [], _ => simp
        | [_], _ => simp
        | _ :: _ :: _ :: _, _ => simp
      have h3 : ieq (x.lks.length : Int) 2 = false := by simp [ieq]; omega
      rw [hv]
      clear hbus hlo hv
      refine pcall_cx HQ_ok mixed (fun _ => none) Try.func88 rfl Try.ntmps88 Try.results88 (by simp) (by kernel_rfl) ?_
      repeat' first
        | (with_reducible refine gw_bool (fun _ => ?_) (fun _ => ?_))
        | (with_reducible refine condw_bool (fun _ => ?_) (fun _ => ?_))
        | simp [*, Stn.cs, Pos.cs, By.cs, Lk.cs, i1, r1]
  · have hv : traF s p c b = false := by simp [traF, hc, hb, hl, q3]
    rw [hv]
    clear hbus hlo hv
    refine pcall_cx HQ_ok mixed (fun _ => none) Try.func88 rfl Try.ntmps88 Try.results88 (by simp) (by kernel_rfl) ?_
    repeat' first
      | (with_reducible refine gw_bool (fun _ => ?_) (fun _ => ?_))
      | (with_reducible refine condw_bool (fun _ => ?_) (fun _ => ?_))
      | simp [*, Stn.cs, Pos.cs, By.cs, Lk.cs, i1, r1]
end Go.Proofs.Ytjhmphkdkclbjaa
end
