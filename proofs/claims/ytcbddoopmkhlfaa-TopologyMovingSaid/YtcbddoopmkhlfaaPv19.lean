/-
  Part 19: the loop over an iterator.
-/
import Derived.Test.YtcbddoopmkhlfaaPv18
namespace Go.Pv
open Go.RowKit
set_option linter.unusedSimpArgs false
set_option linter.unusedVariables false

def KR (ro : Nat → Prop) (A B : World) : Prop := A.heap.size ≤ B.heap.size ∧ ∀ b, ro b → B.heap[b]? = A.heap[b]?
theorem KR.trans {ro : Nat → Prop} {A B C : World} (h : KR ro A B) (k : KR ro B C) : KR ro A C := ⟨Nat.le_trans h.1 k.1, fun b hb => (k.2 b hb).trans (h.2 b hb)⟩
def Ab {β : Type} (J : β → World → Prop) : Prop := ∀ s W W', J s W → Below W.heap.size W W' → J s W'
/-- An iterator's contract: it yields the elements of xs, as long as it is told to go on; of the memory it wants no more than that what it reads stays. -/
def PIter {α : Type} (P : Program) (gf : Nat) (lb : Array Value) (encs : α → Array Value) (ro : Nat → Prop) (xs : List α) (w : World) : Prop :=
  ∀ (m l : Nat) (J Jx : List α → World → Prop) (W : World), KR ro w W → Ab J → Ab Jx →
    (∀ pre x W1, J pre W1 → pre.length < xs.length → YieldAt Fence.wide (m - 1) P l (encs x) W1 fun e W' =>
      (e = .returned (.bool true) ∧ J (pre ++ [x]) W' ∧ KR ro W1 W') ∨ (e = .returned (.bool false) ∧ Jx (pre ++ [x]) W')) →
    J [] W → CallsIn Fence.wide m P gf (#[.func (.yield l) #[] #[]] ++ lb) W fun e W' => (∃ v, e = .returned v) ∧ (J xs W' ∨ ∃ pre, Jx pre W')

/-- The outer frame between two rounds. -/
structure RJ (w0 : Base) (n : Nat) (ro0 : Nat → Prop) (l D : Nat) (e : Nat → V) (a : Act) (h : Nat → Option Blk) (ro : Nat → Prop) (lam : Lam) (W : World) : Prop where
  keeps : w0.Keeps W
  free : ∀ b, ownB lam b → w0.Free b
  sim : Sim ⟨W, ownB lam, a.defers⟩ n ro lam ⟨e, h⟩ a W
  ext : Ext w0 ro0 ro
  nl : ¬ ro l ∧ ¬ ownB lam l
  nD : ¬ ro D ∧ ¬ ownB lam D
  hD : W.heap[D]? = some (.deferred (some []))
section
variable {P : Program} {n : Nat} {w0 : Base} {ro0 ro : Nat → Prop} {l D : Nat} {e : Nat → V} {a : Act} {h : Nat → Option Blk} {lam : Lam} {W W' : World}
theorem RJ.put (r : RJ w0 n ro0 l D e a h ro lam W) (hne : D ≠ l) (hl : w0.w.heap.size ≤ l) (o : Obj) : RJ w0 n ro0 l D e a h ro lam (W.putObj l o) := by
  have hk : ∀ k, k ≠ l → (W.putObj l o).heap[k]? = W.heap[k]? := fun k hk => World.putObj_heap_other hk
  have hs := r.sim.move (W' := W.putObj l o) (by simp) (fun b hb => hk b (by rintro rfl; exact r.nl.1 hb)) (fun b hb => hk b (by rintro rfl; exact r.nl.2 hb))
  exact ⟨r.keeps.but rfl rfl rfl (by simp) (fun k _ hf => hk k (by rintro rfl; exact hf (.inr hl))), r.free, hs, r.ext, r.nl, r.nD, (hk D hne).trans r.hD⟩
theorem RJ.grow (r : RJ w0 n ro0 l D e a h ro lam W) (hb : Below W.heap.size W W') : RJ w0 n ro0 l D e a h ro lam W' := by
  have hs := r.sim.move (W' := W') hb.size (fun b h => hb.block b (r.sim.rolt b h)) (fun b ⟨key, h⟩ => hb.block b (r.sim.ob h).2.1)
  exact ⟨r.keeps.after hb, r.free, hs, r.ext, r.nl, r.nD, (hb.block D (Array.getElem?_eq_some_iff.1 r.hD).1).trans r.hD⟩
/-- How a round ends. -/
def Rp {α : Type} (n : Nat) (I : List α → (Nat → Option Blk) → Prop) (Ix : Code → List α → (Nat → Option Blk) → Prop) (pre : List α) (e0 : Nat → V) (ex : Exit) (s : St) : Prop :=
  ∃ s', View n s s' ∧ (∀ t, isVp (e0 t) = true → s'.env t = e0 t) ∧ (match ex with
    | .normal => I pre s'.heap
    | .ret => Ix .ret pre s'.heap
    | .exit id => Ix (.exit id) pre s'.heap
    | _ => False)
/-- The parameters in the frame. -/
def setPs (ps : Array Tmp) (vs : Array Value) (tmps : Array Value) : Array Value := (ps.zip vs).foldl (fun t (p, v) => t.setIfInBounds p v) tmps

theorem range_in {α : Type} {g : Operand} {ps : Array Tmp} {assign body : Code} {Q : Exit → Act → World → Prop} {m : Nat} {st : St} {w : World} (hs : Sim w0 n ro lam st a w)
    {gf : Nat} {lb : Array Value} (hg : a.eval g = .func (.func gf) #[] lb) (eg : ∀ args w, (callFunc gf args).run P w = .ok (.enter gf args) w)
    {encs : α → Array Value} {xs : List α} (hps : ∀ x, (encs x).size = ps.size) (hit : PIter P gf lb encs ro xs w) (hst : ∀ t, stays (st.env t) = true)
    (I : List α → (Nat → Option Blk) → Prop) (Ix : Code → List α → (Nat → Option Blk) → Prop) (h0 : I [] st.heap) (e1 : α → Nat → V)
    (he1 : ∀ x ro' lam' W, (∀ t, R W ro' lam' (st.env t) (a.tmps.getD t Go.undef)) → ∀ t, R W ro' lam' (e1 x t) ((setPs ps (encs x) a.tmps).getD t Go.undef)) (hsz : ∀ x, (setPs ps (encs x) a.tmps).size = a.tmps.size)
    (hround : ∀ pre x h, I pre h → pre.length < xs.length → CWR P n assign (fun ex s => ex = .normal ∧ CWR P n body (Rp n I Ix (pre ++ [x]) st.env) s) ⟨e1 x, h⟩)
    (hdone : ∀ D ro' lam' h W, I xs h → RJ w0 n ro (w.heap.size + 1) D st.env a h ro' lam' W → w.heap.size ≤ D → Q .normal { a with defers := { target := .collected D, args := #[] } :: a.defers } W)
    (hstop : ∀ D c pre ro' lam' h W, Ix c pre h → RJ w0 n ro (w.heap.size + 1) D st.env a h ro' lam' W → w.heap.size ≤ D → c.wpIn Fence.wide m P Q { a with defers := { target := .collected D, args := #[] } :: a.defers } W) :
    (Code.rangeFunc g ps assign body).wpIn Fence.wide m P Q a w := by
  refine wpIn_rangeFunc ?_
  intro fn hfn
  obtain ⟨rec, hrec⟩ : ∃ rec : LoopState → Option Code → Loop, rec = fun st pe => { state := st, pending := pe, fn, tmps := a.tmps, params := ps, assign, body, defers := w.heap.size } := ⟨_, rfl⟩
  obtain ⟨W1, hW1⟩ : ∃ W1, (w.alloc (.deferred (some []))).alloc (.loop (rec .ready none)) = W1 := ⟨_, rfl⟩
  have hL1 : W1.heap[w.heap.size + 1]? = some (.loop (rec .ready none)) := by
    rw [← hW1]; have := World.alloc_heap_new (w.alloc (.deferred (some []))) (.loop (rec .ready none)); rwa [World.size_alloc] at this
  have hD1 : W1.heap[w.heap.size]? = some (.deferred (some [])) := by
    rw [← hW1]; exact (Below.heap_alloc _ _ _ (by simp)).trans (World.alloc_heap_new w _)
  have hB1 : Below w.heap.size w W1 := by
    rw [← hW1]; exact ((Below.refl _ w).alloc (Nat.le_refl _) _).alloc (by simp) _
  have hnr : ∀ k, w.heap.size ≤ k → ¬ ro k := fun k hk hr => by have := hs.rolt k hr; omega
  have hno : ∀ k, w.heap.size ≤ k → ¬ ownB lam k := fun k hk ⟨key, h⟩ => by have := (hs.ob h).2.1; omega
  have hlw : w0.w.heap.size ≤ w.heap.size + 1 := by have := hs.below.size; omega
  have hne : w.heap.size ≠ w.heap.size + 1 := by omega
  have hR1 : RJ w0 n ro (w.heap.size + 1) w.heap.size st.env a st.heap ro lam W1 := by
    have h1 := (hs.world hB1).rebase
    exact ⟨hs.below.after hB1, fun b ⟨key, h⟩ => (hs.ob h).1, h1, Ext.refl _ _, ⟨hnr _ (by omega), hno _ (by omega)⟩, ⟨hnr _ (by omega), hno _ (by omega)⟩, hD1⟩
  refine ⟨w.heap.size + 1, [{ target := .collected w.heap.size, args := #[] }], W1, { target := .fn (.func gf) lb, args := #[.func (.yield (w.heap.size + 1)) #[] #[]] }, W1, gf,
    #[.func (.yield (w.heap.size + 1)) #[] #[]] ++ lb, W1, ?_, ?_, fun _ _ => trivial, ?_, fun h => (by cases h), ?_⟩
  · rw [← hW1, hrec]; exact run_enterLoop_outer _ _ _ _ _
  · simp only [resolve, rangeCall, hg]
    simp [go_sem]
  · simp [invoke, go_sem, eg]
  · refine (hit (m - 1) (w.heap.size + 1)
      (fun pre W => ∃ ro' lam' h, I pre h ∧ RJ w0 n ro (w.heap.size + 1) w.heap.size st.env a h ro' lam' W ∧ W.heap[w.heap.size + 1]? = some (.loop (rec .ready none)))
      (fun pre W => ∃ c ro' lam' h, Ix c pre h ∧ RJ w0 n ro (w.heap.size + 1) w.heap.size st.env a h ro' lam' W ∧ W.heap[w.heap.size + 1]? = some (.loop (rec .done (some c))))
      W1 ⟨hB1.size, fun b hb => hB1.block b (hs.rolt b hb)⟩ ?_ ?_ ?_ ⟨ro, lam, st.heap, h0, hR1, hL1⟩).mono ?_
    · rintro pre A B ⟨ro', lam', h, hi, hr, hl⟩ hb
      exact ⟨ro', lam', h, hi, hr.grow hb, (hb.block _ (Array.getElem?_eq_some_iff.1 hl).1).trans hl⟩
    · rintro pre A B ⟨c, ro', lam', h, hi, hr, hl⟩ hb
      exact ⟨c, ro', lam', h, hi, hr.grow hb, (hb.block _ (Array.getElem?_eq_some_iff.1 hl).1).trans hl⟩
    · rintro pre x W ⟨ro', lam', h, hi, hr, hl⟩ hlen
      have hlt : w.heap.size + 1 < W.heap.size := (Array.getElem?_eq_some_iff.1 hl).1
      have hDt : w.heap.size < W.heap.size := by omega
      have hy := run_yield (P := P) (args := encs x) hl (by rw [hrec]; exact hps x)
      rw [hrec] at hy
      refine ⟨fn, _, assign, body, hy, roundIn_of_wpIn hfn ?_⟩
      have hsr : Sim ⟨W, ownB lam', []⟩ n ro' lam' ⟨e1 x, h⟩ { tmps := setPs ps (encs x) a.tmps, defers := [] } W :=
        ⟨Base.Keeps.refl _ _ _, rfl, by show n ≤ _; rw [hsz x]; exact hr.sim.size, hr.sim.rolt, he1 x ro' lam' W hr.sim.env, hr.sim.heap, hr.sim.dead, hr.sim.own, hr.sim.inj, hr.sim.maps⟩
      refine wpIn_mono (hround pre x h hi hlen _ _ _ _ _ _ _ hsr) ?_
      rintro ex a1 w1 ⟨s1, ro1, lam1, ⟨rfl, hbody⟩, hext1, hs1⟩
      have hl1 : w1.heap[w.heap.size + 1]? = some (.loop (rec .ready none)) := (hs1.below.block _ hlt hr.nl.2).trans hl
      have hD1' : w1.heap[w.heap.size]? = some (.deferred (some [])) := (hs1.below.block _ hDt hr.nD.2).trans hr.hD
      have nr1 : ∀ k, k < W.heap.size → ¬ ro' k → ¬ ownB lam' k → ¬ ro1 k := fun k hk hn hn2 h1 => (hext1.2 k h1).elim hn (fun h => h.elim hn2 (fun h => Nat.lt_irrefl _ (Nat.lt_of_lt_of_le hk h)))
      have no1 : ∀ k, k < W.heap.size → ¬ ownB lam' k → ¬ ownB lam1 k := fun k hk hn ⟨key, h1⟩ => (hs1.ob h1).1.elim hn (fun h => Nat.lt_irrefl _ (Nat.lt_of_lt_of_le hk h))
      have hlt1 : w.heap.size + 1 < w1.heap.size := Nat.lt_of_lt_of_le hlt hs1.below.size
      refine ⟨_, run_beginRound hl1 (by rw [hrec]), ?_⟩
      obtain ⟨w2, hw2⟩ : ∃ w2, w1.putObj (w.heap.size + 1) (.loop { rec .ready none with state := .busy }) = w2 := ⟨_, rfl⟩
      rw [hw2]
      have hk2 : ∀ k, k ≠ w.heap.size + 1 → w2.heap[k]? = w1.heap[k]? := fun k hk => by rw [← hw2]; exact World.putObj_heap_other hk
      have hz2 : w2.heap.size = w1.heap.size := by rw [← hw2]; simp
      have hl2 : w2.heap[w.heap.size + 1]? = some (.loop { rec .ready none with state := .busy }) := by rw [← hw2]; exact World.putObj_heap_same hlt1
      have hs2 := hs1.move (W' := w2) (by omega) (fun b hb => hk2 b (by rintro rfl; exact nr1 _ hlt hr.nl.1 hr.nl.2 hb)) (fun b hb => hk2 b (by rintro rfl; exact no1 _ hlt hr.nl.2 hb))
      rw [show a1.defers = [] from hs1.dfr] at hs2
      refine wpIn_mono (hbody _ _ _ _ _ _ _ hs2) ?_
      rintro ex a3 w3 ⟨s3, ro3, lam3, ⟨s4, hv, hvp, hq⟩, hext3, hs3⟩
      obtain ⟨ro4, lam4, hext4, hs4⟩ := hv _ _ _ _ _ hs3
      have hlt2 : w.heap.size + 1 < w2.heap.size := by omega
      have no2 : ∀ k, k < W.heap.size → ¬ ownB lam' k → ¬ ownB lam4 k := fun k hk hn ⟨key, h1⟩ => (hs4.ob h1).1.elim (no1 k hk hn) (fun h => by
        have h' : w2.heap.size ≤ k := h
        have := hs1.below.size
        have h'' : W.heap.size ≤ w1.heap.size := this
        omega)
      have nr2 : ∀ k, k < W.heap.size → ¬ ro' k → ¬ ownB lam' k → ¬ ro4 k := fun k hk hn hn2 h1 => by
        have h'' : W.heap.size ≤ w1.heap.size := hs1.below.size
        have far : Base.Free ⟨w2, ownB lam1, []⟩ k → False := fun h1 => by
          rcases h1 with h1 | h1
          · exact no1 k hk hn2 h1
          · have h' : w2.heap.size ≤ k := h1
            omega
        rcases hext4.2 k h1 with h1 | h1
        · rcases hext3.2 k h1 with h1 | h1
          · exact nr1 k hk hn hn2 h1
          · exact far h1
        · exact far h1
      have hl3 : w3.heap[w.heap.size + 1]? = some (.loop { rec .ready none with state := .busy }) := (hs3.below.block _ hlt2 (no1 _ hlt hr.nl.2)).trans hl2
      have hD3 : w3.heap[w.heap.size]? = some (.deferred (some [])) := ((hs3.below.block _ (show w.heap.size < w2.heap.size by omega) (no1 _ hDt hr.nD.2)).trans (hk2 _ hne)).trans hD1'
      have h13 : W.heap.size ≤ w3.heap.size := by
        have h1 : W.heap.size ≤ w1.heap.size := hs1.below.size
        have h2 : w2.heap.size ≤ w3.heap.size := hs3.below.size
        omega
      have keepR : ∀ b, ro' b → w3.heap[b]? = W.heap[b]? := fun b hb => by
        have hbW := hr.sim.rolt b hb
        have nb : ¬ ownB lam' b := fun ⟨key, h1⟩ => (hr.sim.ob h1).2.2 hb
        have hbl : b ≠ w.heap.size + 1 := by rintro rfl; exact hr.nl.1 hb
        have hb2 : b < w2.heap.size := by have h1 : W.heap.size ≤ w1.heap.size := hs1.below.size; omega
        exact ((hs3.below.block b hb2 (no1 b hbW nb)).trans (hk2 b hbl)).trans (hs1.below.block b hbW nb)
      have keepW : w0.Keeps w3 := by
        have k1 : w0.Keeps w1 := hr.keeps.but hs1.below.os hs1.below.tape hs1.below.output hs1.below.size (fun k hk hf => hs1.below.block k hk (fun ho => hf (hr.free k ho)))
        have k2 : w0.Keeps w2 := k1.but (by rw [← hw2]; rfl) (by rw [← hw2]; rfl) (by rw [← hw2]; rfl) (by omega) (fun k _ hf => hk2 k (by rintro rfl; exact hf (.inr hlw)))
        refine k2.but hs3.below.os hs3.below.tape hs3.below.output hs3.below.size (fun k hk hf => hs3.below.block k hk (fun ⟨key, h1⟩ => ?_))
        rcases (hs1.ob h1).1 with ho | ho
        · exact hf (hr.free k ho)
        · exact hf (.inr (Nat.le_trans hr.keeps.size ho))
      have free4 : ∀ b, ownB lam4 b → w0.Free b := fun b ⟨key, h1⟩ => by
        rcases (hs4.ob h1).1 with ⟨key', h2⟩ | h2
        · rcases (hs1.ob h2).1 with ho | ho
          · exact hr.free b ho
          · exact .inr (Nat.le_trans hr.keeps.size ho)
        · have h3 : w2.heap.size ≤ b := h2
          have h4 : W.heap.size ≤ w1.heap.size := hs1.below.size
          exact .inr (Nat.le_trans hr.keeps.size (by omega))
      have free1 : ∀ b, ownB lam1 b → w0.Free b := fun b ⟨key', h2⟩ => by
        rcases (hs1.ob h2).1 with ho | ho
        · exact hr.free b ho
        · exact .inr (Nat.le_trans hr.keeps.size ho)
      have far4 : ∀ b, Base.Free ⟨w2, ownB lam1, []⟩ b → w0.Free b := fun b hb => by
        rcases hb with hb | hb
        · exact free1 b hb
        · have h3 : w2.heap.size ≤ b := hb
          have h4 : W.heap.size ≤ w1.heap.size := hs1.below.size
          exact .inr (Nat.le_trans hr.keeps.size (by omega))
      have ext4 : Ext w0 ro ro4 := by
        refine ⟨fun b hb => hext4.1 b (hext3.1 b (hext1.1 b (hr.ext.1 b hb))), fun b hb => ?_⟩
        rcases hext4.2 b hb with hb | hb
        · rcases hext3.2 b hb with hb | hb
          · rcases hext1.2 b hb with hb | hb
            · exact hr.ext.2 b hb
            · exact .inr (hb.elim (hr.free b) (fun h => .inr (Nat.le_trans hr.keeps.size h)))
          · exact .inr (far4 b hb)
        · exact .inr (far4 b hb)
      have env4 : ∀ t, R w3 ro4 lam4 (st.env t) (a.tmps.getD t Go.undef) := fun t => by
        have hold := hr.sim.env t
        cases hvt : isVp (st.env t) with
        | true =>
          have h4 := hs4.env t
          rw [hvp t hvt] at h4
          cases hcase : st.env t with
          | vptr b key off =>
            rw [hcase] at h4
            rw [show (⟨st.env, h⟩ : St).env t = st.env t from rfl, hcase] at hold
            obtain ⟨_, _, hx⟩ := hold.vptr_inv
            obtain ⟨m6, h6, _⟩ := h4.vptr_inv
            rw [hx]
            exact .vptr key off b m6 h6
          | _ => rw [hcase] at hvt; simp [isVp] at hvt
        | false =>
          have hpure : ownT (st.env t) = false := by
            have := hst t
            cases hcase : st.env t with
            | vptr b key off => rw [hcase] at hvt; simp [isVp] at hvt
            | _ => rw [hcase] at this; simpa [stays] using this
          have hp := hold.pureT hpure
          exact .pure _ _ (hp.mono (fun b hb => keepR b hb) (fun b hb => hext4.1 b (hext3.1 b (hext1.1 b hb))))
      have sim4 : Sim ⟨w3, ownB lam4, a.defers⟩ n ro4 lam4 ⟨st.env, s4.heap⟩ a w3 :=
        ⟨Base.Keeps.refl _ _ _, rfl, hr.sim.size, hs4.rolt, env4, hs4.heap, hs4.dead, fun key b mm h1 => ⟨.inl ⟨key, .inl ⟨mm, h1⟩⟩, (hs4.own key b mm h1).2⟩, hs4.inj, fun key b h1 => ⟨⟨.inl ⟨key, .inr h1⟩, (hs4.maps key b h1).1.2⟩, (hs4.maps key b h1).2⟩⟩
      have rj4 : RJ w0 n ro (w.heap.size + 1) w.heap.size st.env a s4.heap ro4 lam4 w3 :=
        ⟨keepW, free4, sim4, ext4, ⟨nr2 _ hlt hr.nl.1 hr.nl.2, no2 _ hlt hr.nl.2⟩, ⟨nr2 _ hDt hr.nD.1 hr.nD.2, no2 _ hDt hr.nD.2⟩, hD3⟩
      have hlt3 : w.heap.size + 1 < w3.heap.size := by omega
      have fin : ∀ jump : Option Code, (Instr.endRound (w.heap.size + 1) jump).run P w3 = .ok (.bool jump.isNone) (w3.putObj (w.heap.size + 1) (.loop (rec (if jump.isNone then .ready else .done) jump))) := fun jump => by
        have := run_endRound (P := P) jump hl3
        rw [hrec] at this ⊢
        exact this
      have kr : ∀ o, KR ro W (w3.putObj (w.heap.size + 1) o) := fun o => ⟨by simpa using h13, fun b hb => (World.putObj_heap_other (by rintro rfl; exact hr.nl.1 (hr.ext.1 _ hb))).trans (keepR b (hr.ext.1 b hb))⟩
      cases ex with
      | normal => exact ⟨_, _, fin none, .inl ⟨rfl, ⟨ro4, lam4, s4.heap, hq, rj4.put hne hlw _, World.putObj_heap_same hlt3⟩, kr _⟩⟩
      | ret => exact ⟨_, _, fin (some .ret), .inr ⟨rfl, .ret, ro4, lam4, s4.heap, hq, rj4.put hne hlw _, World.putObj_heap_same hlt3⟩⟩
      | exit id => exact ⟨_, _, fin (some (.exit id)), .inr ⟨rfl, .exit id, ro4, lam4, s4.heap, hq, rj4.put hne hlw _, World.putObj_heap_same hlt3⟩⟩
      | _ => exact hq.elim
    · rintro ex W2 ⟨⟨v, rfl⟩, ⟨ro', lam', h, hi, hr, hl⟩ | ⟨pre, c, ro', lam', h, hi, hr, hl⟩⟩
      · exact ⟨none, _, by have := run_endLoop (P := P) hl (by rw [hrec]; simp); rw [hrec] at this; exact this, hdone _ _ _ _ _ hi (hr.put hne hlw _) (Nat.le_refl _)⟩
      · exact ⟨some c, _, by have := run_endLoop (P := P) hl (by rw [hrec]; simp); rw [hrec] at this; exact this, hstop _ _ _ _ _ _ _ hi (hr.put hne hlw _) (Nat.le_refl _)⟩
end
end Go.Pv
namespace Go.Pv
open Go.RowKit
section
variable {P : Program} {n : Nat} {w0 : Base} {ro : Nat → Prop} {lam : Lam} {st : St} {a : Act} {w : World}
/-- A nil slice in a block becomes an empty one with a block of its own to come. -/
theorem Sim.nilCell (hs : Sim w0 n ro lam st a w) {key key' : Nat} {ty ty' : TypeId} (sz : Nat) (hkl : ∃ b m, lam key = some (some b, m)) (hk : st.heap key = some ⟨ty, [.nils]⟩) (hk' : st.heap key' = none) :
    Sim w0 n ro (upd lam key' (some (none, 0))) ⟨st.env, upd (upd st.heap key (some ⟨ty, [.sl key' 0 0 sz]⟩)) key' (some ⟨ty', []⟩)⟩ a w := by
  have hne : key ≠ key' := by rintro rfl; rw [hk] at hk'; cases hk'
  have hnone : lam key' = none := hs.dead _ hk'
  have hlam : ∀ k y, lam k = some y → upd lam key' (some (none, 0)) k = some y := fun k y h => by
    rw [upd_ne]; exact h
    rintro rfl; rw [hnone] at h; cases h
  have hm : ∀ {v x}, R w ro lam v x → R w ro (upd lam key' (some (none, 0))) v x := fun hr => hr.mono (fun _ _ => rfl) (fun _ h => h) hlam
  have hback : ∀ k b m, upd lam key' (some (none, 0)) k = some (some b, m) → lam k = some (some b, m) := fun k b m h => by
    by_cases e : k = key'
    · subst e; rw [upd_same] at h; cases h
    · rwa [upd_ne _ _ e] at h
  have hbackm : ∀ k b, upd lam key' (some (none, 0)) k = some (none, b + 1) → lam k = some (none, b + 1) := fun k b h => by
    by_cases e : k = key'
    · subst e; rw [upd_same] at h; cases h
    · rwa [upd_ne _ _ e] at h
  refine ⟨hs.below, hs.dfr, hs.size, hs.rolt, fun t => hm (hs.env t), fun k blk hkk => ?_, fun k hkk => ?_, fun k b m h => hs.own k b m (hback k b m h), fun k1 k2 b m1 m2 h1 h2 => hs.inj k1 k2 b m1 m2 (hback _ _ _ h1) (hback _ _ _ h2), fun k b h => ⟨(hs.maps k b (hbackm _ _ h)).1, fun k' h' => (hs.maps k b (hbackm _ _ h)).2 k' (hbackm _ _ h')⟩⟩
  · by_cases e : k = key'
    · subst e; simp only [upd_same, Option.some.injEq] at hkk; subst hkk; exact .inl ⟨upd_same _ _ _, rfl⟩
    · simp only [upd_ne _ _ e] at hkk
      by_cases e2 : k = key
      · subst e2
        simp only [upd_same, Option.some.injEq] at hkk; subst hkk
        rcases hs.heap k _ hk with ⟨hv, hc⟩ | ⟨b, o, hl, hw, hso⟩ | ⟨b, m, arr, hl, hw, h1, hle, hr⟩
        · cases hc
        · obtain ⟨b', m', hkl⟩ := hkl
          rw [hkl] at hl; cases hl
        · refine .inr <| .inr ⟨b, m, arr, hlam _ _ hl, hw, h1, hle, fun j c x hc hx => ?_⟩
          cases j with
          | zero =>
            simp at hc; subst hc
            have := (hr 0 _ x rfl hx).nils_inv
            subst this
            exact .slv key' sz (upd_same _ _ _)
          | succ j => simp at hc
      · simp only [upd_ne _ _ e2] at hkk
        rcases hs.heap k blk hkk with hv | ⟨b, o, hl, hw, hso⟩ | ⟨b, m, arr, hl, hw, h1, hle, hr⟩
        · exact .inl ⟨hlam _ _ hv.1, hv.2⟩
        · exact .inr (.inl ⟨b, o, hlam _ _ hl, hw, hso⟩)
        · exact .inr <| .inr ⟨b, m, arr, hlam _ _ hl, hw, h1, hle, fun j c x hc hx => hm (hr j c x hc hx)⟩
  · by_cases e : k = key'
    · subst e; simp only [upd_same] at hkk; cases hkk
    · simp only [upd_ne _ _ e] at hkk ⊢
      by_cases e2 : k = key
      · subst e2; simp only [upd_same] at hkk; cases hkk
      · simp only [upd_ne _ _ e2] at hkk; exact hs.dead k hkk
/-- The frame's temporaries, seen otherwise. -/
theorem Sim.env' (hs : Sim w0 n ro lam st a w) {e : Nat → V} (he : ∀ t, R w ro lam (e t) (a.tmps.getD t Go.undef)) : Sim w0 n ro lam ⟨e, st.heap⟩ a w :=
  ⟨hs.below, hs.dfr, hs.size, hs.rolt, he, hs.heap, hs.dead, hs.own, hs.inj, hs.maps⟩
/-- Results in memory of the call's own. -/
theorem fresh_res (hs : Sim w0 n ro lam st a w) {fn : Func} {us vs : List V} (h1 : resL P st fn.results.toList = some us) (h2 : lendAs st.heap us = some vs) (hf : frAs us vs = true) :
    ∃ rv, (results fn a.tmps).run P w = .ok rv w ∧ R0 w (ownP lam) (one vs) rv := by
  obtain ⟨zs, hz, hra⟩ := resL_sound hs _ us h1
  obtain ⟨hlen, _⟩ := lendAs_RA hs h2 hra
  have hat := frAs_at hs us vs h2 hf zs (by simpa using hra.1) (fun j c x hc hx => hra.2 j c x hc (by simpa using hx))
  refine ⟨_, results_run fn a.tmps w hz, ?_⟩
  by_cases hone : zs.length = 1
  · obtain ⟨x, rfl⟩ := List.length_eq_one_iff.1 hone
    obtain ⟨y, rfl⟩ := List.length_eq_one_iff.1 (hlen.trans hone)
    simp only [List.size_toArray, List.length_cons, List.length_nil, dite_true, one]
    exact hat 0 y x rfl rfl
  · have : one vs = .tup vs := by
      unfold one
      split
      · rename_i y; rw [← hlen] at hone; simp at hone
      · rfl
    rw [this, dif_neg (by simpa using hone)]
    exact .tup _ _ (by simpa using hlen.symm) fun j c x hc hx => hat j c x hc (by simpa using hx)
end
end Go.Pv
