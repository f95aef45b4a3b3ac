/-
  Zones that are fed: the walk.
-/
import Derived.Test.YtcbddoopmkhlfaaSt34
import Derived.OrdersIn
namespace Go.Proofs.Ytcbddoopmkhlfaa
open Go.Pv Go.RowKit
set_option linter.unusedSimpArgs false
set_option linter.unusedVariables false
set_option maxRecDepth 100000
set_option maxHeartbeats 4000000
attribute [-simp] Tclo_at Tgrp_at Tchk Tpchk TcI TcB Tclo Tgrp Tsid Tnod Tlook Tbnd TsidA Tre

/-! ### a region of a round that draws its order -/
theorem wp_weak {o : Oper} {a : Act} {w : World} {K : Act → World → Prop} {Q : Exit → Act → World → Prop} (h : o.wp Try.prog a w K (fun _ _ _ => False)) : o.wp Try.prog a w K Q := by
  unfold Oper.wp at *
  cases hr : (execOp a.eval o).run Try.prog w with
  | ok nx w' =>
    rw [hr] at h
    cases nx <;> simp only [Oper.upon] at h ⊢ <;>
      first
        | exact h
        | exact h.mono (fun e w'' he => by cases e <;> first | exact he | (obtain ⟨_, _, hf⟩ := he; exact hf.elim) | exact False.elim he)
        | exact h.mono (fun _ _ he => he)
  | halt ht w' =>
    rw [hr] at h
    cases ht <;> simp only [Oper.upon] at h ⊢ <;> first | exact h | exact h.elim
theorem wpAnyR_of_cAny {Γ : Tab} (hΓ : TabOK Try.prog Γ) {n m l : Nat} {w0 : Base} {ops : Array Oper} {K : St → Prop} {Q : Exit → Act → World → Prop} {ro0 : Nat → Prop} (hd : ops.toList.all (fun o => notDefer o.op) = true) (hQ : ∀ a' ro' lam' w' st', Ext w0 ro0 ro' → Sim w0 n ro' lam' st' a' w' → K st' → Q .normal a' w') :
    ∀ (fuel : Nat) (listed : Array Bool) (st : St) (ro : Nat → Prop) (lam : Lam) (a : Act) (w : World), Ext w0 ro0 ro → Sim w0 n ro lam st a w → cAny Try.prog Γ n ops K fuel listed st → wpAnyIn (Fence.wide.inRound l) m Try.prog .any ops Q fuel listed a w
  | 0, listed, st, ro, lam, a, w, hext, hs, h => ⟨h.1, hQ _ _ _ _ _ hext hs h.2⟩
  | fuel + 1, listed, st, ro, lam, a, w, hext, hs, h => by
    refine ⟨fun h0 => hQ _ _ _ _ _ hext hs (h.1 h0), fun i hi => ?_⟩
    have h1 := h.2 i hi
    unfold cOp at h1
    unfold wpOpIn
    split
    · rename_i ho
      simp only [ho] at h1
      exact wpAnyR_of_cAny hΓ hd hQ fuel _ st ro lam a w hext hs h1
    · rename_i o ho
      simp only [ho] at h1
      obtain ⟨st', h2, h3⟩ := h1
      have hnd : notDefer o.op = true := List.all_eq_true.1 hd o (List.mem_of_getElem? (i := i) (by simpa using ho))
      have hst := stepO_sound (Q := fun _ _ _ => False) (K := wpAnyIn (Fence.wide.inRound l) m Try.prog .any ops Q fuel (listed.setIfInBounds i true)) hΓ hs h2 fun a' ro' lam' w' hext' hs' => wpAnyR_of_cAny hΓ hd hQ fuel _ st' ro' lam' a' w' (hext.trans hext') hs' h3
      by_cases hw : Region.wanted o (yielded ops a.tmps) = true
      · rw [if_pos hw] at hst ⊢
        rcases hst with hst | ⟨_, _, _, hst⟩
        · exact oper_inR hnd (wp_weak hst)
        · exact hst.elim
      · rw [if_neg hw] at hst ⊢
        exact ⟨fun _ _ => trivial, hst⟩
theorem cwr_draw {Γ : Tab} (hΓ : TabOK Try.prog Γ) {n id : Nat} {ops : List Oper} {Q : Exit → St → Prop} {st : St} (hd : ops.all (fun o => notDefer o.op) = true) (hB : drawB ops.toArray = true) (h : ew Try.prog Γ n ops.toArray ops (Q .normal) st) : CWR Try.prog n (.region id ops.toArray true) Q st := by
  obtain ⟨st', h1, h2⟩ := h
  intro l m w0 ro lam a w hs
  have hs' : Sim w0 n ro lam st a { w with drawn := w.drawn + 1 } := hs.world ((Below.refl _ _).drew)
  refine wpIn_region_any mixed (wpAnyR_of_cAny hΓ (K := fun s => s = st') (by simpa using hd) (fun a' ro' lam' w' s hext hs hk => by subst hk; exact ⟨s, ro', lam', h2, hext, hs⟩) _ _ st ro lam a _ (Ext.refl _ _) hs' ?_)
  have := cAny_lex (P := Try.prog) (Γ := Γ) (n := n) (K := fun s => s = st') ops 0 (Array.replicate ops.toArray.size false) st st' (by simp) (fun j oj hj hl => by rw [Array.getD_eq_getD_getElem?, Array.getElem?_replicate] at hl; split at hl <;> cases hl) (by simpa [drawB] using hB) h1 rfl
  simpa using this
end Go.Proofs.Ytcbddoopmkhlfaa
