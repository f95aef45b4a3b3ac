/-
  Reaching a source: the walk.
-/
import Derived.Test.YtcbddoopmkhlfaaSt31
import Derived.TacticsInMore
namespace Go.Proofs.Ytcbddoopmkhlfaa
open Go.Pv Go.RowKit
set_option linter.unusedSimpArgs false
set_option linter.unusedVariables false
set_option maxRecDepth 100000
set_option maxHeartbeats 2000000
attribute [-simp] Tclo_at Tgrp_at Tchk Tpchk TcI TcB Tclo Tgrp Tsid Tnod Tlook Tbnd TsidA

theorem eg_inE {Γ : Tab} (hΓ : TabOK Try.prog Γ) {n m : Nat} {ops : Array Oper} {Q : Exit → Act → World → Prop} {K : St → Prop} {rest : List Oper} {w0 : Base} : ∀ (l' : List Oper) (st : St) (ro : Nat → Prop) (lam : Lam) (a : Act) (w : World), l'.all (fun o => fits n o.dst) = true →
    egX Try.prog Γ ops l' K st → Sim w0 n ro lam st a w → (∀ st' a' ro' lam' w', K st' → Ext w0 ro ro' → Sim w0 n ro' lam' st' a' w' → wpListIn Fence.wide m Try.prog ops Q rest a' w') → wpListIn Fence.wide m Try.prog ops Q (l' ++ rest) a w
  | [], st, ro, lam, a, w, _, h, hs, hK => hK _ _ _ _ _ h (Ext.refl _ _) hs
  | o :: l', st, ro, lam, a, w, hf, h, hs, hK => by
    simp only [List.all_cons, Bool.and_eq_true] at hf
    show if Region.wanted o (yielded ops a.tmps) then o.wpIn Fence.wide m Try.prog a w (wpListIn Fence.wide m Try.prog ops Q (l' ++ rest)) Q else (∀ f, o.about Try.prog w a.eval = some f → Fence.wide.fn f) ∧ wpListIn Fence.wide m Try.prog ops Q (l' ++ rest) (a.put o.dst undef) w
    simp only [egX] at h
    cases hw : wantV ops st o.guard with
    | none => rw [hw] at h; exact h.elim
    | some b =>
      rw [hw] at h
      rw [wantV_sound hs hw]
      cases b with
      | true =>
        rw [if_pos rfl]
        exact oper_in (swX_sound hΓ hs hf.1 h fun st' a' ro' lam' w' k hx hs' => eg_inE hΓ l' st' ro' lam' a' w' hf.2 k hs' fun st2 a2 ro2 lam2 w2 k e hs2 => hK st2 a2 ro2 lam2 w2 k (hx.trans e) hs2)
      | false =>
        rw [if_neg (by simp)]
        exact ⟨fun _ _ => trivial, eg_inE hΓ l' _ ro lam _ w hf.2 h (hs.put hf.1 (.pure _ _ .undef)) hK⟩
theorem envL_or {e : Nat → V} : ∀ (L : List (Nat × V)), HasE e L → ∀ t, envL L t = e t ∨ envL L t = .junk
  | [], _, t => .inr rfl
  | (t', v) :: r, h, t => by
    simp only [envL]
    by_cases ht : t = t'
    · subst ht; rw [upd_same]; exact .inl h.1.symm
    · rw [upd_ne _ _ ht]; exact envL_or r h.2 t
theorem toL {n : Nat} {w0 : Base} {ro : Nat → Prop} {lam : Lam} {st : St} {a : Act} {w : World} (hs : Sim w0 n ro lam st a w) {L : List (Nat × V)} {bl : List (Nat × Blk)} (hE : HasE st.env L) (hH : HeapIs st.heap bl) : Sim w0 n ro lam ⟨envL L, blkOf bl⟩ a w := by
  have h1 := hs.env' (e := envL L) (fun t => by
    rcases envL_or L hE t with h | h
    · rw [h]; exact hs.env t
    · rw [h]; exact .pure _ _ (.junk _))
  rwa [hH.eq] at h1
theorem blk_ne {bl : List (Nat × Blk)} {k key : Nat} (h : blkOf bl k = none) (hk : (blkOf bl key).isSome = true) : k ≠ key := by
  rintro rfl; rw [h] at hk; cases hk
def Lr (b3 b5 b7 b8 b9 b10 : Nat) : List (Nat × V) := [(3, .vptr b3 3 0), (5, .vptr b5 5 0), (7, .vptr b7 7 0), (8, .vptr b8 8 0), (9, .vptr b9 9 0), (10, .vptr b10 10 0)]
def mainBl (v : Vu) (o : Option (List Nd)) (F : Value) (i : Nat) (Q : List Nd) : List (Nat × Blk) := (3, ⟨81, v.cs⟩) :: (9, ⟨123, [.val F]⟩) :: (10, ⟨3, [.int .i64 i]⟩) :: subBl o Q
theorem main_out {v : Vu} {o : Option (List Nd)} {F : Value} {i : Nat} {Q : List Nd} {k : Nat} (h : blkOf (mainBl v o F i Q) k = none) : k ≠ 3 ∧ k ≠ 9 ∧ k ≠ 10 ∧ k ≠ 5 ∧ k ≠ 7 ∧ k ≠ 13 ∧ k ≠ 8 ∧ k ≠ 17 :=
  ⟨blk_ne h rfl, blk_ne h rfl, blk_ne h rfl, blk_ne h rfl, blk_ne h rfl, blk_ne h rfl, blk_ne h rfl, blk_ne h rfl⟩
def fV (b7 b5 b8 : Nat) : Value := .func (.func 86) #[] #[.pointer (some ⟨b7, 0, none⟩), .pointer (some ⟨b5, 0, none⟩), .pointer (some ⟨b8, 0, none⟩)]
/-- One round of the loop over the edges: a node is visited. -/
theorem visit_in {v : Vu} {o : Option (List Nd)} {i : Nat} {Q : List Nd} {b3 b5 b7 b8 b9 b10 : Nat} {n : Nd} (hQ : Q.length ≤ 10000) {c2 : List V} (hc2 : c2.any ownC = false) {l m : Nat} {w0 : Base} {ro : Nat → Prop} {lam : Lam} {st : St} {a : Act} {w : World} {op : Oper} {t : Nat} {K : Act → World → Prop} {QQ : Exit → Act → World → Prop}
    (hs : Sim w0 56 ro lam st a w) (hE : HasE st.env (Lr b3 b5 b7 b8 b9 b10)) (hH : HeapIs st.heap ((12, ⟨58, c2⟩) :: mainBl v o (fV b7 b5 b8) i Q)) {tf tn : Nat}
    (hf : st.env tf = .val (fV b7 b5 b8)) (hn : st.env tn = .agg [.int .i64 n.1, .int .i64 n.2]) (ho : op.op = .call { callee := .value (.tmp tf), args := #[.tmp tn], argTypes := #[57] }) (hd : op.dst = some t) (ht : t < 56) (hL : ∀ p ∈ Lr b3 b5 b7 b8 b9 b10, p.1 ≠ t)
    (hK : ∀ a' w' s' ro' lam', Ext w0 ro ro' → Sim w0 56 ro' lam' s' a' w' → HasE s'.env (Lr b3 b5 b7 b8 b9 b10) → HeapIs s'.heap ((12, ⟨58, c2⟩) :: mainBl v o (fV b7 b5 b8) i (vis o Q n)) → K a' w') :
    op.wpIn (Fence.wide.inRound l) m Try.prog a w K QQ := by
  have hF : a.tmps.getD tf Go.undef = fV b7 b5 b8 := by have := hs.env tf; rw [hf] at this; exact getD_val this
  have hN : R w ro lam (.agg [.int .i64 n.1, .int .i64 n.2]) (a.tmps.getD tn Go.undef) := by have := hs.env tn; rwa [hn] at this
  have hs1 := toL hs hE hH
  have e7 : R w ro lam (.vptr b7 7 0) (a.tmps.getD 7 Go.undef) := hs1.env 7
  have e5 : R w ro lam (.vptr b5 5 0) (a.tmps.getD 5 Go.undef) := hs1.env 5
  have e8 : R w ro lam (.vptr b8 8 0) (a.tmps.getD 8 Go.undef) := hs1.env 8
  obtain ⟨m7, l7, _⟩ := e7.vptr_inv
  obtain ⟨m5, l5, _⟩ := e5.vptr_inv
  obtain ⟨m8, l8, _⟩ := e8.vptr_inv
  have hsub : ∀ k : Nat, (blkOf (subBl o Q) k).isSome = true → lamK (subBl o Q) lam k = lam k := fun k hk => by unfold lamK; rw [if_pos hk]
  have hHS := HS.keep hs1 (bl := subBl o Q) (by
    refine ⟨?_, ?_, ?_, ?_, ?_, trivial⟩ <;> rfl) (by cases o <;> simp [closedB, subBl, woV, ownC, inC, blkOf, nodK])
  refine oper_inR (by rw [ho]; rfl) (callv_wp (g := 86) (fs := #[]) (cs := #[.pointer (some ⟨b7, 0, none⟩), .pointer (some ⟨b5, 0, none⟩), .pointer (some ⟨b8, 0, none⟩)]) ho (by show a.tmps.getD tf Go.undef = _; rw [hF]; rfl) (by kernel_rfl) ?_)
  have hargs : (#[] ++ (#[Operand.tmp tn] : Array Operand).map a.eval ++ #[Value.pointer (some ⟨b7, 0, none⟩), .pointer (some ⟨b5, 0, none⟩), .pointer (some ⟨b8, 0, none⟩)] : Array Value) = #[a.tmps.getD tn Go.undef, .pointer (some ⟨b7, 0, none⟩), .pointer (some ⟨b5, 0, none⟩), .pointer (some ⟨b8, 0, none⟩)] := by
    simp [Act.eval]
  rw [hargs]
  refine (visit_ok o Q n b7 b5 b8 hQ hHS (args := _) rfl ?_).mono ?_
  · intro j c x hc hx
    match j with
    | 0 =>
      have hc' : some (V.agg [.int .i64 n.1, .int .i64 n.2]) = some c := hc
      have hx' : some (a.tmps.getD tn Go.undef) = some x := hx
      cases hc'; cases hx'
      exact .pure _ _ (hN.pureA rfl)
    | 1 => simp at hc hx; subst hc; subst hx; exact .vptr 7 0 b7 m7 (by rw [hsub 7 rfl]; exact l7)
    | 2 => simp at hc hx; subst hc; subst hx; exact .vptr 5 0 b5 m5 (by rw [hsub 5 rfl]; exact l5)
    | 3 => simp at hc hx; subst hc; subst hx; exact .vptr 8 0 b8 m8 (by rw [hsub 8 rfl]; exact l8)
    | j + 4 => simp at hc
  · rintro e W' ⟨rv, s', ro', lam', a', rfl, ⟨p7, p5, p8, pH⟩, hext, hs'⟩
    refine ⟨rv, rfl, ?_⟩
    have q7 : R W' ro' lam' (.vptr b7 7 0) (a'.tmps.getD 1 Go.undef) := by have := hs'.env 1; rwa [p7] at this
    have q5 : R W' ro' lam' (.vptr b5 5 0) (a'.tmps.getD 2 Go.undef) := by have := hs'.env 2; rwa [p5] at this
    have q8 : R W' ro' lam' (.vptr b8 8 0) (a'.tmps.getD 3 Go.undef) := by have := hs'.env 3; rwa [p8] at this
    obtain ⟨n7, k7, _⟩ := q7.vptr_inv
    obtain ⟨n5, k5, _⟩ := q5.vptr_inv
    obtain ⟨n8, k8, _⟩ := q8.vptr_inv
    have hdomEq : ∀ k, (blkOf (subBl o Q) k = none) → (blkOf (subBl o (vis o Q n)) k = none) := fun k h => by
      have k5 := blk_ne h (key := 5) rfl
      have k7 := blk_ne h (key := 7) rfl
      have k13 := blk_ne h (key := 13) rfl
      have k8 := blk_ne h (key := 8) rfl
      have k17 := blk_ne h (key := 17) rfl
      simp [subBl, blkOf, k5, k7, k13, k8, k17]
    have hJ := hs1.join (bl := subBl o Q) hs' hext (fun k hk => pH.2 k (hdomEq k hk)) (fun k blk hk hb => by
      by_cases k12 : k = 12
      · subst k12; cases hb; exact hc2
      · by_cases k3 : k = 3
        · subst k3; cases hb; rfl
        · by_cases k9 : k = 9
          · subst k9; cases hb; rfl
          · by_cases k10 : k = 10
            · subst k10; cases hb; rfl
            · exfalso
              have : blkOf ((12, (⟨58, c2⟩ : Blk)) :: mainBl v o (fV b7 b5 b8) i Q) k = blkOf (subBl o Q) k := by simp [blkOf, mainBl, k12, k3, k9, k10]
              have hb' : blkOf ((12, (⟨58, c2⟩ : Blk)) :: mainBl v o (fV b7 b5 b8) i Q) k = some blk := hb
              rw [this, hk] at hb'; cases hb') (fun t => by
      show ownT (envL (Lr b3 b5 b7 b8 b9 b10) t) = false ∨ _
      by_cases h3 : t = 3
      · subst h3; exact .inr ⟨b3, 3, 0, rfl, .inl rfl⟩
      · by_cases h5 : t = 5
        · subst h5; exact .inr ⟨b5, 5, 0, rfl, .inr ⟨_, k5⟩⟩
        · by_cases h7 : t = 7
          · subst h7; exact .inr ⟨b7, 7, 0, rfl, .inr ⟨_, k7⟩⟩
          · by_cases h8 : t = 8
            · subst h8; exact .inr ⟨b8, 8, 0, rfl, .inr ⟨_, k8⟩⟩
            · by_cases h9 : t = 9
              · subst h9; exact .inr ⟨b9, 9, 0, rfl, .inl rfl⟩
              · by_cases h10 : t = 10
                · subst h10; exact .inr ⟨b10, 10, 0, rfl, .inl rfl⟩
                · left; simp [Lr, envL, upd, h3, h5, h7, h8, h9, h10, ownT, ownA, ownC])
    refine hK _ _ _ _ _ (Ext.sub hs1 hext) (hJ.put (d := op.dst) (v := .junk) (by rw [hd]; simpa [fits] using ht) (.pure _ _ (.junk rv))) ?_ ?_
    · rw [hd]
      have hne := hL
      simp only [Lr, List.mem_cons, List.not_mem_nil, or_false, forall_eq_or_imp, forall_eq] at hne
      obtain ⟨n3, n5', n7', n8', n9, n10⟩ := hne
      simp [HasE, Lr, St.put, envL, upd, n3, n5', n7', n8', n9, n10]
    · rw [hd]
      show HeapIs (heapJ (subBl o Q) (blkOf ((12, ⟨58, c2⟩) :: mainBl v o (fV b7 b5 b8) i Q)) s'.heap) _
      rw [pH.eq]
      refine ⟨⟨rfl, rfl, rfl, rfl, rfl, rfl, rfl, rfl, rfl, trivial⟩, fun k hk => ?_⟩
      have k12 : k ≠ 12 := blk_ne hk rfl
      have k3 : k ≠ 3 := blk_ne hk rfl
      have k9 : k ≠ 9 := blk_ne hk rfl
      have k10 : k ≠ 10 := blk_ne hk rfl
      have k5 : k ≠ 5 := blk_ne hk rfl
      have k7 : k ≠ 7 := blk_ne hk rfl
      have k13 : k ≠ 13 := blk_ne hk rfl
      have k8 : k ≠ 8 := blk_ne hk rfl
      have k17 : k ≠ 17 := blk_ne hk rfl
      simp [heapJ, subBl, blkOf, mainBl, k12, k3, k9, k10, k5, k7, k13, k8, k17]
end Go.Proofs.Ytcbddoopmkhlfaa
