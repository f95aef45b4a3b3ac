/-
  Part 21: loops over iterators inside loops (many marks), calls that write a part of the caller's memory.
-/
import Derived.Test.YtcbddoopmkhlfaaPv20
import Derived.RangeFuncLeaves
namespace Go.Pv
open Go.RowKit
set_option linter.unusedSimpArgs false
set_option linter.unusedVariables false

/-! ### leaving with many marks -/
def marks (Ds : List Nat) : List Deferred := Ds.map fun D => { target := .collected D, args := #[] }
def shut : List Nat → World → World
  | [], w => w
  | D :: Ds, w => shut Ds (w.putObj D (.deferred none))
theorem shut_other : ∀ (Ds : List Nat) (w : World) (k : Nat), k ∉ Ds → (shut Ds w).heap[k]? = w.heap[k]?
  | [], w, k, _ => rfl
  | D :: Ds, w, k, h => by
    simp only [List.mem_cons, not_or] at h
    rw [shut, shut_other Ds _ k h.2]
    exact World.putObj_heap_other h.1
theorem shut_size : ∀ (Ds : List Nat) (w : World), (shut Ds w).heap.size = w.heap.size
  | [], w => rfl
  | D :: Ds, w => by rw [shut, shut_size Ds]; simp
theorem shut_os : ∀ (Ds : List Nat) (w : World), (shut Ds w).os = w.os ∧ (shut Ds w).tape = w.tape ∧ (shut Ds w).output = w.output
  | [], w => ⟨rfl, rfl, rfl⟩
  | D :: Ds, w => shut_os Ds (w.putObj D (.deferred none))
theorem leaves_marks {P : Program} {m : Nat} {fn : Func} {tmps : Array Value} {R : Ending → World → Prop} : ∀ (Ds : List Nat) (w : World), Ds.Nodup → (∀ D ∈ Ds, w.heap[D]? = some (.deferred (some []))) →
    (∃ rv, (results fn tmps).run P (shut Ds w) = .ok rv (shut Ds w) ∧ R (.returned rv) (shut Ds w)) → LeavesInM Fence.wide m P fn tmps R (marks Ds) .returning w
  | [], w, _, _, ⟨rv, h1, h2⟩ => ⟨rv, h1, h2⟩
  | D :: Ds, w, hn, hD, h => by
    simp only [List.nodup_cons] at hn
    refine ⟨by simp, .inl ⟨D, _, rfl, run_takeDeferred (hD D (by simp)), leaves_marks Ds _ hn.2 (fun D' hD' => ?_) h⟩⟩
    rw [World.putObj_heap_other (by rintro rfl; exact hn.1 hD')]
    exact hD D' (by simp [hD'])
section
variable {P : Program} {n : Nat} {w0 : Base} {ro : Nat → Prop} {lam : Lam} {st : St} {a : Act} {w W : World} {h : Nat → Option Blk}
/-! ### a call that has no result and writes the caller's memory -/
def FinN (n : Nat) (post : St → Prop) (e : Exit) (st : St) : Prop := (e = .normal ∨ e = .ret) ∧ Vw n post st
theorem finN_r {post : St → Prop} : FinN n post .ret st ↔ Vw n post st := ⟨fun h => h.2, fun h => ⟨.inr rfl, h⟩⟩
theorem finN_n {post : St → Prop} : FinN n post .normal st ↔ Vw n post st := ⟨fun h => h.2, fun h => ⟨.inl rfl, h⟩⟩
attribute [simp] finN_r finN_n
theorem effN_cx {Γ : Tab} (hΓ : TabOK P Γ) (hm : P.follows .mixedOrders = true) (D : Nat → Option Ann) {f : FuncId} {fn : Func} {c : Code} {vs : List V} {post : St → Prop} (hf : P.funcs[f]? = some fn) (hb : fn.body = some c) (hn : fn.ntmps = n) (hrs : fn.results = #[])
    (hvs : vs.length ≤ n) (ok : okC n D c = true) (hc : cx P Γ n D c (FinN n post) ⟨ini 0 vs, h⟩) (hs : HS W ro lam h) {args : Array Value} (hsz : args.size = vs.length) (hr : ∀ (j : Nat) (c : V) (x : Value), vs[j]? = some c → args[j]? = some x → R W ro lam c x) :
    Calls P f args W fun e W' => ∃ rv s' ro' lam' a', e = .returned rv ∧ post s' ∧ Ext ⟨W, ownB lam, []⟩ ro ro' ∧ Sim ⟨W, ownB lam, []⟩ n ro' lam' s' a' W' := by
  subst hn
  refine calls_of_wp hf hb ?_
  refine wp_mono (CW.of_cx hΓ hm c _ _ ok hc ⟨W, ownB lam, []⟩ ro lam _ W (hs.sim hsz hvs hr)) fun e a' w' hh => ?_
  obtain ⟨st', ro1, lam1, ⟨he, s', hv, hp⟩, hext, hs'⟩ := hh
  obtain ⟨ro2, lam2, he2, hs2⟩ := hv _ _ _ _ _ hs'
  have hfin : a'.defers = [] ∧ ∃ v', (results fn a'.tmps).run P w' = .ok v' w' ∧ (fun e W' => ∃ rv s' ro' lam' a', e = Ending.returned rv ∧ post s' ∧ Ext ⟨W, ownB lam, []⟩ ro ro' ∧ Sim ⟨W, ownB lam, []⟩ fn.ntmps ro' lam' s' a' W') (.returned v') w' :=
    ⟨hs'.dfr, _, results_none hrs _ _ _, _, s', ro2, lam2, a', rfl, hp, hext.trans he2, hs2⟩
  rcases he with rfl | rfl
  · exact hfin
  · exact hfin
/-! ### a part of the heap has turned -/
def lamJ (bl : List (Nat × Blk)) (lam lam' : Lam) : Lam := fun k => if (blkOf bl k).isSome = true then lam' k else lam k
def heapJ (bl : List (Nat × Blk)) (h h' : Nat → Option Blk) : Nat → Option Blk := fun k => if (blkOf bl k).isSome = true then h' k else h k
theorem Sim.join {n' : Nat} {bl : List (Nat × Blk)} {ro' : Nat → Prop} {lam' : Lam} {s' : St} {a' : Act} {w' : World} (hs : Sim w0 n ro lam st a w) (hsub : Sim ⟨w, ownB (lamK bl lam), []⟩ n' ro' lam' s' a' w') (hext : Ext ⟨w, ownB (lamK bl lam), []⟩ ro ro')
    (hdom : ∀ k, blkOf bl k = none → s'.heap k = none) (hpure : ∀ k blk, blkOf bl k = none → st.heap k = some blk → blk.cells.any ownC = false)
    (he : ∀ t, ownT (st.env t) = false ∨ ∃ b key off, st.env t = .vptr b key off ∧ (blkOf bl key = none ∨ ∃ m, lam' key = some (some b, m))) :
    Sim w0 n ro' (lamJ bl lam lam') ⟨st.env, heapJ bl st.heap s'.heap⟩ a w' := by
  have hK : ∀ k b, lamB (lamK bl lam) k b → lamB lam k b ∧ (blkOf bl k).isSome = true := fun k b hb => by
    unfold lamB lamK at hb
    unfold lamB
    by_cases hk : (blkOf bl k).isSome = true
    · simp only [if_pos hk] at hb; exact ⟨hb, hk⟩
    · simp only [if_neg hk] at hb; rcases hb with ⟨_, hb⟩ | hb <;> cases hb
  have hKi : ∀ k b, lamB lam k b → (blkOf bl k).isSome = true → lamB (lamK bl lam) k b := fun k b hb hk => by
    unfold lamB lamK; unfold lamB at hb; simp only [if_pos hk]; exact hb
  -- a block that is own under two keys
  have one : ∀ k1 k2 b, lamB lam k1 b → lamB lam k2 b → k1 = k2 := fun k1 k2 b h1 h2 => by
    rcases h1 with ⟨m1, h1⟩ | h1
    · rcases h2 with ⟨m2, h2⟩ | h2
      · exact hs.inj _ _ _ _ _ h1 h2
      · cases hk2 : st.heap k2 with
        | none => rw [hs.dead k2 hk2] at h2; cases h2
        | some blk2 =>
          rcases hs.heap k2 blk2 hk2 with ⟨hv, _⟩ | ⟨b', o, hv, hw, hso⟩ | ⟨b', m', arr, hv, _⟩
          · rw [h2] at hv; cases hv
          · rw [h2] at hv
            simp only [Option.some.injEq, Prod.mk.injEq, true_and] at hv
            have : b' = b := by omega
            subst this
            exact (hs.notMap h1 hw hso).elim
          · rw [h2] at hv; cases hv
    · rcases h2 with ⟨m2, h2⟩ | h2
      · cases hk1 : st.heap k1 with
        | none => rw [hs.dead k1 hk1] at h1; cases h1
        | some blk1 =>
          rcases hs.heap k1 blk1 hk1 with ⟨hv, _⟩ | ⟨b', o, hv, hw, hso⟩ | ⟨b', m', arr, hv, _⟩
          · rw [h1] at hv; cases hv
          · rw [h1] at hv
            simp only [Option.some.injEq, Prod.mk.injEq, true_and] at hv
            have : b' = b := by omega
            subst this
            exact (hs.notMap h2 hw hso).elim
          · rw [h1] at hv; cases hv
      · exact ((hs.maps k2 b h2).2 k1 h1)
  have off : ∀ k b, lamB lam k b → blkOf bl k = none → ¬ ownB (lamK bl lam) b := fun k b hb hk ⟨k2, h2⟩ => by
    obtain ⟨h3, h4⟩ := hK k2 b h2
    have := one _ _ _ hb h3
    subst this; rw [hk] at h4; cases h4
  have hroK : ∀ b, ro b → ¬ ownB (lamK bl lam) b := fun b hb ⟨k, hk⟩ => (hs.ob (hK k b hk).1).2.2 hb
  have keep : ∀ b, b < w.heap.size → ¬ ownB (lamK bl lam) b → w'.heap[b]? = w.heap[b]? := fun b hb hn => hsub.below.block b hb hn
  have hro2 : ∀ b, ro b → w'.heap[b]? = w.heap[b]? := fun b hb => keep b (hs.rolt b hb) (hroK b hb)
  have mono0 : ∀ {v x}, R0 w ro v x → R0 w' ro' v x := fun hr => hr.mono hro2 hext.1
  have hszw : w.heap.size ≤ w'.heap.size := hsub.below.size
  have inJ : ∀ k, (blkOf bl k).isSome = true → lamJ bl lam lam' k = lam' k := fun k hk => by unfold lamJ; rw [if_pos hk]
  have outJ : ∀ k, blkOf bl k = none → lamJ bl lam lam' k = lam k := fun k hk => by unfold lamJ; rw [if_neg (by rw [hk]; simp)]
  have subJ : ∀ k y, lam' k = some y → lamJ bl lam lam' k = some y := fun k y hk => by
    cases hb : blkOf bl k with
    | none => rw [hsub.dead k (hdom k hb)] at hk; cases hk
    | some x => rw [inJ k (by rw [hb]; rfl)]; exact hk
  have both : ∀ k b, lamB (lamJ bl lam lam') k b → (lamB lam' k b ∧ (blkOf bl k).isSome = true) ∨ (lamB lam k b ∧ blkOf bl k = none) := fun k b hb => by
    cases hk : blkOf bl k with
    | none => unfold lamB at hb; rw [outJ k hk] at hb; exact .inr ⟨hb, rfl⟩
    | some x => unfold lamB at hb; rw [inJ k (by rw [hk]; rfl)] at hb; exact .inl ⟨hb, rfl⟩
  have far : ∀ k b, lamB lam' k b → ownB (lamK bl lam) b ∨ w.heap.size ≤ b := fun k b hb => (hsub.ob hb).1
  have ob : ∀ k b, lamB (lamJ bl lam lam') k b → w0.Free b ∧ b < w'.heap.size ∧ ¬ ro' b := fun k b hb => by
    rcases both k b hb with ⟨h1, _⟩ | ⟨h1, h2⟩
    · refine ⟨?_, (hsub.ob h1).2⟩
      rcases far k b h1 with ⟨k2, h3⟩ | h3
      · exact (hs.ob (hK k2 b h3).1).1
      · exact .inr (Nat.le_trans hs.below.size h3)
    · obtain ⟨o1, o2, o3⟩ := hs.ob h1
      refine ⟨o1, Nat.lt_of_lt_of_le o2 hszw, fun hr => ?_⟩
      rcases hext.2 b hr with hr | hr
      · exact o3 hr
      · rcases hr with hr | hr
        · exact off k b h1 h2 hr
        · exact Nat.lt_irrefl _ (Nat.lt_of_lt_of_le o2 hr)
  have inj : ∀ k1 k2 b, lamB (lamJ bl lam lam') k1 b → lamB (lamJ bl lam lam') k2 b → k1 = k2 ∨ (lamB lam' k1 b ∧ lamB lam' k2 b) := fun k1 k2 b h1 h2 => by
    have cross : ∀ k1 k2, lamB lam' k1 b → lamB lam k2 b → blkOf bl k2 = none → False := fun k1 k2 h1 h2 h3 => by
      rcases far k1 b h1 with hf | hf
      · exact off k2 b h2 h3 hf
      · exact Nat.lt_irrefl _ (Nat.lt_of_lt_of_le (hs.ob h2).2.1 hf)
    rcases both k1 b h1 with ⟨e1, _⟩ | ⟨e1, n1⟩
    · rcases both k2 b h2 with ⟨e2, _⟩ | ⟨e2, n2⟩
      · exact .inr ⟨e1, e2⟩
      · exact (cross k1 k2 e1 e2 n2).elim
    · rcases both k2 b h2 with ⟨e2, _⟩ | ⟨e2, n2⟩
      · exact (cross k2 k1 e2 e1 n1).elim
      · exact .inl (one _ _ _ e1 e2)
  refine ⟨hs.below.but hsub.below.os hsub.below.tape hsub.below.output hszw (fun k hk hf => keep k hk (fun ⟨k2, h2⟩ => hf (hs.ob (hK k2 k h2).1).1)), hs.dfr, hs.size, hsub.rolt, fun t => ?_, fun key blk hk => ?_, fun key hk => ?_, fun key b m hl => ob key b (.inl ⟨m, hl⟩), fun k1 k2 b m1 m2 h1 h2 => ?_, fun key b hl => ⟨ob key b (.inr hl), fun key' hl' => ?_⟩⟩
  · show R w' ro' _ (st.env t) _
    have h0 := hs.env t
    rcases he t with hp | ⟨b, key, o, e1, e2⟩
    · exact .pure _ _ (mono0 (h0.pureT hp))
    · rw [e1] at h0 ⊢
      obtain ⟨m, hm, hx⟩ := h0.vptr_inv
      rw [hx]
      rcases e2 with e2 | ⟨m', e2⟩
      · exact .vptr key o b m (by rw [outJ key e2]; exact hm)
      · exact .vptr key o b m' (subJ key _ e2)
  · have hk : heapJ bl st.heap s'.heap key = some blk := hk
    unfold heapJ at hk
    by_cases hb : (blkOf bl key).isSome = true
    · rw [if_pos hb] at hk
      rcases hsub.heap key blk hk with ⟨hv, hc⟩ | ⟨b, o, hl, hw, hso⟩ | ⟨b, m, arr, hl, hw, h1, hle, hr⟩
      · exact .inl ⟨by rw [inJ key hb]; exact hv, hc⟩
      · exact .inr (.inl ⟨b, o, by rw [inJ key hb]; exact hl, hw, hso⟩)
      · exact .inr (.inr ⟨b, m, arr, by rw [inJ key hb]; exact hl, hw, h1, hle, fun j c x hc hx => (hr j c x hc hx).mono (fun _ _ => rfl) (fun _ h => h) subJ⟩)
    · have hbn : blkOf bl key = none := by
        cases hbb : blkOf bl key with
        | none => rfl
        | some x => rw [hbb] at hb; exact (hb rfl).elim
      rw [if_neg hb] at hk
      rcases hs.heap key blk hk with ⟨hv, hc⟩ | ⟨b, o, hl, hw, hso⟩ | ⟨b, m, arr, hl, hw, h1, hle, hr⟩
      · exact .inl ⟨by rw [outJ key hbn]; exact hv, hc⟩
      · refine .inr (.inl ⟨b, o, by rw [outJ key hbn]; exact hl, ?_, hso⟩)
        rw [keep b (hs.ob (.inr hl)).2.1 (off key b (.inr hl) hbn)]; exact hw
      · refine .inr (.inr ⟨b, m, arr, by rw [outJ key hbn]; exact hl, ?_, h1, hle, fun j c x hc hx => ?_⟩)
        · rw [keep b (hs.ob (.inl ⟨m, hl⟩)).2.1 (off key b (.inl ⟨m, hl⟩) hbn)]; exact hw
        · exact .pure _ _ (mono0 ((hr j c x hc hx).pureC (any_at (hpure key blk hbn hk) hc)))
  · have hk : heapJ bl st.heap s'.heap key = none := hk
    unfold heapJ at hk
    by_cases hb : (blkOf bl key).isSome = true
    · rw [if_pos hb] at hk; rw [inJ key hb]; exact hsub.dead key hk
    · have hbn : blkOf bl key = none := by
        cases hbb : blkOf bl key with
        | none => rfl
        | some x => rw [hbb] at hb; exact (hb rfl).elim
      rw [if_neg hb] at hk; rw [outJ key hbn]; exact hs.dead key hk
  · rcases inj k1 k2 b (.inl ⟨m1, h1⟩) (.inl ⟨m2, h2⟩) with e | ⟨e1, e2⟩
    · exact e
    · have hb1 : (blkOf bl k1).isSome = true := by
        cases hb : blkOf bl k1 with
        | none => have := hsub.dead k1 (hdom k1 hb); rcases e1 with ⟨_, e1⟩ | e1 <;> (rw [this] at e1; cases e1)
        | some _ => rfl
      have hb2 : (blkOf bl k2).isSome = true := by
        cases hb : blkOf bl k2 with
        | none => have := hsub.dead k2 (hdom k2 hb); rcases e2 with ⟨_, e2⟩ | e2 <;> (rw [this] at e2; cases e2)
        | some _ => rfl
      rw [inJ k1 hb1] at h1
      rw [inJ k2 hb2] at h2
      exact hsub.inj _ _ _ _ _ h1 h2
  · rcases inj key' key b (.inr hl') (.inr hl) with e | ⟨e1, e2⟩
    · exact e
    · have hb1 : (blkOf bl key').isSome = true := by
        cases hb : blkOf bl key' with
        | none => have := hsub.dead key' (hdom key' hb); rcases e1 with ⟨_, e1⟩ | e1 <;> (rw [this] at e1; cases e1)
        | some _ => rfl
      have hb2 : (blkOf bl key).isSome = true := by
        cases hb : blkOf bl key with
        | none => have := hsub.dead key (hdom key hb); rcases e2 with ⟨_, e2⟩ | e2 <;> (rw [this] at e2; cases e2)
        | some _ => rfl
      rw [inJ key' hb1] at hl'
      rw [inJ key hb2] at hl
      exact (hsub.maps key b hl).2 key' hl'
end
end Go.Pv
