/-
  Views: the closure that visits a node; the iterator's making; loops over iterators inside loops.
-/
import Derived.Test.YtcbddoopmkhlfaaSt29
namespace Go.Proofs.Ytcbddoopmkhlfaa
open Go.Pv Go.RowKit
set_option linter.unusedSimpArgs false
set_option linter.unusedVariables false
set_option maxRecDepth 100000
set_option maxHeartbeats 2000000
attribute [-simp] Tclo_at Tgrp_at Tchk Tpchk TcI TcB Tclo Tgrp Tsid Tnod Tlook Tbnd TsidA

theorem td84 : td Try.prog 84 = some { size := 1, bytes := 8, agg := false, strct := false, zero := some [.junk], fields := [], arr := none, slc := none, int := none, isBool := false, isStr := false, eqg := false } := by kernel_rfl
theorem mtd84 : mtd Try.prog 84 = false := by kernel_rfl
theorem mtdN84 : mtdN Try.prog 84 = true := by kernel_rfl
theorem td123 : td Try.prog 123 = some { size := 1, bytes := 8, agg := false, strct := false, zero := some [.junk], fields := [], arr := none, slc := none, int := none, isBool := false, isStr := false, eqg := false } := by kernel_rfl
attribute [simp] td84 mtd84 mtdN84 td123
/-! ### generic -/
theorem eg_inR {Γ : Tab} (hΓ : TabOK Try.prog Γ) {n m l : Nat} {ops : Array Oper} {Q : Exit → Act → World → Prop} {K : St → Prop} {rest : List Oper} {w0 : Base} : ∀ (l' : List Oper) (st : St) (ro : Nat → Prop) (lam : Lam) (a : Act) (w : World), l'.all (fun o => fits n o.dst && notDefer o.op) = true →
    egX Try.prog Γ ops l' K st → Sim w0 n ro lam st a w → (∀ st' a' ro' lam' w', K st' → Ext w0 ro ro' → Sim w0 n ro' lam' st' a' w' → wpListIn (Fence.wide.inRound l) m Try.prog ops Q rest a' w') → wpListIn (Fence.wide.inRound l) m Try.prog ops Q (l' ++ rest) a w
  | [], st, ro, lam, a, w, _, h, hs, hK => hK _ _ _ _ _ h (Ext.refl _ _) hs
  | o :: l', st, ro, lam, a, w, hf, h, hs, hK => by
    simp only [List.all_cons, Bool.and_eq_true] at hf
    show if Region.wanted o (yielded ops a.tmps) then o.wpIn (Fence.wide.inRound l) m Try.prog a w (wpListIn (Fence.wide.inRound l) m Try.prog ops Q (l' ++ rest)) Q else (∀ f, o.about Try.prog w a.eval = some f → (Fence.wide.inRound l).fn f) ∧ wpListIn (Fence.wide.inRound l) m Try.prog ops Q (l' ++ rest) (a.put o.dst undef) w
    have hf2 : l'.all (fun o => fits n o.dst && notDefer o.op) = true := by simpa using hf.2
    simp only [egX] at h
    cases hw : wantV ops st o.guard with
    | none => rw [hw] at h; exact h.elim
    | some b =>
      rw [hw] at h
      rw [wantV_sound hs hw]
      cases b with
      | true =>
        rw [if_pos rfl]
        exact oper_inR hf.1.2 (swX_sound hΓ hs hf.1.1 h fun st' a' ro' lam' w' k hx hs' => eg_inR hΓ l' st' ro' lam' a' w' hf2 k hs' fun st2 a2 ro2 lam2 w2 k e hs2 => hK st2 a2 ro2 lam2 w2 k (hx.trans e) hs2)
      | false =>
        rw [if_neg (by simp)]
        exact ⟨fun _ _ => trivial, eg_inR hΓ l' _ ro lam _ w hf2 h (hs.put hf.1.1 (.pure _ _ .undef)) hK⟩
section
variable {n : Nat} {w0 : Base} {ro ro' : Nat → Prop} {lam lam' : Lam} {st st' : St} {a a' : Act} {w w' : World}
theorem Ext.sub {bl : List (Nat × Blk)} (hs : Sim w0 n ro lam st a w) (h : Ext ⟨w, ownB (lamK bl lam), []⟩ ro ro') : Ext w0 ro ro' :=
  ⟨h.1, fun b hb => (h.2 b hb).imp id (fun h => h.elim (fun ⟨k, hk⟩ => by
    unfold lamB lamK at hk
    by_cases hb : (blkOf bl k).isSome = true
    · simp only [if_pos hb] at hk; exact (hs.ob hk).1
    · simp only [if_neg hb] at hk; rcases hk with ⟨_, hk⟩ | hk <;> cases hk) (fun h => .inr (Nat.le_trans hs.below.size h)))⟩
/-- The heap is just that. -/
def HeapIs (h : Nat → Option Blk) (bl : List (Nat × Blk)) : Prop := KeepBl h bl ∧ ∀ k, blkOf bl k = none → h k = none
theorem HeapIs.eq {h : Nat → Option Blk} {bl : List (Nat × Blk)} (hh : HeapIs h bl) : h = blkOf bl := by
  funext k
  cases hb : blkOf bl k with
  | none => exact hh.2 k hb
  | some b => exact keepBl_at bl k b hh.1 hb
/-- What the function's start and the marks ask for. -/
structure MK (W0 : World) (ro0 : Nat → Prop) (Ds : List Nat) (ro : Nat → Prop) (lam : Lam) (a : Act) (w : World) : Prop where
  dfs : a.defers = marks Ds
  nd : Ds.Nodup
  at' : ∀ D ∈ Ds, w.heap[D]? = some (.deferred (some [])) ∧ ¬ ro D ∧ ¬ ownB lam D ∧ W0.heap.size ≤ D
  kept : Below W0.heap.size W0 w
  own : ∀ b, ownB lam b → W0.heap.size ≤ b
  up : ∀ b, ro0 b → ro b
  dn : ∀ b, ro b → ro0 b ∨ W0.heap.size ≤ b
theorem MK.move {W0 : World} {ro0 : Nat → Prop} {Ds : List Nat} (hm : MK W0 ro0 Ds ro lam a w) (hd : a'.defers = a.defers) (hk : Base.Keeps ⟨w, ownB lam, a.defers⟩ w') (hx : Ext ⟨w, ownB lam, a.defers⟩ ro ro') (ho : ∀ b, ownB lam' b → ownB lam b ∨ w.heap.size ≤ b) : MK W0 ro0 Ds ro' lam' a' w' := by
  refine ⟨hd.trans hm.dfs, hm.nd, fun D hD => ?_, ?_, fun b hb => ?_, fun b hb => hx.1 b (hm.up b hb), fun b hb => ?_⟩
  · obtain ⟨h1, h2, h3, h4⟩ := hm.at' D hD
    have hlt : D < w.heap.size := (Array.getElem?_eq_some_iff.1 h1).1
    refine ⟨(hk.block D hlt h3).trans h1, fun hr => ?_, fun hr => ?_, h4⟩
    · rcases hx.2 D hr with h | h
      · exact h2 h
      · rcases h with h | h
        · exact h3 h
        · exact Nat.lt_irrefl _ (Nat.lt_of_lt_of_le hlt h)
    · rcases ho D hr with h | h
      · exact h3 h
      · exact Nat.lt_irrefl _ (Nat.lt_of_lt_of_le hlt h)
  · exact ⟨hk.os.trans hm.kept.os, hk.tape.trans hm.kept.tape, hk.output.trans hm.kept.output, Nat.le_trans hm.kept.size hk.size, fun k hk' => (hk.block k (Nat.lt_of_lt_of_le hk' hm.kept.size) (fun h => by have := hm.own k h; omega)).trans (hm.kept.block k hk')⟩
  · rcases ho b hb with h | h
    · exact hm.own b h
    · exact Nat.le_trans hm.kept.size h
  · rcases hx.2 b hb with h | h
    · exact hm.dn b h
    · rcases h with h | h
      · exact .inr (hm.own b h)
      · exact .inr (Nat.le_trans hm.kept.size h)
theorem MK.step {W0 : World} {ro0 : Nat → Prop} {Ds : List Nat} (hm : MK W0 ro0 Ds ro lam a w) (hs : Sim ⟨w, ownB lam, a.defers⟩ n ro' lam' st' a' w') (hx : Ext ⟨w, ownB lam, a.defers⟩ ro ro') : MK W0 ro0 Ds ro' lam' a' w' :=
  hm.move hs.dfr hs.below hx (fun b ⟨k, hk⟩ => (hs.ob hk).1)
theorem MK.leave {W0 : World} {ro0 : Nat → Prop} {Ds : List Nat} (hm : MK W0 ro0 Ds ro lam a w) (hro : ∀ b, ro0 b → b < W0.heap.size) {fn : Func} {t : Nat} {x : Value} {v : V} (hr : fn.results = #[.tmp t]) (hx : a.tmps.getD t Go.undef = x) (hv : ∀ w ro, R0 w ro v x) {m : Nat} :
    LeavesInM Fence.wide m Try.prog fn a.tmps (fun e w' => ∃ rv ro', e = .returned rv ∧ Below W0.heap.size W0 w' ∧ (∀ b, ro0 b → ro' b) ∧ (∀ b, ro' b → ro0 b ∨ W0.heap.size ≤ b) ∧ (∀ b, ro' b → b < w'.heap.size) ∧ R0 w' ro' v rv) a.defers .returning w := by
  rw [hm.dfs]
  refine leaves_marks Ds w hm.nd (fun D hD => (hm.at' D hD).1) ⟨x, res_one hr hx, x, ro0, rfl, ?_, fun _ h => h, fun _ h => .inl h, fun b hb => ?_, hv _ _⟩
  · obtain ⟨o1, o2, o3⟩ := shut_os Ds w
    refine ⟨o1.trans hm.kept.os, o2.trans hm.kept.tape, o3.trans hm.kept.output, by rw [shut_size]; exact hm.kept.size, fun k hk => ?_⟩
    rw [shut_other Ds w k (fun h => by have := (hm.at' k h).2.2.2; omega)]
    exact hm.kept.block k hk
  · rw [shut_size]; exact Nat.lt_of_lt_of_le (hro b hb) hm.kept.size
theorem MK.mark {W0 : World} {ro0 : Nat → Prop} {Ds : List Nat} {l D : Nat} {e : Nat → V} {h : Nat → Option Blk} (hm : MK W0 ro0 Ds ro lam a w) (rj : RJ ⟨w, ownB lam, a.defers⟩ n ro l D e a h ro' lam' w') (hD : w.heap.size ≤ D) : MK W0 ro0 (D :: Ds) ro' lam' { a with defers := { target := .collected D, args := #[] } :: a.defers } w' := by
  have h1 := hm.move (a' := a) rfl rj.keeps rj.ext (fun b hb => rj.free b hb)
  refine ⟨by simp [marks, hm.dfs], List.nodup_cons.2 ⟨fun hh => ?_, hm.nd⟩, fun D' hD' => ?_, h1.kept, h1.own, h1.up, h1.dn⟩
  · have := (Array.getElem?_eq_some_iff.1 (hm.at' D hh).1).1
    omega
  · rcases List.mem_cons.1 hD' with rfl | hD'
    · exact ⟨rj.hD, rj.nD.1, rj.nD.2, Nat.le_trans hm.kept.size hD⟩
    · exact h1.at' D' hD'
theorem RJ.act {l D : Nat} {e : Nat → V} {h : Nat → Option Blk} (rj : RJ w0 n ro l D e a h ro' lam' w') (ds : List Deferred) : Sim ⟨w', ownB lam', ds⟩ n ro' lam' ⟨e, h⟩ { a with defers := ds } w' :=
  ⟨Base.Keeps.refl _ _ _, rfl, rj.sim.size, rj.sim.rolt, rj.sim.env, rj.sim.heap, rj.sim.dead, rj.sim.own, rj.sim.inj, rj.sim.maps⟩
end
theorem mkfunc_in {m : Nat} {o : Oper} {f : FuncId} {cs : Array Operand} {a : Act} {w : World} {next : Act → World → Prop} {Q : Exit → Act → World → Prop} (ho : o.op = .makeFunc (.func f) #[] cs) (h : next (a.put o.dst (.func (.func f) #[] (cs.map a.eval))) w) : o.wpIn Fence.wide m Try.prog a w next Q := by
  refine oper_in ?_
  unfold Oper.wp execOp
  simp only [ho, Instr.makeFunc, Sem.run_pure, Sem.run_bind, Result.andThen_ok, Oper.upon]
  have he : (#[] : Array Operand).map a.eval = #[] := by simp
  rw [he]; exact h
theorem assign_in {m : Nat} {o : Oper} {t : Nat} {a : Act} {w : World} {next : Act → World → Prop} {Q : Exit → Act → World → Prop} (ho : o.op = .assign (.tmp t)) (h : next (a.put o.dst (a.tmps.getD t Go.undef)) w) : o.wpIn Fence.wide m Try.prog a w next Q := by
  refine oper_in ?_
  unfold Oper.wp execOp
  simp only [ho, Sem.run_pure, Oper.upon]
  exact h
/-! ### the iterator is made -/
theorem edges_ok (v : Vu) (W : World) (ro : Nat → Prop) (V0 : Value) (hro : ∀ b, ro b → b < W.heap.size) (hV : R0 W ro (.agg v.cs) V0) : Calls Try.prog 51 #[V0] W fun e W' =>
    ∃ b ro', e = .returned (.func (.func 85) #[] #[.pointer (some ⟨b, 0, none⟩)]) ∧ Below W.heap.size W W' ∧ (∀ x, ro x → ro' x) ∧ (∀ x, ro' x → ro x ∨ W.heap.size ≤ x) ∧ (∀ x, ro' x → x < W'.heap.size) ∧ R0 W' ro' (.vrp ⟨b, 0, none⟩ v.cs) (.pointer (some ⟨b, 0, none⟩)) := by
  refine callsIn_wide.1 (callsIn_of_wp (n := 0) Try.func51 rfl trivial ?_ rfl)
  rw [Try.ntmps51]
  have hs0 := sim_ini (n := 4) (w := W) (ro := ro) (args := #[V0]) (vs := [.agg v.cs]) hro rfl (by simp) (fun j c x hc hx => by
    match j with
    | 0 => simp at hc hx; subst hc; subst hx; exact hV
    | j + 1 => simp at hc)
  refine wpIn_seq (wpIn_mono (cw_in (CW.of_cx (D := fun _ => none) noTab_ok mixed _ (fun e s => e = .normal ∧ s.env 1 = .ptr 1 0 ∧ s.heap 1 = some ⟨81, v.cs⟩) _ (by kernel_rfl) ?_) hs0) ?_)
  · clear hs0
    repeat' first
      | (with_reducible refine gw_bool (fun _ => ?_) (fun _ => ?_))
      | (with_reducible refine condw_bool (fun _ => ?_) (fun _ => ?_))
      | simp [*, Vu.cs]
  rintro e a w ⟨s1, ro1, lam1, ⟨rfl, e1, h1⟩, hx1, hs1⟩
  have p1 := hs1.env 1
  rw [e1] at p1
  obtain ⟨b, mm, hl, hx⟩ := p1.ptr_inv
  have hpub : R0 w (fun x => ro1 x ∨ x = b) (.vrp ⟨b, 0, none⟩ v.cs) (.pointer (some ⟨b, 0, none⟩)) := by
    rcases hs1.heap 1 _ h1 with ⟨hv, _⟩ | ⟨b', o, hv, _⟩ | ⟨b', m', arr, hl', hw, hsz, hle, hr⟩
    · rw [hl] at hv; cases hv
    · rw [hl] at hv; cases hv
    · rw [hl] at hl'
      simp only [Option.some.injEq, Prod.mk.injEq] at hl'
      obtain ⟨rfl, rfl⟩ := hl'
      have hat : ∀ j x, v.cs[j]? = some x → ∃ y, arr[j]? = some y := fun j x hj => by
        have : j < v.cs.length := (List.getElem?_eq_some_iff.1 hj).1
        have h2 : v.cs.length ≤ mm := hle
        exact ⟨_, Array.getElem?_eq_getElem (by omega)⟩
      refine .vrp _ _ (fun j => arr.getD j Go.undef) (.inr rfl) (fun j x hj => ?_) (fun j x hj => ?_)
      · obtain ⟨y, hy⟩ := hat j x hj
        have := cell_of_row w b j arr 81 (0, 0) hw
        have hadd : (⟨b, 0, none⟩ : Addr).add j = ⟨b, j, none⟩ := by
          unfold Addr.add
          by_cases h0 : j = 0
          · subst h0; simp
          · simp [h0]
        rw [hadd, this, hy]; simp [Array.getD_eq_getD_getElem?, hy]
      · obtain ⟨y, hy⟩ := hat j x hj
        have h2 := hr j x y hj hy
        have hp : ownC x = false := by
          have : v.cs.any ownC = false := rfl
          exact any_at this hj
        rw [show arr.getD j Go.undef = y by simp [Array.getD_eq_getD_getElem?, hy]]
        exact (h2.pureC hp).mono (fun _ _ => rfl) (fun _ h => .inl h)
  refine wpIn_seq ?_
  refine wpIn_region_list ?_
  refine wpListIn_plain rfl fun K hK => mkfunc_in rfl (hK _ _ ?_)
  have hev : (#[Operand.tmp 1] : Array Operand).map a.eval = #[.pointer (some ⟨b, 0, none⟩)] := by
    simp only [List.map_toArray, List.map_cons, List.map_nil]
    show #[a.tmps.getD 1 Go.undef] = _
    rw [hx]
  rw [hev]
  obtain ⟨F, hF⟩ : ∃ F : Value, F = .func (.func 85) #[] #[.pointer (some ⟨b, 0, none⟩)] := ⟨_, rfl⟩
  rw [← hF]
  have hs2 : Sim (.of W) 4 ro1 lam1 (s1.put (some 3) (.val F)) (a.put (some 3) F) w := hs1.put (by decide) (.pure _ _ (.val _))
  have hF3 : (a.put (some 3) F).tmps.getD 3 Go.undef = F := by
    have := hs2.env 3
    exact getD_val (show R w ro1 lam1 (.val F) _ from this)
  refine wpListIn_plain rfl fun K2 hK2 => assign_in rfl (hK2 _ _ ?_)
  rw [hF3]
  have hs3 : Sim (.of W) 4 ro1 lam1 ((s1.put (some 3) (.val F)).put (some 2) (.val F)) ((a.put (some 3) F).put (some 2) F) w := hs2.put (by decide) (.pure _ _ (.val _))
  have hF2 : ((a.put (some 3) F).put (some 2) F).tmps.getD 2 Go.undef = F := by
    have := hs3.env 2
    exact getD_val (show R w ro1 lam1 (.val F) _ from this)
  refine wpIn_ret ?_
  have hbw := hs1.own 1 b mm hl
  refine ⟨hs3.dfr, F, res_one rfl hF2, b, fun x => ro1 x ∨ x = b, by rw [hF], hs1.below.below, fun x h => .inl (hx1.1 x h), fun x h => ?_, fun x h => ?_, hpub⟩
  · rcases h with h | rfl
    · exact (hx1.2 x h).imp id (fun h => h.resolve_left (fun h => h))
    · exact .inr (hbw.1.resolve_left (fun h => h))
  · rcases h with h | rfl
    · exact hs1.rolt x h
    · exact hbw.2.1
/-! ### a node is visited -/
def nd2 (c : Int × Int) : List V := [.int .i64 c.1, .int .i64 c.2]
def ndC (L : List (Int × Int)) : List V := (L.map nd2).flatten
theorem ndC_len (L : List (Int × Int)) : (ndC L).length = L.length * 2 := flat_len (sz := 2) (fun _ => rfl) L
theorem ndC_pure (L : List (Int × Int)) : (ndC L).any ownC = false := flat_pure (fun _ => rfl) L
theorem ndC_scr (L : List (Int × Int)) (k : Nat) : (ndC L).map (scrC k) = ndC L := scrC_cells (ndC_pure L)
theorem ndC_snoc (L : List (Int × Int)) (x : Int × Int) : ndC (L ++ [x]) = ndC L ++ [.int .i64 x.1, .int .i64 x.2] := (flat_snoc L x).symm
theorem nodK_scr (L : List (Int × Int)) (k : Nat) : (L.map nodK).map (scrC k) = L.map nodK := scrC_cells (by
  rw [List.any_eq_false]; intro x hx; obtain ⟨c, _, rfl⟩ := List.mem_map.1 hx; simp [nodK, ownC])
theorem nodK_comp (k : Nat) : scrC k ∘ nodK = nodK := rfl
attribute [simp] ndC_len ndC_pure ndC_scr nodK_comp
def woV : Option (List (Int × Int)) → V
  | none => .val (.map none)
  | some L => .rset (L.map nodK)
def woL (o : Option (List (Int × Int))) : List (Int × Int) := o.getD []
def vis (o : Option (List (Int × Int))) (Q : List (Int × Int)) (n : Int × Int) : List (Int × Int) := if (!memN Q n.1 n.2 && !memN (woL o) n.1 n.2) = true then Q ++ [n] else Q
def subBl (o : Option (List (Int × Int))) (Q : List (Int × Int)) : List (Nat × Blk) := [(5, ⟨84, [woV o]⟩), (7, ⟨84, [.mp 13]⟩), (13, ⟨84, Q.map nodK⟩), (8, ⟨122, [.sl 17 0 Q.length 2]⟩), (17, ⟨57, ndC Q⟩)]
def VisPost (o : Option (List (Int × Int))) (Q : List (Int × Int)) (b7 b5 b8 : Nat) (s : St) : Prop := s.env 1 = .vptr b7 7 0 ∧ s.env 2 = .vptr b5 5 0 ∧ s.env 3 = .vptr b8 8 0 ∧ HeapIs s.heap (subBl o Q)
theorem memN_nil (a b : Int) : memN [] a b = false := rfl
theorem visit_ok (o : Option (List (Int × Int))) (Q : List (Int × Int)) (n : Int × Int) (b7 b5 b8 : Nat) (hQ : Q.length ≤ 10000) {W : World} {ro : Nat → Prop} {lam : Lam} (hs : HS W ro lam (blkOf (subBl o Q))) {args : Array Value} (hsz : args.size = 4)
    (hr : ∀ (j : Nat) (c : V) (x : Value), [V.agg [.int .i64 n.1, .int .i64 n.2], .vptr b7 7 0, .vptr b5 5 0, .vptr b8 8 0][j]? = some c → args[j]? = some x → R W ro lam c x) :
    Calls Try.prog 86 args W fun e W' => ∃ rv s' ro' lam' a', e = .returned rv ∧ VisPost o (vis o Q n) b7 b5 b8 s' ∧ Ext ⟨W, ownB lam, []⟩ ro ro' ∧ Sim ⟨W, ownB lam, []⟩ 21 ro' lam' s' a' W' := by
  refine effN_cx noTab_ok mixed (fun _ => none) Try.func86 rfl Try.ntmps86 rfl (by simp) (by kernel_rfl) ?_ hs (by simpa using hsz) hr
  clear hr hs
  obtain ⟨n0, n1⟩ := n
  have f5 : (Q.length + 1) * 16 ≤ 140737488355328 := by omega
  have f6 : Q.length + 1 ≤ 9223372036854775807 := by omega
  have hout : ∀ (Q' : List (Int × Int)) (k : Nat), blkOf (subBl o Q') k = none → k ≠ 5 ∧ k ≠ 7 ∧ k ≠ 13 ∧ k ≠ 8 ∧ k ≠ 17 := fun Q' k hk => by
    simp only [subBl, blkOf] at hk
    refine ⟨?_, ?_, ?_, ?_, ?_⟩ <;> (rintro rfl; simp at hk)
  cases h1 : memN Q n0 n1
  · cases o with
    | none =>
      have hv : vis none Q (n0, n1) = Q ++ [(n0, n1)] := by simp [vis, woL, memN_nil, h1]
      rw [hv]
      clear hv
      repeat' first
        | (with_reducible refine gw_bool (fun _ => ?_) (fun _ => ?_))
        | (with_reducible refine condw_bool (fun _ => ?_) (fun _ => ?_))
        | simp [*, subBl, blkOf, woV, appendV, srcCells, St.forget, scr, scrC]
      refine ⟨_, (View.forget _ _ 19).trans (View.forget _ _ 4), ?_, ?_, ?_, ?_, fun k hk => ?_⟩
      · simp [St.forget, scr, scrC, ini]
      · simp [St.forget, scr, scrC, ini]
      · simp [St.forget, scr, scrC, ini]
      · simp [subBl, KeepBl, woV, St.forget, scr, scrC, ndC_snoc, nodK, blkOf, *]
      · obtain ⟨k5, k7, k13, k8, k17⟩ := hout _ k hk
        by_cases e4 : k = 4
        · subst e4; simp [St.forget]
        · by_cases e19 : k = 19
          · subst e19; simp [St.forget]
          · simp [St.forget, subBl, blkOf, k5, k7, k13, k8, k17, e4, e19]
    | some L =>
      cases h2 : memN L n0 n1
      · have hv : vis (some L) Q (n0, n1) = Q ++ [(n0, n1)] := by simp [vis, woL, h1, h2]
        rw [hv]
        clear hv
        repeat' first
          | (with_reducible refine gw_bool (fun _ => ?_) (fun _ => ?_))
          | (with_reducible refine condw_bool (fun _ => ?_) (fun _ => ?_))
          | simp [*, subBl, blkOf, woV, appendV, srcCells, St.forget, scr, scrC]
        refine ⟨_, (View.forget _ _ 19).trans (View.forget _ _ 4), ?_, ?_, ?_, ?_, fun k hk => ?_⟩
        · simp [St.forget, scr, scrC, ini]
        · simp [St.forget, scr, scrC, ini]
        · simp [St.forget, scr, scrC, ini]
        · simp [subBl, KeepBl, woV, St.forget, scr, scrC, ndC_snoc, nodK, blkOf, *]
        · obtain ⟨k5, k7, k13, k8, k17⟩ := hout _ k hk
          by_cases e4 : k = 4
          · subst e4; simp [St.forget]
          · by_cases e19 : k = 19
            · subst e19; simp [St.forget]
            · simp [St.forget, subBl, blkOf, k5, k7, k13, k8, k17, e4, e19]
      · have hv : vis (some L) Q (n0, n1) = Q := by simp [vis, woL, h1, h2]
        rw [hv]
        clear hv
        repeat' first
          | (with_reducible refine gw_bool (fun _ => ?_) (fun _ => ?_))
          | (with_reducible refine condw_bool (fun _ => ?_) (fun _ => ?_))
          | simp [*, subBl, blkOf, woV]
        refine ⟨_, View.forget _ _ 4, ?_, ?_, ?_, ?_, fun k hk => ?_⟩
        · simp [St.forget, scr, scrC, ini]
        · simp [St.forget, scr, scrC, ini]
        · simp [St.forget, scr, scrC, ini]
        · simp [subBl, KeepBl, woV, St.forget, scr, scrC, nodK, blkOf, *]
        · obtain ⟨k5, k7, k13, k8, k17⟩ := hout _ k hk
          by_cases e4 : k = 4
          · subst e4; simp [St.forget]
          · simp [St.forget, subBl, blkOf, k5, k7, k13, k8, k17, e4]
  · have hv : vis o Q (n0, n1) = Q := by simp [vis, h1]
    rw [hv]
    clear hv
    cases o with
    | none =>
      repeat' first
        | (with_reducible refine gw_bool (fun _ => ?_) (fun _ => ?_))
        | (with_reducible refine condw_bool (fun _ => ?_) (fun _ => ?_))
        | simp [*, subBl, blkOf, woV]
      refine ⟨_, View.forget _ _ 4, ?_, ?_, ?_, ?_, fun k hk => ?_⟩
      · simp [St.forget, scr, scrC, ini]
      · simp [St.forget, scr, scrC, ini]
      · simp [St.forget, scr, scrC, ini]
      · simp [subBl, KeepBl, woV, St.forget, scr, scrC, nodK, blkOf, *]
      · obtain ⟨k5, k7, k13, k8, k17⟩ := hout _ k hk
        by_cases e4 : k = 4
        · subst e4; simp [St.forget]
        · simp [St.forget, subBl, blkOf, k5, k7, k13, k8, k17, e4]
    | some L =>
      repeat' first
        | (with_reducible refine gw_bool (fun _ => ?_) (fun _ => ?_))
        | (with_reducible refine condw_bool (fun _ => ?_) (fun _ => ?_))
        | simp [*, subBl, blkOf, woV]
      refine ⟨_, View.forget _ _ 4, ?_, ?_, ?_, ?_, fun k hk => ?_⟩
      · simp [St.forget, scr, scrC, ini]
      · simp [St.forget, scr, scrC, ini]
      · simp [St.forget, scr, scrC, ini]
      · simp [subBl, KeepBl, woV, St.forget, scr, scrC, nodK, blkOf, *]
      · obtain ⟨k5, k7, k13, k8, k17⟩ := hout _ k hk
        by_cases e4 : k = 4
        · subst e4; simp [St.forget]
        · simp [St.forget, subBl, blkOf, k5, k7, k13, k8, k17, e4]
end Go.Proofs.Ytcbddoopmkhlfaa
