/-
  Frequency: the list of the crossings.
-/
import Derived.Test.YtacmchjaldljjaaIt
import Derived.TacticsInMore
namespace Go.Proofs.Ytacmchjaldljjaa
open Go.Pv Go.RowKit
set_option linter.unusedSimpArgs false
set_option linter.unusedVariables false
set_option maxRecDepth 100000
set_option maxHeartbeats 1000000

theorem cro_in (w : World) (s : Option Addr) (len cap : Nat) : Calls Try.prog 21 #[.slice s len cap] w fun e w' =>
    e = .returned (.func (.func 27) #[] #[.pointer (some ⟨w.heap.size, 0, none⟩)]) ∧ w' = w.alloc (.cells #[.slice s len cap] 22) := by
  refine callsIn_wide.1 (callsIn_of_wp (n := 0) Try.func21 rfl trivial ?_ rfl)
  simp only [Try.ntmps21, List.size_toArray, List.length_cons, List.length_nil, Nat.reduceAdd, Nat.reduceSub, Array.replicate_succ, Array.replicate_zero, List.push_toArray, List.append_toArray, List.nil_append, List.cons_append]
  gi_wp2
  go_ret
  exact ⟨rfl, rfl⟩
theorem cro_ok (w : World) (ro : Nat → Prop) (xs : List (List V)) (X : Value) (hro : ∀ b, ro b → b < w.heap.size) (hX : R0 w ro (.list 1 xs) X) : Calls Try.prog 21 #[X] w fun e w' =>
    e = .returned (.func (.func 27) #[] #[.pointer (some ⟨w.heap.size, 0, none⟩)]) ∧ Below w.heap.size w w' ∧ w.heap.size < w'.heap.size ∧ R0 w' (fun b => ro b ∨ b = w.heap.size) (.vrp ⟨w.heap.size, 0, none⟩ [.list 1 xs]) (.pointer (some ⟨w.heap.size, 0, none⟩)) := by
  obtain ⟨s, len, cap, rfl⟩ : ∃ s len cap, X = .slice s len cap := by
    cases hX with
    | list0 _ a cap => exact ⟨a, 0, cap, rfl⟩
    | list _ _ a cap _ _ _ _ _ _ => exact ⟨some a, _, cap, rfl⟩
  refine (cro_in w s len cap).mono ?_
  rintro e w' ⟨rfl, rfl⟩
  have hb : Below w.heap.size w (w.alloc (.cells #[.slice s len cap] 22)) := (Below.refl _ w).alloc (Nat.le_refl _) _
  refine ⟨rfl, hb, by simp, ?_⟩
  refine .vrp _ _ (fun _ => .slice s len cap) (.inr rfl) (fun j x hj => ?_) (fun j x hj => ?_)
  · cases j with
    | zero =>
      have := cell_of_row (w.alloc (.cells #[.slice s len cap] 22)) w.heap.size 0 #[.slice s len cap] 22 (0, 0) (World.alloc_heap_new w _)
      simp [Addr.add] at this ⊢
      try exact this
    | succ j => simp at hj
  · cases j with
    | zero =>
      simp at hj; subst hj
      exact hX.mono (fun b h => hb.block b (hro b h)) (fun b h => .inl h)
    | succ j => simp at hj
def ptsC (l : List Pt) : List V := (l.map Pt.cs).flatten
theorem ptsC_len (l : List Pt) : (ptsC l).length = l.length * 3 := flat_len (sz := 3) (fun _ => rfl) l
theorem ptsC_pure (l : List Pt) : (ptsC l).any ownC = false := flat_pure (fun _ => rfl) l
theorem ptsC_chunks (l : List Pt) : chunks 3 l.length (ptsC l) = l.map Pt.cs := flat_chunks (sz := 3) (fun _ => rfl) l
theorem ptsC_snoc (l : List Pt) (x : Pt) : ptsC (l ++ [x]) = ptsC l ++ x.cs := (flat_snoc l x).symm
theorem ptsC_scr (l : List Pt) (key : Nat) : (ptsC l).map (scrC key) = ptsC l := scrC_cells (ptsC_pure l)
theorem pts_flat (l : List Pt) : (l.map Pt.cs).all (fun c => c.all flatC) = true := rows_flat (fun _ => rfl) l
attribute [simp] ptsC_len ptsC_pure ptsC_chunks ptsC_scr
def crV (l : List Int) : V := if okS l = true then .tup [.list 3 ((crs l).map Pt.cs), .int .i64 0] else .tup [.list 3 [], .int .i64 1]
/-- What the outer frame knows between two rounds. -/
def crI (pre : List Pt) (h : Nat → Option Blk) : Prop := h 4 = some ⟨25, [.sl 15 0 pre.length 3]⟩ ∧ h 15 = some ⟨30, ptsC pre⟩ ∧ h 5 = none ∧ h 14 = none
theorem crossings_ok (l : List Int) (hl : l.length ≤ maxLen) : PFresh Try.prog 10 [.list 1 (l.map il)] (crV l) := by
  have hm : maxLen = 9223372036854775807 := by decide
  rw [hm] at hl
  have hdec : decL unI (l.map il) = some l := decL_map unI_il _
  cases hok : okS l
  · unfold crV
    rw [hok, if_neg (by decide)]
    refine PFresh.weaken (v := .tup [.nils, .int .i64 1]) ?_ (WkL.refl _) (Wk.tup (.cons (Wk.nils 3) (.cons (Wk.refl _) .nil)))
    refine pfresh_cx G2_ok mixed (fun _ => none) Try.func10 rfl Try.ntmps10 Try.results10 (by simp) (by kernel_rfl) ?_
    repeat' first
      | (refine gw_bool (fun _ => ?_) (fun _ => ?_))
      | (refine condw_bool (fun _ => ?_) (fun _ => ?_))
      | simp [*]
  · unfold crV
    rw [if_pos hok]
    intro w ro args hro hsz hr
    obtain ⟨X, rfl⟩ : ∃ X, args = #[X] := by
      match args, hsz with
      | ⟨[X]⟩, _ => exact ⟨X, rfl⟩
    have hs0 := sim_ini (n := 17) hro hsz (by simp) hr
    refine callsIn_wide.1 (callsIn_of_wp_marks (n := 0) Try.func10 rfl trivial ?_ rfl)
    rw [Try.ntmps10]
    refine wpIn_seq (wpIn_mono (cw_in (CW.of_cx (D := fun _ => none) G2_ok mixed _ (fun e s => e = .normal ∧ s.env 0 = .list 1 (l.map il) ∧ s.heap = fun _ => none) _ (by kernel_rfl) ?_) hs0) ?_)
    · skip
      repeat' first
        | (refine gw_bool (fun _ => ?_) (fun _ => ?_))
        | (refine condw_bool (fun _ => ?_) (fun _ => ?_))
        | simp [*]
    rintro e a1 w1 ⟨s1, ro1, lam1, ⟨rfl, e0, eh⟩, -, hs1⟩
    clear hs0
    refine wpIn_seq (wpIn_mono (cw_in (CW.of_cx (D := fun _ => none) G2_ok mixed _ (fun e s => e = .normal ∧ s.env 0 = .list 1 (l.map il) ∧ s.heap = fun _ => none) _ (by kernel_rfl) ?_) hs1) ?_)
    · obtain ⟨en, he⟩ := s1
      simp only at e0 eh
      subst eh
      clear hs1 hr
      repeat' first
        | (refine gw_bool (fun _ => ?_) (fun _ => ?_))
        | (refine condw_bool (fun _ => ?_) (fun _ => ?_))
        | simp [*]
    rintro e a2 w2 ⟨s2, ro2, lam2, ⟨rfl, e0', eh'⟩, -, hs2⟩
    clear hs1 e0 eh
    refine wpIn_seq (wpIn_mono (cw_in (CW.of_cx (D := fun _ => none) G2_ok mixed _ (fun e s => e = .normal ∧ s.env 0 = .list 1 (l.map il) ∧ s.env 4 = .ptr 4 0 ∧ s.heap = upd (fun _ => none) 4 (some ⟨25, [.nils]⟩)) _ (by kernel_rfl) ?_) hs2) ?_)
    · obtain ⟨en, he⟩ := s2
      simp only at e0' eh'
      subst eh'
      clear hs2 hr
      repeat' first
        | (refine gw_bool (fun _ => ?_) (fun _ => ?_))
        | (refine condw_bool (fun _ => ?_) (fun _ => ?_))
        | simp [*]
    rintro e a3 w3 ⟨s3, ro3, lam3, ⟨rfl, e0, e4, eh⟩, -, hs3⟩
    clear hs2 e0' eh'
    refine wpIn_seq ?_
    refine wpIn_seq ?_
    refine wpIn_region_list ?_
    rw [← List.take_append_drop 1 (Array.toList _)]
    refine eg_in G2_ok (K := fun s => s.env 9 = .list 1 (l.map il) ∧ s.env 4 = .ptr 4 0 ∧ s.heap = upd (fun _ => none) 4 (some ⟨25, [.nils]⟩)) _ _ _ _ _ _ (by kernel_rfl) ?_ hs3 ?_
    · obtain ⟨en, he⟩ := s3
      simp only at e0 e4 eh
      subst eh
      clear hs3 hr
      repeat' first
        | (refine gw_bool (fun _ => ?_) (fun _ => ?_))
        | (refine condw_bool (fun _ => ?_) (fun _ => ?_))
        | simp [*]
    rintro s4 a4 ro4 lam4 w4 ⟨e9, e4', eh'⟩ hs4
    clear hs3 e0 e4 eh
    refine wpListIn_plain rfl fun K hK => oper_in (call_wp rfl (by kernel_rfl) ?_)
    have hX := hs4.ev (.tmp 9)
    rw [show ev s4 (.tmp 9) = norm (s4.env 9) from rfl, e9] at hX
    have hmap : (#[Operand.tmp 9] : Array Operand).map a4.eval = #[a4.eval (.tmp 9)] := by simp only [List.map_toArray, List.map_cons, List.map_nil]
    rw [hmap]
    refine (cro_ok w4 ro4 _ _ hs4.rolt (hX.pureC rfl)).mono ?_
    rintro e w5 ⟨rfl, hb5, hsz5, hv5⟩
    refine ⟨_, rfl, hK _ _ ?_⟩
    clear hK
    obtain ⟨F, hF⟩ : ∃ F : Value, F = .func (.func 27) #[] #[.pointer (some ⟨w4.heap.size, 0, none⟩)] := ⟨_, rfl⟩
    rw [← hF]
    obtain ⟨ro5, hro5⟩ : ∃ ro5 : Nat → Prop, ro5 = fun b => ro4 b ∨ b = w4.heap.size := ⟨_, rfl⟩
    rw [← hro5] at hv5
    have hro5lt : ∀ b, ro5 b → b < w5.heap.size := fun b hb => by
      rw [hro5] at hb
      rcases hb with hb | hb
      · exact Nat.lt_of_lt_of_le (hs4.rolt b hb) hb5.size
      · omega
    have hs5 : Sim (.of w) 17 ro5 lam4 (s4.put (some 10) (.val F)) (a4.put (some 10) F) w5 :=
      ((hs4.world hb5).more (fun b hb => by rw [hro5]; exact .inl hb) hro5lt (fun key b m hl hb => by
        rw [hro5] at hb
        rcases hb with hb | hb
        · exact (hs4.own key b m hl).2.2 hb
        · have := (hs4.own key b m hl).2.1; omega)).put (by decide) (.pure _ _ (.val _))
    have hg5 : (a4.put (some 10) F).eval (.tmp 10) = F := by
      have := hs5.ev (.tmp 10)
      exact getD_val (show R w5 ro5 lam4 (.val F) _ from this)
    have he4 : R w5 ro5 lam4 (.ptr 4 0) ((a4.put (some 10) F).tmps.getD 4 Go.undef) := by
      have := hs5.env 4
      rwa [show (s4.put (some 10) (.val F)).env 4 = s4.env 4 from upd_ne (d := 10) (t := 4) s4.env (.val F) (by decide), e4'] at this
    obtain ⟨b4, m4, hl4, hx4⟩ := he4.ptr_inv
    have hs6 := hs5.nilCell (key := 4) (key' := 15) (ty := 25) (ty' := 30) 3 (by show s4.heap 4 = _; rw [eh']; rfl) (by show s4.heap 15 = _; rw [eh']; rfl)
    have hs7 := hs6.env' (e := upd (fun _ => .junk) 4 (.vptr b4 4 0)) (fun t => by
      by_cases ht : t = 4
      · subst ht; rw [upd_same, hx4]; exact .vptr 4 0 b4 m4 (by rw [upd_ne _ _ (by decide)]; exact hl4)
      · rw [upd_ne _ _ ht]; exact .pure _ _ (.junk _))
    have hd5 : (a4.put (some 10) F).defers = [] := hs5.dfr
    have hz5 : 17 ≤ (a4.put (some 10) F).tmps.size := hs5.size
    have hlen : (crs l).length ≤ 240 := by
      simp only [okS, Bool.and_eq_true, decide_eq_true_eq] at hok
      have := crsN_len l (l.length - 1)
      simp only [crs]; omega
    obtain ⟨a5, ha5⟩ : ∃ a5, a4.put (some 10) F = a5 := ⟨_, rfl⟩
    rw [ha5] at hs7 hg5 hd5 hz5
    have hset : ∀ x : Pt, setPs #[11] x.arr a5.tmps = a5.tmps.setIfInBounds 11 (.agg #[.int .i64 x.k, .int .i64 x.n, .int .i64 x.d]) := fun x => by simp [setPs, Pt.arr]
    rw [ha5]
    have hs7s : w.heap.size ≤ w4.heap.size := hs4.below.size
    clear hs5 hs6 hs4 he4 hX hr
    refine wpIn_block ?_
    refine range_in hs7 hd5 (hg5.trans hF) (callFunc_run (by kernel_rfl)) (encs := Pt.arr) (xs := crs l) (fun _ => rfl) (iter_ok l _ ro5 w5 hro5lt hok hv5) ?_ crI (fun _ _ _ => False) ?_ (fun x => upd (upd (fun _ => .junk) 4 (.vptr b4 4 0)) 11 (.agg x.cs)) ?_ ?_ ?_ ?_ ?_
    · intro t
      by_cases ht : t = 4
      · subst ht; rfl
      · show stays (upd (fun _ => V.junk) 4 (.vptr b4 4 0) t) = true; rw [upd_ne _ _ ht]; rfl
    · show crI [] (upd (upd s4.heap 4 (some ⟨25, [.sl 15 0 0 3]⟩)) 15 (some ⟨30, []⟩))
      rw [eh']
      simp [crI, upd, ptsC]
    · intro x ro' lam' W hR t
      rw [hset x]
      by_cases ht : t = 11
      · subst ht
        rw [upd_same, Array.getD_eq_getD_getElem?, Array.getElem?_setIfInBounds, if_pos rfl, if_pos (by omega)]
        refine .pure _ _ (.agg _ _ rfl fun j c y hc hy => ?_)
        match j with
        | 0 => simp [Pt.cs] at hc hy; subst hc; subst hy; exact .int _ _
        | 1 => simp [Pt.cs] at hc hy; subst hc; subst hy; exact .int _ _
        | 2 => simp [Pt.cs] at hc hy; subst hc; subst hy; exact .int _ _
        | j + 3 => simp [Pt.cs] at hc
      · rw [upd_ne _ _ ht]
        have := hR t
        rwa [Array.getD_eq_getD_getElem?, Array.getElem?_setIfInBounds, if_neg (fun e => ht e.symm), ← Array.getD_eq_getD_getElem?]
    · intro x; rw [hset x]; simp
    · rintro pre x h ⟨h4, h15, h5, h14⟩ hlt
      have f5 : (pre.length + 1) * 24 ≤ 140737488355328 := by omega
      have f6 : pre.length + 1 ≤ 9223372036854775807 := by omega
      clear hs7 hv5 hro5lt hro5 hset hx4 hl4 hg5 hd5 hz5 ha5 hF
      refine (CWR.of_cx (D := fun _ => none) G2_ok _ (fun e s => e = .normal ∧ s.env 4 = .vptr b4 4 0 ∧ s.env 5 = .ptr 5 0 ∧ s.heap 5 = some ⟨30, x.cs⟩ ∧ s.heap 4 = some ⟨25, [.sl 15 0 pre.length 3]⟩ ∧ s.heap 15 = some ⟨30, ptsC pre⟩ ∧ s.heap 14 = none) _ (by kernel_rfl) ?_).mono ?_
      · skip
        repeat' first
          | (refine gw_bool (fun _ => ?_) (fun _ => ?_))
          | (refine condw_bool (fun _ => ?_) (fun _ => ?_))
          | simp [*, Pt.cs]
      clear h4 h15 h5 h14
      rintro e s ⟨rfl, e4, e5, h5, h4, h15, h14⟩
      refine ⟨rfl, CWR.of_cx (D := fun _ => none) G2_ok _ _ _ (by kernel_rfl) ?_⟩
      obtain ⟨en, he⟩ := s
      simp only at e4 e5 h5 h4 h15 h14
      repeat' first
        | (refine gw_bool (fun _ => ?_) (fun _ => ?_))
        | (refine condw_bool (fun _ => ?_) (fun _ => ?_))
        | simp [*, appendV, srcCells, St.forget, scr, scrC, Pt.cs]
      refine ⟨_, (View.forget _ _ 5).trans (View.forget _ _ 14), ?_, ?_⟩
      · intro t ht
        by_cases h4t : t = 4
        · subst h4t; simp [St.forget, scr, e4]
        · rw [upd_ne _ _ h4t] at ht; simp [isVp] at ht
      · refine ⟨?_, ?_, ?_, ?_⟩
        all_goals simp [*, St.forget, scr, scrC, ptsC_snoc, Pt.cs]
    · rintro D ro' lam' h W ⟨h4, h15, h5, h14⟩ rj hDl
      clear hs7 hv5 hset hx4 hl4 hg5 hz5 ha5 hF
      have hsd : Sim ⟨W, ownB lam', [{ target := .collected D, args := #[] }]⟩ 17 ro' lam' ⟨upd (fun _ => .junk) 4 (.vptr b4 4 0), h⟩ { a5 with defers := { target := .collected D, args := #[] } :: a5.defers } W :=
        ⟨Base.Keeps.refl _ _ _, by rw [hd5], rj.sim.size, rj.sim.rolt, rj.sim.env, rj.sim.heap, rj.sim.dead, rj.sim.own, rj.sim.inj⟩
      refine wpIn_mono (cw_in (CW.of_cx (D := fun _ => none) G2_ok mixed _ (fun e s => e = .ret ∧ s.env 2 = .sl 15 0 (crs l).length 3 ∧ s.env 3 = .int .i64 0 ∧ s.heap 15 = some ⟨30, ptsC (crs l)⟩) _ (by kernel_rfl) ?_) hsd) ?_
      · clear hsd rj
        repeat' first
          | (refine gw_bool (fun _ => ?_) (fun _ => ?_))
          | (refine condw_bool (fun _ => ?_) (fun _ => ?_))
          | simp [*]
      rintro e a9 w9 ⟨s9, ro9, lam9, ⟨rfl, r2, r3, r15⟩, hx9, hs9⟩
      have hDW : D < W.heap.size := (Array.getElem?_eq_some_iff.1 rj.hD).1
      have hD9 : w9.heap[D]? = some (.deferred (some [])) := (hs9.below.block D hDW rj.nD.2).trans rj.hD
      have nr9 : ¬ ro9 D := fun h1 => (hx9.2 D h1).elim rj.nD.1 (fun h => Nat.lt_irrefl _ (Nat.lt_of_lt_of_le hDW h))
      have no9 : ¬ ownB lam9 D := fun ⟨key, mm, h1⟩ => (hs9.own key D mm h1).1.elim rj.nD.2 (fun h => Nat.lt_irrefl _ (Nat.lt_of_lt_of_le hDW h))
      have hkD : ∀ k, k ≠ D → (w9.putObj D (.deferred none)).heap[k]? = w9.heap[k]? := fun k hk => World.putObj_heap_other hk
      have hsm := hs9.move (W' := w9.putObj D (.deferred none)) (by simp) (fun b hb => hkD b (by rintro rfl; exact nr9 hb)) (fun b hb => hkD b (by rintro rfl; exact no9 hb))
      obtain ⟨rv, hrun, hR⟩ := fresh_res (P := Try.prog) (fn := Try.f10) hsm (us := [.sl 15 0 (crs l).length 3, .int .i64 0]) (vs := [.list 3 ((crs l).map Pt.cs), .int .i64 0])
        (by rw [Try.results10]; simp [resL, resV, r2, r3]) (by simp [lendAs, lendA, lendC, r15]) (by simp only [frAs, frA, frC, rowFlat, pts_flat]; rfl)
      have hw0 : (Base.of w).Keeps (w9.putObj D (.deferred none)) := by
        have k1 : (Base.of w).Keeps w9 := rj.keeps.but hs9.below.os hs9.below.tape hs9.below.output hs9.below.size (fun k hk hf => hs9.below.block k hk (fun ho => hf (rj.free k ho)))
        refine k1.but rfl rfl rfl (by simp) (fun k _ hf => hkD k ?_)
        rintro rfl
        exact hf (.inr (Nat.le_trans (Nat.le_trans hs7s hb5.size) hDl))
      show LeavesInM _ _ _ _ _ _ a9.defers _ _
      rw [show a9.defers = [{ target := .collected D, args := #[] }] from hs9.dfr]
      refine ⟨by simp, .inl ⟨_, _, rfl, run_takeDeferred hD9, rv, hrun, rv, rfl, hw0.below, hR.mono (fun _ _ => rfl) (fun b hb => ?_)⟩⟩
      obtain ⟨key, mm, h1⟩ := hb
      refine ⟨?_, (hsm.own key b mm h1).2.1⟩
      rcases (hs9.own key b mm h1).1 with ho | ho
      · exact (rj.free b ho).resolve_left (fun h => h)
      · exact Nat.le_trans rj.keeps.size ho
    · rintro D c pre ro' lam' h W hf
      exact hf.elim
end Go.Proofs.Ytacmchjaldljjaa
