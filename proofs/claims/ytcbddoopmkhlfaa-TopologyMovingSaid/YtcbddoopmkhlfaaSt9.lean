/-
  Positions: copies of lists.
-/
import Derived.Test.YtcbddoopmkhlfaaSt8
namespace Go.Proofs.Ytcbddoopmkhlfaa
open Go.Pv Go.RowKit
set_option linter.unusedSimpArgs false
set_option linter.unusedVariables false
set_option maxRecDepth 100000
set_option maxHeartbeats 2000000

theorem View.nilAt (n : Nat) {st : St} {t o key key' i : Nat} {blk : Blk} (sz : Nat) (ty' : TypeId) (ht : st.env t = .ptr key o) (hk : st.heap key = some blk) (hi : blk.cells[i]? = some .nils) (hk' : st.heap key' = none) :
    View n st ⟨st.env, upd (upd st.heap key (some ⟨blk.ty, blk.cells.set i (.sl key' 0 0 sz)⟩)) key' (some ⟨ty', []⟩)⟩ := fun w0 ro lam a w hs => ⟨ro, _, Ext.refl _ _, hs.nilCellAt sz (by
      have := hs.env t
      rw [ht] at this
      obtain ⟨b, m, hl, _⟩ := this.ptr_inv
      exact ⟨b, m, hl⟩) hk hi hk'⟩
theorem flat_i1 (l : List Int) : (l.map i1).flatten = l.map (V.int .i64) := by
  induction l with
  | nil => rfl
  | cons a l ih => simp [i1, ih]
theorem flat_b1 (l : List Bool) : (l.map b1).flatten = l.map V.bool := by
  induction l with
  | nil => rfl
  | cons a l ih => simp [b1, ih]
theorem chunks_i1 (l : List Int) : chunks 1 l.length (l.map (V.int .i64)) = l.map i1 := by rw [← flat_i1]; exact flat_chunks (sz := 1) (fun _ => rfl) l
theorem chunks_b1 (l : List Bool) : chunks 1 l.length (l.map V.bool) = l.map b1 := by rw [← flat_b1]; exact flat_chunks (sz := 1) (fun _ => rfl) l
theorem pure_i1 (l : List Int) : (l.map (V.int .i64)).any ownC = false := by rw [← flat_i1]; exact flat_pure (fun _ => rfl) l
theorem pure_b1 (l : List Bool) : (l.map V.bool).any ownC = false := by rw [← flat_b1]; exact flat_pure (fun _ => rfl) l
theorem scr_i1 (l : List Int) (k : Nat) : (l.map (V.int .i64)).map (scrC k) = l.map (V.int .i64) := scrC_cells (pure_i1 l)
theorem scr_b1 (l : List Bool) (k : Nat) : (l.map V.bool).map (scrC k) = l.map V.bool := scrC_cells (pure_b1 l)
theorem scrI_comp (k : Nat) : scrC k ∘ V.int .i64 = V.int .i64 := rfl
theorem scrB_comp (k : Nat) : scrC k ∘ V.bool = V.bool := rfl
theorem emp_list {w : World} {ro : Nat → Prop} {sz : Nat} {x : Value} (h : R0 w ro (.list sz []) x) : ∃ a c, x = .slice a 0 c := by
  cases h
  · exact ⟨_, _, rfl⟩
  · exact ⟨_, _, rfl⟩
theorem arg1 {args : Array Value} (h : args.size = 1) : ∃ x, args = #[x] := by
  match args, h with
  | ⟨[x]⟩, _ => exact ⟨x, rfl⟩
theorem HS.none {w : World} {ro : Nat → Prop} {lam : Lam} {h : Nat → Option Blk} (hs : HS w ro lam h) : HS w ro (lamK [] lam) (blkOf []) := HS.keep hs (bl := []) trivial rfl
theorem lamK_nil {lam : Lam} : lamK [] lam = fun _ => none := by funext k; simp [lamK, blkOf]
/-! ### copies of rows of numbers -/
theorem cloneI1 (x : Int) (l : List Int) (hl : l.length ≤ 1000) : PGive Try.prog 66 [.list 1 ((x :: l).map i1)] (.sl 5 0 (l.length + 1) 1) [(5, ⟨3, (x :: l).map (V.int .i64)⟩)] := by
  have f5 : (l.length + 1) * 8 ≤ 140737488355328 := by omega
  have f6 : l.length + 1 ≤ 9223372036854775807 := by omega
  refine pgive_cx noTab_ok mixed (fun _ => none) Try.func66 rfl Try.ntmps66 Try.results66 (by simp) (by kernel_rfl) ?_
  have f7 : l.length * 8 ≤ 140737488355320 := by omega
  repeat' first
    | (with_reducible refine gw_bool (fun _ => ?_) (fun _ => ?_))
    | (with_reducible refine condw_bool (fun _ => ?_) (fun _ => ?_))
    | simp [*, appendV, srcCells, flat_i1, i1, scrC, scrI_comp, List.map_map, Function.comp_def, ownC, KeepBl, closedB, inT, inA, inC, blkOf]
theorem cloneI0 (c : Nat) : PGive Try.prog 66 [.val (.slice none 0 c)] .nils [] := by
  refine pgive_cx noTab_ok mixed (fun _ => none) Try.func66 rfl Try.ntmps66 Try.results66 (by simp) (by kernel_rfl) ?_
  repeat' first
    | (with_reducible refine gw_bool (fun _ => ?_) (fun _ => ?_))
    | (with_reducible refine condw_bool (fun _ => ?_) (fun _ => ?_))
    | simp [*, appendV, srcCells, KeepBl, closedB, inT, inA, inC, blkOf]
theorem cloneI2 (a : Addr) (c : Nat) : PGive Try.prog 66 [.val (.slice (some a) 0 c)] (.sl 5 0 0 1) [(5, ⟨3, []⟩)] := by
  refine pgive_cx noTab_ok mixed (fun _ => none) Try.func66 rfl Try.ntmps66 Try.results66 (by simp) (by kernel_rfl) ?_
  repeat' first
    | (with_reducible refine gw_bool (fun _ => ?_) (fun _ => ?_))
    | (with_reducible refine condw_bool (fun _ => ?_) (fun _ => ?_))
    | simp [*, appendV, srcCells, KeepBl, closedB, inT, inA, inC, blkOf]
theorem cloneIe : PGive Try.prog 66 [.list 1 []] (.list 1 []) [] := by
  intro w ro args hro hsz hr
  obtain ⟨x, rfl⟩ := arg1 hsz
  obtain ⟨a, c, rfl⟩ := emp_list (hr 0 _ x rfl rfl)
  have hr' : ∀ (j : Nat) (cc : V) (y : Value), [V.val (.slice a 0 c)][j]? = some cc → (#[Value.slice a 0 c] : Array Value)[j]? = some y → R0 w ro cc y := by
    intro j cc y h1 h2
    match j with
    | 0 => simp at h1 h2; subst h1; subst h2; exact .val _
    | j + 1 => simp at h1
  cases a with
  | none =>
    refine (cloneI0 c w ro _ hro rfl hr').mono ?_
    rintro e w' ⟨rv, ro', lam', rfl, h1, h2, h3, h4, h5, h6⟩
    have := h6.nils_inv; subst this
    exact ⟨_, ro', lam', rfl, h1, h2, h3, h4, h5, .pure _ _ (.list0 _ _ _)⟩
  | some a =>
    refine (cloneI2 a c w ro _ hro rfl hr').mono ?_
    rintro e w' ⟨rv, ro', lam', rfl, h1, h2, h3, h4, h5, h6⟩
    refine ⟨rv, ro', lamK [] lam', rfl, h1, h2, h3, HS.none h4, fun b ⟨key, hb⟩ => ?_, ?_⟩
    · rw [lamK_nil] at hb
      rcases hb with ⟨m, hb⟩ | hb <;> cases hb
    · generalize hv : V.sl 5 0 0 1 = v at h6
      cases h6
      · subst hv; rename_i hh; cases hh
      all_goals cases hv
      all_goals exact .pure _ _ (.list0 _ _ _)
/-! ### copies of rows of yes and no -/
theorem cloneB1 (x : Bool) (l : List Bool) (hl : l.length ≤ 1000) : PCall Try.prog 65 [.list 1 ((x :: l).map b1)] (.list 1 ((x :: l).map b1)) := by
  have f5 : (l.length + 1) * 1 ≤ 140737488355328 := by omega
  have f6 : l.length + 1 ≤ 9223372036854775807 := by omega
  have hc := chunks_b1 (x :: l)
  have hp := pure_b1 (x :: l)
  simp only [List.length_cons, List.map_cons, b1] at hc hp
  refine pcall_cx noTab_ok mixed (fun _ => none) Try.func65 rfl Try.ntmps65 Try.results65 (by simp) (by kernel_rfl) ?_
  have f7 : l.length ≤ 140737488355327 := by omega
  have hs := chunks_b1 l
  repeat' first
    | (with_reducible refine gw_bool (fun _ => ?_) (fun _ => ?_))
    | (with_reducible refine condw_bool (fun _ => ?_) (fun _ => ?_))
    | simp [*, appendV, srcCells, flat_b1, b1, scrC, scrB_comp, List.map_map, Function.comp_def, ownC]
theorem cloneB0 (c : Nat) : PCall Try.prog 65 [.val (.slice none 0 c)] .nils := by
  refine pcall_cx noTab_ok mixed (fun _ => none) Try.func65 rfl Try.ntmps65 Try.results65 (by simp) (by kernel_rfl) ?_
  repeat' first
    | (with_reducible refine gw_bool (fun _ => ?_) (fun _ => ?_))
    | (with_reducible refine condw_bool (fun _ => ?_) (fun _ => ?_))
    | simp [*, appendV, srcCells]
theorem cloneB2 (a : Addr) (c : Nat) : PCall Try.prog 65 [.val (.slice (some a) 0 c)] (.list 1 []) := by
  refine pcall_cx noTab_ok mixed (fun _ => none) Try.func65 rfl Try.ntmps65 Try.results65 (by simp) (by kernel_rfl) ?_
  repeat' first
    | (with_reducible refine gw_bool (fun _ => ?_) (fun _ => ?_))
    | (with_reducible refine condw_bool (fun _ => ?_) (fun _ => ?_))
    | simp [*, appendV, srcCells, chunks]
theorem cloneB_ok (l : List Bool) (hl : l.length ≤ 1000) : PCall Try.prog 65 [.list 1 (l.map b1)] (.list 1 (l.map b1)) := by
  cases l with
  | cons x l => exact cloneB1 x l (by simp at hl; omega)
  | nil =>
    intro w ro args hro hsz hr
    obtain ⟨x, rfl⟩ := arg1 hsz
    obtain ⟨a, c, rfl⟩ := emp_list (hr 0 _ x rfl rfl)
    have hr' : ∀ (j : Nat) (cc : V) (y : Value), [V.val (.slice a 0 c)][j]? = some cc → (#[Value.slice a 0 c] : Array Value)[j]? = some y → R0 w ro cc y := by
      intro j cc y h1 h2
      match j with
      | 0 => simp at h1 h2; subst h1; subst h2; exact .val _
      | j + 1 => simp at h1
    cases a with
    | none =>
      refine (cloneB0 c w ro _ hro rfl hr').mono ?_
      rintro e w' ⟨rv, ro', rfl, h1, h2, h3, h4, h5⟩
      cases h5
      exact ⟨_, ro', rfl, h1, h2, h3, h4, .list0 _ _ _⟩
    | some a => exact cloneB2 a c w ro _ hro rfl hr'
end Go.Proofs.Ytcbddoopmkhlfaa
