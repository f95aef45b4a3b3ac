/-
  message.Decode of message.Encode; the publisher.
  publisher.Step.
  The rounds of the law: what the clock does.
  The law.
-/
import Derived.Test.YtpkibnkhllefaaaJ7
section
namespace Go.Proofs.Ytpkibnkhllefaaa
open Go.Pv Go.RowKit
set_option linter.unusedSimpArgs false
set_option linter.unusedVariables false
set_option maxRecDepth 100000
set_option maxHeartbeats 4000000

theorem rows8_eq (p t s f q st se r n : Int) (h : okM p t s f q st se r) (hn : 0 ≤ n ∧ n < 128) (hse : se = 0) : (L8 p t s f q st se r n).map Nd.cs = rows8 p t st se r n (s / 16777216 % 256) (s / 65536 % 256) (s / 256 % 256) (s % 256) (f / 65536 % 256) (f / 256 % 256) (f % 256) (q % 256) := by
  obtain ⟨⟨a1, a2, a3⟩, a4, a5, a6⟩ := h
  have e1 : p % 256 = p := by omega
  have e2 : t % 256 = t := by omega
  have e3 : st % 256 = st := by omega
  have e4 : se % 256 = se := by omega
  have e5 : r % 256 = r := by omega
  have e6 : n % 256 = n := by omega
  simp only [L8, L1, rows8, n1, n8, List.map_cons, List.map_nil, Nd.cs, mb, u1, e1, e2, e3, e4, e5, e6]
theorem dec_ok (p t s f q st se r n : Int) (h : okM p t s f q st se r) (hn : 0 ≤ n ∧ n < 128) (hse : se = 0) :
    PCall Try.prog 12 [.list 1 ((msB p t s f q st se r n).map u1)] (.tup [.agg (msC p t s f q st se false r (.list 6 [vI n])), .int .i64 0]) := by
  have hd := tdec_ok p t s f q st se r n
  rw [rows8_eq p t s f q st se r n h hn hse] at hd
  have hst := h.1.2.2
  obtain ⟨h1, h2, h3, h4⟩ := hst
  have e1 := jn_s h1
  have e2 := jn_f h2
  have e3 : q % 256 = q := by omega
  have := decm_ok p t st se r n (s / 16777216 % 256) (s / 65536 % 256) (s / 256 % 256) (s % 256) (f / 65536 % 256) (f / 256 % 256) (f % 256) (q % 256) _ ⟨⟨byB_mod _, byB_mod _, byB_mod _, byB_mod _⟩, ⟨byB_mod _, byB_mod _, byB_mod _⟩, byB_mod _⟩ (by rw [e1, e2, e3]; exact h) hn hd
  rw [e1, e2, e3] at this
  exact this
/-! ### the publisher -/
def psC (started : Bool) (st gap s f q : Int) (c : V) : List V := [.int .i64 1, .int .i64 1, .int .i64 1, .int .i64 2, .bool started, .int .i64 st, .int .i64 0, .int .i64 0, .int .i64 gap, .int .i64 s, .int .i64 f, .int .i64 q, c]
theorem pnew_ok : PCall Try.prog 6 [.int .i64 1, .int .i64 1, .int .i64 1, .int .i64 2] (.tup [.agg (psC false 0 0 0 0 0 .nils), .int .i64 0]) := by
  refine pcall_cx noTab_ok mixed (fun _ => none) Try.func6 rfl Try.ntmps6 Try.results6 (by simp) (by kernel_rfl) ?_
  repeat' first
    | (with_reducible refine gw_bool (fun _ => ?_) (fun _ => ?_))
    | (with_reducible refine condw_bool (fun _ => ?_) (fun _ => ?_))
    | simp [*, psC]
theorem dup_ok (n : Int) : PCall Try.prog 15 [.list 6 [vI n]] (.list 6 [vI n]) := by
  refine pcall_cx noTab_ok mixed (fun _ => none) Try.func15 rfl Try.ntmps15 Try.results15 (by simp) (by kernel_rfl) ?_
  repeat' first
    | (with_reducible refine gw_bool (fun _ => ?_) (fun _ => ?_))
    | (with_reducible refine condw_bool (fun _ => ?_) (fun _ => ?_))
    | simp [*, vI, copyV, srcCells, appendV, srcCells, St.forget, scr, scrC, usesC, usesA, chunks, oneV]
theorem dup0_ok : PCall Try.prog 15 [.nils] (.list 6 []) := by
  refine pcall_cx noTab_ok mixed (fun _ => none) Try.func15 rfl Try.ntmps15 Try.results15 (by simp) (by kernel_rfl) ?_
  repeat' first
    | (with_reducible refine gw_bool (fun _ => ?_) (fun _ => ?_))
    | (with_reducible refine condw_bool (fun _ => ?_) (fun _ => ?_))
    | simp [*, copyV, srcCells, appendV, srcCells, St.forget, scr, scrC, usesC, usesA, chunks, oneV]
def Tdup : List V → Option V
  | [.nils] => some (.list 6 [])
  | [.list 6 [[.int .i64 k, .int .i64 n, .str s, .int .i64 0, .int .i64 0, .int .i64 0]]] => if k = 2 ∧ s = ⟨#[]⟩ then some (.list 6 [vI n]) else none
  | _ => none
theorem dup_tab : ∀ vs u, Tdup vs = some u → PCall Try.prog 15 vs u := by
  intro vs u h; unfold Tdup at h; split at h
  · cases h; exact dup0_ok
  · split at h
    · rename_i hc; cases h; obtain ⟨rfl, rfl⟩ := hc; exact dup_ok _
    · cases h
  · cases h
def Tbnd : List V → Option V
  | [.int .i64 n] => if n = 1 then some (.int .i64 1) else none
  | _ => none
theorem bnd_tab : ∀ vs u, Tbnd vs = some u → PCall Try.prog 17 vs u := by
  intro vs u h; unfold Tbnd at h; split at h
  · split at h
    · rename_i hc; cases h; subst hc
      refine pcall_cx noTab_ok mixed (fun _ => none) Try.func17 rfl Try.ntmps17 Try.results17 (by simp) (by kernel_rfl) ?_
      repeat' first
        | (with_reducible refine gw_bool (fun _ => ?_) (fun _ => ?_))
        | (with_reducible refine condw_bool (fun _ => ?_) (fun _ => ?_))
        | simp [*]
      rfl
    · cases h
  · cases h
def G60 : Tab := add 15 Tdup (add 17 Tbnd (noTab))
theorem G60_at (f : FuncId) (vs : List V) : G60.at' f vs = if f = 15 then Tdup vs else if f = 17 then Tbnd vs else noTab.at' f vs := rfl
theorem G60_fr (f : FuncId) : G60.fr f = if f = 15 then false else if f = 17 then false else noTab.fr f := rfl
theorem G60_gb (f : FuncId) : G60.gb f = noTab.gb f := rfl
theorem G60_gv (f : FuncId) (vs : List V) : G60.gv f vs = noTab.gv f vs := rfl
attribute [simp] G60_at G60_fr G60_gb G60_gv Tbnd Tdup
theorem G60_ok : TabOK Try.prog G60 := by
  refine add_ok (add_ok (noTab_ok) (by kernel_rfl) ?_) (by kernel_rfl) ?_
  · exact bnd_tab
  · exact dup_tab
theorem cur_ok (st s f q n : Int) : PCall Try.prog 18 [.agg (psC true st 1 s f q (.list 6 [vI n]))] (.agg (msC 1 4 s f q st 0 false 2 (.list 6 [vI n]))) := by
  refine pcall_cx G60_ok mixed (fun _ => none) Try.func18 rfl Try.ntmps18 Try.results18 (by simp) (by kernel_rfl) ?_
  repeat' first
    | (with_reducible refine gw_bool (fun _ => ?_) (fun _ => ?_))
    | (with_reducible refine condw_bool (fun _ => ?_) (fun _ => ?_))
    | simp [*, psC, msC, vI]
def Tcur : List V → Option V
  | [.agg [.int .i64 p, .int .i64 a, .int .i64 b, .int .i64 r, .bool true, .int .i64 st, .int .i64 se, .int .i64 c, .int .i64 gap, .int .i64 s, .int .i64 f, .int .i64 q, .list 6 [[.int .i64 k, .int .i64 n, .str e, .int .i64 0, .int .i64 0, .int .i64 0]]]] =>
    if (p = 1 ∧ a = 1 ∧ b = 1 ∧ r = 2) ∧ (se = 0 ∧ c = 0 ∧ gap = 1) ∧ k = 2 ∧ e = ⟨#[]⟩ then some (.agg (msC 1 4 s f q st 0 false 2 (.list 6 [vI n]))) else none
  | _ => none
theorem cur_tab : ∀ vs u, Tcur vs = some u → PCall Try.prog 18 vs u := by
  intro vs u h; unfold Tcur at h; split at h
  · split at h
    · rename_i hc; cases h
      obtain ⟨⟨rfl, rfl, rfl, rfl⟩, ⟨rfl, rfl, rfl⟩, rfl, rfl⟩ := hc
      exact cur_ok _ _ _ _ _
    · cases h
  · cases h
theorem eqs_ok (a b : Int) (h : ieq a b = false) : PCall Try.prog 42 [.list 6 [vI a], .list 6 [vI b]] (.bool false) := by
  refine pcall_cx noTab_ok mixed (fun _ => none) Try.func42 rfl Try.ntmps42 Try.results42 (by simp) (by kernel_rfl) ?_
  repeat' first
    | (with_reducible refine gw_bool (fun _ => ?_) (fun _ => ?_))
    | (with_reducible refine condw_bool (fun _ => ?_) (fun _ => ?_))
    | (refine lp_unroll (D := (fun _ => none)) noTab_ok mixed (by kernel_rfl) ?_)
    | simp [*, vI]
def Teqs : List V → Option V
  | [.list 6 [[.int .i64 k, .int .i64 a, .str e, .int .i64 0, .int .i64 0, .int .i64 0]], .list 6 [[.int .i64 k', .int .i64 b, .str e', .int .i64 0, .int .i64 0, .int .i64 0]]] => if (k = 2 ∧ k' = 2) ∧ (e = ⟨#[]⟩ ∧ e' = ⟨#[]⟩) ∧ ieq a b = false then some (.bool false) else none
  | _ => none
theorem eqs_tab : ∀ vs u, Teqs vs = some u → PCall Try.prog 42 vs u := by
  intro vs u h; unfold Teqs at h; split at h
  · split at h
    · rename_i hc; cases h
      obtain ⟨⟨rfl, rfl⟩, ⟨rfl, rfl⟩, h⟩ := hc
      exact eqs_ok _ _ h
    · cases h
  · cases h
def G61 : Tab := add 42 Teqs (noTab)
theorem G61_at (f : FuncId) (vs : List V) : G61.at' f vs = if f = 42 then Teqs vs else noTab.at' f vs := rfl
theorem G61_fr (f : FuncId) : G61.fr f = if f = 42 then false else noTab.fr f := rfl
theorem G61_gb (f : FuncId) : G61.gb f = noTab.gb f := rfl
theorem G61_gv (f : FuncId) (vs : List V) : G61.gv f vs = noTab.gv f vs := rfl
attribute [simp] G61_at G61_fr G61_gb G61_gv Teqs
theorem G61_ok : TabOK Try.prog G61 := by
  refine add_ok (noTab_ok) (by kernel_rfl) ?_
  · exact eqs_tab
theorem same_ok (a b : Int) (h : ieq a b = false) : PCall Try.prog 30 [.list 6 [vI a], .list 6 [vI b]] (.bool false) := by
  refine pcall_cx G61_ok mixed (fun _ => none) Try.func30 rfl Try.ntmps30 Try.results30 (by simp) (by kernel_rfl) ?_
  repeat' first
    | (with_reducible refine gw_bool (fun _ => ?_) (fun _ => ?_))
    | (with_reducible refine condw_bool (fun _ => ?_) (fun _ => ?_))
    | simp [*, vI]
def Tsame : List V → Option V
  | [.list 6 [[.int .i64 k, .int .i64 a, .str e, .int .i64 0, .int .i64 0, .int .i64 0]], .list 6 [[.int .i64 k', .int .i64 b, .str e', .int .i64 0, .int .i64 0, .int .i64 0]]] => if (k = 2 ∧ k' = 2) ∧ (e = ⟨#[]⟩ ∧ e' = ⟨#[]⟩) ∧ ieq a b = false then some (.bool false) else none
  | _ => none
theorem same_tab : ∀ vs u, Tsame vs = some u → PCall Try.prog 30 vs u := by
  intro vs u h; unfold Tsame at h; split at h
  · split at h
    · rename_i hc; cases h
      obtain ⟨⟨rfl, rfl⟩, ⟨rfl, rfl⟩, h⟩ := hc
      exact same_ok _ _ h
    · cases h
  · cases h
def G62 : Tab := add 30 Tsame (noTab)
theorem G62_at (f : FuncId) (vs : List V) : G62.at' f vs = if f = 30 then Tsame vs else noTab.at' f vs := rfl
theorem G62_fr (f : FuncId) : G62.fr f = if f = 30 then false else noTab.fr f := rfl
theorem G62_gb (f : FuncId) : G62.gb f = noTab.gb f := rfl
theorem G62_gv (f : FuncId) (vs : List V) : G62.gv f vs = noTab.gv f vs := rfl
attribute [simp] G62_at G62_fr G62_gb G62_gv Tsame
theorem G62_ok : TabOK Try.prog G62 := by
  refine add_ok (noTab_ok) (by kernel_rfl) ?_
  · exact same_tab
theorem due0_ok (n : Int) : PCall Try.prog 16 [.agg (psC false 0 0 0 0 0 .nils), .list 6 [vI n]] (.int .i64 1) := by
  refine pcall_cx G62_ok mixed (fun _ => none) Try.func16 rfl Try.ntmps16 Try.results16 (by simp) (by kernel_rfl) ?_
  repeat' first
    | (with_reducible refine gw_bool (fun _ => ?_) (fun _ => ?_))
    | (with_reducible refine condw_bool (fun _ => ?_) (fun _ => ?_))
    | simp [*, psC, vI]
theorem due1_ok (st s f q a b : Int) (h : ieq a b = false) : PCall Try.prog 16 [.agg (psC true st 1 s f q (.list 6 [vI b])), .list 6 [vI a]] (.int .i64 1) := by
  refine pcall_cx G62_ok mixed (fun _ => none) Try.func16 rfl Try.ntmps16 Try.results16 (by simp) (by kernel_rfl) ?_
  repeat' first
    | (with_reducible refine gw_bool (fun _ => ?_) (fun _ => ?_))
    | (with_reducible refine condw_bool (fun _ => ?_) (fun _ => ?_))
    | simp [*, psC, vI]
end Go.Proofs.Ytpkibnkhllefaaa
end
section
namespace Go.Proofs.Ytpkibnkhllefaaa
open Go.Pv Go.RowKit
set_option linter.unusedSimpArgs false
set_option linter.unusedVariables false
set_option maxRecDepth 100000
set_option maxHeartbeats 4000000

def G63 : Tab := add 18 Tcur (G60)
theorem G63_at (f : FuncId) (vs : List V) : G63.at' f vs = if f = 18 then Tcur vs else G60.at' f vs := rfl
theorem G63_fr (f : FuncId) : G63.fr f = if f = 18 then false else G60.fr f := rfl
theorem G63_gb (f : FuncId) : G63.gb f = G60.gb f := rfl
theorem G63_gv (f : FuncId) (vs : List V) : G63.gv f vs = G60.gv f vs := rfl
attribute [simp] G63_at G63_fr G63_gb G63_gv Tcur
theorem G63_ok : TabOK Try.prog G63 := by
  refine add_ok (G60_ok) (by kernel_rfl) ?_
  · exact cur_tab
noncomputable def HP (vs : List V) (u : V) (ws : List V) (v : V) : Tab := add 16 (T1 vs u) (add 19 (T1 ws v) G63)
section
variable (vs : List V) (u : V) (ws : List V) (v : V)
theorem HP_at (g : FuncId) (xs : List V) : (HP vs u ws v).at' g xs = if g = 16 then T1 vs u xs else if g = 19 then T1 ws v xs else G63.at' g xs := rfl
theorem HP_fr (g : FuncId) : (HP vs u ws v).fr g = if g = 16 then false else if g = 19 then false else G63.fr g := rfl
theorem HP_gb (g : FuncId) : (HP vs u ws v).gb g = G63.gb g := rfl
theorem HP_gv (g : FuncId) (xs : List V) : (HP vs u ws v).gv g xs = G63.gv g xs := rfl
end
attribute [simp] HP_at HP_fr HP_gb HP_gv
theorem HP_ok {vs : List V} {u : V} {ws : List V} {v : V} (h : PCall Try.prog 16 vs u) (k : PCall Try.prog 19 ws v) : TabOK Try.prog (HP vs u ws v) :=
  add_ok (add_ok G63_ok (by kernel_rfl) fun xs w hw => by
    unfold T1 at hw
    split at hw
    · rename_i e; cases hw; rw [e]; exact k
    · cases hw) (by kernel_rfl) fun xs w hw => by
    unfold T1 at hw
    split at hw
    · rename_i e; cases hw; rw [e]; exact h
    · cases hw
theorem okM1 {s f q st : Int} (h : stB s f q) (h1 : 1 ≤ st ∧ st < 128) : okM 1 4 s f q st 0 2 := ⟨⟨by decide, by decide, h⟩, h1, by decide, by decide⟩
theorem pstep0_ok (s f q n : Int) (h : stB s f q) : PCall Try.prog 10 [.agg (psC false 0 0 0 0 0 .nils), .list 6 [vI n], .agg [.int .i64 s, .int .i64 f, .int .i64 q]] (.tup [.agg (psC true 1 1 s f q (.list 6 [vI n])), .list 10 [msC 1 4 s f q 1 0 false 2 (.list 6 [vI n])]]) := by
  have HX_ok := HP_ok (due0_ok n) (check_ok 1 4 s f q 1 0 2 n (okM1 h (by decide)))
  have t1 := T1_at [.agg (psC false 0 0 0 0 0 .nils), .list 6 [vI n]] (.int .i64 1)
  have t2 := T1_at [.agg (msC 1 4 s f q 1 0 false 2 (.list 6 [vI n]))] (.int .i64 0)
  simp only [psC, msC, vI] at t1 t2 HX_ok ⊢
  refine pcall_cx HX_ok mixed (fun id => if id = 27 then some ⟨[(3, 6)], [1]⟩ else none) Try.func10 rfl Try.ntmps10 Try.results10 (by simp) (by kernel_rfl) ?_
  repeat' first
    | (with_reducible refine gw_bool (fun _ => ?_) (fun _ => ?_))
    | (with_reducible refine condw_bool (fun _ => ?_) (fun _ => ?_))
    | simp [*, msC, vI]
theorem pstep1_ok (s f q st n a s' f' q' : Int) (h : stB s' f' q') (h1 : 1 ≤ st ∧ st < 127) (hne : ieq a n = false) : PCall Try.prog 10 [.agg (psC true st 1 s f q (.list 6 [vI n])), .list 6 [vI a], .agg [.int .i64 s', .int .i64 f', .int .i64 q']] (.tup [.agg (psC true (st + 1) 1 s' f' q' (.list 6 [vI a])), .list 10 [msC 1 4 s' f' q' (st + 1) 0 false 2 (.list 6 [vI a])]]) := by
  have HX_ok := HP_ok (due1_ok st s f q a n hne) (check_ok 1 4 s' f' q' (st + 1) 0 2 a (okM1 h ⟨by omega, by omega⟩))
  have t1 := T1_at [.agg (psC true st 1 s f q (.list 6 [vI n])), .list 6 [vI a]] (.int .i64 1)
  have t2 := T1_at [.agg (msC 1 4 s' f' q' (st + 1) 0 false 2 (.list 6 [vI a]))] (.int .i64 0)
  have w1 : IntKind.i64.wrap (st + 1) = st + 1 := wrap_in (by omega) (by omega)
  have w2 : ieq st 4294967295 = false := by simp [ieq]; omega
  simp only [psC, msC, vI] at t1 t2 HX_ok ⊢
  refine pcall_cx HX_ok mixed (fun id => if id = 27 then some ⟨[(3, 6)], [1]⟩ else none) Try.func10 rfl Try.ntmps10 Try.results10 (by simp) (by kernel_rfl) ?_
  repeat' first
    | (with_reducible refine gw_bool (fun _ => ?_) (fun _ => ?_))
    | (with_reducible refine condw_bool (fun _ => ?_) (fun _ => ?_))
    | simp [*, msC, vI]
end Go.Proofs.Ytpkibnkhllefaaa
end
section
namespace Go.Proofs.Ytpkibnkhllefaaa
open Go.Pv Go.RowKit
set_option linter.unusedSimpArgs false
set_option linter.unusedVariables false
set_option maxRecDepth 100000
set_option maxHeartbeats 4000000

structure Ev where
  d : Int
  o : Int
  y : Bool
def Ev.cs (x : Ev) : List V := [.int .i64 x.d, .int .i64 x.o, .bool x.y]
def PSt (k : Nat) (s f q : Int) : List V := if k = 0 then psC false 0 0 0 0 0 .nils else psC true k 1 s f q (.list 6 [vI ((k : Int) - 1)])
theorem PSt_succ (k : Nat) (s f q : Int) : PSt (k + 1) s f q = psC true ((k : Int) + 1) 1 s f q (.list 6 [vI k]) := by
  have e : ((k + 1 : Nat) : Int) - 1 = k := by omega
  simp only [PSt, Nat.succ_ne_zero, if_false, e]
  rfl
theorem pstep_k (k : Nat) (hk : k < 60) (s f q s' f' q' : Int) (h : stB s' f' q') : PCall Try.prog 10 [.agg (PSt k s f q), .list 6 [vI k], .agg [.int .i64 s', .int .i64 f', .int .i64 q']] (.tup [.agg (PSt (k + 1) s' f' q'), .list 10 [msC 1 4 s' f' q' ((k : Int) + 1) 0 false 2 (.list 6 [vI k])]]) := by
  rw [PSt_succ]
  by_cases h0 : k = 0
  · subst h0
    simp only [PSt, if_true]
    exact pstep0_ok s' f' q' _ h
  · simp only [PSt, h0, if_false]
    exact pstep1_ok s f q k ((k : Int) - 1) k s' f' q' h (by omega) (by simp [ieq]; omega)
/-- What a clock's numbers are after k rounds. -/
def ckI (k : Nat) (c : Ck) : Prop := (0 ≤ c.t ∧ c.t ≤ 1099511627776 + 20003 * (k : Int)) ∧ (0 ≤ c.r ∧ c.r ≤ 1000000) ∧ (0 ≤ c.e ∧ c.e ≤ 1000000) ∧ (0 ≤ c.s ∧ c.s ≤ k)
theorem ckI_ok {k : Nat} {c : Ck} (h : ckI k c) (hk : k ≤ 60) : c.ok = true := by
  obtain ⟨⟨h1, h2⟩, ⟨h3, h4⟩, ⟨h5, h6⟩, h7, h8⟩ := h
  exact ok_iff.2 ⟨by omega, by omega, h3, by omega, h5, h6, h7, by omega⟩
theorem ckI_step {k : Nat} {c : Ck} (h : ckI k c) (d : Int) : ckI (k + 1) (stC c d) := by
  obtain ⟨⟨h1, h2⟩, ⟨h3, h4⟩, ⟨h5, h6⟩, h7, h8⟩ := h
  have hl : -100 ≤ lim d ∧ lim d ≤ 100 := by unfold lim; omega
  simp only [stC, ckI]
  refine ⟨⟨by omega, by omega⟩, ⟨by omega, by omega⟩, ⟨h5, h6⟩, ?_⟩
  split <;> omega
theorem sync_now {c : Ck} {now acc : Int} (h : 0 ≤ now ∧ now ≤ 1125899906842624) (ha : 0 ≤ acc ∧ acc ≤ 1000) : syC c now acc = (⟨now, 0, true, acc, 0⟩, 0) := by
  have e1 : ilt acc 0 = false := ilt_f ha.1
  have e2 : ilt 1000 acc = false := ilt_f ha.2
  have e3 : ilt now (-1125899906842624) = false := ilt_f (by omega)
  have e4 : ilt 1125899906842624 now = false := ilt_f h.2
  simp [syC, e1, e2, e3, e4]
theorem stamp_fit {k : Nat} {c : Ck} (h : ckI k c) (hk : k ≤ 60) : stB (spC c).1 (spC c).2 (clC c) := by
  obtain ⟨⟨h1, h2⟩, _⟩ := h
  refine ⟨⟨by simp only [spC]; omega, by simp only [spC]; omega⟩, ⟨by simp only [spC]; omega, by simp only [spC]; omega⟩, ?_⟩
  unfold clC
  split
  · decide
  · split <;> decide
end Go.Proofs.Ytpkibnkhllefaaa
end
section
namespace Go.Proofs.Ytpkibnkhllefaaa
open Go.Pv Go.RowKit
set_option linter.unusedSimpArgs false
set_option linter.unusedVariables false
set_option maxRecDepth 100000
set_option maxHeartbeats 4000000

theorem lendL_pure {l : List V} (hl : l.any ownC = false) (h : Nat → Option Blk) : lendL h l = some l := by
  induction l with
  | nil => rfl
  | cons y ys ih =>
    simp only [List.any_cons, Bool.or_eq_false_iff] at hl
    simp only [lendL, ih hl.2]
    cases y <;> simp [ownC] at hl <;> rfl
theorem nx_n {n : Nat} {c : Code} {Q : Exit → St → Prop} {st : St} : Nx Try.prog n c Q .normal st ↔ CW Try.prog n c Q st := Iff.rfl
theorem nx_rr {n : Nat} {c : Code} {Q : Exit → St → Prop} {st : St} : Nx Try.prog n c Q .ret st ↔ Q .ret st := Iff.rfl
theorem nx_ee {n : Nat} {c : Code} {Q : Exit → St → Prop} {st : St} {id : Nat} : Nx Try.prog n c Q (.exit id) st ↔ Q (.exit id) st := Iff.rfl
attribute [simp] nx_n nx_rr nx_ee
theorem len13 {P : List V} (h : P.length = 13) : ∃ a b c d e f g h i j k l m, P = [a, b, c, d, e, f, g, h, i, j, k, l, m] := by
  match P, h with
  | [a, b, c, d, e, f, g, h, i, j, k, l, m], _ => exact ⟨a, b, c, d, e, f, g, h, i, j, k, l, m, rfl⟩
def Ck.cl (c : Ck) : List V := [.int .i64 c.t, .int .i64 c.r, .bool c.k, .int .i64 c.e, .int .i64 c.s]
/-- At the head of the loop: the arguments, now, the clock, the publisher. -/
def lwH (s : St) : Prop := s.heap 10 = none ∧ s.heap 11 = none ∧ s.heap 15 = none ∧ s.heap 67 = none
def lwI (R : List (List V)) (now : Int) (k : Nat) (C P : List V) (s : St) : Prop :=
  (s.env 1 = .list 3 R ∧ s.env 5 = .int .i64 now ∧ s.env 6 = .ptr 6 0 ∧ s.env 7 = .ptr 7 0 ∧ s.env 8 = .int .i64 0 ∧ s.env 9 = .int .i64 k) ∧ s.heap 6 = some ⟨25, C⟩ ∧ s.heap 7 = some ⟨31, P⟩
theorem law_ok (start : Int) (l : List Ev) : PCall Try.prog 3 [.int .i64 start, .list 3 (l.map Ev.cs)] (.bool true) := by
  obtain ⟨T0, hT⟩ : ∃ T, start % 1099511627776 = T := ⟨_, rfl⟩
  have hT0 : 0 ≤ T0 := by omega
  have hT1 : T0 ≤ 1099511627776 := by omega
  obtain ⟨N, hN⟩ : ∃ N, l.length = N := ⟨_, rfl⟩
  obtain ⟨R, hR⟩ : ∃ R, l.map Ev.cs = R := ⟨_, rfl⟩
  have hRl : R.length = N := by rw [← hR]; simpa using hN
  rw [hR]
  replace hR : Hid (_) := hR
  refine pcall_of2 Try.func3 rfl Try.ntmps3 Try.results3 (by simp) ?_
  refine cut (K := fun s => s.env 0 = .int .i64 start ∧ s.env 1 = .list 3 R ∧ s.heap = fun _ => none) ?_ ?_
  · refine CW.of_cx (D := (fun id => if id = 10 then some ⟨[(12, 6)], []⟩ else none)) noTab_ok mixed _ _ _ (by kernel_rfl) ?_
    repeat' first
      | (with_reducible refine gw_bool (fun _ => ?_) (fun _ => ?_))
      | (with_reducible refine condw_bool (fun _ => ?_) (fun _ => ?_))
      | simp [*]
  rintro ⟨e, h⟩ ⟨g0, g1, hh⟩
  simp only at g0 g1 hh; subst hh
  refine cut (K := fun s => s.env 1 = .list 3 R ∧ s.env 5 = .int .i64 T0 ∧ s.heap = fun _ => none) ?_ ?_
  · refine CW.of_cx (D := (fun id => if id = 10 then some ⟨[(12, 6)], []⟩ else none)) G9_ok mixed _ _ _ (by kernel_rfl) ?_
    repeat' first
      | (with_reducible refine gw_bool (fun _ => ?_) (fun _ => ?_))
      | (with_reducible refine condw_bool (fun _ => ?_) (fun _ => ?_))
      | simp [*]
  clear g0 g1
  rintro ⟨e, h⟩ ⟨g1, g5, hh⟩
  simp only at g1 g5 hh; subst hh
  refine cut (K := fun s => (s.env 1 = .list 3 R ∧ s.env 5 = .int .i64 T0 ∧ s.env 6 = .ptr 6 0) ∧ s.heap 6 = some ⟨25, Ck.cl ⟨T0, 0, false, 0, 0⟩⟩ ∧ s.heap 7 = none ∧ lwH s) ?_ ?_
  · refine CW.of_cx (D := (fun id => if id = 10 then some ⟨[(12, 6)], []⟩ else none)) G9_ok mixed _ _ _ (by kernel_rfl) ?_
    repeat' first
      | (with_reducible refine gw_bool (fun _ => ?_) (fun _ => ?_))
      | (with_reducible refine condw_bool (fun _ => ?_) (fun _ => ?_))
      | simp [*, Ck.v, Ck.cl, lwH]
  clear g1 g5
  rintro ⟨e, h⟩ ⟨⟨g1, g5, g6⟩, q6, q7, qH⟩
  simp only [lwH] at g1 g5 g6 q6 q7 qH
  have hnew := H1_ok pnew_ok (by kernel_rfl)
  have tnew := T1_at [.int .i64 1, .int .i64 1, .int .i64 1, .int .i64 2] (.tup [.agg (psC false 0 0 0 0 0 .nils), .int .i64 0])
  refine cut (K := fun s => ((s.env 1 = .list 3 R ∧ s.env 5 = .int .i64 T0 ∧ s.env 6 = .ptr 6 0 ∧ s.env 7 = .ptr 7 0 ∧ s.env 8 = .int .i64 0) ∧ s.heap 6 = some ⟨25, Ck.cl ⟨T0, 0, false, 0, 0⟩⟩ ∧ s.heap 7 = some ⟨31, PSt 0 0 0 0⟩) ∧ lwH s) ?_ ?_
  · have HX_ok := hnew
    simp only [psC] at tnew
    refine CW.of_cx (D := (fun id => if id = 10 then some ⟨[(12, 6)], []⟩ else none)) HX_ok mixed _ _ _ (by kernel_rfl) ?_
    simp only [psC]
    repeat' first
      | (with_reducible refine gw_bool (fun _ => ?_) (fun _ => ?_))
      | (with_reducible refine condw_bool (fun _ => ?_) (fun _ => ?_))
      | simp [*, Ck.cl, PSt, psC, lwH]
  clear g1 g5 g6 q6 q7 qH tnew hnew
  intro st hst
  refine cut (K := fun s => s.env 8 = .int .i64 0) ?_ ?_
  case' refine_2 =>
    rintro ⟨e, h⟩ g8
    simp only at g8
    refine CW.of_cx (D := (fun id => if id = 10 then some ⟨[(12, 6)], []⟩ else none)) noTab_ok mixed _ _ _ (by kernel_rfl) ?_
    repeat' first
      | (with_reducible refine gw_bool (fun _ => ?_) (fun _ => ?_))
      | (with_reducible refine condw_bool (fun _ => ?_) (fun _ => ?_))
      | simp [*]
  refine cut (K := fun s => lwI R (T0 + 20000 * ((0 : Nat) : Int)) 0 (Ck.cl ⟨T0, 0, false, 0, 0⟩) (PSt 0 0 0 0) s ∧ lwH s) ?_ ?_
  · obtain ⟨e, h⟩ := st
    simp only [lwH] at hst
    obtain ⟨⟨h1, h2, h3⟩, h4⟩ := hst
    refine CW.of_cx (D := (fun id => if id = 10 then some ⟨[(12, 6)], []⟩ else none)) noTab_ok mixed _ _ _ (by kernel_rfl) ?_
    repeat' first
      | (with_reducible refine gw_bool (fun _ => ?_) (fun _ => ?_))
      | (with_reducible refine condw_bool (fun _ => ?_) (fun _ => ?_))
      | simp [*, lwI, lwH]
  clear hst
  rintro st ⟨hst, hh⟩
  refine cw_block (LH.cw (LH.inv (α := Nat) (fun k s => k ≤ N ∧ k ≤ 60 ∧ ∃ c S F Q, ckI k c ∧ lwI R (T0 + 20000 * (k : Int)) k c.cl (PSt k S F Q) s ∧ lwH s) (fun k => 60 - k) ?_ _ 0 _ rfl ⟨by omega, by omega, _, 0, 0, 0, ⟨⟨hT0, by simpa using hT1⟩, ⟨by simp, by simp⟩, ⟨by simp, by simp⟩, ⟨by simp, by simp⟩⟩, hst, hh⟩))
  clear hst hh st
  rintro k st ⟨hk1, hk2, c, S, F, Q, hc, hst, hh⟩
  by_cases hlt : k < N ∧ k < 60
  · obtain ⟨hkN, hk6⟩ := hlt
    have f1 : ilt (k : Int) N = true := ilt_t (by omega)
    have f2 : ilt (k : Int) 60 = true := ilt_t (by omega)
    have f3 : (k : Int) < N := by omega
    have wk : IntKind.i64.wrap ((k : Int) + 1) = (k : Int) + 1 := wrap_in (by omega) (by omega)
    obtain ⟨now, hnow⟩ : ∃ w, T0 + 20000 * (k : Int) = w := ⟨_, rfl⟩
    obtain ⟨now', hnow'⟩ : ∃ w, T0 + 20000 * ((k + 1 : Nat) : Int) = w := ⟨_, rfl⟩
    have wn : IntKind.i64.wrap (now + 20000) = now' := by rw [wrap_in (by omega) (by omega)]; omega
    have hnb : 0 ≤ now' ∧ now' ≤ 1125899906842624 := ⟨by omega, by omega⟩
    rw [hnow] at hst
    obtain ⟨v, hv⟩ : ∃ v, l[k]? = some v := ⟨l[k], List.getElem?_eq_getElem (by omega)⟩
    have r1 : R[k]? = some v.cs := by rw [← hR.out]; simp [hv]
    have r2 : R[k] = v.cs := by rw [List.getElem?_eq_getElem (by omega)] at r1; simpa using r1
    clear hv
    obtain ⟨vd, vo, vy⟩ := v
    simp only [Ev.cs] at r1 r2
    have hc1 := ckI_step hc vd
    have hok := ckI_ok hc (by omega)
    obtain ⟨c1, hcc⟩ : ∃ c1, stC c vd = c1 := ⟨_, rfl⟩
    rw [hcc] at hc1
    obtain ⟨c2, hc2⟩ : ∃ c2, (if vy = true then (⟨now', 0, true, vo % 100, 0⟩ : Ck) else c1) = c2 := ⟨_, rfl⟩
    have hs2 : ckI (k + 1) c2 := by
      cases vy
      · simp at hc2; rw [← hc2]; exact hc1
      · simp at hc2; rw [← hc2]
        exact ⟨⟨hnb.1, by show now' ≤ _; omega⟩, ⟨by simp, by simp⟩, ⟨by show 0 ≤ vo % 100; omega, by show vo % 100 ≤ _; omega⟩, ⟨by simp, by simp; omega⟩⟩
    have hok2 := ckI_ok hs2 (by omega)
    have hfit := stamp_fit hs2 (by omega)
    obtain ⟨S', hS⟩ : ∃ x, (spC c2).1 = x := ⟨_, rfl⟩
    obtain ⟨F', hF⟩ : ∃ x, (spC c2).2 = x := ⟨_, rfl⟩
    obtain ⟨Q', hQ⟩ : ∃ x, clC c2 = x := ⟨_, rfl⟩
    rw [hS, hF, hQ] at hfit
    have ht2 : 0 ≤ c2.t := hs2.1.1
    have hm := okM1 hfit (st := (k : Int) + 1) ⟨by omega, by omega⟩
    have hkn : 0 ≤ (k : Int) ∧ (k : Int) < 128 := ⟨by omega, by omega⟩
    have hps := pstep_k k hk6 S F Q S' F' Q' hfit
    have hen := encm_ok 1 4 S' F' Q' ((k : Int) + 1) 0 2 k hm hkn
    have hde := dec_ok 1 4 S' F' Q' ((k : Int) + 1) 0 2 k hm hkn rfl
    generalize (msB 1 4 S' F' Q' ((k : Int) + 1) 0 2 k).map u1 = X at hen hde
    obtain ⟨P, hP⟩ : ∃ P, PSt k S F Q = P := ⟨_, rfl⟩
    have hPl : P.length = 13 := by rw [← hP]; unfold PSt; split <;> rfl
    have hPp : P.any ownC = false := by rw [← hP]; unfold PSt psC; split <;> simp [ownC]
    rw [hP] at hps hst
    clear hP hc
    have hPt : P.take 13 = P := List.take_of_length_le (by omega)
    rw [PSt_succ] at hps
    refine cut (K := fun s => lwI R now k c.cl P s ∧ lwH s) ?_ ?_
    · obtain ⟨e, h⟩ := st
      simp only [lwI, lwH] at hst hh
      refine CW.of_cx (D := (fun id => if id = 10 then some ⟨[(12, 6)], []⟩ else none)) noTab_ok mixed _ _ _ (by kernel_rfl) ?_
      repeat' first
        | (with_reducible refine gw_bool (fun _ => ?_) (fun _ => ?_))
        | (with_reducible refine condw_bool (fun _ => ?_) (fun _ => ?_))
        | simp [*, lwI, lwH]
    clear hst hh st
    rintro st ⟨hst, hh⟩
    refine cut (K := fun s => lwI R now' k c2.cl (psC true ((k : Int) + 1) 1 S' F' Q' (.list 6 [vI k])) s ∧ s.heap 67 = none) ?_ ?_
    · refine cw_block ?_
      refine cut (K := fun s => lwI R now k c1.cl P s ∧ lwH s) ?_ ?_
      · obtain ⟨e, h⟩ := st
        simp only [lwI, lwH] at hst hh
        obtain ⟨ct, cr, ck, ce, cs⟩ := c
        simp only [Ck.cl] at hst
        refine CW.of_cx (D := (fun id => if id = 10 then some ⟨[(12, 6)], []⟩ else none)) G9_ok mixed _ _ _ (by kernel_rfl) ?_
        repeat' first
          | (with_reducible refine gw_bool (fun _ => ?_) (fun _ => ?_))
          | (with_reducible refine condw_bool (fun _ => ?_) (fun _ => ?_))
          | simp [*, lwI, lwH, Ck.cl, Ck.v]
      clear hst hh st
      rintro st ⟨hst, hh⟩
      refine cut (K := fun s => lwI R now' k c1.cl P s ∧ lwH s) ?_ ?_
      · obtain ⟨e, h⟩ := st
        simp only [lwI, lwH] at hst hh
        refine CW.of_cx (D := (fun id => if id = 10 then some ⟨[(12, 6)], []⟩ else none)) noTab_ok mixed _ _ _ (by kernel_rfl) ?_
        repeat' first
          | (with_reducible refine gw_bool (fun _ => ?_) (fun _ => ?_))
          | (with_reducible refine condw_bool (fun _ => ?_) (fun _ => ?_))
          | simp [*, lwI, lwH]
      clear hst hh st
      rintro st ⟨hst, hh⟩
      refine cut (K := fun s => lwI R now' k c2.cl P s ∧ lwH s) ?_ ?_
      · obtain ⟨e, h⟩ := st
        simp only [lwI, lwH] at hst hh
        cases vy
        · simp at hc2
          subst hc2
          refine CW.of_cx (D := (fun id => if id = 10 then some ⟨[(12, 6)], []⟩ else none)) G9_ok mixed _ _ _ (by kernel_rfl) ?_
          repeat' first
            | (with_reducible refine gw_bool (fun _ => ?_) (fun _ => ?_))
            | (with_reducible refine condw_bool (fun _ => ?_) (fun _ => ?_))
            | simp [*, lwI, lwH]
        · simp at hc2
          subst hc2
          obtain ⟨ct, cr, ck, ce, cs⟩ := c1
          have hsy : syC ⟨ct, cr, ck, ce, cs⟩ now' (vo % 100) = (⟨now', 0, true, vo % 100, 0⟩, 0) := sync_now hnb (by omega)
          simp only [Ck.cl] at hst
          refine CW.of_cx (D := (fun id => if id = 10 then some ⟨[(12, 6)], []⟩ else none)) G9_ok mixed _ _ _ (by kernel_rfl) ?_
          repeat' first
            | (with_reducible refine gw_bool (fun _ => ?_) (fun _ => ?_))
            | (with_reducible refine condw_bool (fun _ => ?_) (fun _ => ?_))
            | simp [*, lwI, lwH, Ck.cl, Ck.v, vE]
      clear hst hh st hc1 hcc hc2 r1 r2
      rintro st ⟨hst, hh⟩
      refine cut (K := fun s => lwI R now' k c2.cl P s ∧ (s.env 10 = .ptr 10 0 ∧ s.heap 10 = some ⟨28, [.int .i64 S', .int .i64 F', .int .i64 Q']⟩) ∧ s.heap 11 = none ∧ s.heap 15 = none ∧ s.heap 67 = none) ?_ ?_
      · obtain ⟨e, h⟩ := st
        simp only [lwI, lwH] at hst hh
        obtain ⟨ct, cr, ck, ce, cs⟩ := c2
        simp only [Ck.cl] at hst
        simp only at ht2
        refine CW.of_cx (D := (fun id => if id = 10 then some ⟨[(12, 6)], []⟩ else none)) G9_ok mixed _ _ _ (by kernel_rfl) ?_
        repeat' first
          | (with_reducible refine gw_bool (fun _ => ?_) (fun _ => ?_))
          | (with_reducible refine condw_bool (fun _ => ?_) (fun _ => ?_))
          | simp [*, lwI, lwH, Ck.cl]
        done
      clear hst hh st
      rintro st ⟨hst, h10, h11, h15, h67⟩
      have hPb : ∀ k b, P.map (pubC k b) = P := fun k b => pub_cells hPp
      have hPL : ∀ h, lendL h P = some P := lendL_pure hPp
      have tP := T1_at [.agg P, .list 6 [vI k], .agg [.int .i64 S', .int .i64 F', .int .i64 Q']] (.tup [.agg (psC true ((k : Int) + 1) 1 S' F' Q' (.list 6 [vI k])), .list 10 [msC 1 4 S' F' Q' ((k : Int) + 1) 0 false 2 (.list 6 [vI k])]])
      refine cut (K := fun s => (lwI R now' k c2.cl P s ∧ (s.env 10 = .ptr 10 0 ∧ s.heap 10 = some ⟨28, [.int .i64 S', .int .i64 F', .int .i64 Q']⟩)) ∧ (s.env 11 = .ptr 11 0 ∧ s.heap 11 = some ⟨31, psC true ((k : Int) + 1) 1 S' F' Q' (.list 6 [vI k])⟩) ∧ s.env 12 = .list 10 [msC 1 4 S' F' Q' ((k : Int) + 1) 0 false 2 (.list 6 [vI k])] ∧ s.heap 15 = none ∧ s.heap 67 = none) ?_ ?_
      · obtain ⟨e, h⟩ := st
        simp only [lwI] at hst h10 h11 h15 h67
        intro w0 ro lam a w hs
        refine wp_region_list ?_
        refine eg_wp0 (K := fun s => (lwI R now' k c2.cl P s ∧ (s.env 10 = .ptr 10 0 ∧ s.heap 10 = some ⟨28, [.int .i64 S', .int .i64 F', .int .i64 Q']⟩)) ∧ (s.heap 11 = none ∧ s.heap 15 = none) ∧ s.env 64 = .agg P ∧ s.env 67 = .sl 67 0 1 6 ∧ s.env 68 = .agg [.int .i64 S', .int .i64 F', .int .i64 Q'] ∧ s.heap 67 = some ⟨45, vI k⟩) noTab_ok (n := 132) [_, _, _, _, _] _ _ _ _ _ (by kernel_rfl) ?_ hs fun st5 a5 ro5 lam5 w5 k5 x5 s5 => ?_
        · clear hs
          simp [*, lwI, vI]
        obtain ⟨e5, h5⟩ := st5
        simp only [lwI] at k5
        obtain ⟨ro6, lam6, x6, s6⟩ := View.pub 132 (key := 67) k5.2.2.2.2.2 (by simp [vI, ownC]) _ _ _ _ _ s5
        have HX_ok := H1_ok hps (by kernel_rfl)
        refine eg_end (K := fun s => (lwI R now' k c2.cl P s ∧ (s.env 10 = .ptr 10 0 ∧ s.heap 10 = some ⟨28, [.int .i64 S', .int .i64 F', .int .i64 Q']⟩)) ∧ (s.env 11 = .ptr 11 0 ∧ s.heap 11 = some ⟨31, psC true ((k : Int) + 1) 1 S' F' Q' (.list 6 [vI k])⟩) ∧ s.env 12 = .list 10 [msC 1 4 S' F' Q' ((k : Int) + 1) 0 false 2 (.list 6 [vI k])] ∧ s.heap 15 = none ∧ s.heap 67 = none) HX_ok (n := 132) _ _ _ _ _ _ (by kernel_rfl) ?_ s6 fun st7 a7 ro7 lam7 w7 k7 x7 s7 => ?_
        · clear hs s5 s6
          simp only [psC, msC] at tP ⊢
          simp [*, St.pub, pubT, pubA, pubC, lwI, Ck.cl, vI, chunks]
          done
        · exact ⟨st7, ro7, lam7, ⟨rfl, k7⟩, (x5.trans x6).trans x7, s7⟩
      clear hst h10 h11 h15 h67 st tP hps
      rintro st ⟨⟨hst, h10⟩, h11, g12, h15, h67⟩
      refine cut (K := fun s => (lwI R now' k c2.cl (psC true ((k : Int) + 1) 1 S' F' Q' (.list 6 [vI k])) s ∧ (s.env 10 = .ptr 10 0 ∧ s.heap 10 = some ⟨28, [.int .i64 S', .int .i64 F', .int .i64 Q']⟩)) ∧ s.env 12 = .list 10 [msC 1 4 S' F' Q' ((k : Int) + 1) 0 false 2 (.list 6 [vI k])] ∧ s.heap 15 = none ∧ s.heap 67 = none) ?_ ?_
      · obtain ⟨e, h⟩ := st
        simp only [lwI, psC] at hst h10 h11 g12 h15 h67
        obtain ⟨y0, y1, y2, y3, y4, y5, y6, y7, y8, y9, y10, y11, y12, hP⟩ := len13 hPl
        rw [hP] at hst
        clear hPt hPb hPL hPp hPl
        refine CW.of_cx (D := (fun id => if id = 10 then some ⟨[(12, 6)], []⟩ else none)) noTab_ok mixed _ _ _ (by kernel_rfl) ?_
        repeat' first
          | (with_reducible refine gw_bool (fun _ => ?_) (fun _ => ?_))
          | (with_reducible refine condw_bool (fun _ => ?_) (fun _ => ?_))
          | simp [*, lwI, psC]
      clear hst h10 h11 g12 h15 h67 st hPt hPb hPL hPp hPl
      generalize psC true ((k : Int) + 1) 1 S' F' Q' (.list 6 [vI k]) = P' at *
      rintro st ⟨⟨hst, h10⟩, g12, h15, h67⟩
      refine cut (K := fun s => (lwI R now' k c2.cl P' s ∧ (s.env 10 = .ptr 10 0 ∧ s.heap 10 = some ⟨28, [.int .i64 S', .int .i64 F', .int .i64 Q']⟩)) ∧ s.env 12 = .list 10 [msC 1 4 S' F' Q' ((k : Int) + 1) 0 false 2 (.list 6 [vI k])] ∧ s.heap 15 = none ∧ s.heap 67 = none) ?_ ?_
      · obtain ⟨e, h⟩ := st
        simp only [lwI] at hst h10 g12 h15 h67
        refine CW.of_cx (D := (fun id => if id = 10 then some ⟨[(12, 6)], []⟩ else none)) noTab_ok mixed _ _ _ (by kernel_rfl) ?_
        repeat' first
          | (with_reducible refine gw_bool (fun _ => ?_) (fun _ => ?_))
          | (with_reducible refine condw_bool (fun _ => ?_) (fun _ => ?_))
          | simp [*, lwI]
      clear hst h10 g12 h15 h67 st
      rintro st ⟨⟨hst, h10⟩, g12, h15, h67⟩
      have tE := T1_at [.agg (msC 1 4 S' F' Q' ((k : Int) + 1) 0 false 2 (.list 6 [vI k]))] (.tup [.list 1 X, .int .i64 0])
      have tD := T1_at [.list 1 X] (.tup [.agg (msC 1 4 S' F' Q' ((k : Int) + 1) 0 false 2 (.list 6 [vI k])), .int .i64 0])
      refine cut (K := fun s => (lwI R now' k c2.cl P' s ∧ (s.env 10 = .ptr 10 0 ∧ s.heap 10 = some ⟨28, [.int .i64 S', .int .i64 F', .int .i64 Q']⟩)) ∧ s.env 13 = .list 1 X ∧ s.env 14 = .int .i64 0 ∧ s.heap 15 = none ∧ s.heap 67 = none) ?_ ?_
      · obtain ⟨e, h⟩ := st
        simp only [lwI, msC] at hst h10 g12 h15 h67
        have HX_ok := H1_ok hen (by kernel_rfl)
        refine CW.of_cx (D := (fun id => if id = 10 then some ⟨[(12, 6)], []⟩ else none)) HX_ok mixed _ _ _ (by kernel_rfl) ?_
        simp only [msC] at tE ⊢
        repeat' first
          | (with_reducible refine gw_bool (fun _ => ?_) (fun _ => ?_))
          | (with_reducible refine condw_bool (fun _ => ?_) (fun _ => ?_))
          | simp [*, lwI]
        done
      clear hst h10 g12 h15 h67 st tE hen
      rintro st ⟨⟨hst, h10⟩, g13, g14, h15, h67⟩
      refine cut (K := fun s => (lwI R now' k c2.cl P' s ∧ (s.env 10 = .ptr 10 0 ∧ s.heap 10 = some ⟨28, [.int .i64 S', .int .i64 F', .int .i64 Q']⟩)) ∧ s.env 14 = .int .i64 0 ∧ s.env 16 = .int .i64 0 ∧ (s.env 15 = .ptr 15 0 ∧ s.heap 15 = some ⟨50, msC 1 4 S' F' Q' ((k : Int) + 1) 0 false 2 (.list 6 [vI k])⟩) ∧ s.heap 67 = none) ?_ ?_
      · obtain ⟨e, h⟩ := st
        simp only [lwI] at hst h10 g13 g14 h15 h67
        have HX_ok := H1_ok hde (by kernel_rfl)
        refine CW.of_cx (D := (fun id => if id = 10 then some ⟨[(12, 6)], []⟩ else none)) HX_ok mixed _ _ _ (by kernel_rfl) ?_
        simp only [msC] at tD ⊢
        repeat' first
          | (with_reducible refine gw_bool (fun _ => ?_) (fun _ => ?_))
          | (with_reducible refine condw_bool (fun _ => ?_) (fun _ => ?_))
          | simp [*, lwI]
        done
      clear hst h10 g13 g14 h15 h67 st tD hde
      rintro ⟨e, h⟩ ⟨⟨hst, h10⟩, g14, g16, h15, h67⟩
      simp only [lwI, msC] at hst h10 g14 g16 h15 h67
      obtain ⟨ct, cr, ck, ce, cs⟩ := c2
      simp only [Ck.cl] at hst
      refine CW.of_cx (D := (fun id => if id = 10 then some ⟨[(12, 6)], []⟩ else none)) G9_ok mixed _ _ _ (by kernel_rfl) ?_
      repeat' first
        | (with_reducible refine gw_bool (fun _ => ?_) (fun _ => ?_))
        | (with_reducible refine condw_bool (fun _ => ?_) (fun _ => ?_))
        | simp [*, lwI, Ck.cl, vI]
    clear hst hh st
    rintro ⟨e, h⟩ ⟨hst, h67⟩
    simp only [lwI] at hst h67
    refine CW.of_cx (D := (fun id => if id = 10 then some ⟨[(12, 6)], []⟩ else none)) noTab_ok mixed _ _ _ (by kernel_rfl) ?_
    repeat' first
      | (with_reducible refine gw_bool (fun _ => ?_) (fun _ => ?_))
      | (with_reducible refine condw_bool (fun _ => ?_) (fun _ => ?_))
      | simp [*]
    refine ⟨k + 1, _, (View.forget _ _ 10).trans ((View.forget _ _ 11).trans (View.forget _ _ 15)), ⟨by omega, by omega, c2, S', F', Q', hs2, ?_, ?_⟩, by show 60 - (k + 1) < 60 - k; omega⟩
    · rw [hnow', PSt_succ]
      simp [*, lwI, St.forget, scr, scrC, psC, Ck.cl]
    · simp [*, lwH, St.forget]
  · obtain ⟨e, h⟩ := st
    simp only [lwI, lwH] at hst hh
    by_cases h1 : k < N
    · have f1 : ilt (k : Int) N = true := ilt_t (by omega)
      have f2 : ilt (k : Int) 60 = false := ilt_f (by omega)
      refine cw_seq ?_
      refine CW.of_cx (D := (fun id => if id = 10 then some ⟨[(12, 6)], []⟩ else none)) noTab_ok mixed _ _ _ (by kernel_rfl) ?_
      repeat' first
        | (with_reducible refine gw_bool (fun _ => ?_) (fun _ => ?_))
        | (with_reducible refine condw_bool (fun _ => ?_) (fun _ => ?_))
        | simp [*]
    · have f1 : ilt (k : Int) N = false := ilt_f (by omega)
      refine cw_seq ?_
      refine CW.of_cx (D := (fun id => if id = 10 then some ⟨[(12, 6)], []⟩ else none)) noTab_ok mixed _ _ _ (by kernel_rfl) ?_
      repeat' first
        | (with_reducible refine gw_bool (fun _ => ?_) (fun _ => ?_))
        | (with_reducible refine condw_bool (fun _ => ?_) (fun _ => ?_))
        | simp [*]
end Go.Proofs.Ytpkibnkhllefaaa
end
