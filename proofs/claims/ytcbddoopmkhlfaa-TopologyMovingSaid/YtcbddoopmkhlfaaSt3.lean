/-
  Stations: the builder's memory, and what its methods do to it: a bus, a line, a source.
-/
import Derived.Test.YtcbddoopmkhlfaaSt2
namespace Go.Proofs.Ytcbddoopmkhlfaa
open Go.Pv Go.RowKit
set_option linter.unusedSimpArgs false
set_option linter.unusedVariables false
set_option maxRecDepth 100000
set_option maxHeartbeats 4000000

def s1 (s : ByteArray) : List V := [.str s]
def buC (l : List ByteArray) : List V := (l.map s1).flatten
def lnC (l : List Ln) : List V := (l.map Ln.cs).flatten
def srC (l : List Sr) : List V := (l.map Sr.cs).flatten
def byC (l : List By) : List V := (l.map By.cs).flatten
theorem buC_len (l : List ByteArray) : (buC l).length = l.length := by rw [buC, flat_len (sz := 1) (fun _ => rfl), Nat.mul_one]
theorem lnC_len (l : List Ln) : (lnC l).length = l.length * 5 := flat_len (sz := 5) (fun _ => rfl) l
theorem srC_len (l : List Sr) : (srC l).length = l.length * 6 := flat_len (sz := 6) (fun _ => rfl) l
theorem byC_len (l : List By) : (byC l).length = l.length * 12 := flat_len (sz := 12) (fun _ => rfl) l
theorem buC_pure (l : List ByteArray) : (buC l).any ownC = false := flat_pure (fun _ => rfl) l
theorem lnC_pure (l : List Ln) : (lnC l).any ownC = false := flat_pure (fun _ => rfl) l
theorem srC_pure (l : List Sr) : (srC l).any ownC = false := flat_pure (fun _ => rfl) l
theorem byC_pure (l : List By) : (byC l).any ownC = false := flat_pure (fun _ => rfl) l
theorem buC_chunks (l : List ByteArray) : chunks 1 l.length (buC l) = l.map s1 := flat_chunks (sz := 1) (fun _ => rfl) l
theorem lnC_chunks (l : List Ln) : chunks 5 l.length (lnC l) = l.map Ln.cs := flat_chunks (sz := 5) (fun _ => rfl) l
theorem srC_chunks (l : List Sr) : chunks 6 l.length (srC l) = l.map Sr.cs := flat_chunks (sz := 6) (fun _ => rfl) l
theorem byC_chunks (l : List By) : chunks 12 l.length (byC l) = l.map By.cs := flat_chunks (sz := 12) (fun _ => rfl) l
theorem buC_scr (l : List ByteArray) (k : Nat) : (buC l).map (scrC k) = buC l := scrC_cells (buC_pure l)
theorem lnC_scr (l : List Ln) (k : Nat) : (lnC l).map (scrC k) = lnC l := scrC_cells (lnC_pure l)
theorem srC_scr (l : List Sr) (k : Nat) : (srC l).map (scrC k) = srC l := scrC_cells (srC_pure l)
theorem byC_scr (l : List By) (k : Nat) : (byC l).map (scrC k) = byC l := scrC_cells (byC_pure l)
theorem str_scr (l : List ByteArray) (k : Nat) : (l.map V.str).map (scrC k) = l.map V.str := by simp [scrC]
attribute [simp] buC_len lnC_len srC_len byC_len buC_pure lnC_pure srC_pure byC_pure buC_chunks lnC_chunks srC_chunks byC_chunks buC_scr lnC_scr srC_scr byC_scr str_scr
theorem buC_snoc (l : List ByteArray) (x : ByteArray) : buC (l ++ [x]) = buC l ++ [.str x] := (flat_snoc l x).symm
theorem lnC_snoc (l : List Ln) (x : Ln) : lnC (l ++ [x]) = lnC l ++ x.cs := (flat_snoc l x).symm
theorem srC_snoc (l : List Sr) (x : Sr) : srC (l ++ [x]) = srC l ++ x.cs := (flat_snoc l x).symm
theorem byC_snoc (l : List By) (x : By) : byC (l ++ [x]) = byC l ++ x.cs := (flat_snoc l x).symm
/-- What the builder has. -/
structure BS where
  ns : List ByteArray
  bs : List ByteArray
  ls : List Ln
  ss : List Sr
  qs : List By
structure BldH (h : Nat → Option Blk) (S : BS) : Prop where
  e0 : h 1000 = some ⟨127, [.str ⟨#[]⟩, .sl 1001 0 S.bs.length 1, .sl 1002 0 S.ls.length 5, .sl 1003 0 S.ss.length 6, .sl 1004 0 S.qs.length 12, .mp 1005]⟩
  e1 : h 1001 = some ⟨9, buC S.bs⟩
  e2 : h 1002 = some ⟨108, lnC S.ls⟩
  e3 : h 1003 = some ⟨75, srC S.ss⟩
  e4 : h 1004 = some ⟨73, byC S.qs⟩
  e5 : h 1005 = some ⟨125, S.ns.map V.str⟩
  en : ∀ k, k < 1000 → h k = none
def dupF (ns : List ByteArray) (s : ByteArray) : Bool := ns.any fun b => s == b
theorem findS_dup (L : List ByteArray) (s : ByteArray) : findS (L.map .str) s = some (dupF L s) := findS_strs L s
attribute [simp] findS_dup
def Post (bb : Nat) (er : Int) (S' : BS) (u : V) (s : St) : Prop := u = .int .i64 er ∧ (er = 0 → s.env 0 = .vptr bb 1000 0 ∧ BldH s.heap S')
/-- The builder lies at bb; its memory is newer than n0. -/
def Bd (bb n0 : Nat) (ro : Nat → Prop) (S : BS) (W : World) : Prop :=
  ∃ ro' lam h, HS W ro' lam h ∧ BldH h S ∧ (∃ m, lam 1000 = some (some bb, m)) ∧ (∀ b, ownB lam b → n0 ≤ b) ∧ (∀ b, ro b → ro' b) ∧ n0 ≤ W.heap.size
def PEff (f : Nat) (v : V) (er : Int) (S S' : BS) : Prop :=
  ∀ (bb n0 : Nat) (ro : Nat → Prop) (W : World) (X : Value), Bd bb n0 ro S W → R0 W ro v X → Calls Try.prog f #[.pointer (some ⟨bb, 0, none⟩), X] W fun e W' => Below n0 W W' ∧ e = .returned (.int .i64 er) ∧ (er = 0 → Bd bb n0 ro S' W')
theorem peff_of {Γ : Tab} {n : Nat} (hΓ : TabOK Try.prog Γ) (hm : Try.prog.follows .mixedOrders = true) (D : Nat → Option Ann) {f : FuncId} {fn : Func} {c : Code} {v : V} {er : Int} {S S' : BS} {rs : Array ResultVar} (hf : Try.prog.funcs[f]? = some fn) (hb : fn.body = some c) (hn : fn.ntmps = n) (hrs : fn.results = rs)
    (hvs : 2 ≤ n) (ok : okC n D c = true) (hc : ∀ bb h, BldH h S → cx Try.prog Γ n D c (FinE Try.prog n rs.toList (Post bb er S')) ⟨ini 0 [.vptr bb 1000 0, v], h⟩) : PEff f v er S S' := by
  rintro bb n0 ro W X ⟨ro1, lam, h, hs, hB, ⟨m, hm0⟩, ho, hro, hw⟩ hX
  refine (eff_cx (vs := [.vptr bb 1000 0, v]) hΓ hm D hf hb hn hrs hvs ok (hc bb h hB) hs (args := #[.pointer (some ⟨bb, 0, none⟩), X]) rfl ?_).mono ?_
  · intro j c x hc hx
    match j with
    | 0 => simp at hc hx; subst hc; subst hx; exact .vptr 1000 0 bb m hm0
    | 1 => simp at hc hx; subst hc; subst hx; exact .pure _ _ (hX.mono (fun _ _ => rfl) hro)
    | j + 2 => simp at hc
  · rintro e W' ⟨rv, u, s', ro', lam', a', rfl, hu, ⟨rfl, hp⟩, hext, hs'⟩
    have hrv : rv = .int .i64 er := by
      have := hu W ro
      cases this; rfl
    subst hrv
    refine ⟨⟨hs'.below.os, hs'.below.tape, hs'.below.output, hs'.below.size, fun k hk => hs'.below.block k (Nat.lt_of_lt_of_le hk hw) (fun hk' => by have := ho k hk'; omega)⟩, rfl, fun he => ?_⟩
    obtain ⟨h0, hB'⟩ := hp he
    have e0 := hs'.env 0
    rw [h0] at e0
    obtain ⟨m', hm', _⟩ := e0.vptr_inv
    refine ⟨ro', lam', s'.heap, HS.of hs', hB', ⟨m', hm'⟩, fun b ⟨key, hb⟩ => ?_, fun b hb => hext.1 b (hro b hb), Nat.le_trans hw hs'.below.size⟩
    rcases (hs'.ob hb).1 with h1 | h1
    · exact ho b h1
    · exact Nat.le_trans hw h1
theorem bus_ok (S : BS) (s : ByteArray) (hl : S.bs.length ≤ 100) : PEff 70 (.str s) (nmE s (dupF S.ns s)) S { S with ns := S.ns ++ [s], bs := S.bs ++ [s] } := by
  refine peff_of C3_ok mixed (fun _ => none) Try.func70 rfl Try.ntmps70 Try.results70 (by simp) (by kernel_rfl) ?_
  rintro bb h ⟨e0, e1, e2, e3, e4, e5, en⟩
  have f5 : (S.bs.length + 1) * 16 ≤ 140737488355328 := by omega
  have f6 : S.bs.length + 1 ≤ 9223372036854775807 := by omega
  cases hd : dupF S.ns s <;> cases hn : nameF s
  all_goals
    repeat' first
      | (with_reducible refine gw_bool (fun _ => ?_) (fun _ => ?_))
      | (with_reducible refine condw_bool (fun _ => ?_) (fun _ => ?_))
      | simp [*, nmE, appendV, srcCells, St.forget, scr, scrC]
  · exact ⟨_, View.refl _ _, rfl, fun h => by cases h⟩
  · refine ⟨_, View.forget _ _ 24, rfl, fun _ => ⟨?_, ?_⟩⟩
    · simp [St.forget, scr]
    · constructor
      · simp [*, St.forget, scrC]
      · simp [*, St.forget, scrC, buC_snoc]
      · simp [*, St.forget, scrC]
      · simp [*, St.forget, scrC]
      · simp [*, St.forget, scrC]
      · simp [*, St.forget, scrC]
      · intro k hk
        have h0 := en k hk
        have k0 : k ≠ 1000 := by omega
        have k1 : k ≠ 1001 := by omega
        have k5 : k ≠ 1005 := by omega
        clear en e0 e1 e2 e3 e4 e5
        by_cases hk24 : k = 24
        · simp [hk24, St.forget]
        · simp [*, St.forget, scrC]
  · exact ⟨_, View.refl _ _, rfl, fun h => by cases h⟩
  · exact ⟨_, View.refl _ _, rfl, fun h => by cases h⟩
end Go.Proofs.Ytcbddoopmkhlfaa
