/-
  Positions: what topology.Check answers.
-/
import Derived.Test.YtcbddoopmkhlfaaSt7
namespace Go.Proofs.Ytcbddoopmkhlfaa
open Go.Pv Go.RowKit
set_option linter.unusedSimpArgs false
set_option linter.unusedVariables false
set_option maxRecDepth 100000
set_option maxHeartbeats 2000000

/-! ### reading a diagram and a position -/
def unS1 : List V → Option ByteArray
  | [.str s] => some s
  | _ => none
theorem unS1_cs (s : ByteArray) : unS1 (s1 s) = some s := rfl
theorem unS1_inv : ∀ c a, unS1 c = some a → c = s1 a := by
  intro c a h; unfold unS1 at h; split at h
  · cases h; rfl
  · cases h
def unLn : List V → Option Ln
  | [.str nm, .int .i64 a, .int .i64 b, .int .i64 c, .int .i64 d] => some ⟨nm, a, b, c, d⟩
  | _ => none
theorem unLn_cs (s : Ln) : unLn s.cs = some s := rfl
theorem unLn_inv : ∀ c a, unLn c = some a → c = Ln.cs a := by
  intro c a h; unfold unLn at h; split at h
  · cases h; rfl
  · cases h
def unSr : List V → Option Sr
  | [.str nm, .int .i64 e, .int .i64 a, .int .i64 b, .int .i64 c, .int .i64 d] => some ⟨nm, e, a, b, c, d⟩
  | _ => none
theorem unSr_cs (s : Sr) : unSr s.cs = some s := rfl
theorem unSr_inv : ∀ c a, unSr c = some a → c = Sr.cs a := by
  intro c a h; unfold unSr at h; split at h
  · cases h; rfl
  · cases h
def unStn : List V → Option Stn
  | [.str nm, .list 1 bs, .list 5 ls, .list 6 ss, .list 12 qs] => (match decL unS1 bs, decL unLn ls, decL unSr ss, decL unBy qs with
    | some bs, some ls, some ss, some qs => some ⟨nm, bs, ls, ss, qs⟩
    | _, _, _, _ => none)
  | _ => none
theorem unStn_cs (s : Stn) : unStn s.cs = some s := by simp [unStn, Stn.cs, decL_map unS1_cs, decL_map unLn_cs, decL_map unSr_cs, decL_map unBy_cs]
theorem unStn_inv : ∀ c a, unStn c = some a → c = Stn.cs a := by
  intro c a h; unfold unStn at h; split at h
  · split at h
    · rename_i h1 h2 h3 h4
      cases h
      rw [decL_inv unS1_inv _ _ h1, decL_inv unLn_inv _ _ h2, decL_inv unSr_inv _ _ h3, decL_inv unBy_inv _ _ h4]; rfl
    · cases h
  · cases h
def b1 (b : Bool) : List V := [.bool b]
def unB1 : List V → Option Bool
  | [.bool b] => some b
  | _ => none
theorem unB1_cs (b : Bool) : unB1 (b1 b) = some b := rfl
theorem unB1_inv : ∀ c a, unB1 c = some a → c = b1 a := by
  intro c a h; unfold unB1 at h; split at h
  · cases h; rfl
  · cases h
def i1 (n : Int) : List V := [.int .i64 n]
def unI1 : List V → Option Int
  | [.int .i64 b] => some b
  | _ => none
theorem unI1_cs (b : Int) : unI1 (i1 b) = some b := rfl
theorem unI1_inv : ∀ c a, unI1 c = some a → c = i1 a := by
  intro c a h; unfold unI1 at h; split at h
  · cases h; rfl
  · cases h
def r1 (l : List Int) : List V := [.list 1 (l.map i1)]
def unR1 : List V → Option (List Int)
  | [.list 1 xs] => decL unI1 xs
  | _ => none
theorem unR1_cs (l : List Int) : unR1 (r1 l) = some l := by simp [unR1, r1, decL_map unI1_cs]
theorem unR1_inv : ∀ c a, unR1 c = some a → c = r1 a := by
  intro c a h; unfold unR1 at h; split at h
  · rw [decL_inv unI1_inv _ _ h]; rfl
  · cases h
/-- A position. -/
structure Pos where
  cl : List Bool
  lk : List (List Int)
def Pos.cs (p : Pos) : List V := [.list 1 (p.cl.map b1), .list 1 (p.lk.map r1)]
def unPos : List V → Option Pos
  | [.list 1 a, .list 1 b] => (match decL unB1 a, decL unR1 b with
    | some a, some b => some ⟨a, b⟩
    | _, _ => none)
  | _ => none
theorem unPos_cs (s : Pos) : unPos s.cs = some s := by simp [unPos, Pos.cs, decL_map unB1_cs, decL_map unR1_cs]
theorem unPos_inv : ∀ c a, unPos c = some a → c = Pos.cs a := by
  intro c a h; unfold unPos at h; split at h
  · split at h
    · rename_i h1 h2
      cases h
      rw [decL_inv unB1_inv _ _ h1, decL_inv unR1_inv _ _ h2]; rfl
    · cases h
  · cases h
def Tchk : List V → Option V
  | [.agg c] => (match unStn c with
    | some s => some (.int .i64 (chkF s))
    | none => none)
  | _ => none
theorem Tchk_at (s : Stn) : Tchk [.agg s.cs] = some (.int .i64 (chkF s)) := by simp [Tchk, unStn_cs]
theorem chk_tab : ∀ vs v, Tchk vs = some v → PCall Try.prog 43 vs v := by
  intro vs v h; unfold Tchk at h; split at h
  · split at h
    · rename_i hs; cases h; rw [unStn_inv _ _ hs]; exact check_ok _
    · cases h
  · cases h
def D1 : Tab := add 43 Tchk (C3)
theorem D1_at (f : FuncId) (vs : List V) : D1.at' f vs = if f = 43 then Tchk vs else C3.at' f vs := rfl
theorem D1_fr (f : FuncId) : D1.fr f = if f = 43 then false else C3.fr f := rfl
theorem D1_gb (f : FuncId) : D1.gb f = C3.gb f := rfl
theorem D1_gv (f : FuncId) (vs : List V) : D1.gv f vs = C3.gv f vs := rfl
attribute [simp] D1_at D1_fr D1_gb D1_gv Tchk
theorem D1_ok : TabOK Try.prog D1 := by
  refine add_ok (C3_ok) (by kernel_rfl) ?_
  · exact chk_tab
attribute [-simp] Tchk
attribute [simp] Tchk_at
/-! ### the check of a position -/
def okL (kind pos : Int) : Bool := ieq pos 1 || (!ieq kind 3 && (ieq pos 0 || ieq pos 2))
def lenOk (s : Stn) (p : Pos) (i : Nat) : Bool := match s.qs[i]?, p.lk[i]? with
  | some b, some l => ieq (l.length : Int) (b.lks.length : Int)
  | _, _ => true
def rowOk (s : Stn) (p : Pos) (i : Nat) : Bool := match s.qs[i]?, p.lk[i]? with
  | some b, some l => l.all (okL b.kind)
  | _, _ => true
def posE (s : Stn) (p : Pos) : Int :=
  if (!ieq (p.cl.length : Int) (s.qs.length : Int) || !ieq (p.lk.length : Int) (s.qs.length : Int)) = true then 3
  else if (List.range s.qs.length).all (lenOk s p) = false then 3
  else if (List.range s.qs.length).all (rowOk s p) = false then 16 else 0
theorem all_false {n i : Nat} {f : Nat → Bool} (hi : i < n) (h : f i = false) : (List.range n).all f = false := by
  rw [Bool.eq_false_iff]
  intro hc
  have := List.all_eq_true.1 hc i (by simpa using hi)
  rw [h] at this; cases this
theorem all_step {i : Nat} {f : Nat → Bool} (h : (List.range i).all f = true) (h1 : f i = true) : (List.range (i + 1)).all f = true := by
  rw [List.range_succ, List.all_append, h]; simp [h1]
theorem map_at {α β : Type} {l : List α} {f : α → β} {i : Nat} {c : α} (h : l[i]? = some c) : (l.map f)[i]? = some (f c) := by simp [h]
theorem pchk_ok (s : Stn) (p : Pos) (hm : s.qs.length ≤ 9223372036854775807) (hp : ∀ l ∈ p.lk, l.length ≤ 9223372036854775807) : PCall Try.prog 19 [.agg s.cs, .agg p.cs] (.int .i64 (posE s p)) := by
  obtain ⟨n, hn⟩ : ∃ n, s.qs.length = n := ⟨_, rfl⟩
  obtain ⟨n1, hn1⟩ : ∃ n, p.cl.length = n := ⟨_, rfl⟩
  obtain ⟨n2, hn2⟩ : ∃ n, p.lk.length = n := ⟨_, rfl⟩
  rw [hn] at hm
  cases c1 : ieq (n1 : Int) (n : Int)
  · have he : posE s p = 3 := by simp [posE, hn, hn1, hn2, c1]
    rw [he]
    refine pcall_cx noTab_ok mixed (fun _ => none) Try.func19 rfl Try.ntmps19 Try.results19 (by simp) (by kernel_rfl) ?_
    repeat' first
      | (with_reducible refine gw_bool (fun _ => ?_) (fun _ => ?_))
      | (with_reducible refine condw_bool (fun _ => ?_) (fun _ => ?_))
      | simp [*, Stn.cs, Pos.cs]
  cases c2 : ieq (n2 : Int) (n : Int)
  · have he : posE s p = 3 := by simp [posE, hn, hn1, hn2, c1, c2]
    rw [he]
    refine pcall_cx noTab_ok mixed (fun _ => none) Try.func19 rfl Try.ntmps19 Try.results19 (by simp) (by kernel_rfl) ?_
    repeat' first
      | (with_reducible refine gw_bool (fun _ => ?_) (fun _ => ?_))
      | (with_reducible refine condw_bool (fun _ => ?_) (fun _ => ?_))
      | simp [*, Stn.cs, Pos.cs]
  have hn12 : n2 = n := by
    have : (n2 : Int) = (n : Int) := by simpa only [ieq, beq_iff_eq] using c2
    omega
  obtain ⟨A, hA⟩ : ∃ A, (List.range n).all (lenOk s p) = A := ⟨_, rfl⟩
  obtain ⟨B, hB⟩ : ∃ B, (List.range n).all (rowOk s p) = B := ⟨_, rfl⟩
  have he : posE s p = if A = false then 3 else if B = false then 16 else 0 := by simp only [posE, hn, hn1, hn2, c1, c2, hA, hB]; simp
  rw [he]
  clear he
  replace hA : Hid ((List.range n).all (lenOk s p) = A) := hA
  replace hB : Hid ((List.range n).all (rowOk s p) = B) := hB
  refine pcall_cx noTab_ok mixed (fun _ => none) Try.func19 rfl Try.ntmps19 Try.results19 (by simp) (by kernel_rfl) ?_
  repeat' first
    | (with_reducible refine gw_bool (fun _ => ?_) (fun _ => ?_))
    | (with_reducible refine condw_bool (fun _ => ?_) (fun _ => ?_))
    | simp [*, Stn.cs, Pos.cs]
  refine lp_go (D := (fun _ => none)) noTab_ok mixed (by kernel_rfl) [2, 3, 28, 29] [2, 3, 6, 8] (α := Nat) (fun i e h => i ≤ n ∧ e 30 = .int .i64 i ∧ Hid ((List.range i).all (lenOk s p) = true)) (fun i => n - i) 0 ?_ ?_
  · exact ⟨by omega, rfl, show _ = _ by simp⟩
  · rintro i e h hk hkh ⟨hi, g7, hinv⟩
    simp [Keep] at hk
    simp [KeepH] at hkh
    by_cases hlt : i < n
    · obtain ⟨b, hb, hb'⟩ := at_ex (l := s.qs) (i := i) (by omega)
      obtain ⟨l, hl, hl'⟩ := at_ex (l := p.lk) (i := i) (by omega)
      have f1 : ilt (i : Int) (n : Int) = true := ilt_t (by omega)
      have w1 : IntKind.i64.wrap ((i : Int) + 1) = ((i + 1 : Nat) : Int) := wrap_succ (by omega)
      have hg : lenOk s p i = ieq (l.length : Int) (b.lks.length : Int) := by simp [lenOk, hb, hl]
      obtain ⟨m1, hm1⟩ : ∃ m, l.length = m := ⟨_, rfl⟩
      obtain ⟨m2, hm2⟩ : ∃ m, b.lks.length = m := ⟨_, rfl⟩
      rw [hm1, hm2] at hg
      have hlt2 : i < n2 := by omega
      cases hq : ieq (m1 : Int) (m2 : Int)
      · rw [hq] at hg
        have hall : A = false := by rw [← hA.out]; exact all_false hlt hg
        clear hinv hg hA hB
        repeat' first
          | (with_reducible refine gw_bool (fun _ => ?_) (fun _ => ?_))
          | (with_reducible refine condw_bool (fun _ => ?_) (fun _ => ?_))
          | simp [*, By.cs, r1]
      · rw [hq] at hg
        have hq' : Hid ((List.range (i + 1)).all (lenOk s p) = true) := all_step hinv.out hg
        clear hinv hg
        repeat' first
          | (with_reducible refine gw_bool (fun _ => ?_) (fun _ => ?_))
          | (with_reducible refine condw_bool (fun _ => ?_) (fun _ => ?_))
          | simp [*, By.cs, r1]
        refine nxt_go (i + 1) ((View.forget _ _ 6)) (by omega) (by simp [*, Keep, St.forget, scr, scrC]) (by simp [*, KeepH, St.forget, scr, scrC]) ?_
        refine ⟨by omega, ?_, hq'⟩; simp [*, St.forget, scr, scrC]
    · have f1 : ilt (i : Int) (n : Int) = false := ilt_f (by omega)
      have e1 : i = n := by omega
      have hLen : Hid ((List.range n).all (lenOk s p) = true) := by
        have := hinv.out
        rwa [e1] at this
      have hAt : A = true := by rw [← hA.out]; exact hLen.out
      clear hinv hA
      repeat' first
        | (with_reducible refine gw_bool (fun _ => ?_) (fun _ => ?_))
        | (with_reducible refine condw_bool (fun _ => ?_) (fun _ => ?_))
        | simp [*]
      refine lp_go (D := (fun _ => none)) noTab_ok mixed (by kernel_rfl) [3, 47, 48] [2, 3, 6, 8] (α := Nat) (fun i e h => i ≤ n ∧ e 49 = .int .i64 i ∧ Hid ((List.range i).all (rowOk s p) = true)) (fun i => n - i) 0 ?_ ?_
      · exact ⟨by omega, by simp, show _ = _ by simp⟩
      · have hk0 := hk
        have hkh0 := hkh
        clear hk hkh g7
        rintro i e h hk hkh ⟨hi, g7, hinv⟩
        simp [Keep, hk0, hkh0] at hk
        simp [KeepH, hk0, hkh0] at hkh
        by_cases hlt : i < n
        · obtain ⟨b, hb, hb'⟩ := at_ex (l := s.qs) (i := i) (by omega)
          obtain ⟨l, hl, hl'⟩ := at_ex (l := p.lk) (i := i) (by omega)
          have f1 : ilt (i : Int) (n : Int) = true := ilt_t (by omega)
          have w1 : IntKind.i64.wrap ((i : Int) + 1) = ((i + 1 : Nat) : Int) := wrap_succ (by omega)
          have hg : rowOk s p i = l.all (okL b.kind) := by simp [rowOk, hb, hl]
          have hlm : l.length ≤ 9223372036854775807 := hp l (List.mem_of_getElem? hl)
          obtain ⟨m1, hm1⟩ : ∃ m, l.length = m := ⟨_, rfl⟩
          rw [hm1] at hlm
          have hlt2 : i < n2 := by omega
          replace hg : Hid (rowOk s p i = l.all (okL b.kind)) := hg
          repeat' first
            | (with_reducible refine gw_bool (fun _ => ?_) (fun _ => ?_))
            | (with_reducible refine condw_bool (fun _ => ?_) (fun _ => ?_))
            | simp [*, By.cs, r1]
          refine lp_go (D := (fun _ => none)) noTab_ok mixed (by kernel_rfl) [3, 7, 8, 47, 48, 49, 50, 51, 52, 53, 54, 55, 56, 57, 58, 59] [2, 3, 6, 8] (α := Nat) (fun j e h => j ≤ m1 ∧ e 60 = .int .i64 j ∧ Hid ((l.take j).all (okL b.kind) = true)) (fun j => m1 - j) 0 ?_ ?_
          · exact ⟨by omega, by simp, show _ = _ by simp⟩
          · have hk0 := hk
            have hkh0 := hkh
            have g0 := g7
            clear hk hkh g7
            rintro j e h hk hkh ⟨hj, g7, hjnv⟩
            simp [Keep, hk0, hkh0, g0] at hk
            simp [KeepH, hk0, hkh0] at hkh
            by_cases hjlt : j < m1
            · obtain ⟨x, hx, hx'⟩ := at_ex (l := l) (i := j) (by omega)
              have f2 : ilt (j : Int) (m1 : Int) = true := ilt_t (by omega)
              have w2 : IntKind.i64.wrap ((j : Int) + 1) = ((j + 1 : Nat) : Int) := wrap_succ (by omega)
              have hok : okL b.kind x = (ieq x 1 || (!ieq b.kind 3 && (ieq x 0 || ieq x 2))) := rfl
              cases ho : okL b.kind x
              · rw [ho] at hok
                have hBf : B = false := by
                  rw [← hB.out]
                  refine all_false hlt ?_
                  rw [hg.out, Bool.eq_false_iff]
                  intro hc
                  have := List.all_eq_true.1 hc x (List.mem_of_getElem? hx)
                  rw [ho] at this; cases this
                clear hg hjnv hinv hB hLen ho
                replace hok : Hid (false = (ieq x 1 || (!ieq b.kind 3 && (ieq x 0 || ieq x 2)))) := hok
                repeat' first
                  | (with_reducible refine gw_bool (fun _ => ?_) (fun _ => ?_))
                  | (with_reducible refine condw_bool (fun _ => ?_) (fun _ => ?_))
                  | simp [*, i1]
                all_goals (exfalso; have hok := hok.out; simp [*] at hok; done)
              · have hq' : Hid ((l.take (j + 1)).all (okL b.kind) = true) := by
                  show _ = _
                  rw [take_snoc hx, List.all_append, hjnv.out]; simp [ho]
                rw [ho] at hok
                clear hjnv ho
                replace hok : Hid (true = (ieq x 1 || (!ieq b.kind 3 && (ieq x 0 || ieq x 2)))) := hok
                repeat' first
                  | (with_reducible refine gw_bool (fun _ => ?_) (fun _ => ?_))
                  | (with_reducible refine condw_bool (fun _ => ?_) (fun _ => ?_))
                  | simp [*, i1]
                all_goals first
                  | (exfalso; have hok := hok.out; simp [*] at hok; done)
                  | skip
                all_goals refine nxt_go (j + 1) (View.refl _ _) (by omega) (by simp [*, Keep, St.forget, scr, scrC]) (by simp [*, KeepH, St.forget, scr, scrC]) ?_
                all_goals (refine ⟨by omega, ?_, hq'⟩; simp [*])
            · have f2 : ilt (j : Int) (m1 : Int) = false := ilt_f (by omega)
              have e2 : j = m1 := by omega
              have hq' : Hid ((List.range (i + 1)).all (rowOk s p) = true) := by
                refine all_step hinv.out ?_
                rw [hg.out]
                have := hjnv.out
                rwa [e2, ← hm1, List.take_length] at this
              clear hjnv hinv hg
              repeat' first
                | (with_reducible refine gw_bool (fun _ => ?_) (fun _ => ?_))
                | (with_reducible refine condw_bool (fun _ => ?_) (fun _ => ?_))
                | simp [*]
              refine nxt_go (i + 1) ((View.forget _ _ 8)) (by omega) (by simp [*, Keep, St.forget, scr, scrC]) (by simp [*, KeepH, St.forget, scr, scrC]) ?_
              refine ⟨by omega, ?_, hq'⟩; simp [*, St.forget, scr, scrC]
        · have f1 : ilt (i : Int) (n : Int) = false := ilt_f (by omega)
          have e1 : i = n := by omega
          have hBt : B = true := by
            have := hinv.out
            rw [e1] at this
            rw [← hB.out]; exact this
          clear hinv hB hLen
          repeat' first
            | (with_reducible refine gw_bool (fun _ => ?_) (fun _ => ?_))
            | (with_reducible refine condw_bool (fun _ => ?_) (fun _ => ?_))
            | simp [*]
end Go.Proofs.Ytcbddoopmkhlfaa
