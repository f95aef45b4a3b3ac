/-
  Views: look.
-/
import Derived.Test.YtcbddoopmkhlfaaSt12
namespace Go.Proofs.Ytcbddoopmkhlfaa
open Go.Pv Go.RowKit
set_option linter.unusedSimpArgs false
set_option linter.unusedVariables false
set_option maxRecDepth 100000
set_option maxHeartbeats 2000000
attribute [-simp] Tclo_at Tgrp_at Tchk Tpchk TcI TcB Tclo Tgrp Tsid Tnod

theorem Tchk_at2 (s : Stn) : Tchk [.agg [.str s.nm, .list 1 (s.bs.map s1), .list 5 (s.ls.map Ln.cs), .list 6 (s.ss.map Sr.cs), .list 12 (s.qs.map By.cs)]] = some (.int .i64 (chkF s)) := Tchk_at s
theorem Tpchk_at2 {s : Stn} {p : Pos} (h : lenB s p = true) : Tpchk [.agg [.str s.nm, .list 1 (s.bs.map s1), .list 5 (s.ls.map Ln.cs), .list 6 (s.ss.map Sr.cs), .list 12 (s.qs.map By.cs)], .agg [.list 1 (p.cl.map b1), .list 1 (p.lk.map r1)]] = some (.int .i64 (posE s p)) := Tpchk_at h
attribute [simp] Tchk_at2 Tpchk_at2
/-! ### what a valid diagram has -/
theorem firstN_zero {f : Nat → Int} : ∀ {n : Nat}, firstN f n = 0 → ∀ k, k < n → f k = 0
  | n + 1, h, k, hk => by
    simp only [firstN] at h
    split at h
    · rename_i h0
      by_cases e : k = n
      · subst e; exact h
      · exact firstN_zero h0 k (by omega)
    · rename_i h0; exact (h0 h).elim
theorem nx_zero {a b : Int} (h : nxE a b = 0) : a = 0 ∧ b = 0 := by
  unfold nxE at h; split at h
  · rename_i e; exact ⟨e, h⟩
  · rename_i e; exact (e h).elim
theorem lkE_zero {nb k : Int} {f : Bool} {pr : Int} {l : Lk} (h : lkE nb k f pr l = 0) : withinF l.bus 0 (IntKind.i64.wrap (nb - 1)) = true := by
  unfold lkE at h; split at h
  · assumption
  · cases h
theorem lksE_zero {nb k : Int} {lks : List Lk} (h : lksE nb k lks = 0) : (∀ l ∈ lks, withinF l.bus 0 (IntKind.i64.wrap (nb - 1)) = true) ∧ (ieq k 3 = true → lks.length = 2) ∧ 1 ≤ lks.length ∧ lks.length ≤ 2 := by
  match lks, h with
  | [], h => simp [lksE] at h
  | [a], h =>
    simp only [lksE] at h
    split at h
    · cases h
    · rename_i hk
      refine ⟨fun l hl => ?_, fun h3 => (hk h3).elim, by simp, by simp⟩
      simp at hl; subst hl; exact lkE_zero h
  | [a, b], h =>
    simp only [lksE] at h
    split at h
    · rename_i hk
      have ha : lkE nb k true 0 a = 0 := by simpa [ieq] using hk
      refine ⟨fun l hl => ?_, fun _ => rfl, by simp, by simp⟩
      simp at hl
      rcases hl with rfl | rfl
      · exact lkE_zero ha
      · exact lkE_zero h
    · rename_i hk; rw [h] at hk; exact (hk rfl).elim
  | _ :: _ :: _ :: _, h => simp [lksE] at h
structure Fine (s : Stn) : Prop where
  nb0 : 1 ≤ s.bs.length
  nb : s.bs.length ≤ 4
  nl : s.ls.length ≤ 6
  ns : s.ss.length ≤ 4
  nq : s.qs.length ≤ 16
  lk : ∀ b ∈ s.qs, (∀ l ∈ b.lks, 0 ≤ l.bus ∧ l.bus < s.bs.length) ∧ (ieq b.kind 3 = true → b.lks.length = 2) ∧ 1 ≤ b.lks.length ∧ b.lks.length ≤ 2
theorem fine_of {s : Stn} (h : chkF s = 0) : Fine s := by
  unfold chkF at h
  split at h
  · split at h
    · cases h
    · rename_i hn hc
      have hb : cntBad s = false := by simpa using hc
      simp only [cntBad, Bool.or_eq_false_iff] at hb
      obtain ⟨c1, c2, c3, c4, c5⟩ := hb
      have z1 : 1 ≤ s.bs.length := by
        have : ¬ ((s.bs.length : Int) = 0) := by simpa only [ieq, beq_eq_false_iff_ne, ne_eq] using c1
        omega
      have z2 : s.bs.length ≤ 4 := by have := ilt_iff'.1 c2; omega
      refine ⟨z1, z2, by have := ilt_iff'.1 c3; omega, by have := ilt_iff'.1 c4; omega, by have := ilt_iff'.1 c5; omega, ?_⟩
      intro b hb
      obtain ⟨k, hk, rfl⟩ := List.mem_iff_getElem.1 hb
      obtain ⟨_, he⟩ := nx_zero h
      have hq := firstN_zero he k hk
      have hx : s.qs[k]? = some s.qs[k] := List.getElem?_eq_getElem hk
      simp only [eQ, hx] at hq
      unfold byE at hq
      split at hq
      · split at hq
        · cases hq
        · unfold byE1 at hq
          split at hq
          · have := lksE_zero hq
            have hw : IntKind.i64.wrap (((SQ s k).bs.length : Int) - 1) = (s.bs.length : Int) - 1 := by
              show IntKind.i64.wrap ((s.bs.length : Int) - 1) = _
              exact wrap_id (by omega) (by omega)
            rw [hw] at this
            refine ⟨fun l hl => ?_, this.2⟩
            have := this.1 l hl
            simp only [withinF, Bool.and_eq_true, Bool.not_eq_true'] at this
            have h1 := ilt_iff'.1 this.1
            have h2 := ilt_iff'.1 this.2
            omega
          · rename_i hz; rw [hq] at hz; exact (hz rfl).elim
      · cases hq
  · cases h
structure PFine (s : Stn) (p : Pos) : Prop where
  nc : p.cl.length = s.qs.length
  nk : p.lk.length = s.qs.length
  row : ∀ (i : Nat) (b : By) (l : List Int), s.qs[i]? = some b → p.lk[i]? = some l → l.length = b.lks.length ∧ ∀ x ∈ l, okL b.kind x = true
theorem pfine_of {s : Stn} {p : Pos} (h : posE s p = 0) : PFine s p := by
  unfold posE at h
  split at h
  · cases h
  · rename_i hc
    split at h
    · cases h
    · rename_i ha
      split at h
      · cases h
      · rename_i hr
        simp only [Bool.or_eq_true, Bool.not_eq_true', not_or, Bool.not_eq_false] at hc
        have e1 : (p.cl.length : Int) = s.qs.length := by simpa only [ieq, beq_iff_eq] using hc.1
        have e2 : (p.lk.length : Int) = s.qs.length := by simpa only [ieq, beq_iff_eq] using hc.2
        refine ⟨by omega, by omega, fun i b l hb hl => ?_⟩
        obtain ⟨hi, _⟩ := get_of hb
        have h1 := List.all_eq_true.1 (Bool.not_eq_false _ ▸ ha) i (by simpa using hi)
        have h2 := List.all_eq_true.1 (Bool.not_eq_false _ ▸ hr) i (by simpa using hi)
        simp only [lenOk, hb, hl] at h1
        simp only [rowOk, hb, hl] at h2
        have e3 : (l.length : Int) = b.lks.length := by simpa only [ieq, beq_iff_eq] using h1
        exact ⟨by omega, fun x hx => List.all_eq_true.1 h2 x hx⟩
theorem wf_of {s : Stn} {p : Pos} (h : Fine s) (k : PFine s p) : wfG s p s.bs.length = true := by
  simp only [wfG, Bool.and_eq_true, decide_eq_true_eq]
  refine ⟨by have := h.nq; omega, k.nk, List.all_eq_true.2 fun x hx => ?_⟩
  obtain ⟨i, hi, rfl⟩ := List.mem_iff_getElem.1 hx
  simp only [List.length_zip] at hi
  rw [List.getElem_zip]
  have hb : s.qs[i]? = some s.qs[i] := List.getElem?_eq_getElem (by omega)
  have hl : p.lk[i]? = some p.lk[i] := List.getElem?_eq_getElem (by omega)
  obtain ⟨r1, r2⟩ := k.row i _ _ hb hl
  obtain ⟨q1, q2, q3, q4⟩ := h.lk _ (List.mem_of_getElem? hb)
  simp only [wfR, Bool.and_eq_true, decide_eq_true_eq, List.all_eq_true, Bool.or_eq_true, Bool.not_eq_true']
  refine ⟨⟨r1, q1, ?_⟩, by omega⟩
  cases hk : ieq s.qs[i].kind 3
  · exact .inl rfl
  · exact .inr (by rw [q2 hk]; exact Nat.le_refl _)
/-! ### groups -/
def hG (f : Int → Int) (l : List Int) (j : Nat) : List Int := (l.take j).map f ++ l.drop j
theorem hG_len (f : Int → Int) (l : List Int) (j : Nat) (h : j ≤ l.length) : (hG f l j).length = l.length := by simp [hG]; omega
theorem hG_at {f : Int → Int} {l : List Int} {j : Nat} {x : Int} (h : l[j]? = some x) : (hG f l j)[j]? = some x := by
  have hj : j < l.length := (List.getElem?_eq_some_iff.1 h).1
  simp [hG, List.getElem?_append, List.length_take, Nat.min_eq_left (Nat.le_of_lt hj), h]
theorem hG_step {f : Int → Int} {l : List Int} {j : Nat} {x : Int} (h : l[j]? = some x) : hG f l (j + 1) = (hG f l j).set j (f x) := by
  have hj : j < l.length := (List.getElem?_eq_some_iff.1 h).1
  have e : l.drop j = x :: l.drop (j + 1) := by
    rw [List.drop_eq_getElem_cons hj]; congr 1
    exact (List.getElem?_eq_some_iff.1 h).2
  simp only [hG, take_snoc h, e]
  rw [List.set_append_right _ _ (by simp [Nat.min_eq_left (Nat.le_of_lt hj)])]
  simp [Nat.min_eq_left (Nat.le_of_lt hj)]
theorem hG_same {f : Int → Int} {l : List Int} {j : Nat} {x : Int} (h : l[j]? = some x) (h2 : f x = x) : hG f l (j + 1) = hG f l j := by
  rw [hG_step h, h2]
  have h3 := hG_at (f := f) h
  apply List.ext_getElem?
  intro i
  rw [List.getElem?_set]
  split
  · rename_i e; subst e; split
    · exact h3.symm
    · rename_i hh; exact (hh (List.getElem?_eq_some_iff.1 h3).1).elim
  · rfl
theorem hG_end (f : Int → Int) (l : List Int) : hG f l l.length = l.map f := by simp [hG]
def mgF (lo hi x : Int) : Int := if ieq x hi = true then lo else x
def merge (g : List Int) (x y : Int) : List Int := g.map (mgF (min x y) (max x y))
def stG (g : List Int) (b : By) (l : List Int) : List Int := if ieq b.kind 3 = true then g else (match b.lks, l with
  | [a, c], [x, y] => if (ieq x 1 && ieq y 1) = true then merge g (g0 g a.bus) (g0 g c.bus) else g
  | _, _ => g)
def ini0 (n : Nat) : List Int := (List.range n).map (fun i : Nat => (i : Int))
def grpN (s : Stn) (p : Pos) (i : Nat) : List Int := ((s.qs.zip p.lk).take i).foldl (fun g x => stG g x.1 x.2) (ini0 s.bs.length)
def grp (s : Stn) (p : Pos) : List Int := grpN s p s.qs.length
theorem stG_len (g : List Int) (b : By) (l : List Int) : (stG g b l).length = g.length := by
  unfold stG
  split
  · rfl
  · split
    · split
      · simp [merge]
      · rfl
    · rfl
theorem fold_len (L : List (By × List Int)) : ∀ g : List Int, (L.foldl (fun g x => stG g x.1 x.2) g).length = g.length := by
  induction L with
  | nil => intro g; rfl
  | cons x L ih => intro g; rw [List.foldl_cons, ih, stG_len]
theorem grpN_len (s : Stn) (p : Pos) (i : Nat) : (grpN s p i).length = s.bs.length := by rw [grpN, fold_len]; simp [ini0]
theorem grpN_step {s : Stn} {p : Pos} {i : Nat} {b : By} {l : List Int} (hb : s.qs[i]? = some b) (hl : p.lk[i]? = some l) : grpN s p (i + 1) = stG (grpN s p i) b l := by
  have hz : (s.qs.zip p.lk)[i]? = some (b, l) := by simp [List.getElem?_zip_eq_some, hb, hl]
  rw [grpN, take_snoc hz, List.foldl_append]; rfl
end Go.Proofs.Ytcbddoopmkhlfaa
