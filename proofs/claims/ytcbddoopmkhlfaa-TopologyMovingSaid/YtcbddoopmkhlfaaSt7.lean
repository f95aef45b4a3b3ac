/-
  Stations: a new builder, and what station.Check answers.
-/
import Derived.Test.YtcbddoopmkhlfaaSt6
namespace Go.Proofs.Ytcbddoopmkhlfaa
open Go.Pv Go.RowKit
set_option linter.unusedSimpArgs false
set_option linter.unusedVariables false
set_option maxRecDepth 100000
set_option maxHeartbeats 1000000

def BS0 : BS := ⟨[], [], [], [], []⟩
def nbLam (lam : Lam) : Lam := fun k => if k = 1000 then lam 3 else if k = 1005 then lam 1 else if k = 1001 then some (none, 0) else if k = 1002 then some (none, 0) else if k = 1003 then some (none, 0) else if k = 1004 then some (none, 0) else none
def nbHeap : Nat → Option Blk := fun k => if k = 1000 then some ⟨127, [.str ⟨#[]⟩, .sl 1001 0 0 1, .sl 1002 0 0 5, .sl 1003 0 0 6, .sl 1004 0 0 12, .mp 1005]⟩ else if k = 1005 then some ⟨125, []⟩ else if k = 1001 then some ⟨9, []⟩ else if k = 1002 then some ⟨108, []⟩ else if k = 1003 then some ⟨75, []⟩ else if k = 1004 then some ⟨73, []⟩ else none
theorem nbLam_own {lam : Lam} {k b m : Nat} (h : nbLam lam k = some (some b, m)) (h1 : ∀ b m, lam 1 ≠ some (some b, m)) : k = 1000 ∧ lam 3 = some (some b, m) := by
  unfold nbLam at h
  split at h
  · rename_i e; exact ⟨e, h⟩
  · split at h
    · exact (h1 _ _ h).elim
    · split at h
      · cases h
      · split at h
        · cases h
        · split at h
          · cases h
          · split at h <;> cases h
theorem nbLam_map {lam : Lam} {k b : Nat} (h : nbLam lam k = some (none, b + 1)) (h3 : ∀ y, lam 3 ≠ some (none, y)) : k = 1005 ∧ lam 1 = some (none, b + 1) := by
  unfold nbLam at h
  split at h
  · exact (h3 _ h).elim
  · split at h
    · rename_i e; exact ⟨e, h⟩
    · split at h
      · cases h
      · split at h
        · cases h
        · split at h
          · cases h
          · split at h <;> cases h
theorem nb_hs {w0 : Base} {n : Nat} {ro : Nat → Prop} {lam : Lam} {st : St} {a : Act} {w : World} (hs : Sim w0 n ro lam st a w) (h3 : st.heap 3 = some ⟨127, [.str ⟨#[]⟩, .nils, .nils, .nils, .nils, .mp 1]⟩) (h1 : st.heap 1 = some ⟨125, []⟩)
    (hl3 : ∃ b m, lam 3 = some (some b, m)) (hl1 : ∃ b, lam 1 = some (none, b + 1)) : HS w ro (nbLam lam) nbHeap := by
  obtain ⟨b3, m3, hl3⟩ := hl3
  obtain ⟨b1, hl1⟩ := hl1
  have n1 : ∀ b m, lam 1 ≠ some (some b, m) := fun b m h => by rw [hl1] at h; cases h
  have n3 : ∀ y, lam 3 ≠ some (none, y) := fun y h => by rw [hl3] at h; cases h
  refine ⟨Base.Keeps.refl _ _ _, rfl, Nat.zero_le _, hs.rolt, fun t => .pure _ _ (.junk _), fun key blk hk => ?_, fun key hk => ?_, fun key b m hl => ?_, fun k1 k2 b m1 m2 e1 e2 => ?_, fun key b hl => ?_⟩
  · have hk : nbHeap key = some blk := hk
    unfold nbHeap at hk
    split at hk
    · rename_i e; subst e; cases hk
      rcases hs.heap 3 _ h3 with ⟨hv, _⟩ | ⟨b, o, hl, _⟩ | ⟨b, m, arr, hl, hw, hsz, hle, hr⟩
      · rw [hl3] at hv; cases hv
      · rw [hl3] at hl; cases hl
      · refine .inr (.inr ⟨b, m, arr, hl, hw, hsz, hle, fun j c x hc hx => ?_⟩)
        match j with
        | 0 => simp at hc; subst hc; exact .pure _ _ ((hr 0 _ x rfl hx).pureC rfl)
        | 1 => simp at hc; subst hc; have := (hr 1 _ x rfl hx).nils_inv; subst this; exact .slv 1001 1 rfl
        | 2 => simp at hc; subst hc; have := (hr 2 _ x rfl hx).nils_inv; subst this; exact .slv 1002 5 rfl
        | 3 => simp at hc; subst hc; have := (hr 3 _ x rfl hx).nils_inv; subst this; exact .slv 1003 6 rfl
        | 4 => simp at hc; subst hc; have := (hr 4 _ x rfl hx).nils_inv; subst this; exact .slv 1004 12 rfl
        | 5 =>
          simp at hc; subst hc
          obtain ⟨b, hb, rfl⟩ := (hr 5 _ x rfl hx).mp_inv
          exact .mp 1005 b hb
        | j + 6 => simp at hc
    · split at hk
      · rename_i e; subst e; cases hk
        rcases hs.heap 1 _ h1 with ⟨hv, _⟩ | ⟨b, o, hl, hw, hso⟩ | ⟨b, m, arr, hl, _⟩
        · rw [hl1] at hv; cases hv
        · exact .inr (.inl ⟨b, o, hl, hw, hso⟩)
        · rw [hl1] at hl; cases hl
      · split at hk
        · rename_i e; subst e; cases hk; exact .inl ⟨rfl, rfl⟩
        · split at hk
          · rename_i e; subst e; cases hk; exact .inl ⟨rfl, rfl⟩
          · split at hk
            · rename_i e; subst e; cases hk; exact .inl ⟨rfl, rfl⟩
            · split at hk
              · rename_i e; subst e; cases hk; exact .inl ⟨rfl, rfl⟩
              · cases hk
  · have hk : nbHeap key = none := hk
    unfold nbHeap at hk
    unfold nbLam
    split at hk
    · cases hk
    · split at hk
      · cases hk
      · split at hk
        · cases hk
        · split at hk
          · cases hk
          · split at hk
            · cases hk
            · split at hk
              · cases hk
              · rename_i k1 k2 k3 k4 k5 k6
                simp [k1, k2, k3, k4, k5, k6]
  · obtain ⟨rfl, h⟩ := nbLam_own hl n1
    exact ⟨.inl ⟨1000, .inl ⟨m, hl⟩⟩, (hs.own 3 b m h).2⟩
  · obtain ⟨rfl, _⟩ := nbLam_own e1 n1
    obtain ⟨rfl, _⟩ := nbLam_own e2 n1
    rfl
  · obtain ⟨rfl, h⟩ := nbLam_map hl n3
    exact ⟨⟨.inl ⟨1005, .inr hl⟩, (hs.maps 1 b h).1.2⟩, fun k' h' => (nbLam_map h' n3).1⟩
theorem newb_ok (W : World) (ro : Nat → Prop) (hro : ∀ b, ro b → b < W.heap.size) : Calls Try.prog 68 #[] W fun e W' => ∃ bb, e = .returned (.pointer (some ⟨bb, 0, none⟩)) ∧ Below W.heap.size W W' ∧ Bd bb W.heap.size ro BS0 W' := by
  refine calls_of_wp Try.func68 rfl ?_
  rw [Try.ntmps68]
  have hs0 := sim_ini (n := 4) (w := W) (ro := ro) (args := #[]) (vs := []) hro rfl (by simp) (by simp)
  refine wp_mono (CW.of_cx (D := fun _ => none) noTab_ok mixed _ (fun e s => e = .ret ∧ s.env 0 = .ptr 3 0 ∧ s.heap 3 = some ⟨127, [.str ⟨#[]⟩, .nils, .nils, .nils, .nils, .mp 1]⟩ ∧ s.heap 1 = some ⟨125, []⟩) _ (by kernel_rfl) ?_ _ _ _ _ _ hs0) ?_
  · skip
    repeat' first
      | (with_reducible refine gw_bool (fun _ => ?_) (fun _ => ?_))
      | (with_reducible refine condw_bool (fun _ => ?_) (fun _ => ?_))
      | simp [*]
  rintro e a w ⟨s1, ro1, lam1, ⟨rfl, e0, h3, h1⟩, hext, hs1⟩
  have hp := hs1.env 0
  rw [e0] at hp
  obtain ⟨bb, m, hl3, hv⟩ := hp.ptr_inv
  have hl1 : ∃ b, lam1 1 = some (none, b + 1) := by
    rcases hs1.heap 3 _ h3 with ⟨hv, _⟩ | ⟨b, o, hl, _⟩ | ⟨b, m, arr, hl, hw, hsz, hle, hr⟩
    · rw [hl3] at hv; cases hv
    · rw [hl3] at hl; cases hl
    · have h5 : 5 < arr.size := by rw [hsz]; exact hle
      obtain ⟨b, hb, _⟩ := (hr 5 (.mp 1) _ rfl (Array.getElem?_eq_getElem h5)).mp_inv
      exact ⟨b, hb⟩
  have hh := nb_hs hs1 h3 h1 ⟨bb, m, hl3⟩ hl1
  refine ⟨hs1.dfr, _, res_one rfl hv, bb, rfl, hs1.below.below, ro1, nbLam lam1, nbHeap, hh, ⟨rfl, rfl, rfl, rfl, rfl, rfl, ?_⟩, ⟨m, hl3⟩, fun b ⟨key, hb⟩ => ?_, hext.1, hs1.below.size⟩
  · intro k hk
    unfold nbHeap
    simp [show k ≠ 1000 by omega, show k ≠ 1001 by omega, show k ≠ 1002 by omega, show k ≠ 1003 by omega, show k ≠ 1004 by omega, show k ≠ 1005 by omega]
  · obtain ⟨b1, hl1⟩ := hl1
    rcases hb with ⟨m', h⟩ | h
    · obtain ⟨_, h'⟩ := nbLam_own h (fun b m h => by rw [hl1] at h; cases h)
      exact (hs1.own 3 b m' h').1.resolve_left (fun h => h)
    · obtain ⟨_, h'⟩ := nbLam_map h (fun y h => by rw [hl3] at h; cases h)
      exact (hs1.maps 1 b h').1.1.resolve_left (fun h => h)
theorem Bd.weaken {bb n0 n1 : Nat} {ro : Nat → Prop} {S : BS} {w : World} (h : Bd bb n0 ro S w) (hn : n1 ≤ n0) : Bd bb n1 ro S w := by
  obtain ⟨ro', lam, h, hs, hB, hm, ho, hr, hw⟩ := h
  exact ⟨ro', lam, h, hs, hB, hm, fun b hb => Nat.le_trans hn (ho b hb), hr, Nat.le_trans hn hw⟩

/-- A diagram. -/
structure Stn where
  nm : ByteArray
  bs : List ByteArray
  ls : List Ln
  ss : List Sr
  qs : List By
def Stn.cs (s : Stn) : List V := [.str s.nm, .list 1 (s.bs.map s1), .list 5 (s.ls.map Ln.cs), .list 6 (s.ss.map Sr.cs), .list 12 (s.qs.map By.cs)]
def Stn.csA (s : Stn) (x1 x2 x3 x4 : Value) : List V := [.str s.nm, .as x1 1 (s.bs.map s1), .as x2 5 (s.ls.map Ln.cs), .as x3 6 (s.ss.map Sr.cs), .as x4 12 (s.qs.map By.cs)]
def SB (s : Stn) (k : Nat) : BS := ⟨s.bs.take k, s.bs.take k, [], [], []⟩
def SL (s : Stn) (k : Nat) : BS := ⟨s.bs ++ (s.ls.take k).map Ln.nm, s.bs, s.ls.take k, [], []⟩
def SR (s : Stn) (k : Nat) : BS := ⟨s.bs ++ s.ls.map Ln.nm ++ (s.ss.take k).map Sr.nm, s.bs, s.ls, s.ss.take k, []⟩
def SQ (s : Stn) (k : Nat) : BS := ⟨s.bs ++ s.ls.map Ln.nm ++ s.ss.map Sr.nm ++ (s.qs.take k).map By.nm, s.bs, s.ls, s.ss, s.qs.take k⟩
def eB (s : Stn) (k : Nat) : Int := match s.bs[k]? with
  | some x => nmE x (dupF (SB s k).ns x)
  | none => 0
def eL (s : Stn) (k : Nat) : Int := match s.ls[k]? with
  | some x => lnE (SL s k).ns x
  | none => 0
def eR (s : Stn) (k : Nat) : Int := match s.ss[k]? with
  | some x => srE (SR s k).ns x
  | none => 0
def eQ (s : Stn) (k : Nat) : Int := match s.qs[k]? with
  | some x => byE (SQ s k) x
  | none => 0
theorem SB0 (s : Stn) : SB s 0 = BS0 := rfl
theorem SB_end (s : Stn) : SB s s.bs.length = SL s 0 := by simp [SB, SL]
theorem SL_end (s : Stn) : SL s s.ls.length = SR s 0 := by simp [SL, SR]
theorem SR_end (s : Stn) : SR s s.ss.length = SQ s 0 := by simp [SR, SQ]
theorem take_snoc {α : Type} {l : List α} {k : Nat} {x : α} (h : l[k]? = some x) : l.take (k + 1) = l.take k ++ [x] := by rw [List.take_add_one, h]; rfl
theorem stepB (s : Stn) (h1 : s.bs.length ≤ 100) : ∀ k x, s.bs[k]? = some x → PEff 70 (.str x) (eB s k) (SB s k) (SB s (k + 1)) := by
  intro k x hx
  have := bus_ok (SB s k) x (by simp [SB]; omega)
  have e : eB s k = nmE x (dupF (SB s k).ns x) := by simp [eB, hx]
  rw [e, show SB s (k + 1) = { SB s k with ns := (SB s k).ns ++ [x], bs := (SB s k).bs ++ [x] } by simp [SB, take_snoc hx]]
  exact this
theorem stepL (s : Stn) (h1 : s.ls.length ≤ 100) : ∀ k x, s.ls[k]? = some x → PEff 72 (.agg x.cs) (eL s k) (SL s k) (SL s (k + 1)) := by
  intro k x hx
  have := line_ok (SL s k) x (by simp [SL]; omega)
  have e : eL s k = lnE (SL s k).ns x := by simp [eL, hx]
  rw [e, show SL s (k + 1) = { SL s k with ns := (SL s k).ns ++ [x.nm], ls := (SL s k).ls ++ [x] } by simp [SL, take_snoc hx]]
  exact this
theorem stepR (s : Stn) (h1 : s.ss.length ≤ 100) : ∀ k x, s.ss[k]? = some x → PEff 74 (.agg x.cs) (eR s k) (SR s k) (SR s (k + 1)) := by
  intro k x hx
  have := source_ok (SR s k) x (by simp [SR]; omega)
  have e : eR s k = srE (SR s k).ns x := by simp [eR, hx]
  rw [e, show SR s (k + 1) = { SR s k with ns := (SR s k).ns ++ [x.nm], ss := (SR s k).ss ++ [x] } by simp [SR, take_snoc hx]]
  exact this
theorem stepQ (s : Stn) (h1 : s.bs.length ≤ 100) (h2 : s.ls.length ≤ 100) (h3 : s.ss.length ≤ 100) (h4 : s.qs.length ≤ 100) : ∀ k x, s.qs[k]? = some x → PEff 76 (.agg x.cs) (eQ s k) (SQ s k) (SQ s (k + 1)) := by
  intro k x hx
  have := bay_ok (SQ s k) x h1 h2 h3 (by simp [SQ]; omega)
  have e : eQ s k = byE (SQ s k) x := by simp [eQ, hx]
  rw [e, show SQ s (k + 1) = { SQ s k with ns := (SQ s k).ns ++ [x.nm], qs := (SQ s k).qs ++ [x] } by simp [SQ, take_snoc hx]]
  exact this
def nxE (e : Int) (f : Int) : Int := if e = 0 then f else e
def cntBad (s : Stn) : Bool := ieq (s.bs.length : Int) 0 || (ilt 4 (s.bs.length : Int) || (ilt 6 (s.ls.length : Int) || (ilt 4 (s.ss.length : Int) || ilt 16 (s.qs.length : Int))))
def erB (s : Stn) : Int := firstN (eB s) s.bs.length
def erL (s : Stn) : Int := nxE (erB s) (firstN (eL s) s.ls.length)
def erR (s : Stn) : Int := nxE (erL s) (firstN (eR s) s.ss.length)
def erQ (s : Stn) : Int := nxE (erR s) (firstN (eQ s) s.qs.length)
def chkF (s : Stn) : Int := if nameF s.nm = true then (if cntBad s = true then 3 else erQ s) else 7
theorem stnA {w : World} {ro : Nat → Prop} {s : Stn} {x : Value} (h : R0 w ro (.rp s.cs) x) : ∃ ad x1 x2 x3 x4, x = .pointer (some ad) ∧ R0 w ro (.vrp ad (s.csA x1 x2 x3 x4)) x ∧ R0 w ro (.list 1 (s.bs.map s1)) x1 ∧ R0 w ro (.list 5 (s.ls.map Ln.cs)) x2 ∧ R0 w ro (.list 6 (s.ss.map Sr.cs)) x3 ∧ R0 w ro (.list 12 (s.qs.map By.cs)) x4 := by
  obtain ⟨ad, g, rfl, h1, h2, h3⟩ := (R.pure (lam := fun _ => none) _ _ h).rp_inv
  refine ⟨ad, g 1, g 2, g 3, g 4, rfl, .vrp _ _ g h1 (fun j c hc => ?_) (fun j c hc => ?_), h3 1 _ rfl, h3 2 _ rfl, h3 3 _ rfl, h3 4 _ rfl⟩
  · match j with
    | 0 => exact h2 0 _ rfl
    | 1 => exact h2 1 _ rfl
    | 2 => exact h2 2 _ rfl
    | 3 => exact h2 3 _ rfl
    | 4 => exact h2 4 _ rfl
    | j + 5 => simp [Stn.csA] at hc
  · match j with
    | 0 => simp [Stn.csA] at hc; subst hc; exact h3 0 _ rfl
    | 1 => simp [Stn.csA] at hc; subst hc; exact .as _ _ _ (h3 1 _ rfl)
    | 2 => simp [Stn.csA] at hc; subst hc; exact .as _ _ _ (h3 2 _ rfl)
    | 3 => simp [Stn.csA] at hc; subst hc; exact .as _ _ _ (h3 3 _ rfl)
    | 4 => simp [Stn.csA] at hc; subst hc; exact .as _ _ _ (h3 4 _ rfl)
    | j + 5 => simp [Stn.csA] at hc
theorem check_ok (s : Stn) : PCall Try.prog 43 [.agg s.cs] (.int .i64 (chkF s)) := by
  cases hn : nameF s.nm
  · have hc : chkF s = 7 := by simp [chkF, hn]
    rw [hc]
    refine pcall_cx C3_ok mixed (fun _ => none) Try.func43 rfl Try.ntmps43 Try.results43 (by simp) (by kernel_rfl) ?_
    repeat' first
      | (with_reducible refine gw_bool (fun _ => ?_) (fun _ => ?_))
      | (with_reducible refine condw_bool (fun _ => ?_) (fun _ => ?_))
      | simp [*, Stn.cs]
  cases hb : cntBad s
  case true =>
    have hc : chkF s = 3 := by simp [chkF, hn, hb]
    rw [hc]
    simp only [cntBad] at hb
    obtain ⟨n1, q1⟩ : ∃ n, s.bs.length = n := ⟨_, rfl⟩
    obtain ⟨n2, q2⟩ : ∃ n, s.ls.length = n := ⟨_, rfl⟩
    obtain ⟨n3, q3⟩ : ∃ n, s.ss.length = n := ⟨_, rfl⟩
    obtain ⟨n4, q4⟩ : ∃ n, s.qs.length = n := ⟨_, rfl⟩
    rw [q1, q2, q3, q4] at hb
    cases c1 : ieq (n1 : Int) 0 <;> cases c2 : ilt 4 (n1 : Int) <;> cases c3 : ilt 6 (n2 : Int) <;> cases c4 : ilt 4 (n3 : Int) <;> cases c5 : ilt 16 (n4 : Int)
    all_goals rw [c1, c2, c3, c4, c5] at hb
    all_goals first
      | (cases hb; done)
      | skip
    all_goals clear hb
    all_goals
      refine pcall_cx C3_ok mixed (fun _ => none) Try.func43 rfl Try.ntmps43 Try.results43 (by simp) (by kernel_rfl) ?_
    all_goals
      repeat' first
        | (with_reducible refine gw_bool (fun _ => ?_) (fun _ => ?_))
        | (with_reducible refine condw_bool (fun _ => ?_) (fun _ => ?_))
        | simp [*, Stn.cs]
  have hc : chkF s = erQ s := by simp [chkF, hn, hb]
  rw [hc]
  clear hc
  simp only [cntBad, Bool.or_eq_false_iff] at hb
  obtain ⟨c1, c2, c3, c4, c5⟩ := hb
  have l1 : s.bs.length ≤ 4 := by have := ilt_iff'.1 c2; omega
  have l2 : s.ls.length ≤ 6 := by have := ilt_iff'.1 c3; omega
  have l3 : s.ss.length ≤ 4 := by have := ilt_iff'.1 c4; omega
  have l4 : s.qs.length ≤ 16 := by have := ilt_iff'.1 c5; omega
  intro w ro args hro hsz hr
  refine callsIn_wide.1 (callsIn_of_wp (n := 0) Try.func43 rfl trivial ?_ rfl)
  rw [Try.ntmps43]
  have hs0 := sim_ini (n := 65) hro hsz (by simp) hr
  refine wpIn_seq (wpIn_mono (cw_in (CW.of_cx (D := fun _ => none) C3_ok mixed _ (fun e st => e = .normal ∧ st.env 1 = .ptr 1 0 ∧ st.heap 1 = some ⟨35, s.cs⟩) _ (by kernel_rfl) ?_) hs0) ?_)
  · skip
    repeat' first
      | (with_reducible refine gw_bool (fun _ => ?_) (fun _ => ?_))
      | (with_reducible refine condw_bool (fun _ => ?_) (fun _ => ?_))
      | simp [*, Stn.cs]
  rintro e a1 w1 ⟨st1, ro1, lam1, ⟨rfl, e1, h1⟩, hext1, hs1⟩
  obtain ⟨ro2, lam2, hext2, hs2⟩ := View.pub 65 h1 (by simp [Stn.cs]) _ _ _ _ _ hs1
  have hp := hs2.env 1
  rw [show (st1.pub 1 ⟨35, s.cs⟩).env 1 = .rp s.cs by simp [St.pub, e1, pubT, pubA, pubC]] at hp
  obtain ⟨ad, x1, x2, x3, x4, hv1, hvr, r1, r2, r3, r4⟩ := stnA (hp.pureC rfl)
  have hB1 : Below w.heap.size w w1 := hs1.below.below
  have hro2 : ∀ b, ro2 b → b < w1.heap.size := hs2.rolt
  have hvR : Rig w1 ro2 (.vrp ad (s.csA x1 x2 x3 x4)) := by rw [hv1] at hvr; exact rig_vrp hvr
  have k1 : Rig w1 ro2 (.as x1 1 (s.bs.map s1)) := rig_as r1
  have k2 : Rig w1 ro2 (.as x2 5 (s.ls.map Ln.cs)) := rig_as r2
  have k3 : Rig w1 ro2 (.as x3 6 (s.ss.map Sr.cs)) := rig_as r3
  have k4 : Rig w1 ro2 (.as x4 12 (s.qs.map By.cs)) := rig_as r4
  obtain ⟨n0, hn0⟩ : ∃ n0, w1.heap.size = n0 := ⟨_, rfl⟩
  rw [hn0] at hro2
  have hg1 : FG 65 0 n0 ro2 w1 [(1, .vrp ad (s.csA x1 x2 x3 x4))] none a1 w1 := ⟨hs1.dfr, hs1.size, fun t => by
    simp only [envL]
    by_cases ht : t = 1
    · subst ht; rw [upd_same]; exact hvr
    · rw [upd_ne _ _ ht]; exact .junk _, Below.refl _ _, by omega, fun S' h => by cases h⟩
  clear hs1 hs2 hs0 e1 h1 hp hv1 hvr
  have hkk : ∀ {L : List (Nat × V)} {bb : Nat} {S : Option BS} {a : Act} {w' : World}, FG 65 bb n0 ro2 w1 L S a w' → ∀ b, ro2 b → w'.heap[b]? = w1.heap[b]? := fun hg b hb => hg.kept.block b (hro2 b hb)
  refine wpIn_seq (wpIn_mono (cw_in (CW.of_cx (D := fun _ => none) C3_ok mixed _ (fun e st => e = .normal ∧ HasE st.env [(1, .vrp ad (s.csA x1 x2 x3 x4))]) _ (by kernel_rfl) ?_) (hg1.sim hro2)) ?_)
  · clear hg1
    repeat' first
      | (with_reducible refine gw_bool (fun _ => ?_) (fun _ => ?_))
      | (with_reducible refine condw_bool (fun _ => ?_) (fun _ => ?_))
      | simp [*, envL, HasE, Stn.csA]
  rintro e a2 w2 ⟨st2, ro3, lam3, ⟨rfl, hE2⟩, -, hs2⟩
  have hg2 := hg1.step hro2 hs2 hE2 ⟨hvR, trivial⟩
  clear hg1 hs2 hE2
  refine wpIn_seq (wpIn_mono (cw_in (CW.of_cx (D := fun _ => none) C3_ok mixed _ (fun e st => e = .normal ∧ HasE st.env [(1, .vrp ad (s.csA x1 x2 x3 x4))]) _ (by kernel_rfl) ?_) (hg2.sim hro2)) ?_)
  · clear hg2
    repeat' first
      | (with_reducible refine gw_bool (fun _ => ?_) (fun _ => ?_))
      | (with_reducible refine condw_bool (fun _ => ?_) (fun _ => ?_))
      | simp [*, envL, HasE, Stn.csA]
  rintro e a3 w3 ⟨st3, ro4, lam4, ⟨rfl, hE3⟩, -, hs3⟩
  have hg3 := hg2.step hro2 hs3 hE3 ⟨hvR, trivial⟩
  clear hg2 hs3 hE3
  refine wpIn_seq ?_
  refine wpIn_region_list ?_
  refine wpListIn_plain rfl fun K hK => oper_in (call_wp rfl (by kernel_rfl) ?_)
  rw [show (#[] : Array Operand).map a3.eval = #[] from by simp]
  refine (newb_ok w3 ro2 (fun b hb => Nat.lt_of_lt_of_le (hro2 b hb) hg3.nle)).mono ?_
  rintro e w4 ⟨bb, rfl, hb4, hB4⟩
  refine ⟨_, rfl, hK _ _ ?_⟩
  clear hK
  obtain ⟨Pb, hPb⟩ : ∃ Pb : Value, Pb = .pointer (some ⟨bb, 0, none⟩) := ⟨_, rfl⟩
  rw [← hPb]
  have hg3b : FG 65 bb n0 ro2 w1 [(1, .vrp ad (s.csA x1 x2 x3 x4))] none a3 w3 := ⟨hg3.dfr, hg3.size, hg3.env, hg3.kept, hg3.nle, fun S' h => by cases h⟩
  have hg4 : FG 65 bb n0 ro2 w1 _ (some (SB s 0)) (a3.put (some 37) Pb) w4 := hg3b.next hro2 (d := 37) (v := .val Pb) (by decide) (hb4.mono hg3.nle) (fun _ _ => .val _) (fun S' h => by cases h; exact hB4.weaken hg3.nle)
  clear hg3 hg3b hB4
  refine eg_in (rest := []) C3_ok (K := fun st => HasE st.env [(1, .vrp ad (s.csA x1 x2 x3 x4)), (3, .val Pb)]) [_] _ _ _ _ _ (by kernel_rfl) ?_ (hg4.sim hro2) ?_
  · clear hg4
    repeat' first
      | (with_reducible refine gw_bool (fun _ => ?_) (fun _ => ?_))
      | (with_reducible refine condw_bool (fun _ => ?_) (fun _ => ?_))
      | simp [*, envL, HasE]
  rintro st5 a5 ro5 lam5 w5 hE5 hs5
  have hg5 := hg4.step hro2 hs5 hE5 ⟨hvR, rig_flat rfl, trivial⟩
  clear hg4 hs5 hE5
  refine wpIn_seq ?_
  refine wpIn_region_list ?_
  rw [← List.take_append_drop 4 (Array.toList _)]
  obtain ⟨Yf, hYf⟩ : ∃ Yf : Value, Yf = .func (.func 70) #[Pb] #[] := ⟨_, rfl⟩
  refine eg_in C3_ok (K := fun st => HasE st.env [(1, .vrp ad (s.csA x1 x2 x3 x4)), (3, .val Pb), (39, .as x1 1 (s.bs.map s1)), (41, .val Yf)]) _ _ _ _ _ _ (by kernel_rfl) ?_ (hg5.sim hro2) ?_
  · clear hg5
    repeat' first
      | (with_reducible refine gw_bool (fun _ => ?_) (fun _ => ?_))
      | (with_reducible refine condw_bool (fun _ => ?_) (fun _ => ?_))
      | simp [*, envL, HasE, Stn.csA]
  rintro st6 a6 ro6 lam6 w6 hE6 hs6
  have hg6 := hg5.step hro2 hs6 hE6 ⟨hvR, rig_flat rfl, k1, rig_flat rfl, trivial⟩
  clear hg5 hs6 hE6
  refine wpListIn_plain rfl fun K hK => oper_in (call_wp rfl (by kernel_rfl) ?_)
  have hargs6 : (#[Operand.tmp 39, Operand.tmp 41] : Array Operand).map a6.eval = #[x1, .func (.func 70) #[.pointer (some ⟨bb, 0, none⟩)] #[]] := by
    have e1 : a6.tmps.getD 39 Go.undef = x1 := r0_as (hg6.env 39)
    have e2 : a6.tmps.getD 41 Go.undef = Yf := r0_val (hg6.env 41)
    rw [hYf, hPb] at e2
    simp only [List.map_toArray, List.map_cons, List.map_nil, Act.eval, e1, e2]
  rw [hargs6]
  refine (firstS_ok (by kernel_rfl) s.bs (by omega) _ _ (stepB s (by omega)) bb n0 ro2 w6 x1 (hg6.got _ rfl) hro2 (r1.mono (hkk hg6) (fun _ h => h))).mono ?_
  rintro e wc6 ⟨hb6, rfl, hB6⟩
  refine ⟨_, rfl, hK _ _ ?_⟩
  clear hK
  have hgc6 : FG 65 bb n0 ro2 w1 _ (if (firstN (eB s) s.bs.length) = 0 then some (SB s s.bs.length) else none) (a6.put (some 42) (.int .i64 (firstN (eB s) s.bs.length))) wc6 := hg6.next hro2 (d := 42) (v := .int .i64 (firstN (eB s) s.bs.length)) (by decide) hb6 (fun _ _ => .int _ _) (fun S' h => by
    split at h
    · rename_i h0; cases h; exact hB6 h0
    · cases h)
  clear hg6
  refine eg_in (rest := []) C3_ok (K := fun st => HasE st.env [(1, .vrp ad (s.csA x1 x2 x3 x4)), (3, .val Pb), (4, .int .i64 (firstN (eB s) s.bs.length))]) [_] _ _ _ _ _ (by kernel_rfl) ?_ (hgc6.sim hro2) ?_
  · clear hgc6
    repeat' first
      | (with_reducible refine gw_bool (fun _ => ?_) (fun _ => ?_))
      | (with_reducible refine condw_bool (fun _ => ?_) (fun _ => ?_))
      | simp [*, envL, HasE]
  rintro st6b a6b ro6b lam6b w6b hE6b hs6b
  have hg6b := hgc6.step hro2 hs6b hE6b ⟨hvR, rig_flat rfl, rig_flat rfl, trivial⟩
  clear hgc6 hs6b hE6b
  have hg7 : FG 65 bb n0 ro2 w1 [(1, .vrp ad (s.csA x1 x2 x3 x4)), (3, .val Pb), (4, .int .i64 (erB s))] (if erB s = 0 then some (SL s 0) else none) a6b w6b := by rw [← SB_end]; exact hg6b
  clear hg6b
  refine wpIn_seq (wpIn_mono (wpIn_seq (Q := fun e a' w' => e = .normal ∧ FG 65 bb n0 ro2 w1 [(1, .vrp ad (s.csA x1 x2 x3 x4)), (3, .val Pb), (4, .int .i64 (erL s))] (if erL s = 0 then some (SR s 0) else none) a' w') ?_) ?_)
  · refine wpIn_mono (cw_in (CW.of_cx (D := fun _ => none) C3_ok mixed _ (fun e st => e = .normal ∧ HasE st.env [(1, .vrp ad (s.csA x1 x2 x3 x4)), (3, .val Pb), (4, .int .i64 (erB s)), (44, .bool (ieq (erB s) 0))]) _ (by kernel_rfl) ?_) (hg7.sim hro2)) ?_
    · clear hg7
      repeat' first
        | (with_reducible refine gw_bool (fun _ => ?_) (fun _ => ?_))
        | (with_reducible refine condw_bool (fun _ => ?_) (fun _ => ?_))
        | simp [*, envL, HasE]
    rintro e aq wq ⟨stq, roq, lamq, ⟨rfl, hEq⟩, -, hsq⟩
    have hgq := hg7.step hro2 hsq hEq ⟨hvR, rig_flat rfl, rig_flat rfl, rig_flat rfl, trivial⟩
    clear hg7 hsq hEq
    have hcq : aq.eval (.tmp 44) = .bool (ieq (erB s) 0) := by
      have := hgq.env 44
      cases hx : ieq (erB s) 0
      · rw [hx] at this
        generalize hv : aq.tmps.getD 44 Go.undef = vv at this
        cases this; exact hv
      · rw [hx] at this
        generalize hv : aq.tmps.getD 44 Go.undef = vv at this
        cases this; exact hv
    refine wpIn_cond_split hcq (fun ht => ?_) (fun hf => ?_)
    · have hz : erB s = 0 := by simpa [ieq] using ht
      rw [hz, if_pos rfl] at hgq
      refine wpIn_region_list ?_
      rw [← List.take_append_drop 4 (Array.toList _)]
      obtain ⟨Yf, hYf⟩ : ∃ Yf : Value, Yf = .func (.func 72) #[Pb] #[] := ⟨_, rfl⟩
      refine eg_in C3_ok (K := fun st => HasE st.env [(1, .vrp ad (s.csA x1 x2 x3 x4)), (3, .val Pb), (46, .as x2 5 (s.ls.map Ln.cs)), (48, .val Yf)]) _ _ _ _ _ _ (by kernel_rfl) ?_ (hgq.sim hro2) ?_
      · clear hgq
        repeat' first
          | (with_reducible refine gw_bool (fun _ => ?_) (fun _ => ?_))
          | (with_reducible refine condw_bool (fun _ => ?_) (fun _ => ?_))
          | simp [*, envL, HasE, Stn.csA]
      rintro st8 a8 ro8 lam8 w8 hE8 hs8
      have hg8 := hgq.step hro2 hs8 hE8 ⟨hvR, rig_flat rfl, k2, rig_flat rfl, trivial⟩
      clear hgq hs8 hE8
      refine wpListIn_plain rfl fun K hK => oper_in (call_wp rfl (by kernel_rfl) ?_)
      have hargs8 : (#[Operand.tmp 46, Operand.tmp 48] : Array Operand).map a8.eval = #[x2, .func (.func 72) #[.pointer (some ⟨bb, 0, none⟩)] #[]] := by
        have e1 : a8.tmps.getD 46 Go.undef = x2 := r0_as (hg8.env 46)
        have e2 : a8.tmps.getD 48 Go.undef = Yf := r0_val (hg8.env 48)
        rw [hYf, hPb] at e2
        simp only [List.map_toArray, List.map_cons, List.map_nil, Act.eval, e1, e2]
      rw [hargs8]
      refine (firstL_ok (by kernel_rfl) s.ls (by omega) _ _ (stepL s (by omega)) bb n0 ro2 w8 x2 (hg8.got _ rfl) hro2 (r2.mono (hkk hg8) (fun _ h => h))).mono ?_
      rintro e wc8 ⟨hb8, rfl, hB8⟩
      refine ⟨_, rfl, hK _ _ ?_⟩
      clear hK
      have hgc8 : FG 65 bb n0 ro2 w1 _ (if (firstN (eL s) s.ls.length) = 0 then some (SL s s.ls.length) else none) (a8.put (some 49) (.int .i64 (firstN (eL s) s.ls.length))) wc8 := hg8.next hro2 (d := 49) (v := .int .i64 (firstN (eL s) s.ls.length)) (by decide) hb8 (fun _ _ => .int _ _) (fun S' h => by
        split at h
        · rename_i h0; cases h; exact hB8 h0
        · cases h)
      clear hg8
      refine eg_in (rest := []) C3_ok (K := fun st => HasE st.env [(1, .vrp ad (s.csA x1 x2 x3 x4)), (3, .val Pb), (4, .int .i64 (firstN (eL s) s.ls.length))]) [_] _ _ _ _ _ (by kernel_rfl) ?_ (hgc8.sim hro2) ?_
      · clear hgc8
        repeat' first
          | (with_reducible refine gw_bool (fun _ => ?_) (fun _ => ?_))
          | (with_reducible refine condw_bool (fun _ => ?_) (fun _ => ?_))
          | simp [*, envL, HasE]
      rintro st8b a8b ro8b lam8b w8b hE8b hs8b
      have hg8b := hgc8.step hro2 hs8b hE8b ⟨hvR, rig_flat rfl, rig_flat rfl, trivial⟩
      clear hgc8 hs8b hE8b
      have e : erL s = (firstN (eL s) s.ls.length) := by simp [erL, nxE, hz]
      refine ⟨rfl, ?_⟩
      rw [e]
      first | exact hg8b | (rw [← SL_end]; exact hg8b)
    · have hz : erB s ≠ 0 := by simpa [ieq] using hf
      have e : erL s = erB s := by simp [erL, nxE, hz]
      rw [if_neg hz] at hgq
      refine wpIn_mono (cw_in (CW.of_cx (D := fun _ => none) C3_ok mixed _ (fun e st => e = .normal ∧ HasE st.env [(1, .vrp ad (s.csA x1 x2 x3 x4)), (3, .val Pb), (4, .int .i64 (erB s))]) _ (by kernel_rfl) ?_) (hgq.sim hro2)) ?_
      · clear hgq
        repeat' first
          | (with_reducible refine gw_bool (fun _ => ?_) (fun _ => ?_))
          | (with_reducible refine condw_bool (fun _ => ?_) (fun _ => ?_))
          | simp [*, envL, HasE]
      rintro e2 aq2 wq2 ⟨stq2, roq2, lamq2, ⟨rfl, hEq2⟩, -, hsq2⟩
      refine ⟨rfl, ?_⟩
      rw [e, if_neg hz]
      exact hgq.step hro2 hsq2 hEq2 ⟨hvR, rig_flat rfl, rig_flat rfl, trivial⟩
  rintro e a8c w8c ⟨rfl, hg8c⟩
  refine wpIn_seq (wpIn_mono (wpIn_seq (Q := fun e a' w' => e = .normal ∧ FG 65 bb n0 ro2 w1 [(1, .vrp ad (s.csA x1 x2 x3 x4)), (3, .val Pb), (4, .int .i64 (erR s))] (if erR s = 0 then some (SQ s 0) else none) a' w') ?_) ?_)
  · refine wpIn_mono (cw_in (CW.of_cx (D := fun _ => none) C3_ok mixed _ (fun e st => e = .normal ∧ HasE st.env [(1, .vrp ad (s.csA x1 x2 x3 x4)), (3, .val Pb), (4, .int .i64 (erL s)), (51, .bool (ieq (erL s) 0))]) _ (by kernel_rfl) ?_) (hg8c.sim hro2)) ?_
    · clear hg8c
      repeat' first
        | (with_reducible refine gw_bool (fun _ => ?_) (fun _ => ?_))
        | (with_reducible refine condw_bool (fun _ => ?_) (fun _ => ?_))
        | simp [*, envL, HasE]
    rintro e aq wq ⟨stq, roq, lamq, ⟨rfl, hEq⟩, -, hsq⟩
    have hgq := hg8c.step hro2 hsq hEq ⟨hvR, rig_flat rfl, rig_flat rfl, rig_flat rfl, trivial⟩
    clear hg8c hsq hEq
    have hcq : aq.eval (.tmp 51) = .bool (ieq (erL s) 0) := by
      have := hgq.env 51
      cases hx : ieq (erL s) 0
      · rw [hx] at this
        generalize hv : aq.tmps.getD 51 Go.undef = vv at this
        cases this; exact hv
      · rw [hx] at this
        generalize hv : aq.tmps.getD 51 Go.undef = vv at this
        cases this; exact hv
    refine wpIn_cond_split hcq (fun ht => ?_) (fun hf => ?_)
    · have hz : erL s = 0 := by simpa [ieq] using ht
      rw [hz, if_pos rfl] at hgq
      refine wpIn_region_list ?_
      rw [← List.take_append_drop 4 (Array.toList _)]
      obtain ⟨Yf, hYf⟩ : ∃ Yf : Value, Yf = .func (.func 74) #[Pb] #[] := ⟨_, rfl⟩
      refine eg_in C3_ok (K := fun st => HasE st.env [(1, .vrp ad (s.csA x1 x2 x3 x4)), (3, .val Pb), (53, .as x3 6 (s.ss.map Sr.cs)), (55, .val Yf)]) _ _ _ _ _ _ (by kernel_rfl) ?_ (hgq.sim hro2) ?_
      · clear hgq
        repeat' first
          | (with_reducible refine gw_bool (fun _ => ?_) (fun _ => ?_))
          | (with_reducible refine condw_bool (fun _ => ?_) (fun _ => ?_))
          | simp [*, envL, HasE, Stn.csA]
      rintro st9 a9 ro9 lam9 w9 hE9 hs9
      have hg9 := hgq.step hro2 hs9 hE9 ⟨hvR, rig_flat rfl, k3, rig_flat rfl, trivial⟩
      clear hgq hs9 hE9
      refine wpListIn_plain rfl fun K hK => oper_in (call_wp rfl (by kernel_rfl) ?_)
      have hargs9 : (#[Operand.tmp 53, Operand.tmp 55] : Array Operand).map a9.eval = #[x3, .func (.func 74) #[.pointer (some ⟨bb, 0, none⟩)] #[]] := by
        have e1 : a9.tmps.getD 53 Go.undef = x3 := r0_as (hg9.env 53)
        have e2 : a9.tmps.getD 55 Go.undef = Yf := r0_val (hg9.env 55)
        rw [hYf, hPb] at e2
        simp only [List.map_toArray, List.map_cons, List.map_nil, Act.eval, e1, e2]
      rw [hargs9]
      refine (firstR_ok (by kernel_rfl) s.ss (by omega) _ _ (stepR s (by omega)) bb n0 ro2 w9 x3 (hg9.got _ rfl) hro2 (r3.mono (hkk hg9) (fun _ h => h))).mono ?_
      rintro e wc9 ⟨hb9, rfl, hB9⟩
      refine ⟨_, rfl, hK _ _ ?_⟩
      clear hK
      have hgc9 : FG 65 bb n0 ro2 w1 _ (if (firstN (eR s) s.ss.length) = 0 then some (SR s s.ss.length) else none) (a9.put (some 56) (.int .i64 (firstN (eR s) s.ss.length))) wc9 := hg9.next hro2 (d := 56) (v := .int .i64 (firstN (eR s) s.ss.length)) (by decide) hb9 (fun _ _ => .int _ _) (fun S' h => by
        split at h
        · rename_i h0; cases h; exact hB9 h0
        · cases h)
      clear hg9
      refine eg_in (rest := []) C3_ok (K := fun st => HasE st.env [(1, .vrp ad (s.csA x1 x2 x3 x4)), (3, .val Pb), (4, .int .i64 (firstN (eR s) s.ss.length))]) [_] _ _ _ _ _ (by kernel_rfl) ?_ (hgc9.sim hro2) ?_
      · clear hgc9
        repeat' first
          | (with_reducible refine gw_bool (fun _ => ?_) (fun _ => ?_))
          | (with_reducible refine condw_bool (fun _ => ?_) (fun _ => ?_))
          | simp [*, envL, HasE]
      rintro st9b a9b ro9b lam9b w9b hE9b hs9b
      have hg9b := hgc9.step hro2 hs9b hE9b ⟨hvR, rig_flat rfl, rig_flat rfl, trivial⟩
      clear hgc9 hs9b hE9b
      have e : erR s = (firstN (eR s) s.ss.length) := by simp [erR, nxE, hz]
      refine ⟨rfl, ?_⟩
      rw [e]
      first | exact hg9b | (rw [← SR_end]; exact hg9b)
    · have hz : erL s ≠ 0 := by simpa [ieq] using hf
      have e : erR s = erL s := by simp [erR, nxE, hz]
      rw [if_neg hz] at hgq
      refine wpIn_mono (cw_in (CW.of_cx (D := fun _ => none) C3_ok mixed _ (fun e st => e = .normal ∧ HasE st.env [(1, .vrp ad (s.csA x1 x2 x3 x4)), (3, .val Pb), (4, .int .i64 (erL s))]) _ (by kernel_rfl) ?_) (hgq.sim hro2)) ?_
      · clear hgq
        repeat' first
          | (with_reducible refine gw_bool (fun _ => ?_) (fun _ => ?_))
          | (with_reducible refine condw_bool (fun _ => ?_) (fun _ => ?_))
          | simp [*, envL, HasE]
      rintro e2 aq2 wq2 ⟨stq2, roq2, lamq2, ⟨rfl, hEq2⟩, -, hsq2⟩
      refine ⟨rfl, ?_⟩
      rw [e, if_neg hz]
      exact hgq.step hro2 hsq2 hEq2 ⟨hvR, rig_flat rfl, rig_flat rfl, trivial⟩
  rintro e a9c w9c ⟨rfl, hg9c⟩
  refine wpIn_seq (wpIn_mono (wpIn_seq (Q := fun e a' w' => e = .normal ∧ FG 65 bb n0 ro2 w1 [(1, .vrp ad (s.csA x1 x2 x3 x4)), (3, .val Pb), (4, .int .i64 (erQ s))] (if erQ s = 0 then some (SQ s s.qs.length) else none) a' w') ?_) ?_)
  · refine wpIn_mono (cw_in (CW.of_cx (D := fun _ => none) C3_ok mixed _ (fun e st => e = .normal ∧ HasE st.env [(1, .vrp ad (s.csA x1 x2 x3 x4)), (3, .val Pb), (4, .int .i64 (erR s)), (58, .bool (ieq (erR s) 0))]) _ (by kernel_rfl) ?_) (hg9c.sim hro2)) ?_
    · clear hg9c
      repeat' first
        | (with_reducible refine gw_bool (fun _ => ?_) (fun _ => ?_))
        | (with_reducible refine condw_bool (fun _ => ?_) (fun _ => ?_))
        | simp [*, envL, HasE]
    rintro e aq wq ⟨stq, roq, lamq, ⟨rfl, hEq⟩, -, hsq⟩
    have hgq := hg9c.step hro2 hsq hEq ⟨hvR, rig_flat rfl, rig_flat rfl, rig_flat rfl, trivial⟩
    clear hg9c hsq hEq
    have hcq : aq.eval (.tmp 58) = .bool (ieq (erR s) 0) := by
      have := hgq.env 58
      cases hx : ieq (erR s) 0
      · rw [hx] at this
        generalize hv : aq.tmps.getD 58 Go.undef = vv at this
        cases this; exact hv
      · rw [hx] at this
        generalize hv : aq.tmps.getD 58 Go.undef = vv at this
        cases this; exact hv
    refine wpIn_cond_split hcq (fun ht => ?_) (fun hf => ?_)
    · have hz : erR s = 0 := by simpa [ieq] using ht
      rw [hz, if_pos rfl] at hgq
      refine wpIn_region_list ?_
      rw [← List.take_append_drop 4 (Array.toList _)]
      obtain ⟨Yf, hYf⟩ : ∃ Yf : Value, Yf = .func (.func 76) #[Pb] #[] := ⟨_, rfl⟩
      refine eg_in C3_ok (K := fun st => HasE st.env [(1, .vrp ad (s.csA x1 x2 x3 x4)), (3, .val Pb), (60, .as x4 12 (s.qs.map By.cs)), (62, .val Yf)]) _ _ _ _ _ _ (by kernel_rfl) ?_ (hgq.sim hro2) ?_
      · clear hgq
        repeat' first
          | (with_reducible refine gw_bool (fun _ => ?_) (fun _ => ?_))
          | (with_reducible refine condw_bool (fun _ => ?_) (fun _ => ?_))
          | simp [*, envL, HasE, Stn.csA]
      rintro st10 a10 ro10 lam10 w10 hE10 hs10
      have hg10 := hgq.step hro2 hs10 hE10 ⟨hvR, rig_flat rfl, k4, rig_flat rfl, trivial⟩
      clear hgq hs10 hE10
      refine wpListIn_plain rfl fun K hK => oper_in (call_wp rfl (by kernel_rfl) ?_)
      have hargs10 : (#[Operand.tmp 60, Operand.tmp 62] : Array Operand).map a10.eval = #[x4, .func (.func 76) #[.pointer (some ⟨bb, 0, none⟩)] #[]] := by
        have e1 : a10.tmps.getD 60 Go.undef = x4 := r0_as (hg10.env 60)
        have e2 : a10.tmps.getD 62 Go.undef = Yf := r0_val (hg10.env 62)
        rw [hYf, hPb] at e2
        simp only [List.map_toArray, List.map_cons, List.map_nil, Act.eval, e1, e2]
      rw [hargs10]
      refine (firstB_ok (by kernel_rfl) s.qs (by omega) _ _ (stepQ s (by omega) (by omega) (by omega) (by omega)) bb n0 ro2 w10 x4 (hg10.got _ rfl) hro2 (r4.mono (hkk hg10) (fun _ h => h))).mono ?_
      rintro e wc10 ⟨hb10, rfl, hB10⟩
      refine ⟨_, rfl, hK _ _ ?_⟩
      clear hK
      have hgc10 : FG 65 bb n0 ro2 w1 _ (if (firstN (eQ s) s.qs.length) = 0 then some (SQ s s.qs.length) else none) (a10.put (some 63) (.int .i64 (firstN (eQ s) s.qs.length))) wc10 := hg10.next hro2 (d := 63) (v := .int .i64 (firstN (eQ s) s.qs.length)) (by decide) hb10 (fun _ _ => .int _ _) (fun S' h => by
        split at h
        · rename_i h0; cases h; exact hB10 h0
        · cases h)
      clear hg10
      refine eg_in (rest := []) C3_ok (K := fun st => HasE st.env [(1, .vrp ad (s.csA x1 x2 x3 x4)), (3, .val Pb), (4, .int .i64 (firstN (eQ s) s.qs.length))]) [_] _ _ _ _ _ (by kernel_rfl) ?_ (hgc10.sim hro2) ?_
      · clear hgc10
        repeat' first
          | (with_reducible refine gw_bool (fun _ => ?_) (fun _ => ?_))
          | (with_reducible refine condw_bool (fun _ => ?_) (fun _ => ?_))
          | simp [*, envL, HasE]
      rintro st10b a10b ro10b lam10b w10b hE10b hs10b
      have hg10b := hgc10.step hro2 hs10b hE10b ⟨hvR, rig_flat rfl, rig_flat rfl, trivial⟩
      clear hgc10 hs10b hE10b
      have e : erQ s = (firstN (eQ s) s.qs.length) := by simp [erQ, nxE, hz]
      refine ⟨rfl, ?_⟩
      rw [e]
      first | exact hg10b | (rw [← SR_end]; exact hg10b)
    · have hz : erR s ≠ 0 := by simpa [ieq] using hf
      have e : erQ s = erR s := by simp [erQ, nxE, hz]
      rw [if_neg hz] at hgq
      refine wpIn_mono (cw_in (CW.of_cx (D := fun _ => none) C3_ok mixed _ (fun e st => e = .normal ∧ HasE st.env [(1, .vrp ad (s.csA x1 x2 x3 x4)), (3, .val Pb), (4, .int .i64 (erR s))]) _ (by kernel_rfl) ?_) (hgq.sim hro2)) ?_
      · clear hgq
        repeat' first
          | (with_reducible refine gw_bool (fun _ => ?_) (fun _ => ?_))
          | (with_reducible refine condw_bool (fun _ => ?_) (fun _ => ?_))
          | simp [*, envL, HasE]
      rintro e2 aq2 wq2 ⟨stq2, roq2, lamq2, ⟨rfl, hEq2⟩, -, hsq2⟩
      refine ⟨rfl, ?_⟩
      rw [e, if_neg hz]
      exact hgq.step hro2 hsq2 hEq2 ⟨hvR, rig_flat rfl, rig_flat rfl, trivial⟩
  rintro e a10c w10c ⟨rfl, hg10c⟩
  refine wpIn_mono (cw_in (CW.of_cx (D := fun _ => none) C3_ok mixed _ (fun e st => e = .ret ∧ HasE st.env [(2, .int .i64 (erQ s))]) _ (by kernel_rfl) ?_) (hg10c.sim hro2)) ?_
  · clear hg10c
    repeat' first
      | (with_reducible refine gw_bool (fun _ => ?_) (fun _ => ?_))
      | (with_reducible refine condw_bool (fun _ => ?_) (fun _ => ?_))
      | simp [*, envL, HasE]
  rintro e ae we ⟨ste, roe, lame, ⟨rfl, hEe⟩, -, hse⟩
  have hge := hg10c.step hro2 hse hEe ⟨rig_flat rfl, trivial⟩
  have hk := hge.kept
  have hBe : Below w.heap.size w we := hB1.trans (hk.mono (by have := hB1.size; rw [hn0] at this; exact this))
  exact ⟨hge.dfr, _, res_one rfl (r0_int (hge.env 2)), _, ro, rfl, hBe, fun _ h => h, fun _ h => .inl h, fun b hb => Nat.lt_of_lt_of_le (hro b hb) hBe.size, .int _ _⟩
end Go.Proofs.Ytcbddoopmkhlfaa
