/-
  Groups of buses: what they are like, and how closing what moves merges them.
-/
import Derived.Test.YtcbddoopmkhlfaaSt38
namespace Go.Proofs.Ytcbddoopmkhlfaa
open Go.Pv Go.RowKit
set_option linter.unusedSimpArgs false
set_option linter.unusedVariables false
set_option maxRecDepth 100000

theorem mgHit {x y z : Int} (h : (ieq z x || ieq z y) = true) : mgF (min x y) (max x y) z = min x y := by
  simp only [Bool.or_eq_true, ieq_iff] at h
  unfold mgF
  split
  · rfl
  · rename_i hh
    have : ¬ (z = max x y) := fun e => hh (ieq_t e)
    omega
theorem mgMiss {x y z : Int} (h : (ieq z x || ieq z y) = false) : mgF (min x y) (max x y) z = z := by
  simp only [Bool.or_eq_false_iff] at h
  have h1 := ieq_iff'.1 h.1
  have h2 := ieq_iff'.1 h.2
  unfold mgF
  rw [if_neg]
  intro hh
  have := ieq_iff.1 hh
  omega
/-- Each bus names the lowest bus of its group. -/
def Can (G : List Int) : Prop := ∀ (i : Nat) (x : Int), G[i]? = some x → ∃ u : Nat, x = u ∧ u ≤ i ∧ G[u]? = some x
/-- Each group of the first lies in one group of the second. -/
def Fin2 (A B : List Int) : Prop := ∀ (i : Nat) (x : Int), A[i]? = some x → ∃ u : Nat, x = u ∧ B[u]? = B[i]?
theorem can_ini (n : Nat) : Can (ini0 n) := by
  intro i x h
  have hi : i < n := by have := (List.getElem?_eq_some_iff.1 h).1; simpa [ini0] using this
  have hx : x = (i : Int) := by
    have : (ini0 n)[i]? = some (i : Int) := by simp [ini0, hi]
    rw [this] at h; exact (Option.some.inj h).symm
  exact ⟨i, hx, Nat.le_refl _, h⟩
theorem can_map {G : List Int} (h : Can G) {p q : Nat} {x y : Int} (hp : G[p]? = some x) (hq : G[q]? = some y) : Can (G.map (mgF (min x y) (max x y))) := by
  obtain ⟨u, hu, hup, hGu⟩ := h p x hp
  obtain ⟨v, hv, hvq, hGv⟩ := h q y hq
  intro i z hz
  simp only [List.getElem?_map, Option.map_eq_some_iff] at hz
  obtain ⟨z0, hz0, rfl⟩ := hz
  obtain ⟨t, ht, hti, hGt⟩ := h i z0 hz0
  cases hh : (ieq z0 x || ieq z0 y)
  · have hm := mgMiss hh
    rw [hm]
    exact ⟨t, ht, hti, by simp [hGt, hm]⟩
  · have hm := mgHit hh
    rw [hm]
    simp only [Bool.or_eq_true, ieq_iff] at hh
    rcases Int.le_total x y with hxy | hxy
    · refine ⟨u, by omega, by omega, ?_⟩
      have : mgF (min x y) (max x y) x = min x y := mgHit (by simp [ieq])
      simp only [List.getElem?_map, hGu, Option.map_some, this]
    · refine ⟨v, by omega, by omega, ?_⟩
      have : mgF (min x y) (max x y) y = min x y := mgHit (by simp [ieq])
      simp only [List.getElem?_map, hGv, Option.map_some, this]
theorem fin_right {A B : List Int} (h : Fin2 A B) (f : Int → Int) : Fin2 A (B.map f) := by
  intro i x hx
  obtain ⟨u, hu, hB⟩ := h i x hx
  exact ⟨u, hu, by simp [hB]⟩
theorem fin_both {A B : List Int} (h : Fin2 A B) {p q : Nat} {x y x' y' : Int} (hp : A[p]? = some x) (hq : A[q]? = some y) (hp' : B[p]? = some x') (hq' : B[q]? = some y') : Fin2 (A.map (mgF (min x y) (max x y))) (B.map (mgF (min x' y') (max x' y'))) := by
  obtain ⟨u, hu, hBu⟩ := h p x hp
  obtain ⟨v, hv, hBv⟩ := h q y hq
  rw [hp'] at hBu
  rw [hq'] at hBv
  have m1 : mgF (min x' y') (max x' y') x' = min x' y' := mgHit (by simp [ieq])
  have m2 : mgF (min x' y') (max x' y') y' = min x' y' := mgHit (by simp [ieq])
  intro i z hz
  simp only [List.getElem?_map, Option.map_eq_some_iff] at hz
  obtain ⟨z0, hz0, rfl⟩ := hz
  obtain ⟨t, ht, hBt⟩ := h i z0 hz0
  cases hh : (ieq z0 x || ieq z0 y)
  · rw [mgMiss hh]
    exact ⟨t, ht, by simp [hBt]⟩
  · rw [mgHit hh]
    simp only [Bool.or_eq_true, ieq_iff] at hh
    have hBi : (B.map (mgF (min x' y') (max x' y')))[i]? = some (min x' y') := by
      rcases hh with hh | hh
      · have : t = u := by omega
        rw [List.getElem?_map, ← hBt, this, hBu]; simp [m1]
      · have : t = v := by omega
        rw [List.getElem?_map, ← hBt, this, hBv]; simp [m2]
    rcases Int.le_total x y with hxy | hxy
    · refine ⟨u, by omega, ?_⟩
      rw [hBi, List.getElem?_map, hBu]; simp [m1]
    · refine ⟨v, by omega, ?_⟩
      rw [hBi, List.getElem?_map, hBv]; simp [m2]
/-- A bay's step. -/
theorem stG_cases (G : List Int) (b : By) (l : List Int) : (stG G b l = G ∧ ¬ (ieq b.kind 3 = false ∧ ∃ a c x y, b.lks = [a, c] ∧ l = [x, y] ∧ ieq x 1 = true ∧ ieq y 1 = true)) ∨ (ieq b.kind 3 = false ∧ ∃ a c x y, b.lks = [a, c] ∧ l = [x, y] ∧ ieq x 1 = true ∧ ieq y 1 = true ∧ stG G b l = merge G (g0 G a.bus) (g0 G c.bus)) := by
  cases h3 : ieq b.kind 3
  · obtain ⟨lks, hlk⟩ : ∃ lks, b.lks = lks := ⟨_, rfl⟩
    match lks, l with
    | [a, c], [x, y] =>
      cases hx : ieq x 1
      · left; refine ⟨by simp [stG, h3, hlk, hx], ?_⟩
        rintro ⟨_, a', c', x', y', h1, h2, h4, h5⟩
        simp at h2; rw [h2.1] at hx; rw [hx] at h4; cases h4
      · cases hy : ieq y 1
        · left; refine ⟨by simp [stG, h3, hlk, hx, hy], ?_⟩
          rintro ⟨_, a', c', x', y', h1, h2, h4, h5⟩
          simp at h2; rw [h2.2] at hy; rw [hy] at h5; cases h5
        · right; exact ⟨rfl, a, c, x, y, hlk, rfl, hx, hy, by simp [stG, h3, hlk, hx, hy]⟩
    | [], _ => left; refine ⟨by simp [stG, h3, hlk], ?_⟩; rintro ⟨_, a', c', x', y', h1, _⟩; rw [hlk] at h1; cases h1
    | [_], _ => left; refine ⟨by simp [stG, h3, hlk], ?_⟩; rintro ⟨_, a', c', x', y', h1, _⟩; rw [hlk] at h1; cases h1
    | _ :: _ :: _ :: _, _ => left; refine ⟨by simp [stG, h3, hlk], ?_⟩; rintro ⟨_, a', c', x', y', h1, _⟩; rw [hlk] at h1; cases h1
    | [a, c], [] => left; refine ⟨by simp [stG, h3, hlk], ?_⟩; rintro ⟨_, a', c', x', y', _, h2, _⟩; cases h2
    | [a, c], [_] => left; refine ⟨by simp [stG, h3, hlk], ?_⟩; rintro ⟨_, a', c', x', y', _, h2, _⟩; cases h2
    | [a, c], _ :: _ :: _ :: _ => left; refine ⟨by simp [stG, h3, hlk], ?_⟩; rintro ⟨_, a', c', x', y', _, h2, _⟩; cases h2
  · left; refine ⟨by simp [stG, h3], ?_⟩
    rintro ⟨h, _⟩; cases h
theorem g0_at {G : List Int} {b : Int} (h : 0 ≤ b ∧ b < G.length) : ∃ u : Nat, b = u ∧ u < G.length ∧ G[u]? = some (g0 G b) := by
  obtain ⟨u, rfl⟩ := Int.eq_ofNat_of_zero_le h.1
  have hu : u < G.length := by omega
  exact ⟨u, rfl, hu, by simp [g0, gAt, hu]⟩
theorem grpN_can {s : Stn} {p : Pos} (hF : Fine s) (hk : p.lk.length = s.qs.length) : ∀ k, k ≤ s.qs.length → Can (grpN s p k)
  | 0, _ => by simpa [grpN] using can_ini s.bs.length
  | k + 1, hle => by
    obtain ⟨b, hb, _⟩ := at_ex (l := s.qs) (i := k) (by omega)
    obtain ⟨l, hl, _⟩ := at_ex (l := p.lk) (i := k) (by omega)
    have ih := grpN_can hF hk k (by omega)
    rw [grpN_step hb hl]
    have hlen : (grpN s p k).length = s.bs.length := grpN_len s p k
    rcases stG_cases (grpN s p k) b l with ⟨h, _⟩ | ⟨_, a, c, x, y, hlk, _, _, _, h⟩
    · rw [h]; exact ih
    · rw [h]
      have hbus := (hF.lk b (List.mem_of_getElem? hb)).1
      obtain ⟨u, _, _, hu⟩ := g0_at (G := grpN s p k) (b := a.bus) (by rw [hlen]; exact hbus a (by simp [hlk]))
      obtain ⟨v, _, _, hv⟩ := g0_at (G := grpN s p k) (b := c.bus) (by rw [hlen]; exact hbus c (by simp [hlk]))
      exact can_map ih hu hv
theorem res01 {x : Int} (h : ieq (resF 0 x) 1 = true) : ieq (resF 1 x) 1 = true := by
  unfold resF at *
  split at h
  · cases h
  · rename_i hh; rw [if_neg hh]; exact h
theorem grpN_fin {s : Stn} {p : Pos} (hF : Fine s) (hk : p.lk.length = s.qs.length) : ∀ k, k ≤ s.qs.length → Fin2 (grpN s (resP p false) k) (grpN s (resP p true) k)
  | 0, _ => by
    intro i x hx
    obtain ⟨u, hu, hui, hGu⟩ := can_ini s.bs.length i x (by simpa [grpN] using hx)
    have hx' : (ini0 s.bs.length)[i]? = some x := by simpa [grpN] using hx
    exact ⟨u, hu, by simp only [grpN, List.take_zero, List.foldl_nil]; rw [hGu, hx']⟩
  | k + 1, hle => by
    obtain ⟨b, hb, _⟩ := at_ex (l := s.qs) (i := k) (by omega)
    obtain ⟨l, hl, _⟩ := at_ex (l := p.lk) (i := k) (by omega)
    have ih := grpN_fin hF hk k (by omega)
    have hl0 : (resP p false).lk[k]? = some (l.map (resF 0)) := by simp [resP, hl, resZ]
    have hl1 : (resP p true).lk[k]? = some (l.map (resF 1)) := by simp [resP, hl, resZ]
    rw [grpN_step hb hl0, grpN_step hb hl1]
    have hA : (grpN s (resP p false) k).length = s.bs.length := grpN_len _ _ _
    have hB : (grpN s (resP p true) k).length = s.bs.length := grpN_len _ _ _
    have hbus := (hF.lk b (List.mem_of_getElem? hb)).1
    rcases stG_cases (grpN s (resP p true) k) b (l.map (resF 1)) with ⟨h1, hno⟩ | ⟨h3, a, c, x, y, hlk, hll, hx, hy, h1⟩
    · rw [h1]
      rcases stG_cases (grpN s (resP p false) k) b (l.map (resF 0)) with ⟨h0, _⟩ | ⟨h3, a, c, x, y, hlk, hll, hx, hy, h0⟩
      · rw [h0]; exact ih
      · exfalso
        apply hno
        match l, hll with
        | [x', y'], hll =>
          simp at hll
          exact ⟨h3, a, c, _, _, hlk, rfl, res01 (by rw [hll.1]; exact hx), res01 (by rw [hll.2]; exact hy)⟩
    · rw [h1]
      obtain ⟨u, hu0, _, hu⟩ := g0_at (G := grpN s (resP p true) k) (b := a.bus) (by rw [hB]; exact hbus a (by simp [hlk]))
      obtain ⟨v, hv0, _, hv⟩ := g0_at (G := grpN s (resP p true) k) (b := c.bus) (by rw [hB]; exact hbus c (by simp [hlk]))
      rcases stG_cases (grpN s (resP p false) k) b (l.map (resF 0)) with ⟨h0, _⟩ | ⟨_, a', c', x', y', hlk', hll', hx', hy', h0⟩
      · rw [h0]; exact fin_right ih _
      · rw [h0]
        rw [hlk] at hlk'
        simp at hlk'
        obtain ⟨rfl, rfl⟩ := hlk'
        obtain ⟨u', hu0', _, hu'⟩ := g0_at (G := grpN s (resP p false) k) (b := a.bus) (by rw [hA]; exact hbus a (by simp [hlk]))
        obtain ⟨v', hv0', _, hv'⟩ := g0_at (G := grpN s (resP p false) k) (b := c.bus) (by rw [hA]; exact hbus c (by simp [hlk]))
        have eu : u' = u := by omega
        have ev : v' = v := by omega
        subst eu; subst ev
        exact fin_both ih hu' hv' hu hv
/-- What the law of moving links asks of a bus. -/
theorem moving_at {s : Stn} {p : Pos} (hF : Fine s) (hk : p.lk.length = s.qs.length) {i : Nat} (hi : i < s.bs.length) : ∃ u v : Nat, u ≤ i ∧ v ≤ u ∧ (grp s (resP p false))[i]? = some (u : Int) ∧ (grp s (resP p false))[u]? = some (u : Int) ∧ (grp s (resP p true))[i]? = some (v : Int) ∧ (grp s (resP p true))[u]? = some (v : Int) ∧ (grp s (resP p true))[v]? = some (v : Int) := by
  have hk0 : (resP p false).lk.length = s.qs.length := by simp [resP, hk]
  have hk1 : (resP p true).lk.length = s.qs.length := by simp [resP, hk]
  have cA : Can (grp s (resP p false)) := grpN_can hF hk0 _ (Nat.le_refl _)
  have cB : Can (grp s (resP p true)) := grpN_can hF hk1 _ (Nat.le_refl _)
  have fAB : Fin2 (grp s (resP p false)) (grp s (resP p true)) := grpN_fin hF hk _ (Nat.le_refl _)
  obtain ⟨x, hx, _⟩ := at_ex (l := grp s (resP p false)) (i := i) (by rw [grp, grpN_len]; exact hi)
  obtain ⟨y, hy, _⟩ := at_ex (l := grp s (resP p true)) (i := i) (by rw [grp, grpN_len]; exact hi)
  obtain ⟨u, hu, hui, hAu⟩ := cA i x hx
  obtain ⟨v, hv, hvi, hBv⟩ := cB i y hy
  obtain ⟨u', hu', hB⟩ := fAB i x hx
  have : u' = u := by omega
  subst this
  have hBu : (grp s (resP p true))[u']? = some y := by rw [hB]; exact hy
  obtain ⟨t, ht, htu, _⟩ := cB u' y hBu
  subst hu; subst hv
  exact ⟨u', v, hui, by omega, hx, hAu, hy, hBu, hBv⟩
end Go.Proofs.Ytcbddoopmkhlfaa
