/-
  The frames but one.
  The law.
  Reading a case and rings out of arguments.
  SamplesMissing returns true for every input, and leaves the input as it was. No condition.
-/
import Derived.Test.YtongalkfcfkfiaaJ5
import Derived.Test.YtongalkfcfkfiaaJ6
import Derived.Test.YtongalkfcfkfiaaJ8
import Derived.Test.YtongalkfcfkfiaaRows
section
namespace Go.Proofs.Ytongalkfcfkfiaa
open Go.Pv Go.RowKit
set_option linter.unusedSimpArgs false
set_option linter.unusedVariables false

def flL (u s : Int) (E0 E1 E2 : List Int) : List Fr := (List.range 12).map (frF u s E0 E1 E2)
theorem flL_len (u s : Int) (E0 E1 E2 : List Int) : (flL u s E0 E1 E2).length = 12 := by simp [flL]
theorem flL_at (u s : Int) (E0 E1 E2 : List Int) {j : Nat} (h : j < (flL u s E0 E1 E2).length) : (flL u s E0 E1 E2)[j] = frF u s E0 E1 E2 j := by simp [flL]
def goL (u s : Int) (E0 E1 E2 : List Int) (g : Nat) : List Fr := (flL u s E0 E1 E2).take g ++ (flL u s E0 E1 E2).drop (g + 1)
theorem goL_len (u s : Int) (E0 E1 E2 : List Int) {g : Nat} (h : g < 12) : (goL u s E0 E1 E2 g).length = 11 := by simp [goL, flL_len]; omega
theorem goL_mem {u s : Int} {E0 E1 E2 : List Int} {g : Nat} {f : Fr} (h : f ∈ goL u s E0 E1 E2 g) : ∃ j, j < 12 ∧ j ≠ g ∧ f = frF u s E0 E1 E2 j := by
  rcases List.mem_append.1 h with h | h
  · obtain ⟨i, hi, e⟩ := List.getElem_of_mem h
    have h1 : i < g := by simp at hi; omega
    have h2 : i < 12 := by simp [flL_len] at hi; omega
    rw [List.getElem_take, flL_at] at e
    exact ⟨i, h2, by omega, e.symm⟩
  · obtain ⟨i, hi, e⟩ := List.getElem_of_mem h
    have h2 : g + 1 + i < 12 := by simp [flL_len] at hi; omega
    rw [List.getElem_drop, flL_at] at e
    exact ⟨g + 1 + i, h2, by omega, e.symm⟩
theorem cnt_j {s : Int} (h3 : 0 ≤ s) {j : Nat} (hj : j < 12) : (12 * s + j) % 600 = 12 * s % 600 + j := by omega
theorem getD_b {E : List Int} (h : ∀ x ∈ E, -16383 ≤ x ∧ x ≤ 16383) (j : Nat) : -16383 ≤ E.getD j 0 ∧ E.getD j 0 ≤ 16383 := by
  rw [List.getD_eq_getElem?_getD]
  cases hx : E[j]? with
  | none => simp
  | some x => exact h x (List.mem_of_getElem? hx)
theorem frF_ok {u s : Int} {E0 E1 E2 : List Int} (h1 : 0 ≤ u) (h2 : u ≤ 999) (b0 : ∀ x ∈ E0, -16383 ≤ x ∧ x ≤ 16383) (b1 : ∀ x ∈ E1, -16383 ≤ x ∧ x ≤ 16383) (b2 : ∀ x ∈ E2, -16383 ≤ x ∧ x ≤ 16383) (j : Nat) : okFr (frF u s E0 E1 E2 j) :=
  ⟨⟨h1, h2⟩, ⟨by show 0 ≤ (12 * s + j) % 600; omega, by show (12 * s + j) % 600 ≤ 599; omega⟩, getD_b b0 j, getD_b b1 j, getD_b b2 j⟩
theorem goL_pk {u s : Int} {E0 E1 E2 : List Int} (h1 : 0 ≤ u) (h2 : u ≤ 999) (h3 : 0 ≤ s) (b0 : ∀ x ∈ E0, -16383 ≤ x ∧ x ≤ 16383) (b1 : ∀ x ∈ E1, -16383 ≤ x ∧ x ≤ 16383) (b2 : ∀ x ∈ E2, -16383 ≤ x ∧ x ≤ 16383) {g : Nat} (hg : g < 12) :
    pkOk (goL u s E0 E1 E2 g) u (12 * s % 600) := by
  refine ⟨fun f hf => ?_, ?_, by rw [goL_len _ _ _ _ _ hg]; decide⟩
  · obtain ⟨j, hj, _, rfl⟩ := goL_mem hf
    refine ⟨frF_ok h1 h2 b0 b1 b2 j, rfl, ?_, ?_⟩
    · show 0 ≤ (12 * s + j) % 600 - 12 * s % 600
      rw [cnt_j h3 hj]; omega
    · show (12 * s + j) % 600 - 12 * s % 600 ≤ 11
      rw [cnt_j h3 hj]; omega
  · have hn : ((flL u s E0 E1 E2).map Fr.c).Nodup := by
      refine List.pairwise_iff_getElem.2 fun i j hi hj hij => ?_
      rw [List.getElem_map, List.getElem_map, flL_at, flL_at]
      have h4 : i < 12 := by simpa [flL_len] using hi
      have h5 : j < 12 := by simpa [flL_len] using hj
      show (12 * s + i) % 600 ≠ (12 * s + j) % 600
      rw [cnt_j h3 h4, cnt_j h3 h5]; omega
    have e : goL u s E0 E1 E2 g = (flL u s E0 E1 E2).eraseIdx g := (List.eraseIdx_eq_take_drop_succ _ _).symm
    rw [e]
    exact List.Pairwise.sublist ((List.eraseIdx_sublist _ _).map _) hn
theorem goL_none {u s : Int} {E0 E1 E2 : List Int} (h3 : 0 ≤ s) {g : Nat} (hg : g < 12) : frAt (goL u s E0 E1 E2 g) (12 * s % 600) g = none := by
  unfold frAt
  rw [List.find?_eq_none]
  intro f hf
  obtain ⟨j, hj, hjg, rfl⟩ := goL_mem hf
  simp only [decide_eq_true_eq]
  show ¬ (12 * s + j) % 600 - 12 * s % 600 = g
  rw [cnt_j h3 hj]; omega
theorem chR_b (X : Nat → Nat → Int) (j k : Nat) : ∀ x ∈ chR X j k, -16383 ≤ x ∧ x ≤ 16383 := by
  intro x hx
  simp only [chR, List.mem_map] at hx
  obtain ⟨q, _, rfl⟩ := hx
  unfold chN; omega
end Go.Proofs.Ytongalkfcfkfiaa
end
section
namespace Go.Proofs.Ytongalkfcfkfiaa
open Go.Pv Go.RowKit
set_option linter.unusedSimpArgs false
set_option linter.unusedVariables false
set_option maxRecDepth 100000
set_option maxHeartbeats 4000000

attribute [-simp] Twi
theorem law_ok (a b ca cb : Int) (C : List V) (X : Nat → Nat → Int) (un sn gone : Int) (hC : C.length = 41) (hCp : C.any ownC = false) (hCo : C.all oneV = true) (hX : ∀ j q, j < 3 → q < 12 → C[2 + j * 12 + q]? = some (.int .i64 (X j q)))
    (h0 : C[0]? = some (.int .i64 un)) (h1 : C[1]? = some (.int .i64 sn)) :
    PCall Try.prog 3 [.agg [.int .i64 a, .int .i64 b, .int .i64 ca, .int .i64 cb], .agg C, .int .i64 gone] (.bool true) := by
  have t1 := Twi_at (n := un) (m := 1000) (by decide) (by decide)
  have t2 := Twi_at (n := sn) (m := 1099511627776) (by decide) (by decide)
  have t3 := Twi_at (n := gone) (m := 12) (by decide) (by decide)
  have c1 := chan_ok C X hC hCp hX
  have l0 := chR_len X 0 12
  have l1 := chR_len X 1 12
  have l2 := chR_len X 2 12
  have b0 := chR_b X 0 12
  have b1 := chR_b X 1 12
  have b2 := chR_b X 2 12
  generalize chR X 0 12 = E0 at *
  generalize chR X 1 12 = E1 at *
  generalize chR X 2 12 = E2 at *
  obtain ⟨u, hu⟩ : ∃ u, un % 1000 = u := ⟨_, rfl⟩
  obtain ⟨s, hs⟩ : ∃ s, sn % 1099511627776 = s := ⟨_, rfl⟩
  obtain ⟨g, hg⟩ : ∃ g : Nat, gone % 12 = g := ⟨(gone % 12).toNat, by omega⟩
  have u1 : 0 ≤ u := by omega
  have u2 : u ≤ 999 := by omega
  have s1 : 0 ≤ s := by omega
  have s2 : s ≤ 1099511627776 := by omega
  have hg12 : g < 12 := by omega
  rw [hu] at t1
  rw [hs] at t2
  rw [hg] at t3
  have c2 := split_ok u s E0 E1 E2 u1 u2 s1 s2 l0 l1 l2 b0 b1 b2
  have hF : rowsF 12 (fun j => (frF u s E0 E1 E2 j).cs) = (flL u s E0 E1 E2).map Fr.cs := by simp [rowsF, flL, List.map_map, Function.comp_def]
  rw [hF] at c2
  have hok : ∀ f ∈ goL u s E0 E1 E2 g, okFr f := fun f hf => by
    obtain ⟨j, _, _, rfl⟩ := goL_mem hf
    exact frF_ok u1 u2 b0 b1 b2 j
  have hgl := goL_len u s E0 E1 E2 hg12
  have c3 := arr_ok a b ca cb (goL u s E0 E1 E2 g) hgl hok
  have c4 := coll_ok (goL u s E0 E1 E2 g) u s u1 u2 s1 s2 (goL_pk u1 u2 s1 b0 b1 b2 hg12) g hg12 (goL_none s1 hg12)
  have hgo : (goL u s E0 E1 E2 g).map Fr.cs = ((flL u s E0 E1 E2).map Fr.cs).take g ++ ((flL u s E0 E1 E2).map Fr.cs).drop (g + 1) := by
    rw [goL, List.map_append, List.map_take, List.map_drop]
  have hFl : ((flL u s E0 E1 E2).map Fr.cs).length = 12 := by simp [flL_len]
  have hFr : ∀ c ∈ (flL u s E0 E1 E2).map Fr.cs, c.length = 5 ∧ c.any ownC = false ∧ c.all oneV = true := fun c hc => by
    obtain ⟨f, _, rfl⟩ := List.mem_map.1 hc
    exact ⟨rfl, rfl, rfl⟩
  rw [hgo] at c3 c4
  have hg2 : (((flL u s E0 E1 E2).map Fr.cs).take g ++ ((flL u s E0 E1 E2).map Fr.cs).drop (g + 1)).length = 11 := by rw [← hgo, List.length_map, hgl]
  generalize (flL u s E0 E1 E2).map Fr.cs = F at *
  have hr6 : ∀ K : St → Prop, Hid (∀ t, K6 ⟨a, b, ca, cb, F, g, 11 - g, u, s, F.take g, F.drop (g + 1)⟩ t → K t) → R6ok ⟨a, b, ca, cb, F, g, 11 - g, u, s, F.take g, F.drop (g + 1)⟩ K := fun K hK => by
    have lp : ∀ l : List (List V), (∀ c ∈ l, c ∈ F) → l.flatten.any ownC = false ∧ l.flatten.all oneV = true ∧ l.flatten.length = l.length * 5 := fun l hl => by
      refine ⟨?_, ?_, length_flatten_rows _ fun c hc => (hFr c (hl c hc)).1⟩
      · rw [List.any_eq_false]; intro v hv
        obtain ⟨c, hc, hv⟩ := List.mem_flatten.1 hv
        exact List.any_eq_false.1 (hFr c (hl c hc)).2.1 v hv
      · rw [List.all_eq_true]; intro v hv
        obtain ⟨c, hc, hv⟩ := List.mem_flatten.1 hv
        exact List.all_eq_true.1 (hFr c (hl c hc)).2.2 v hv
    obtain ⟨p1, p2, p3⟩ := lp (F.take g) (fun c hc => List.mem_of_mem_take hc)
    obtain ⟨r1, r2, r3⟩ := lp (F.drop (g + 1)) (fun c hc => List.mem_of_mem_drop hc)
    have k1 : (F.take g).length = g := by rw [List.length_take, hFl]; omega
    have k2 : (F.drop (g + 1)).length = 11 - g := by rw [List.length_drop, hFl]; omega
    rw [k1] at p3
    rw [k2] at r3
    have hch := chunks_rows (sz := 5) (F.take g ++ F.drop (g + 1)) (fun c hc => by
      rcases List.mem_append.1 hc with hc | hc
      · exact (hFr c (List.mem_of_mem_take hc)).1
      · exact (hFr c (List.mem_of_mem_drop hc)).1)
    rw [List.length_append, k1, k2, List.flatten_append] at hch
    have k3 : (F.drop (g + 1)).take (12 - (g + 1)) = F.drop (g + 1) := by
      rw [List.take_of_length_le]; rw [k2]; omega
    exact { hF := hFl, hg := hg12, hj := by show g + (11 - g) = 11; omega, e1 := rfl, e2 := k3, l1 := k1, l2 := k2, c1 := p1, c2 := r1, s1 := fun k => scrC_cells p1, s2 := fun k => scrC_cells r1, o1 := p2, o2 := r2, f1 := p3, f2 := r3,
            x1 := by
              show (bif decide (0 = g) then V.list 5 [] else V.list 5 (F.take g)) = V.list 5 (F.take g)
              by_cases h : 0 = g
              · subst h; simp
              · simp [h]
            x2 := by
              show (bif decide (g = 0) then V.list 5 [] else V.list 5 (F.take g)) = V.list 5 (F.take g)
              by_cases h : g = 0
              · subst h; simp
              · simp [h]
            x3 := by
              show (bif decide (g = 11) then V.list 5 [] else V.list 5 ((F.drop (g + 1)).take (11 - g))) = V.list 5 (F.drop (g + 1))
              by_cases h : g = 11
              · subst h
                have : F.drop 12 = [] := List.drop_of_length_le (by omega)
                simp [this]
              · rw [show 11 - g = 12 - (g + 1) by omega, k3]; simp [h]
            v3 := by show g * 72 ≤ _; omega
            v4 := by show g ≤ _; omega
            v5 := by show (g + (11 - g)) * 72 ≤ _; omega
            v6 := by show g + (11 - g) ≤ _; omega
            v7 := by show (0 : Int) ≤ (g : Int) + 1; omega
            v8 := hg12
            v9 := by show g ≤ 12; omega
            v1 := by show (g : Int) < 12; omega
            v2 := wrap_succ (by show g < _; omega)
            ch := hch
            hK := hK }
  have hT6 : TabOK Try.prog (tab6 ⟨a, b, ca, cb, F, g, 11 - g, u, s, F.take g, F.drop (g + 1)⟩) := H1_ok c3 (by kernel_rfl)
  have c4' := H1_ok c4 (by kernel_rfl)
  have c12 := H2_ok c1 (by kernel_rfl) c2 (by kernel_rfl)
  clear c1 c2 c3 c4 hok hgl hgo hF b0 b1 b2 l0 l1 l2 hFr hX
  have hR := reg6 _ hr6 hT6
  clear hr6 hT6
  have h0' : ∀ h : 0 < C.length, C[0] = .int .i64 un := fun h => by rw [List.getElem?_eq_getElem h] at h0; exact Option.some.inj h0
  have h1' : ∀ h : 1 < C.length, C[1] = .int .i64 sn := fun h => by rw [List.getElem?_eq_getElem h] at h1; exact Option.some.inj h1
  have q1 : C.take 41 = C := by rw [← hC, List.take_length]
  have q2 := fun h => lendL_pure h C hCp hCo
  obtain ⟨XX, hXX⟩ : ∃ x : List V, x = [.int .i64 a, .int .i64 b, .int .i64 ca, .int .i64 cb] := ⟨_, rfl⟩
  refine pcall_of2 Try.func3 rfl Try.ntmps3 Try.results3 (by simp) ?_
  refine cut (K := fun t => (t.env 2 = .int .i64 gone ∧ t.env 3 = .ptr 3 0 ∧ t.env 4 = .ptr 4 0) ∧ t.heap 3 = some ⟨23, [.int .i64 a, .int .i64 b, .int .i64 ca, .int .i64 cb]⟩ ∧ t.heap 4 = some ⟨28, C⟩ ∧ t.heap 38 = none) ?_ ?_
  · refine CW.of_cx (D := (fun id => if id = 6 then some ⟨[(5001, 38)], [4, 9]⟩ else none)) noTab_ok mixed _ _ _ (by kernel_rfl) ?_
    repeat' first
      | (with_reducible refine gw_bool (fun _ => ?_) (fun _ => ?_))
      | (with_reducible refine condw_bool (fun _ => ?_) (fun _ => ?_))
      | simp [*, -oneV]
  rintro ⟨e, h⟩ hk
  simp only at hk
  refine cut (K := fun t => (t.env 2 = .int .i64 gone ∧ t.env 3 = .ptr 3 0 ∧ t.env 4 = .ptr 4 0 ∧ t.env 7 = .int .i64 u ∧ t.env 8 = .int .i64 s) ∧ t.heap 3 = some ⟨23, [.int .i64 a, .int .i64 b, .int .i64 ca, .int .i64 cb]⟩ ∧ t.heap 4 = some ⟨28, C⟩ ∧ t.heap 38 = none) ?_ ?_
  · refine CW.of_cx (D := (fun id => if id = 6 then some ⟨[(5001, 38)], [4, 9]⟩ else none)) G9_ok mixed _ _ _ (by kernel_rfl) ?_
    repeat' first
      | (with_reducible refine gw_bool (fun _ => ?_) (fun _ => ?_))
      | (with_reducible refine condw_bool (fun _ => ?_) (fun _ => ?_))
      | simp [*]
  clear hk e h
  rintro ⟨e, h⟩ hk
  simp only at hk
  refine cut (K := fun t => (t.env 2 = .int .i64 gone ∧ t.env 3 = .ptr 3 0 ∧ t.env 7 = .int .i64 u ∧ t.env 8 = .int .i64 s ∧ t.env 9 = .list 5 F ∧ t.env 10 = .int .i64 0) ∧ t.heap 3 = some ⟨23, [.int .i64 a, .int .i64 b, .int .i64 ca, .int .i64 cb]⟩ ∧ t.heap 38 = none) ?_ ?_
  · refine CW.of_cx (D := fun _ => none) c12 mixed _ _ _ (by kernel_rfl) ?_
    repeat' first
      | (with_reducible refine gw_bool (fun _ => ?_) (fun _ => ?_))
      | (with_reducible refine condw_bool (fun _ => ?_) (fun _ => ?_))
      | simp [*, -oneV]
  clear hk e h
  rintro ⟨e, h⟩ hk
  simp only at hk
  refine cut (K := fun t => (t.env 2 = .int .i64 gone ∧ t.env 3 = .ptr 3 0 ∧ t.env 7 = .int .i64 u ∧ t.env 8 = .int .i64 s ∧ t.env 9 = .list 5 F) ∧ t.heap 3 = some ⟨23, [.int .i64 a, .int .i64 b, .int .i64 ca, .int .i64 cb]⟩ ∧ t.heap 38 = none) ?_ ?_
  · refine CW.of_cx (D := (fun id => if id = 6 then some ⟨[(5001, 38)], [4, 9]⟩ else none)) noTab_ok mixed _ _ _ (by kernel_rfl) ?_
    repeat' first
      | (with_reducible refine gw_bool (fun _ => ?_) (fun _ => ?_))
      | (with_reducible refine condw_bool (fun _ => ?_) (fun _ => ?_))
      | simp [*]
  clear hk e h
  rintro ⟨e, h⟩ hk
  simp only at hk
  refine cut (K := fun t => (t.env 2 = .int .i64 g ∧ t.env 3 = .ptr 3 0 ∧ t.env 7 = .int .i64 u ∧ t.env 8 = .int .i64 s ∧ t.env 9 = .list 5 F) ∧ t.heap 3 = some ⟨23, [.int .i64 a, .int .i64 b, .int .i64 ca, .int .i64 cb]⟩ ∧ t.heap 38 = none) ?_ ?_
  · refine CW.of_cx (D := (fun id => if id = 6 then some ⟨[(5001, 38)], [4, 9]⟩ else none)) G9_ok mixed _ _ _ (by kernel_rfl) ?_
    repeat' first
      | (with_reducible refine gw_bool (fun _ => ?_) (fun _ => ?_))
      | (with_reducible refine condw_bool (fun _ => ?_) (fun _ => ?_))
      | simp [*]
  clear hk e h
  rintro st ⟨⟨k2, k3, k7, k8, k9⟩, g3, g38⟩
  refine cut (K := fun t => t.env 7 = .int .i64 u ∧ t.env 8 = .int .i64 s ∧ t.env 11 = .list 5 (F.take g ++ F.drop (g + 1))) ?_ ?_
  · exact hR st ⟨k2, k3, k7, k8, k9, g3, trivial⟩ g38 _ (by kernel_rfl)
  clear k2 k3 k7 k8 k9 g3 g38 st hR
  generalize F.take g ++ F.drop (g + 1) = GO at *
  rintro ⟨e, h⟩ hk
  simp only at hk
  refine cut (K := fun t => t.env 11 = .list 5 GO ∧ t.env 13 = .int .i64 18) ?_ ?_
  · refine CW.of_cx (D := fun _ => none) c4' mixed _ _ _ (by kernel_rfl) ?_
    repeat' first
      | (with_reducible refine gw_bool (fun _ => ?_) (fun _ => ?_))
      | (with_reducible refine condw_bool (fun _ => ?_) (fun _ => ?_))
      | simp [*]
  clear hk e h
  rintro ⟨e, h⟩ hk
  simp only at hk
  refine CW.of_cx (D := (fun id => if id = 6 then some ⟨[(5001, 38)], [4, 9]⟩ else none)) noTab_ok mixed _ _ _ (by kernel_rfl) ?_
  repeat' first
    | (with_reducible refine gw_bool (fun _ => ?_) (fun _ => ?_))
    | (with_reducible refine condw_bool (fun _ => ?_) (fun _ => ?_))
    | simp [*]
end Go.Proofs.Ytongalkfcfkfiaa
end
section
namespace Go.Proofs.Ytongalkfcfkfiaa
open Go.Pv Go.RowKit
set_option linter.unusedSimpArgs false
set_option linter.unusedVariables false

theorem has_ints : ∀ (n : Nat) {cs : List V}, HasL (List.replicate n (.int .i64)) cs → ∃ l : List Int, cs = l.map (V.int .i64) ∧ l.length = n
  | 0, cs, h => by
    rw [List.replicate_zero, HasL] at h
    exact ⟨[], by simpa using h, rfl⟩
  | n + 1, cs, h => by
    rw [List.replicate_succ, HasL] at h
    obtain ⟨a, b, rfl, ha, hb⟩ := h
    rw [HasC] at ha
    obtain ⟨x, rfl, _⟩ := ha
    obtain ⟨l, rfl, hl⟩ := has_ints n hb
    exact ⟨x :: l, rfl, by simp [hl]⟩
def caseT : Ty := .struct [.int .i64, .int .i64, .struct (List.replicate 3 (.struct (List.replicate 12 (.int .i64)))), .slice (.int .i64), .slice (.int .i64), .int .i64]
theorem has_case {u : V} (h : HasV caseT u) : ∃ (C : List V) (X : Nat → Nat → Int) (un sn : Int), u = .agg C ∧ C.length = 41 ∧ C.any ownC = false ∧ C.all oneV = true ∧ (∀ j q, j < 3 → q < 12 → C[2 + j * 12 + q]? = some (.int .i64 (X j q))) ∧ C[0]? = some (.int .i64 un) ∧ C[1]? = some (.int .i64 sn) := by
  have h' : ∃ cs, u = .agg cs ∧ HasL [.int .i64, .int .i64, .struct (List.replicate 3 (.struct (List.replicate 12 (.int .i64)))), .slice (.int .i64), .slice (.int .i64), .int .i64] cs := by simpa only [caseT, HasV] using h
  clear h
  obtain ⟨cs, rfl, h⟩ := h'
  rw [HasL] at h
  obtain ⟨a1, r1, rfl, h1, h⟩ := h
  rw [HasL] at h
  obtain ⟨a2, r2, rfl, h2, h⟩ := h
  rw [HasL] at h
  obtain ⟨a3, r3, rfl, h3, h⟩ := h
  rw [HasL] at h
  obtain ⟨a4, r4, rfl, h4, h⟩ := h
  rw [HasL] at h
  obtain ⟨a5, r5, rfl, h5, h⟩ := h
  rw [HasL] at h
  obtain ⟨a6, r6, rfl, h6, h⟩ := h
  rw [HasL] at h
  subst h
  unfold HasC at h1 h2 h3 h4 h5 h6
  obtain ⟨un, rfl, _⟩ := h1
  obtain ⟨sn, rfl, _⟩ := h2
  obtain ⟨lo, rfl, _⟩ := h6
  obtain ⟨xs, rfl, _⟩ := h4
  obtain ⟨ys, rfl, _⟩ := h5
  rw [show List.replicate 3 (Ty.struct (List.replicate 12 (.int .i64))) = [.struct (List.replicate 12 (.int .i64)), .struct (List.replicate 12 (.int .i64)), .struct (List.replicate 12 (.int .i64))] from rfl] at h3
  rw [HasL] at h3
  obtain ⟨m0, s0, rfl, g0, h3⟩ := h3
  rw [HasL] at h3
  obtain ⟨m1, s1, rfl, g1, h3⟩ := h3
  rw [HasL] at h3
  obtain ⟨m2, s2, rfl, g2, h3⟩ := h3
  rw [HasL] at h3
  subst h3
  unfold HasC at g0 g1 g2
  obtain ⟨l0, rfl, e0⟩ := has_ints 12 g0
  obtain ⟨l1, rfl, e1⟩ := has_ints 12 g1
  obtain ⟨l2, rfl, e2⟩ := has_ints 12 g2
  refine ⟨_, fun j q => (if j = 0 then l0 else if j = 1 then l1 else l2).getD q 0, un, sn, rfl, by simp [e0, e1, e2], ?_, ?_, ?_, rfl, rfl⟩
  · simp [ownC]
  · simp [oneV]
  · intro j q hj hq
    have key : ∀ l : List Int, l.length = 12 → (l.map (V.int .i64))[q]? = some (.int .i64 (l.getD q 0)) := fun l hl => by
      rw [List.getElem?_map, List.getD_eq_getElem?_getD, List.getElem?_eq_getElem (by omega)]; rfl
    have hs : ∀ (R : List V) (k : Nat), ([V.int .i64 un] ++ ([V.int .i64 sn] ++ R))[2 + k]? = R[k]? := fun R k => by
      rw [Nat.add_comm 2 k]; rfl
    rw [Nat.add_assoc, hs]
    simp only [List.append_assoc, List.append_nil]
    obtain rfl | rfl | rfl : j = 0 ∨ j = 1 ∨ j = 2 := by omega
    · rw [Nat.zero_mul, Nat.zero_add, List.getElem?_append_left (by simp [e0, hq])]
      exact key l0 e0
    · rw [List.getElem?_append_right (by simp [e0]), List.getElem?_append_left (by simp [e0, e1]; omega)]
      have : 1 * 12 + q - (l0.map (V.int .i64)).length = q := by simp [e0]
      rw [this]
      exact key l1 e1
    · rw [List.getElem?_append_right (by simp [e0]; omega), List.getElem?_append_right (by simp [e0, e1]; omega), List.getElem?_append_left (by simp [e0, e1, e2]; omega)]
      have : 2 * 12 + q - (l0.map (V.int .i64)).length - (l1.map (V.int .i64)).length = q := by simp [e0, e1]; omega
      rw [this]
      exact key l2 e2
theorem has_rings {u : V} (h : HasV (.struct [.int .i64, .int .i64, .int .i64, .int .i64]) u) : ∃ a b c d : Int, u = .agg [.int .i64 a, .int .i64 b, .int .i64 c, .int .i64 d] := by
  have h' : ∃ cs, u = .agg cs ∧ HasL [.int .i64, .int .i64, .int .i64, .int .i64] cs := by simpa only [HasV] using h
  clear h
  obtain ⟨cs, rfl, h⟩ := h'
  obtain ⟨l, rfl, hl⟩ := has_ints 4 h
  match l, hl with
  | [a, b, c, d], _ => exact ⟨a, b, c, d, rfl⟩
theorem has_int {u : V} (h : HasV (.int .i64) u) : ∃ x : Int, u = .int .i64 x := by
  simp only [HasV, HasC] at h
  obtain ⟨a, ha, h1⟩ := h
  cases ha
  exact ⟨a, rfl⟩
end Go.Proofs.Ytongalkfcfkfiaa
end
section
namespace Go.Proofs.Ytongalkfcfkfiaa.samplesMissingDone
open Go.Pv Go.ChangeShapes Go.WideShapes Go.ChangeAt Go.RowKit
set_option linter.unusedVariables false

theorem law : ∀ us, HasAll [.struct [.int .i64, .int .i64, .int .i64, .int .i64], .struct [.int .i64, .int .i64, .struct (List.replicate 3 (.struct (List.replicate 12 (.int .i64)))), .slice (.int .i64), .slice (.int .i64), .int .i64], .int .i64] us → PCall Try.prog 3 us (.bool true) := by
  rintro us ⟨x, _, rfl, hx, c, _, rfl, hc, g, _, rfl, hg, rfl⟩
  obtain ⟨a, b, ca, cb, rfl⟩ := has_rings hx
  obtain ⟨C, X, un, sn, rfl, h1, h2, h3, h4, h5, h6⟩ := has_case hc
  obtain ⟨gone, rfl⟩ := has_int hg
  exact law_ok a b ca cb C X un sn gone h1 h2 h3 h4 h5 h6

theorem own : ownKnob Try.prog.godebug = none := by kernel_rfl
theorem laidOut : laidOutB Try.prog = true := by kernel_rfl
theorem spec_at (H : Type) : ∀ ds : List (DataW H), ds.length = 3 → Rows.samplesMissingSpec.fn H ds = { results := [.lit (.bool true)], args := ds } := by
  intro ds h
  rcases ds with _ | ⟨d0, _ | ⟨d1, _ | ⟨d2, _ | ⟨e, r⟩⟩⟩⟩
  all_goals first | rfl | (simp at h; done) | (simp at h; omega)

set_option maxRecDepth 100000 in
theorem lifted (os : Os) (started : os.Started) (H : Type) (enc : TypeId × Value → H) :
    ReturnsInHanded {} Try.checked os 3 .any (Rows.samplesMissingSpec.pre6 enc Try.prog Try.f3 Rows.samplesMissingRow.domain false) (Rows.samplesMissingSpec.post enc Try.prog Try.f3 false true false false) :=
  lift (C := Try.checked) (m := 9) own laidOut started (by kernel_rfl) Try.func3
    (ChangeSpec.witness6 (enc := enc) (C := Try.checked) false ⟨#[], #[.agg #[.int .i64 0, .int .i64 0, .int .i64 0, .int .i64 0], .agg #[.int .i64 0, .int .i64 0, .int .i64 0, .int .i64 0, .int .i64 0, .int .i64 0, .int .i64 0, .int .i64 0, .int .i64 0, .int .i64 0, .int .i64 0, .int .i64 0, .int .i64 0, .int .i64 0, .int .i64 0, .int .i64 0, .int .i64 0, .int .i64 0, .int .i64 0, .int .i64 0, .int .i64 0, .int .i64 0, .int .i64 0, .int .i64 0, .int .i64 0, .int .i64 0, .int .i64 0, .int .i64 0, .int .i64 0, .int .i64 0, .int .i64 0, .int .i64 0, .int .i64 0, .int .i64 0, .int .i64 0, .int .i64 0, .int .i64 0, .int .i64 0, .slice none 0 0, .slice none 0 0, .int .i64 0], .int .i64 0], []⟩ 8 (by kernel_rfl) (by kernel_rfl) (by kernel_rfl) (by kernel_rfl))
    Try.params3 (by kernel_rfl) Try.underlying4 rfl (by kernel_rfl) (by kernel_rfl) (spec_at H) law

theorem over : Rows.samplesMissingRow.holds Try.pinned (OpenSpec.ofChange Rows.samplesMissingSpec) :=
  OpenClaim.holds_of_wide 3 Try.f3 rfl rfl rfl rfl rfl rfl rfl ⟨rfl, rfl, rfl, rfl, rfl⟩ rfl rfl rfl rfl rfl (by kernel_rfl) Try.func3 (by kernel_rfl)
    (of_decide_eq_true (by kernel_rfl)) (by unfold Func.isWrapper; first | (rw [if_pos (by decide +kernel)]; kernel_rfl) | (rw [if_neg (by decide +kernel)]; exact ⟨rfl, rfl⟩))
    (fun os started H enc _ => lifted os started H enc)

theorem proved : Rows.SamplesMissingSaid := over
end Go.Proofs.Ytongalkfcfkfiaa.samplesMissingDone
end
