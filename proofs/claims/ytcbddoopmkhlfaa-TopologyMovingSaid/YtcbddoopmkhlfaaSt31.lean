/-
  Reaching a source: what is computed.
-/
import Derived.Test.YtcbddoopmkhlfaaSt30
namespace Go.Proofs.Ytcbddoopmkhlfaa
open Go.Pv Go.RowKit
set_option linter.unusedSimpArgs false
set_option linter.unusedVariables false

abbrev Nd := Int × Int
theorem memN_iff {L : List Nd} {a b : Int} : memN L a b = true ↔ (a, b) ∈ L := by
  simp only [memN, List.any_eq_true, Bool.and_eq_true, ieq_iff]
  constructor
  · rintro ⟨⟨x, y⟩, h, rfl, rfl⟩; exact h
  · intro h; exact ⟨_, h, rfl, rfl⟩
theorem nodup_len {α : Type} [DecidableEq α] : ∀ (l m : List α), l.Nodup → (∀ x ∈ l, x ∈ m) → l.length ≤ m.length
  | [], m, _, _ => Nat.zero_le _
  | a :: l, m, hn, hs => by
    simp only [List.nodup_cons] at hn
    have ha : a ∈ m := hs a (by simp)
    have := nodup_len l (m.erase a) hn.2 (fun x hx => by
      have hxa : x ≠ a := by rintro rfl; exact hn.1 hx
      exact (List.mem_erase_of_ne hxa).2 (hs x (by simp [hx])))
    rw [List.length_erase_of_mem ha] at this
    have h0 : 0 < m.length := List.length_pos_of_mem ha
    simp only [List.length_cons]; omega
def eq2 (c d : Nd) : Bool := ieq c.1 d.1 && ieq c.2 d.2
theorem eq2_iff {c d : Nd} : eq2 c d = true ↔ c = d := by
  obtain ⟨c1, c2⟩ := c
  obtain ⟨d1, d2⟩ := d
  simp [eq2, ieq_iff]
def Ed.l (x : Ed) : Nd := (x.a0, x.a1)
def Ed.r (x : Ed) : Nd := (x.c0, x.c1)
def edv (o : Option (List Nd)) (c : Nd) (Q : List Nd) (x : Ed) : List Nd := if eq2 c x.l = true then vis o Q x.r else if eq2 c x.r = true then vis o Q x.l else Q
def rndF (o : Option (List Nd)) (c : Nd) (Q : List Nd) (E : List Ed) : List Nd := E.foldl (edv o c) Q
def bfs (o : Option (List Nd)) (E : List Ed) : Nat → Nat → List Nd → Bool
  | 0, _, _ => false
  | f + 1, i, Q => match Q[i]? with
    | none => false
    | some c => if ieq c.1 3 = true then true else bfs o E f (i + 1) (rndF o c Q E)
def reachF (o : Option (List Nd)) (E : List Ed) (c : Nd) : Bool := bfs o E 100 0 [c]
theorem vis_ext (o : Option (List Nd)) (Q : List Nd) (n : Nd) : ∃ t, vis o Q n = Q ++ t ∧ t.length ≤ 1 := by
  unfold vis
  split
  · exact ⟨[n], rfl, by simp⟩
  · exact ⟨[], by simp, by simp⟩
theorem edv_ext (o : Option (List Nd)) (c : Nd) (Q : List Nd) (x : Ed) : ∃ t, edv o c Q x = Q ++ t ∧ t.length ≤ 1 := by
  unfold edv
  split
  · exact vis_ext _ _ _
  · split
    · exact vis_ext _ _ _
    · exact ⟨[], by simp, by simp⟩
theorem rnd_ext (o : Option (List Nd)) (c : Nd) : ∀ (E : List Ed) (Q : List Nd), ∃ t, rndF o c Q E = Q ++ t ∧ t.length ≤ E.length
  | [], Q => ⟨[], by simp [rndF], by simp⟩
  | x :: E, Q => by
    obtain ⟨t1, h1, l1⟩ := edv_ext o c Q x
    obtain ⟨t2, h2, l2⟩ := rnd_ext o c E (edv o c Q x)
    refine ⟨t1 ++ t2, ?_, by simp only [List.length_append, List.length_cons]; omega⟩
    show rndF o c (edv o c Q x) E = _
    rw [h2, h1, List.append_assoc]
theorem rnd_snoc (o : Option (List Nd)) (c : Nd) (Q : List Nd) (E : List Ed) (x : Ed) : rndF o c Q (E ++ [x]) = edv o c (rndF o c Q E) x := by simp [rndF]
/-- The nodes of edges. -/
def nds (E : List Ed) : List Nd := (E.map Ed.l) ++ (E.map Ed.r)
structure QI (E : List Ed) (f : Nd) (Q : List Nd) : Prop where
  nd : Q.Nodup
  sub : ∀ n ∈ Q, n ∈ f :: nds E
theorem QI.len {E : List Ed} {f : Nd} {Q : List Nd} (h : QI E f Q) : Q.length ≤ 1 + 2 * E.length := by
  have := nodup_len Q (f :: nds E) h.nd h.sub
  simp only [nds, List.length_cons, List.length_append, List.length_map] at this; omega
theorem QI.visI {E : List Ed} {f : Nd} {Q : List Nd} (h : QI E f Q) {o : Option (List Nd)} {n : Nd} (hn : n ∈ nds E) : QI E f (vis o Q n) := by
  unfold vis
  split
  · rename_i hh
    simp only [Bool.and_eq_true, Bool.not_eq_true'] at hh
    have hm : n ∉ Q := fun hm => by have := memN_iff.2 (show (n.1, n.2) ∈ Q from hm); rw [hh.1] at this; cases this
    refine ⟨List.nodup_append.2 ⟨h.nd, by simp, fun a ha b hb => ?_⟩, fun x hx => ?_⟩
    · simp at hb; subst hb; rintro rfl; exact hm ha
    · rcases List.mem_append.1 hx with hx | hx
      · exact h.sub x hx
      · simp at hx; subst hx; simp [hn]
  · exact h
theorem QI.edvI {E : List Ed} {f : Nd} {Q : List Nd} (h : QI E f Q) {o : Option (List Nd)} {c : Nd} {x : Ed} (hx : x ∈ E) : QI E f (edv o c Q x) := by
  unfold edv
  split
  · exact h.visI (List.mem_append.2 (.inr (List.mem_map.2 ⟨x, hx, rfl⟩)))
  · split
    · exact h.visI (List.mem_append.2 (.inl (List.mem_map.2 ⟨x, hx, rfl⟩)))
    · exact h
theorem QI.rnd {E : List Ed} {f : Nd} {o : Option (List Nd)} {c : Nd} : ∀ (E' : List Ed) {Q : List Nd}, QI E f Q → (∀ x ∈ E', x ∈ E) → QI E f (rndF o c Q E')
  | [], Q, h, _ => h
  | x :: E', Q, h, hs => QI.rnd E' (h.edvI (o := o) (c := c) (hs x (by simp))) (fun y hy => hs y (by simp [hy]))
end Go.Proofs.Ytcbddoopmkhlfaa
