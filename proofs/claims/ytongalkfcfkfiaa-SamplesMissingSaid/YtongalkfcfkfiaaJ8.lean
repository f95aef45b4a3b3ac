/-
  All frames but one are sent: a region in any order.
-/
import Derived.Test.YtongalkfcfkfiaaJ7
section
namespace Go.Proofs.Ytongalkfcfkfiaa
open Go.Pv Go.RowKit
set_option linter.unusedSimpArgs false
set_option linter.unusedVariables false
set_option maxRecDepth 100000
set_option maxHeartbeats 40000000

def getOps6 {ops : Array Oper} (_ : (Try.f3.body).bind (findR 6) = some (.region 6 ops true)) : Array Oper := ops
def ops6 : Array Oper := getOps6 rfl
structure R6 where
  a : Int
  b : Int
  ca : Int
  cb : Int
  F : List (List V)
  g : Nat
  j : Nat
  u : Int
  s : Int
  P1 : List (List V)
  P2 : List (List V)
def R6.X (r : R6) : List V := [.int .i64 r.a, .int .i64 r.b, .int .i64 r.ca, .int .i64 r.cb]
def K6 (r : R6) (t : St) : Prop := t.env 7 = .int .i64 r.u ∧ t.env 8 = .int .i64 r.s ∧ t.env 11 = .list 5 (r.P1 ++ r.P2)
noncomputable def tab6 (r : R6) : Tab := H1 7 [.agg r.X, .list 5 (r.P1 ++ r.P2), .int .i64 2] (.list 5 (r.P1 ++ r.P2))
structure R6ok (r : R6) (K : St → Prop) : Prop where
  hF : r.F.length = 12
  hg : r.g < 12
  hj : r.g + r.j = 11
  e1 : r.F.take r.g = r.P1
  e2 : (r.F.drop (r.g + 1)).take (12 - (r.g + 1)) = r.P2
  l1 : r.P1.length = r.g
  l2 : r.P2.length = r.j
  c1 : r.P1.flatten.any ownC = false
  c2 : r.P2.flatten.any ownC = false
  s1 : ∀ k, r.P1.flatten.map (scrC k) = r.P1.flatten
  s2 : ∀ k, r.P2.flatten.map (scrC k) = r.P2.flatten
  o1 : r.P1.flatten.all oneV = true
  o2 : r.P2.flatten.all oneV = true
  f1 : r.P1.flatten.length = r.g * 5
  f2 : r.P2.flatten.length = r.j * 5
  x1 : (bif decide (0 = r.g) then V.list 5 [] else V.list 5 r.P1) = .list 5 r.P1
  x2 : (bif decide (r.g = 0) then V.list 5 [] else V.list 5 r.P1) = .list 5 r.P1
  x3 : (bif decide (r.g = 11) then V.list 5 [] else V.list 5 (List.take (11 - r.g) (List.drop (r.g + 1) r.F))) = .list 5 r.P2
  v3 : r.g * 72 ≤ 140737488355328
  v4 : r.g ≤ 9223372036854775807
  v5 : (r.g + r.j) * 72 ≤ 140737488355328
  v6 : r.g + r.j ≤ 9223372036854775807
  v7 : (0 : Int) ≤ (r.g : Int) + 1
  v8 : r.g + 1 ≤ 12
  v9 : r.g ≤ 12
  v1 : (r.g : Int) < 12
  v2 : IntKind.i64.wrap ((r.g : Int) + 1) = ((r.g + 1 : Nat) : Int)
  ch : chunks 5 (r.g + r.j) (r.P1.flatten ++ r.P2.flatten) = r.P1 ++ r.P2
  hK : Hid (∀ s, K6 r s → K s)
def r6B (r : R6) (t : St) : Prop := t.env 2 = .int .i64 r.g ∧ t.env 3 = .ptr 3 0 ∧ t.env 7 = .int .i64 r.u ∧ t.env 8 = .int .i64 r.s ∧ t.env 9 = .list 5 r.F ∧ t.heap 3 = some ⟨23, r.X⟩ ∧ True
def r6Z (r : R6) : Nat → St → Prop
  | 0, t => True
  | _, t => t.env 37 = .agg r.X
def r6O (r : R6) : Nat → St → Prop
  | 0, t => t.heap 38 = none
  | _, t => t.env 38 = .sl 38 0 0 5 ∧ t.heap 38 = some ⟨42, []⟩
def r6S (r : R6) : Nat → St → Prop
  | 0, t => True
  | 1, t => t.env 39 = .list 5 r.F
  | 2, t => t.env 40 = .int .i64 r.g
  | 3, t => t.env 39 = .list 5 r.F ∧ t.env 40 = .int .i64 r.g
  | _, t => t.env 41 = .list 5 r.P1
def r6Y (r : R6) : Nat → St → Prop
  | 0, t => True
  | 1, t => t.env 43 = .list 5 r.F
  | 2, t => t.env 44 = .int .i64 r.g
  | 3, t => t.env 43 = .list 5 r.F ∧ t.env 44 = .int .i64 r.g
  | 4, t => t.env 45 = .int .i64 (r.g + 1 : Nat)
  | 5, t => t.env 43 = .list 5 r.F ∧ t.env 45 = .int .i64 (r.g + 1 : Nat)
  | _, t => t.env 46 = .list 5 r.P2
def St6 (r : R6) (p z o s y : Nat) (t : St) : Prop := r6B r t ∧ r6Z r z t ∧ (if p = 0 then r6O r o t ∧ r6S r s t else True) ∧ (if p < 2 then r6Y r y t else True) ∧ (if p = 1 then t.env 42 = .sl 38 0 r.g 5 ∧ t.heap 38 = some ⟨42, r.P1.flatten⟩ else True) ∧ (if p = 2 then t.env 47 = .sl 38 0 (r.g + r.j) 5 ∧ t.heap 38 = some ⟨42, r.P1.flatten ++ r.P2.flatten⟩ else True)

theorem U21146 {r : R6} {K : St → Prop} (hr : R6ok r K) (hT : TabOK Try.prog (tab6 r)) : ∀ t : St, St6 r 2 1 1 4 6 t → cAnyY (tab6 r) ops6 63 K 2 #[true, true, true, true, true, true, true, true, true, true, true, false, false] t := by
  rintro ⟨e, h⟩ q
  simp [R6.X, St6, r6B, r6Z, r6O, r6S, r6Y] at q
  obtain ⟨hF, hg, hj, e1, e2, l1, l2, c1, c2, s1, s2, o1, o2, f1, f2, x1, x2, x3, v3, v4, v5, v6, v7, v8, v9, v1, v2, ch, hK⟩ := id hr
  clear hr hT
  have v10 : (r.g + r.j) * 5 ≤ r.g * 5 + r.j * 5 := by omega
  replace hj : Hid (_) := hj
  refine .inr ⟨_, View.pub _ (key := 38) (blk := ⟨42, r.P1.flatten ++ r.P2.flatten⟩) (by simp [*]) (by simp [*]), ?_⟩
  refine cany1 11 (by kernel_rfl) (by unfold ops6 getOps6; exact rfl) ?_
  simp [*, tab6, St.pub, pubT, pubA, pubC, appendV, R6.X, srcCells, St.forget, scr, scrC, usesC, usesA, setsV, -List.map_map, -oneV]
  refine cany1 12 (by kernel_rfl) (by unfold ops6 getOps6; exact rfl) ?_
  simp [*, tab6, St.pub, pubT, pubA, pubC, appendV, R6.X, srcCells, St.forget, scr, scrC, usesC, usesA, setsV, -List.map_map, -oneV]
  refine cany0 (by kernel_rfl) (hK.out _ ?_)
  simp [*, K6, St.pub, pubT, pubA, pubC, -List.map_map]
theorem U20146 {r : R6} {K : St → Prop} (hr : R6ok r K) (hT : TabOK Try.prog (tab6 r)) : ∀ t : St, St6 r 2 0 1 4 6 t → cAnyY (tab6 r) ops6 63 K 3 #[false, true, true, true, true, true, true, true, true, true, true, false, false] t := by
  rintro ⟨e, h⟩ q
  simp [R6.X, St6, r6B, r6Z, r6O, r6S, r6Y] at q
  obtain ⟨hF, hg, hj, e1, e2, l1, l2, c1, c2, s1, s2, o1, o2, f1, f2, x1, x2, x3, v3, v4, v5, v6, v7, v8, v9, v1, v2, ch, hK⟩ := id hr
  replace hr : Hid (_) := hr
  replace hT : Hid (_) := hT
  refine cany1y 0 (by kernel_rfl) (by unfold ops6 getOps6; exact rfl) ?_
  · simp [*, appendV, srcCells, St.forget, scr, scrC, usesC, usesA, setsV, -List.map_map, -oneV]
    refine U21146 hr.out hT.out _ ?_
    simp [*, R6.X, St6, r6B, r6Z, r6O, r6S, r6Y, St.forget, scr, scrC, usesC, usesA, -List.map_map]
theorem U11146 {r : R6} {K : St → Prop} (hr : R6ok r K) (hT : TabOK Try.prog (tab6 r)) : ∀ t : St, St6 r 1 1 1 4 6 t → cAnyY (tab6 r) ops6 63 K 3 #[true, true, true, true, true, true, true, true, true, true, false, false, false] t := by
  rintro ⟨e, h⟩ q
  simp [R6.X, St6, r6B, r6Z, r6O, r6S, r6Y] at q
  obtain ⟨hF, hg, hj, e1, e2, l1, l2, c1, c2, s1, s2, o1, o2, f1, f2, x1, x2, x3, v3, v4, v5, v6, v7, v8, v9, v1, v2, ch, hK⟩ := id hr
  replace hr : Hid (_) := hr
  replace hT : Hid (_) := hT
  refine cany1y 10 (by kernel_rfl) (by unfold ops6 getOps6; exact rfl) ?_
  · simp [*, appendV, srcCells, St.forget, scr, scrC, usesC, usesA, setsV, -List.map_map, -oneV]
    refine U21146 hr.out hT.out _ ?_
    simp [*, R6.X, St6, r6B, r6Z, r6O, r6S, r6Y, St.forget, scr, scrC, usesC, usesA, -List.map_map]
theorem U11145 {r : R6} {K : St → Prop} (hr : R6ok r K) (hT : TabOK Try.prog (tab6 r)) : ∀ t : St, St6 r 1 1 1 4 5 t → cAnyY (tab6 r) ops6 63 K 4 #[true, true, true, true, true, true, true, true, true, false, false, false, false] t := by
  rintro ⟨e, h⟩ q
  simp [R6.X, St6, r6B, r6Z, r6O, r6S, r6Y] at q
  obtain ⟨hF, hg, hj, e1, e2, l1, l2, c1, c2, s1, s2, o1, o2, f1, f2, x1, x2, x3, v3, v4, v5, v6, v7, v8, v9, v1, v2, ch, hK⟩ := id hr
  replace hr : Hid (_) := hr
  replace hT : Hid (_) := hT
  refine cany1y 9 (by kernel_rfl) (by unfold ops6 getOps6; exact rfl) ?_
  · simp [*, appendV, srcCells, St.forget, scr, scrC, usesC, usesA, setsV, -List.map_map, -oneV]
    refine U11146 hr.out hT.out _ ?_
    simp [*, R6.X, St6, r6B, r6Z, r6O, r6S, r6Y, St.forget, scr, scrC, usesC, usesA, -List.map_map]
theorem U01146 {r : R6} {K : St → Prop} (hr : R6ok r K) (hT : TabOK Try.prog (tab6 r)) : ∀ t : St, St6 r 0 1 1 4 6 t → cAnyY (tab6 r) ops6 63 K 4 #[true, true, true, true, true, false, true, true, true, true, false, false, false] t := by
  rintro ⟨e, h⟩ q
  simp [R6.X, St6, r6B, r6Z, r6O, r6S, r6Y] at q
  obtain ⟨hF, hg, hj, e1, e2, l1, l2, c1, c2, s1, s2, o1, o2, f1, f2, x1, x2, x3, v3, v4, v5, v6, v7, v8, v9, v1, v2, ch, hK⟩ := id hr
  replace hr : Hid (_) := hr
  replace hT : Hid (_) := hT
  refine cany1y 5 (by kernel_rfl) (by unfold ops6 getOps6; exact rfl) ?_
  · simp [*, appendV, srcCells, St.forget, scr, scrC, usesC, usesA, setsV, -List.map_map, -oneV]
    refine U11146 hr.out hT.out _ ?_
    simp [*, R6.X, St6, r6B, r6Z, r6O, r6S, r6Y, St.forget, scr, scrC, usesC, usesA, -List.map_map]
theorem U10146 {r : R6} {K : St → Prop} (hr : R6ok r K) (hT : TabOK Try.prog (tab6 r)) : ∀ t : St, St6 r 1 0 1 4 6 t → cAnyY (tab6 r) ops6 63 K 4 #[false, true, true, true, true, true, true, true, true, true, false, false, false] t := by
  rintro ⟨e, h⟩ q
  simp [R6.X, St6, r6B, r6Z, r6O, r6S, r6Y] at q
  obtain ⟨hF, hg, hj, e1, e2, l1, l2, c1, c2, s1, s2, o1, o2, f1, f2, x1, x2, x3, v3, v4, v5, v6, v7, v8, v9, v1, v2, ch, hK⟩ := id hr
  replace hr : Hid (_) := hr
  replace hT : Hid (_) := hT
  refine cany2y 0 10 (by kernel_rfl) (by unfold ops6 getOps6; exact rfl) (by unfold ops6 getOps6; exact rfl) ?_ ?_
  · simp [*, appendV, srcCells, St.forget, scr, scrC, usesC, usesA, setsV, -List.map_map, -oneV]
    refine U11146 hr.out hT.out _ ?_
    simp [*, R6.X, St6, r6B, r6Z, r6O, r6S, r6Y, St.forget, scr, scrC, usesC, usesA, -List.map_map]
  · simp [*, appendV, srcCells, St.forget, scr, scrC, usesC, usesA, setsV, -List.map_map, -oneV]
    refine U20146 hr.out hT.out _ ?_
    simp [*, R6.X, St6, r6B, r6Z, r6O, r6S, r6Y, St.forget, scr, scrC, usesC, usesA, -List.map_map]
theorem U11143 {r : R6} {K : St → Prop} (hr : R6ok r K) (hT : TabOK Try.prog (tab6 r)) : ∀ t : St, St6 r 1 1 1 4 3 t → cAnyY (tab6 r) ops6 63 K 5 #[true, true, true, true, true, true, true, true, false, false, false, false, false] t := by
  rintro ⟨e, h⟩ q
  simp [R6.X, St6, r6B, r6Z, r6O, r6S, r6Y] at q
  obtain ⟨hF, hg, hj, e1, e2, l1, l2, c1, c2, s1, s2, o1, o2, f1, f2, x1, x2, x3, v3, v4, v5, v6, v7, v8, v9, v1, v2, ch, hK⟩ := id hr
  replace hr : Hid (_) := hr
  replace hT : Hid (_) := hT
  refine cany1y 8 (by kernel_rfl) (by unfold ops6 getOps6; exact rfl) ?_
  · simp [*, appendV, srcCells, St.forget, scr, scrC, usesC, usesA, setsV, -List.map_map, -oneV]
    refine U11145 hr.out hT.out _ ?_
    simp [*, R6.X, St6, r6B, r6Z, r6O, r6S, r6Y, St.forget, scr, scrC, usesC, usesA, -List.map_map]
theorem U01046 {r : R6} {K : St → Prop} (hr : R6ok r K) (hT : TabOK Try.prog (tab6 r)) : ∀ t : St, St6 r 0 1 0 4 6 t → cAnyY (tab6 r) ops6 63 K 5 #[true, false, true, true, true, false, true, true, true, true, false, false, false] t := by
  rintro ⟨e, h⟩ q
  simp [R6.X, St6, r6B, r6Z, r6O, r6S, r6Y] at q
  obtain ⟨hF, hg, hj, e1, e2, l1, l2, c1, c2, s1, s2, o1, o2, f1, f2, x1, x2, x3, v3, v4, v5, v6, v7, v8, v9, v1, v2, ch, hK⟩ := id hr
  replace hr : Hid (_) := hr
  replace hT : Hid (_) := hT
  refine cany1y 1 (by kernel_rfl) (by unfold ops6 getOps6; exact rfl) ?_
  · simp [*, appendV, srcCells, St.forget, scr, scrC, usesC, usesA, setsV, -List.map_map, -oneV]
    refine U01146 hr.out hT.out _ ?_
    simp [*, R6.X, St6, r6B, r6Z, r6O, r6S, r6Y, St.forget, scr, scrC, usesC, usesA, -List.map_map]
theorem U10145 {r : R6} {K : St → Prop} (hr : R6ok r K) (hT : TabOK Try.prog (tab6 r)) : ∀ t : St, St6 r 1 0 1 4 5 t → cAnyY (tab6 r) ops6 63 K 5 #[false, true, true, true, true, true, true, true, true, false, false, false, false] t := by
  rintro ⟨e, h⟩ q
  simp [R6.X, St6, r6B, r6Z, r6O, r6S, r6Y] at q
  obtain ⟨hF, hg, hj, e1, e2, l1, l2, c1, c2, s1, s2, o1, o2, f1, f2, x1, x2, x3, v3, v4, v5, v6, v7, v8, v9, v1, v2, ch, hK⟩ := id hr
  replace hr : Hid (_) := hr
  replace hT : Hid (_) := hT
  refine cany2y 0 9 (by kernel_rfl) (by unfold ops6 getOps6; exact rfl) (by unfold ops6 getOps6; exact rfl) ?_ ?_
  · simp [*, appendV, srcCells, St.forget, scr, scrC, usesC, usesA, setsV, -List.map_map, -oneV]
    refine U11145 hr.out hT.out _ ?_
    simp [*, R6.X, St6, r6B, r6Z, r6O, r6S, r6Y, St.forget, scr, scrC, usesC, usesA, -List.map_map]
  · simp [*, appendV, srcCells, St.forget, scr, scrC, usesC, usesA, setsV, -List.map_map, -oneV]
    refine U10146 hr.out hT.out _ ?_
    simp [*, R6.X, St6, r6B, r6Z, r6O, r6S, r6Y, St.forget, scr, scrC, usesC, usesA, -List.map_map]
theorem U00146 {r : R6} {K : St → Prop} (hr : R6ok r K) (hT : TabOK Try.prog (tab6 r)) : ∀ t : St, St6 r 0 0 1 4 6 t → cAnyY (tab6 r) ops6 63 K 5 #[false, true, true, true, true, false, true, true, true, true, false, false, false] t := by
  rintro ⟨e, h⟩ q
  simp [R6.X, St6, r6B, r6Z, r6O, r6S, r6Y] at q
  obtain ⟨hF, hg, hj, e1, e2, l1, l2, c1, c2, s1, s2, o1, o2, f1, f2, x1, x2, x3, v3, v4, v5, v6, v7, v8, v9, v1, v2, ch, hK⟩ := id hr
  replace hr : Hid (_) := hr
  replace hT : Hid (_) := hT
  refine cany2y 0 5 (by kernel_rfl) (by unfold ops6 getOps6; exact rfl) (by unfold ops6 getOps6; exact rfl) ?_ ?_
  · simp [*, appendV, srcCells, St.forget, scr, scrC, usesC, usesA, setsV, -List.map_map, -oneV]
    refine U01146 hr.out hT.out _ ?_
    simp [*, R6.X, St6, r6B, r6Z, r6O, r6S, r6Y, St.forget, scr, scrC, usesC, usesA, -List.map_map]
  · simp [*, appendV, srcCells, St.forget, scr, scrC, usesC, usesA, setsV, -List.map_map, -oneV]
    refine U10146 hr.out hT.out _ ?_
    simp [*, R6.X, St6, r6B, r6Z, r6O, r6S, r6Y, St.forget, scr, scrC, usesC, usesA, -List.map_map]
theorem U11144 {r : R6} {K : St → Prop} (hr : R6ok r K) (hT : TabOK Try.prog (tab6 r)) : ∀ t : St, St6 r 1 1 1 4 4 t → cAnyY (tab6 r) ops6 63 K 5 #[true, true, true, true, true, true, false, true, true, false, false, false, false] t := by
  rintro ⟨e, h⟩ q
  simp [R6.X, St6, r6B, r6Z, r6O, r6S, r6Y] at q
  obtain ⟨hF, hg, hj, e1, e2, l1, l2, c1, c2, s1, s2, o1, o2, f1, f2, x1, x2, x3, v3, v4, v5, v6, v7, v8, v9, v1, v2, ch, hK⟩ := id hr
  replace hr : Hid (_) := hr
  replace hT : Hid (_) := hT
  refine cany1y 6 (by kernel_rfl) (by unfold ops6 getOps6; exact rfl) ?_
  · simp [*, appendV, srcCells, St.forget, scr, scrC, usesC, usesA, setsV, -List.map_map, -oneV]
    refine U11145 hr.out hT.out _ ?_
    simp [*, R6.X, St6, r6B, r6Z, r6O, r6S, r6Y, St.forget, scr, scrC, usesC, usesA, -List.map_map]
theorem U01145 {r : R6} {K : St → Prop} (hr : R6ok r K) (hT : TabOK Try.prog (tab6 r)) : ∀ t : St, St6 r 0 1 1 4 5 t → cAnyY (tab6 r) ops6 63 K 5 #[true, true, true, true, true, false, true, true, true, false, false, false, false] t := by
  rintro ⟨e, h⟩ q
  simp [R6.X, St6, r6B, r6Z, r6O, r6S, r6Y] at q
  obtain ⟨hF, hg, hj, e1, e2, l1, l2, c1, c2, s1, s2, o1, o2, f1, f2, x1, x2, x3, v3, v4, v5, v6, v7, v8, v9, v1, v2, ch, hK⟩ := id hr
  replace hr : Hid (_) := hr
  replace hT : Hid (_) := hT
  refine cany2y 5 9 (by kernel_rfl) (by unfold ops6 getOps6; exact rfl) (by unfold ops6 getOps6; exact rfl) ?_ ?_
  · simp [*, appendV, srcCells, St.forget, scr, scrC, usesC, usesA, setsV, -List.map_map, -oneV]
    refine U11145 hr.out hT.out _ ?_
    simp [*, R6.X, St6, r6B, r6Z, r6O, r6S, r6Y, St.forget, scr, scrC, usesC, usesA, -List.map_map]
  · simp [*, appendV, srcCells, St.forget, scr, scrC, usesC, usesA, setsV, -List.map_map, -oneV]
    refine U01146 hr.out hT.out _ ?_
    simp [*, R6.X, St6, r6B, r6Z, r6O, r6S, r6Y, St.forget, scr, scrC, usesC, usesA, -List.map_map]
theorem U01136 {r : R6} {K : St → Prop} (hr : R6ok r K) (hT : TabOK Try.prog (tab6 r)) : ∀ t : St, St6 r 0 1 1 3 6 t → cAnyY (tab6 r) ops6 63 K 5 #[true, true, true, true, false, false, true, true, true, true, false, false, false] t := by
  rintro ⟨e, h⟩ q
  simp [R6.X, St6, r6B, r6Z, r6O, r6S, r6Y] at q
  obtain ⟨hF, hg, hj, e1, e2, l1, l2, c1, c2, s1, s2, o1, o2, f1, f2, x1, x2, x3, v3, v4, v5, v6, v7, v8, v9, v1, v2, ch, hK⟩ := id hr
  replace hr : Hid (_) := hr
  replace hT : Hid (_) := hT
  refine cany1y 4 (by kernel_rfl) (by unfold ops6 getOps6; exact rfl) ?_
  · simp [*, appendV, srcCells, St.forget, scr, scrC, usesC, usesA, setsV, -List.map_map, -oneV]
    refine U01146 hr.out hT.out _ ?_
    simp [*, R6.X, St6, r6B, r6Z, r6O, r6S, r6Y, St.forget, scr, scrC, usesC, usesA, -List.map_map]
theorem U01144 {r : R6} {K : St → Prop} (hr : R6ok r K) (hT : TabOK Try.prog (tab6 r)) : ∀ t : St, St6 r 0 1 1 4 4 t → cAnyY (tab6 r) ops6 63 K 6 #[true, true, true, true, true, false, false, true, true, false, false, false, false] t := by
  rintro ⟨e, h⟩ q
  simp [R6.X, St6, r6B, r6Z, r6O, r6S, r6Y] at q
  obtain ⟨hF, hg, hj, e1, e2, l1, l2, c1, c2, s1, s2, o1, o2, f1, f2, x1, x2, x3, v3, v4, v5, v6, v7, v8, v9, v1, v2, ch, hK⟩ := id hr
  replace hr : Hid (_) := hr
  replace hT : Hid (_) := hT
  refine cany2y 5 6 (by kernel_rfl) (by unfold ops6 getOps6; exact rfl) (by unfold ops6 getOps6; exact rfl) ?_ ?_
  · simp [*, appendV, srcCells, St.forget, scr, scrC, usesC, usesA, setsV, -List.map_map, -oneV]
    refine U11144 hr.out hT.out _ ?_
    simp [*, R6.X, St6, r6B, r6Z, r6O, r6S, r6Y, St.forget, scr, scrC, usesC, usesA, -List.map_map]
  · simp [*, appendV, srcCells, St.forget, scr, scrC, usesC, usesA, setsV, -List.map_map, -oneV]
    refine U01145 hr.out hT.out _ ?_
    simp [*, R6.X, St6, r6B, r6Z, r6O, r6S, r6Y, St.forget, scr, scrC, usesC, usesA, -List.map_map]
theorem U00136 {r : R6} {K : St → Prop} (hr : R6ok r K) (hT : TabOK Try.prog (tab6 r)) : ∀ t : St, St6 r 0 0 1 3 6 t → cAnyY (tab6 r) ops6 63 K 6 #[false, true, true, true, false, false, true, true, true, true, false, false, false] t := by
  rintro ⟨e, h⟩ q
  simp [R6.X, St6, r6B, r6Z, r6O, r6S, r6Y] at q
  obtain ⟨hF, hg, hj, e1, e2, l1, l2, c1, c2, s1, s2, o1, o2, f1, f2, x1, x2, x3, v3, v4, v5, v6, v7, v8, v9, v1, v2, ch, hK⟩ := id hr
  replace hr : Hid (_) := hr
  replace hT : Hid (_) := hT
  refine cany2y 0 4 (by kernel_rfl) (by unfold ops6 getOps6; exact rfl) (by unfold ops6 getOps6; exact rfl) ?_ ?_
  · simp [*, appendV, srcCells, St.forget, scr, scrC, usesC, usesA, setsV, -List.map_map, -oneV]
    refine U01136 hr.out hT.out _ ?_
    simp [*, R6.X, St6, r6B, r6Z, r6O, r6S, r6Y, St.forget, scr, scrC, usesC, usesA, -List.map_map]
  · simp [*, appendV, srcCells, St.forget, scr, scrC, usesC, usesA, setsV, -List.map_map, -oneV]
    refine U00146 hr.out hT.out _ ?_
    simp [*, R6.X, St6, r6B, r6Z, r6O, r6S, r6Y, St.forget, scr, scrC, usesC, usesA, -List.map_map]
theorem U10143 {r : R6} {K : St → Prop} (hr : R6ok r K) (hT : TabOK Try.prog (tab6 r)) : ∀ t : St, St6 r 1 0 1 4 3 t → cAnyY (tab6 r) ops6 63 K 6 #[false, true, true, true, true, true, true, true, false, false, false, false, false] t := by
  rintro ⟨e, h⟩ q
  simp [R6.X, St6, r6B, r6Z, r6O, r6S, r6Y] at q
  obtain ⟨hF, hg, hj, e1, e2, l1, l2, c1, c2, s1, s2, o1, o2, f1, f2, x1, x2, x3, v3, v4, v5, v6, v7, v8, v9, v1, v2, ch, hK⟩ := id hr
  replace hr : Hid (_) := hr
  replace hT : Hid (_) := hT
  refine cany2y 0 8 (by kernel_rfl) (by unfold ops6 getOps6; exact rfl) (by unfold ops6 getOps6; exact rfl) ?_ ?_
  · simp [*, appendV, srcCells, St.forget, scr, scrC, usesC, usesA, setsV, -List.map_map, -oneV]
    refine U11143 hr.out hT.out _ ?_
    simp [*, R6.X, St6, r6B, r6Z, r6O, r6S, r6Y, St.forget, scr, scrC, usesC, usesA, -List.map_map]
  · simp [*, appendV, srcCells, St.forget, scr, scrC, usesC, usesA, setsV, -List.map_map, -oneV]
    refine U10145 hr.out hT.out _ ?_
    simp [*, R6.X, St6, r6B, r6Z, r6O, r6S, r6Y, St.forget, scr, scrC, usesC, usesA, -List.map_map]
theorem U11142 {r : R6} {K : St → Prop} (hr : R6ok r K) (hT : TabOK Try.prog (tab6 r)) : ∀ t : St, St6 r 1 1 1 4 2 t → cAnyY (tab6 r) ops6 63 K 6 #[true, true, true, true, true, true, false, true, false, false, false, false, false] t := by
  rintro ⟨e, h⟩ q
  simp [R6.X, St6, r6B, r6Z, r6O, r6S, r6Y] at q
  obtain ⟨hF, hg, hj, e1, e2, l1, l2, c1, c2, s1, s2, o1, o2, f1, f2, x1, x2, x3, v3, v4, v5, v6, v7, v8, v9, v1, v2, ch, hK⟩ := id hr
  replace hr : Hid (_) := hr
  replace hT : Hid (_) := hT
  refine cany2y 6 8 (by kernel_rfl) (by unfold ops6 getOps6; exact rfl) (by unfold ops6 getOps6; exact rfl) ?_ ?_
  · simp [*, appendV, srcCells, St.forget, scr, scrC, usesC, usesA, setsV, -List.map_map, -oneV]
    refine U11143 hr.out hT.out _ ?_
    simp [*, R6.X, St6, r6B, r6Z, r6O, r6S, r6Y, St.forget, scr, scrC, usesC, usesA, -List.map_map]
  · simp [*, appendV, srcCells, St.forget, scr, scrC, usesC, usesA, setsV, -List.map_map, -oneV]
    refine U11144 hr.out hT.out _ ?_
    simp [*, R6.X, St6, r6B, r6Z, r6O, r6S, r6Y, St.forget, scr, scrC, usesC, usesA, -List.map_map]
theorem U01036 {r : R6} {K : St → Prop} (hr : R6ok r K) (hT : TabOK Try.prog (tab6 r)) : ∀ t : St, St6 r 0 1 0 3 6 t → cAnyY (tab6 r) ops6 63 K 6 #[true, false, true, true, false, false, true, true, true, true, false, false, false] t := by
  rintro ⟨e, h⟩ q
  simp [R6.X, St6, r6B, r6Z, r6O, r6S, r6Y] at q
  obtain ⟨hF, hg, hj, e1, e2, l1, l2, c1, c2, s1, s2, o1, o2, f1, f2, x1, x2, x3, v3, v4, v5, v6, v7, v8, v9, v1, v2, ch, hK⟩ := id hr
  replace hr : Hid (_) := hr
  replace hT : Hid (_) := hT
  refine cany2y 1 4 (by kernel_rfl) (by unfold ops6 getOps6; exact rfl) (by unfold ops6 getOps6; exact rfl) ?_ ?_
  · simp [*, appendV, srcCells, St.forget, scr, scrC, usesC, usesA, setsV, -List.map_map, -oneV]
    refine U01136 hr.out hT.out _ ?_
    simp [*, R6.X, St6, r6B, r6Z, r6O, r6S, r6Y, St.forget, scr, scrC, usesC, usesA, -List.map_map]
  · simp [*, appendV, srcCells, St.forget, scr, scrC, usesC, usesA, setsV, -List.map_map, -oneV]
    refine U01046 hr.out hT.out _ ?_
    simp [*, R6.X, St6, r6B, r6Z, r6O, r6S, r6Y, St.forget, scr, scrC, usesC, usesA, -List.map_map]
theorem U01126 {r : R6} {K : St → Prop} (hr : R6ok r K) (hT : TabOK Try.prog (tab6 r)) : ∀ t : St, St6 r 0 1 1 2 6 t → cAnyY (tab6 r) ops6 63 K 6 #[true, true, false, true, false, false, true, true, true, true, false, false, false] t := by
  rintro ⟨e, h⟩ q
  simp [R6.X, St6, r6B, r6Z, r6O, r6S, r6Y] at q
  obtain ⟨hF, hg, hj, e1, e2, l1, l2, c1, c2, s1, s2, o1, o2, f1, f2, x1, x2, x3, v3, v4, v5, v6, v7, v8, v9, v1, v2, ch, hK⟩ := id hr
  replace hr : Hid (_) := hr
  replace hT : Hid (_) := hT
  refine cany1y 2 (by kernel_rfl) (by unfold ops6 getOps6; exact rfl) ?_
  · simp [*, appendV, srcCells, St.forget, scr, scrC, usesC, usesA, setsV, -List.map_map, -oneV]
    refine U01136 hr.out hT.out _ ?_
    simp [*, R6.X, St6, r6B, r6Z, r6O, r6S, r6Y, St.forget, scr, scrC, usesC, usesA, -List.map_map]
theorem U01143 {r : R6} {K : St → Prop} (hr : R6ok r K) (hT : TabOK Try.prog (tab6 r)) : ∀ t : St, St6 r 0 1 1 4 3 t → cAnyY (tab6 r) ops6 63 K 6 #[true, true, true, true, true, false, true, true, false, false, false, false, false] t := by
  rintro ⟨e, h⟩ q
  simp [R6.X, St6, r6B, r6Z, r6O, r6S, r6Y] at q
  obtain ⟨hF, hg, hj, e1, e2, l1, l2, c1, c2, s1, s2, o1, o2, f1, f2, x1, x2, x3, v3, v4, v5, v6, v7, v8, v9, v1, v2, ch, hK⟩ := id hr
  replace hr : Hid (_) := hr
  replace hT : Hid (_) := hT
  refine cany2y 5 8 (by kernel_rfl) (by unfold ops6 getOps6; exact rfl) (by unfold ops6 getOps6; exact rfl) ?_ ?_
  · simp [*, appendV, srcCells, St.forget, scr, scrC, usesC, usesA, setsV, -List.map_map, -oneV]
    refine U11143 hr.out hT.out _ ?_
    simp [*, R6.X, St6, r6B, r6Z, r6O, r6S, r6Y, St.forget, scr, scrC, usesC, usesA, -List.map_map]
  · simp [*, appendV, srcCells, St.forget, scr, scrC, usesC, usesA, setsV, -List.map_map, -oneV]
    refine U01145 hr.out hT.out _ ?_
    simp [*, R6.X, St6, r6B, r6Z, r6O, r6S, r6Y, St.forget, scr, scrC, usesC, usesA, -List.map_map]
theorem U10144 {r : R6} {K : St → Prop} (hr : R6ok r K) (hT : TabOK Try.prog (tab6 r)) : ∀ t : St, St6 r 1 0 1 4 4 t → cAnyY (tab6 r) ops6 63 K 6 #[false, true, true, true, true, true, false, true, true, false, false, false, false] t := by
  rintro ⟨e, h⟩ q
  simp [R6.X, St6, r6B, r6Z, r6O, r6S, r6Y] at q
  obtain ⟨hF, hg, hj, e1, e2, l1, l2, c1, c2, s1, s2, o1, o2, f1, f2, x1, x2, x3, v3, v4, v5, v6, v7, v8, v9, v1, v2, ch, hK⟩ := id hr
  replace hr : Hid (_) := hr
  replace hT : Hid (_) := hT
  refine cany2y 0 6 (by kernel_rfl) (by unfold ops6 getOps6; exact rfl) (by unfold ops6 getOps6; exact rfl) ?_ ?_
  · simp [*, appendV, srcCells, St.forget, scr, scrC, usesC, usesA, setsV, -List.map_map, -oneV]
    refine U11144 hr.out hT.out _ ?_
    simp [*, R6.X, St6, r6B, r6Z, r6O, r6S, r6Y, St.forget, scr, scrC, usesC, usesA, -List.map_map]
  · simp [*, appendV, srcCells, St.forget, scr, scrC, usesC, usesA, setsV, -List.map_map, -oneV]
    refine U10145 hr.out hT.out _ ?_
    simp [*, R6.X, St6, r6B, r6Z, r6O, r6S, r6Y, St.forget, scr, scrC, usesC, usesA, -List.map_map]
theorem U00145 {r : R6} {K : St → Prop} (hr : R6ok r K) (hT : TabOK Try.prog (tab6 r)) : ∀ t : St, St6 r 0 0 1 4 5 t → cAnyY (tab6 r) ops6 63 K 6 #[false, true, true, true, true, false, true, true, true, false, false, false, false] t := by
  rintro ⟨e, h⟩ q
  simp [R6.X, St6, r6B, r6Z, r6O, r6S, r6Y] at q
  obtain ⟨hF, hg, hj, e1, e2, l1, l2, c1, c2, s1, s2, o1, o2, f1, f2, x1, x2, x3, v3, v4, v5, v6, v7, v8, v9, v1, v2, ch, hK⟩ := id hr
  replace hr : Hid (_) := hr
  replace hT : Hid (_) := hT
  refine cany3y 0 5 9 (by kernel_rfl) (by unfold ops6 getOps6; exact rfl) (by unfold ops6 getOps6; exact rfl) (by unfold ops6 getOps6; exact rfl) ?_ ?_ ?_
  · simp [*, appendV, srcCells, St.forget, scr, scrC, usesC, usesA, setsV, -List.map_map, -oneV]
    refine U01145 hr.out hT.out _ ?_
    simp [*, R6.X, St6, r6B, r6Z, r6O, r6S, r6Y, St.forget, scr, scrC, usesC, usesA, -List.map_map]
  · simp [*, appendV, srcCells, St.forget, scr, scrC, usesC, usesA, setsV, -List.map_map, -oneV]
    refine U10145 hr.out hT.out _ ?_
    simp [*, R6.X, St6, r6B, r6Z, r6O, r6S, r6Y, St.forget, scr, scrC, usesC, usesA, -List.map_map]
  · simp [*, appendV, srcCells, St.forget, scr, scrC, usesC, usesA, setsV, -List.map_map, -oneV]
    refine U00146 hr.out hT.out _ ?_
    simp [*, R6.X, St6, r6B, r6Z, r6O, r6S, r6Y, St.forget, scr, scrC, usesC, usesA, -List.map_map]
theorem U01045 {r : R6} {K : St → Prop} (hr : R6ok r K) (hT : TabOK Try.prog (tab6 r)) : ∀ t : St, St6 r 0 1 0 4 5 t → cAnyY (tab6 r) ops6 63 K 6 #[true, false, true, true, true, false, true, true, true, false, false, false, false] t := by
  rintro ⟨e, h⟩ q
  simp [R6.X, St6, r6B, r6Z, r6O, r6S, r6Y] at q
  obtain ⟨hF, hg, hj, e1, e2, l1, l2, c1, c2, s1, s2, o1, o2, f1, f2, x1, x2, x3, v3, v4, v5, v6, v7, v8, v9, v1, v2, ch, hK⟩ := id hr
  replace hr : Hid (_) := hr
  replace hT : Hid (_) := hT
  refine cany2y 1 9 (by kernel_rfl) (by unfold ops6 getOps6; exact rfl) (by unfold ops6 getOps6; exact rfl) ?_ ?_
  · simp [*, appendV, srcCells, St.forget, scr, scrC, usesC, usesA, setsV, -List.map_map, -oneV]
    refine U01145 hr.out hT.out _ ?_
    simp [*, R6.X, St6, r6B, r6Z, r6O, r6S, r6Y, St.forget, scr, scrC, usesC, usesA, -List.map_map]
  · simp [*, appendV, srcCells, St.forget, scr, scrC, usesC, usesA, setsV, -List.map_map, -oneV]
    refine U01046 hr.out hT.out _ ?_
    simp [*, R6.X, St6, r6B, r6Z, r6O, r6S, r6Y, St.forget, scr, scrC, usesC, usesA, -List.map_map]
theorem U11141 {r : R6} {K : St → Prop} (hr : R6ok r K) (hT : TabOK Try.prog (tab6 r)) : ∀ t : St, St6 r 1 1 1 4 1 t → cAnyY (tab6 r) ops6 63 K 6 #[true, true, true, true, true, true, true, false, false, false, false, false, false] t := by
  rintro ⟨e, h⟩ q
  simp [R6.X, St6, r6B, r6Z, r6O, r6S, r6Y] at q
  obtain ⟨hF, hg, hj, e1, e2, l1, l2, c1, c2, s1, s2, o1, o2, f1, f2, x1, x2, x3, v3, v4, v5, v6, v7, v8, v9, v1, v2, ch, hK⟩ := id hr
  replace hr : Hid (_) := hr
  replace hT : Hid (_) := hT
  refine cany1y 7 (by kernel_rfl) (by unfold ops6 getOps6; exact rfl) ?_
  · simp [*, appendV, srcCells, St.forget, scr, scrC, usesC, usesA, setsV, -List.map_map, -oneV]
    refine U11143 hr.out hT.out _ ?_
    simp [*, R6.X, St6, r6B, r6Z, r6O, r6S, r6Y, St.forget, scr, scrC, usesC, usesA, -List.map_map]
theorem U00046 {r : R6} {K : St → Prop} (hr : R6ok r K) (hT : TabOK Try.prog (tab6 r)) : ∀ t : St, St6 r 0 0 0 4 6 t → cAnyY (tab6 r) ops6 63 K 6 #[false, false, true, true, true, false, true, true, true, true, false, false, false] t := by
  rintro ⟨e, h⟩ q
  simp [R6.X, St6, r6B, r6Z, r6O, r6S, r6Y] at q
  obtain ⟨hF, hg, hj, e1, e2, l1, l2, c1, c2, s1, s2, o1, o2, f1, f2, x1, x2, x3, v3, v4, v5, v6, v7, v8, v9, v1, v2, ch, hK⟩ := id hr
  replace hr : Hid (_) := hr
  replace hT : Hid (_) := hT
  refine cany2y 0 1 (by kernel_rfl) (by unfold ops6 getOps6; exact rfl) (by unfold ops6 getOps6; exact rfl) ?_ ?_
  · simp [*, appendV, srcCells, St.forget, scr, scrC, usesC, usesA, setsV, -List.map_map, -oneV]
    refine U01046 hr.out hT.out _ ?_
    simp [*, R6.X, St6, r6B, r6Z, r6O, r6S, r6Y, St.forget, scr, scrC, usesC, usesA, -List.map_map]
  · simp [*, appendV, srcCells, St.forget, scr, scrC, usesC, usesA, setsV, -List.map_map, -oneV]
    refine U00146 hr.out hT.out _ ?_
    simp [*, R6.X, St6, r6B, r6Z, r6O, r6S, r6Y, St.forget, scr, scrC, usesC, usesA, -List.map_map]
theorem U01116 {r : R6} {K : St → Prop} (hr : R6ok r K) (hT : TabOK Try.prog (tab6 r)) : ∀ t : St, St6 r 0 1 1 1 6 t → cAnyY (tab6 r) ops6 63 K 6 #[true, true, true, false, false, false, true, true, true, true, false, false, false] t := by
  rintro ⟨e, h⟩ q
  simp [R6.X, St6, r6B, r6Z, r6O, r6S, r6Y] at q
  obtain ⟨hF, hg, hj, e1, e2, l1, l2, c1, c2, s1, s2, o1, o2, f1, f2, x1, x2, x3, v3, v4, v5, v6, v7, v8, v9, v1, v2, ch, hK⟩ := id hr
  replace hr : Hid (_) := hr
  replace hT : Hid (_) := hT
  refine cany1y 3 (by kernel_rfl) (by unfold ops6 getOps6; exact rfl) ?_
  · simp [*, appendV, srcCells, St.forget, scr, scrC, usesC, usesA, setsV, -List.map_map, -oneV]
    refine U01136 hr.out hT.out _ ?_
    simp [*, R6.X, St6, r6B, r6Z, r6O, r6S, r6Y, St.forget, scr, scrC, usesC, usesA, -List.map_map]
theorem U01135 {r : R6} {K : St → Prop} (hr : R6ok r K) (hT : TabOK Try.prog (tab6 r)) : ∀ t : St, St6 r 0 1 1 3 5 t → cAnyY (tab6 r) ops6 63 K 6 #[true, true, true, true, false, false, true, true, true, false, false, false, false] t := by
  rintro ⟨e, h⟩ q
  simp [R6.X, St6, r6B, r6Z, r6O, r6S, r6Y] at q
  obtain ⟨hF, hg, hj, e1, e2, l1, l2, c1, c2, s1, s2, o1, o2, f1, f2, x1, x2, x3, v3, v4, v5, v6, v7, v8, v9, v1, v2, ch, hK⟩ := id hr
  replace hr : Hid (_) := hr
  replace hT : Hid (_) := hT
  refine cany2y 4 9 (by kernel_rfl) (by unfold ops6 getOps6; exact rfl) (by unfold ops6 getOps6; exact rfl) ?_ ?_
  · simp [*, appendV, srcCells, St.forget, scr, scrC, usesC, usesA, setsV, -List.map_map, -oneV]
    refine U01145 hr.out hT.out _ ?_
    simp [*, R6.X, St6, r6B, r6Z, r6O, r6S, r6Y, St.forget, scr, scrC, usesC, usesA, -List.map_map]
  · simp [*, appendV, srcCells, St.forget, scr, scrC, usesC, usesA, setsV, -List.map_map, -oneV]
    refine U01136 hr.out hT.out _ ?_
    simp [*, R6.X, St6, r6B, r6Z, r6O, r6S, r6Y, St.forget, scr, scrC, usesC, usesA, -List.map_map]
theorem U01044 {r : R6} {K : St → Prop} (hr : R6ok r K) (hT : TabOK Try.prog (tab6 r)) : ∀ t : St, St6 r 0 1 0 4 4 t → cAnyY (tab6 r) ops6 63 K 7 #[true, false, true, true, true, false, false, true, true, false, false, false, false] t := by
  rintro ⟨e, h⟩ q
  simp [R6.X, St6, r6B, r6Z, r6O, r6S, r6Y] at q
  obtain ⟨hF, hg, hj, e1, e2, l1, l2, c1, c2, s1, s2, o1, o2, f1, f2, x1, x2, x3, v3, v4, v5, v6, v7, v8, v9, v1, v2, ch, hK⟩ := id hr
  replace hr : Hid (_) := hr
  replace hT : Hid (_) := hT
  refine cany2y 1 6 (by kernel_rfl) (by unfold ops6 getOps6; exact rfl) (by unfold ops6 getOps6; exact rfl) ?_ ?_
  · simp [*, appendV, srcCells, St.forget, scr, scrC, usesC, usesA, setsV, -List.map_map, -oneV]
    refine U01144 hr.out hT.out _ ?_
    simp [*, R6.X, St6, r6B, r6Z, r6O, r6S, r6Y, St.forget, scr, scrC, usesC, usesA, -List.map_map]
  · simp [*, appendV, srcCells, St.forget, scr, scrC, usesC, usesA, setsV, -List.map_map, -oneV]
    refine U01045 hr.out hT.out _ ?_
    simp [*, R6.X, St6, r6B, r6Z, r6O, r6S, r6Y, St.forget, scr, scrC, usesC, usesA, -List.map_map]
theorem U01026 {r : R6} {K : St → Prop} (hr : R6ok r K) (hT : TabOK Try.prog (tab6 r)) : ∀ t : St, St6 r 0 1 0 2 6 t → cAnyY (tab6 r) ops6 63 K 7 #[true, false, false, true, false, false, true, true, true, true, false, false, false] t := by
  rintro ⟨e, h⟩ q
  simp [R6.X, St6, r6B, r6Z, r6O, r6S, r6Y] at q
  obtain ⟨hF, hg, hj, e1, e2, l1, l2, c1, c2, s1, s2, o1, o2, f1, f2, x1, x2, x3, v3, v4, v5, v6, v7, v8, v9, v1, v2, ch, hK⟩ := id hr
  replace hr : Hid (_) := hr
  replace hT : Hid (_) := hT
  refine cany2y 1 2 (by kernel_rfl) (by unfold ops6 getOps6; exact rfl) (by unfold ops6 getOps6; exact rfl) ?_ ?_
  · simp [*, appendV, srcCells, St.forget, scr, scrC, usesC, usesA, setsV, -List.map_map, -oneV]
    refine U01126 hr.out hT.out _ ?_
    simp [*, R6.X, St6, r6B, r6Z, r6O, r6S, r6Y, St.forget, scr, scrC, usesC, usesA, -List.map_map]
  · simp [*, appendV, srcCells, St.forget, scr, scrC, usesC, usesA, setsV, -List.map_map, -oneV]
    refine U01036 hr.out hT.out _ ?_
    simp [*, R6.X, St6, r6B, r6Z, r6O, r6S, r6Y, St.forget, scr, scrC, usesC, usesA, -List.map_map]
theorem U01035 {r : R6} {K : St → Prop} (hr : R6ok r K) (hT : TabOK Try.prog (tab6 r)) : ∀ t : St, St6 r 0 1 0 3 5 t → cAnyY (tab6 r) ops6 63 K 7 #[true, false, true, true, false, false, true, true, true, false, false, false, false] t := by
  rintro ⟨e, h⟩ q
  simp [R6.X, St6, r6B, r6Z, r6O, r6S, r6Y] at q
  obtain ⟨hF, hg, hj, e1, e2, l1, l2, c1, c2, s1, s2, o1, o2, f1, f2, x1, x2, x3, v3, v4, v5, v6, v7, v8, v9, v1, v2, ch, hK⟩ := id hr
  replace hr : Hid (_) := hr
  replace hT : Hid (_) := hT
  refine cany3y 1 4 9 (by kernel_rfl) (by unfold ops6 getOps6; exact rfl) (by unfold ops6 getOps6; exact rfl) (by unfold ops6 getOps6; exact rfl) ?_ ?_ ?_
  · simp [*, appendV, srcCells, St.forget, scr, scrC, usesC, usesA, setsV, -List.map_map, -oneV]
    refine U01135 hr.out hT.out _ ?_
    simp [*, R6.X, St6, r6B, r6Z, r6O, r6S, r6Y, St.forget, scr, scrC, usesC, usesA, -List.map_map]
  · simp [*, appendV, srcCells, St.forget, scr, scrC, usesC, usesA, setsV, -List.map_map, -oneV]
    refine U01045 hr.out hT.out _ ?_
    simp [*, R6.X, St6, r6B, r6Z, r6O, r6S, r6Y, St.forget, scr, scrC, usesC, usesA, -List.map_map]
  · simp [*, appendV, srcCells, St.forget, scr, scrC, usesC, usesA, setsV, -List.map_map, -oneV]
    refine U01036 hr.out hT.out _ ?_
    simp [*, R6.X, St6, r6B, r6Z, r6O, r6S, r6Y, St.forget, scr, scrC, usesC, usesA, -List.map_map]
theorem U10141 {r : R6} {K : St → Prop} (hr : R6ok r K) (hT : TabOK Try.prog (tab6 r)) : ∀ t : St, St6 r 1 0 1 4 1 t → cAnyY (tab6 r) ops6 63 K 7 #[false, true, true, true, true, true, true, false, false, false, false, false, false] t := by
  rintro ⟨e, h⟩ q
  simp [R6.X, St6, r6B, r6Z, r6O, r6S, r6Y] at q
  obtain ⟨hF, hg, hj, e1, e2, l1, l2, c1, c2, s1, s2, o1, o2, f1, f2, x1, x2, x3, v3, v4, v5, v6, v7, v8, v9, v1, v2, ch, hK⟩ := id hr
  replace hr : Hid (_) := hr
  replace hT : Hid (_) := hT
  refine cany2y 0 7 (by kernel_rfl) (by unfold ops6 getOps6; exact rfl) (by unfold ops6 getOps6; exact rfl) ?_ ?_
  · simp [*, appendV, srcCells, St.forget, scr, scrC, usesC, usesA, setsV, -List.map_map, -oneV]
    refine U11141 hr.out hT.out _ ?_
    simp [*, R6.X, St6, r6B, r6Z, r6O, r6S, r6Y, St.forget, scr, scrC, usesC, usesA, -List.map_map]
  · simp [*, appendV, srcCells, St.forget, scr, scrC, usesC, usesA, setsV, -List.map_map, -oneV]
    refine U10143 hr.out hT.out _ ?_
    simp [*, R6.X, St6, r6B, r6Z, r6O, r6S, r6Y, St.forget, scr, scrC, usesC, usesA, -List.map_map]
theorem U00116 {r : R6} {K : St → Prop} (hr : R6ok r K) (hT : TabOK Try.prog (tab6 r)) : ∀ t : St, St6 r 0 0 1 1 6 t → cAnyY (tab6 r) ops6 63 K 7 #[false, true, true, false, false, false, true, true, true, true, false, false, false] t := by
  rintro ⟨e, h⟩ q
  simp [R6.X, St6, r6B, r6Z, r6O, r6S, r6Y] at q
  obtain ⟨hF, hg, hj, e1, e2, l1, l2, c1, c2, s1, s2, o1, o2, f1, f2, x1, x2, x3, v3, v4, v5, v6, v7, v8, v9, v1, v2, ch, hK⟩ := id hr
  replace hr : Hid (_) := hr
  replace hT : Hid (_) := hT
  refine cany2y 0 3 (by kernel_rfl) (by unfold ops6 getOps6; exact rfl) (by unfold ops6 getOps6; exact rfl) ?_ ?_
  · simp [*, appendV, srcCells, St.forget, scr, scrC, usesC, usesA, setsV, -List.map_map, -oneV]
    refine U01116 hr.out hT.out _ ?_
    simp [*, R6.X, St6, r6B, r6Z, r6O, r6S, r6Y, St.forget, scr, scrC, usesC, usesA, -List.map_map]
  · simp [*, appendV, srcCells, St.forget, scr, scrC, usesC, usesA, setsV, -List.map_map, -oneV]
    refine U00136 hr.out hT.out _ ?_
    simp [*, R6.X, St6, r6B, r6Z, r6O, r6S, r6Y, St.forget, scr, scrC, usesC, usesA, -List.map_map]
theorem U00045 {r : R6} {K : St → Prop} (hr : R6ok r K) (hT : TabOK Try.prog (tab6 r)) : ∀ t : St, St6 r 0 0 0 4 5 t → cAnyY (tab6 r) ops6 63 K 7 #[false, false, true, true, true, false, true, true, true, false, false, false, false] t := by
  rintro ⟨e, h⟩ q
  simp [R6.X, St6, r6B, r6Z, r6O, r6S, r6Y] at q
  obtain ⟨hF, hg, hj, e1, e2, l1, l2, c1, c2, s1, s2, o1, o2, f1, f2, x1, x2, x3, v3, v4, v5, v6, v7, v8, v9, v1, v2, ch, hK⟩ := id hr
  replace hr : Hid (_) := hr
  replace hT : Hid (_) := hT
  refine cany3y 0 1 9 (by kernel_rfl) (by unfold ops6 getOps6; exact rfl) (by unfold ops6 getOps6; exact rfl) (by unfold ops6 getOps6; exact rfl) ?_ ?_ ?_
  · simp [*, appendV, srcCells, St.forget, scr, scrC, usesC, usesA, setsV, -List.map_map, -oneV]
    refine U01045 hr.out hT.out _ ?_
    simp [*, R6.X, St6, r6B, r6Z, r6O, r6S, r6Y, St.forget, scr, scrC, usesC, usesA, -List.map_map]
  · simp [*, appendV, srcCells, St.forget, scr, scrC, usesC, usesA, setsV, -List.map_map, -oneV]
    refine U00145 hr.out hT.out _ ?_
    simp [*, R6.X, St6, r6B, r6Z, r6O, r6S, r6Y, St.forget, scr, scrC, usesC, usesA, -List.map_map]
  · simp [*, appendV, srcCells, St.forget, scr, scrC, usesC, usesA, setsV, -List.map_map, -oneV]
    refine U00046 hr.out hT.out _ ?_
    simp [*, R6.X, St6, r6B, r6Z, r6O, r6S, r6Y, St.forget, scr, scrC, usesC, usesA, -List.map_map]
theorem U01115 {r : R6} {K : St → Prop} (hr : R6ok r K) (hT : TabOK Try.prog (tab6 r)) : ∀ t : St, St6 r 0 1 1 1 5 t → cAnyY (tab6 r) ops6 63 K 7 #[true, true, true, false, false, false, true, true, true, false, false, false, false] t := by
  rintro ⟨e, h⟩ q
  simp [R6.X, St6, r6B, r6Z, r6O, r6S, r6Y] at q
  obtain ⟨hF, hg, hj, e1, e2, l1, l2, c1, c2, s1, s2, o1, o2, f1, f2, x1, x2, x3, v3, v4, v5, v6, v7, v8, v9, v1, v2, ch, hK⟩ := id hr
  replace hr : Hid (_) := hr
  replace hT : Hid (_) := hT
  refine cany2y 3 9 (by kernel_rfl) (by unfold ops6 getOps6; exact rfl) (by unfold ops6 getOps6; exact rfl) ?_ ?_
  · simp [*, appendV, srcCells, St.forget, scr, scrC, usesC, usesA, setsV, -List.map_map, -oneV]
    refine U01135 hr.out hT.out _ ?_
    simp [*, R6.X, St6, r6B, r6Z, r6O, r6S, r6Y, St.forget, scr, scrC, usesC, usesA, -List.map_map]
  · simp [*, appendV, srcCells, St.forget, scr, scrC, usesC, usesA, setsV, -List.map_map, -oneV]
    refine U01116 hr.out hT.out _ ?_
    simp [*, R6.X, St6, r6B, r6Z, r6O, r6S, r6Y, St.forget, scr, scrC, usesC, usesA, -List.map_map]
theorem U00036 {r : R6} {K : St → Prop} (hr : R6ok r K) (hT : TabOK Try.prog (tab6 r)) : ∀ t : St, St6 r 0 0 0 3 6 t → cAnyY (tab6 r) ops6 63 K 7 #[false, false, true, true, false, false, true, true, true, true, false, false, false] t := by
  rintro ⟨e, h⟩ q
  simp [R6.X, St6, r6B, r6Z, r6O, r6S, r6Y] at q
  obtain ⟨hF, hg, hj, e1, e2, l1, l2, c1, c2, s1, s2, o1, o2, f1, f2, x1, x2, x3, v3, v4, v5, v6, v7, v8, v9, v1, v2, ch, hK⟩ := id hr
  replace hr : Hid (_) := hr
  replace hT : Hid (_) := hT
  refine cany3y 0 1 4 (by kernel_rfl) (by unfold ops6 getOps6; exact rfl) (by unfold ops6 getOps6; exact rfl) (by unfold ops6 getOps6; exact rfl) ?_ ?_ ?_
  · simp [*, appendV, srcCells, St.forget, scr, scrC, usesC, usesA, setsV, -List.map_map, -oneV]
    refine U01036 hr.out hT.out _ ?_
    simp [*, R6.X, St6, r6B, r6Z, r6O, r6S, r6Y, St.forget, scr, scrC, usesC, usesA, -List.map_map]
  · simp [*, appendV, srcCells, St.forget, scr, scrC, usesC, usesA, setsV, -List.map_map, -oneV]
    refine U00136 hr.out hT.out _ ?_
    simp [*, R6.X, St6, r6B, r6Z, r6O, r6S, r6Y, St.forget, scr, scrC, usesC, usesA, -List.map_map]
  · simp [*, appendV, srcCells, St.forget, scr, scrC, usesC, usesA, setsV, -List.map_map, -oneV]
    refine U00046 hr.out hT.out _ ?_
    simp [*, R6.X, St6, r6B, r6Z, r6O, r6S, r6Y, St.forget, scr, scrC, usesC, usesA, -List.map_map]
theorem U01106 {r : R6} {K : St → Prop} (hr : R6ok r K) (hT : TabOK Try.prog (tab6 r)) : ∀ t : St, St6 r 0 1 1 0 6 t → cAnyY (tab6 r) ops6 63 K 7 #[true, true, false, false, false, false, true, true, true, true, false, false, false] t := by
  rintro ⟨e, h⟩ q
  simp [R6.X, St6, r6B, r6Z, r6O, r6S, r6Y] at q
  obtain ⟨hF, hg, hj, e1, e2, l1, l2, c1, c2, s1, s2, o1, o2, f1, f2, x1, x2, x3, v3, v4, v5, v6, v7, v8, v9, v1, v2, ch, hK⟩ := id hr
  replace hr : Hid (_) := hr
  replace hT : Hid (_) := hT
  refine cany2y 2 3 (by kernel_rfl) (by unfold ops6 getOps6; exact rfl) (by unfold ops6 getOps6; exact rfl) ?_ ?_
  · simp [*, appendV, srcCells, St.forget, scr, scrC, usesC, usesA, setsV, -List.map_map, -oneV]
    refine U01116 hr.out hT.out _ ?_
    simp [*, R6.X, St6, r6B, r6Z, r6O, r6S, r6Y, St.forget, scr, scrC, usesC, usesA, -List.map_map]
  · simp [*, appendV, srcCells, St.forget, scr, scrC, usesC, usesA, setsV, -List.map_map, -oneV]
    refine U01126 hr.out hT.out _ ?_
    simp [*, R6.X, St6, r6B, r6Z, r6O, r6S, r6Y, St.forget, scr, scrC, usesC, usesA, -List.map_map]
theorem U00144 {r : R6} {K : St → Prop} (hr : R6ok r K) (hT : TabOK Try.prog (tab6 r)) : ∀ t : St, St6 r 0 0 1 4 4 t → cAnyY (tab6 r) ops6 63 K 7 #[false, true, true, true, true, false, false, true, true, false, false, false, false] t := by
  rintro ⟨e, h⟩ q
  simp [R6.X, St6, r6B, r6Z, r6O, r6S, r6Y] at q
  obtain ⟨hF, hg, hj, e1, e2, l1, l2, c1, c2, s1, s2, o1, o2, f1, f2, x1, x2, x3, v3, v4, v5, v6, v7, v8, v9, v1, v2, ch, hK⟩ := id hr
  replace hr : Hid (_) := hr
  replace hT : Hid (_) := hT
  refine cany3y 0 5 6 (by kernel_rfl) (by unfold ops6 getOps6; exact rfl) (by unfold ops6 getOps6; exact rfl) (by unfold ops6 getOps6; exact rfl) ?_ ?_ ?_
  · simp [*, appendV, srcCells, St.forget, scr, scrC, usesC, usesA, setsV, -List.map_map, -oneV]
    refine U01144 hr.out hT.out _ ?_
    simp [*, R6.X, St6, r6B, r6Z, r6O, r6S, r6Y, St.forget, scr, scrC, usesC, usesA, -List.map_map]
  · simp [*, appendV, srcCells, St.forget, scr, scrC, usesC, usesA, setsV, -List.map_map, -oneV]
    refine U10144 hr.out hT.out _ ?_
    simp [*, R6.X, St6, r6B, r6Z, r6O, r6S, r6Y, St.forget, scr, scrC, usesC, usesA, -List.map_map]
  · simp [*, appendV, srcCells, St.forget, scr, scrC, usesC, usesA, setsV, -List.map_map, -oneV]
    refine U00145 hr.out hT.out _ ?_
    simp [*, R6.X, St6, r6B, r6Z, r6O, r6S, r6Y, St.forget, scr, scrC, usesC, usesA, -List.map_map]
theorem U11140 {r : R6} {K : St → Prop} (hr : R6ok r K) (hT : TabOK Try.prog (tab6 r)) : ∀ t : St, St6 r 1 1 1 4 0 t → cAnyY (tab6 r) ops6 63 K 7 #[true, true, true, true, true, true, false, false, false, false, false, false, false] t := by
  rintro ⟨e, h⟩ q
  simp [R6.X, St6, r6B, r6Z, r6O, r6S, r6Y] at q
  obtain ⟨hF, hg, hj, e1, e2, l1, l2, c1, c2, s1, s2, o1, o2, f1, f2, x1, x2, x3, v3, v4, v5, v6, v7, v8, v9, v1, v2, ch, hK⟩ := id hr
  replace hr : Hid (_) := hr
  replace hT : Hid (_) := hT
  refine cany2y 6 7 (by kernel_rfl) (by unfold ops6 getOps6; exact rfl) (by unfold ops6 getOps6; exact rfl) ?_ ?_
  · simp [*, appendV, srcCells, St.forget, scr, scrC, usesC, usesA, setsV, -List.map_map, -oneV]
    refine U11141 hr.out hT.out _ ?_
    simp [*, R6.X, St6, r6B, r6Z, r6O, r6S, r6Y, St.forget, scr, scrC, usesC, usesA, -List.map_map]
  · simp [*, appendV, srcCells, St.forget, scr, scrC, usesC, usesA, setsV, -List.map_map, -oneV]
    refine U11142 hr.out hT.out _ ?_
    simp [*, R6.X, St6, r6B, r6Z, r6O, r6S, r6Y, St.forget, scr, scrC, usesC, usesA, -List.map_map]
theorem U01043 {r : R6} {K : St → Prop} (hr : R6ok r K) (hT : TabOK Try.prog (tab6 r)) : ∀ t : St, St6 r 0 1 0 4 3 t → cAnyY (tab6 r) ops6 63 K 7 #[true, false, true, true, true, false, true, true, false, false, false, false, false] t := by
  rintro ⟨e, h⟩ q
  simp [R6.X, St6, r6B, r6Z, r6O, r6S, r6Y] at q
  obtain ⟨hF, hg, hj, e1, e2, l1, l2, c1, c2, s1, s2, o1, o2, f1, f2, x1, x2, x3, v3, v4, v5, v6, v7, v8, v9, v1, v2, ch, hK⟩ := id hr
  replace hr : Hid (_) := hr
  replace hT : Hid (_) := hT
  refine cany2y 1 8 (by kernel_rfl) (by unfold ops6 getOps6; exact rfl) (by unfold ops6 getOps6; exact rfl) ?_ ?_
  · simp [*, appendV, srcCells, St.forget, scr, scrC, usesC, usesA, setsV, -List.map_map, -oneV]
    refine U01143 hr.out hT.out _ ?_
    simp [*, R6.X, St6, r6B, r6Z, r6O, r6S, r6Y, St.forget, scr, scrC, usesC, usesA, -List.map_map]
  · simp [*, appendV, srcCells, St.forget, scr, scrC, usesC, usesA, setsV, -List.map_map, -oneV]
    refine U01045 hr.out hT.out _ ?_
    simp [*, R6.X, St6, r6B, r6Z, r6O, r6S, r6Y, St.forget, scr, scrC, usesC, usesA, -List.map_map]
theorem U01141 {r : R6} {K : St → Prop} (hr : R6ok r K) (hT : TabOK Try.prog (tab6 r)) : ∀ t : St, St6 r 0 1 1 4 1 t → cAnyY (tab6 r) ops6 63 K 7 #[true, true, true, true, true, false, true, false, false, false, false, false, false] t := by
  rintro ⟨e, h⟩ q
  simp [R6.X, St6, r6B, r6Z, r6O, r6S, r6Y] at q
  obtain ⟨hF, hg, hj, e1, e2, l1, l2, c1, c2, s1, s2, o1, o2, f1, f2, x1, x2, x3, v3, v4, v5, v6, v7, v8, v9, v1, v2, ch, hK⟩ := id hr
  replace hr : Hid (_) := hr
  replace hT : Hid (_) := hT
  refine cany2y 5 7 (by kernel_rfl) (by unfold ops6 getOps6; exact rfl) (by unfold ops6 getOps6; exact rfl) ?_ ?_
  · simp [*, appendV, srcCells, St.forget, scr, scrC, usesC, usesA, setsV, -List.map_map, -oneV]
    refine U11141 hr.out hT.out _ ?_
    simp [*, R6.X, St6, r6B, r6Z, r6O, r6S, r6Y, St.forget, scr, scrC, usesC, usesA, -List.map_map]
  · simp [*, appendV, srcCells, St.forget, scr, scrC, usesC, usesA, setsV, -List.map_map, -oneV]
    refine U01143 hr.out hT.out _ ?_
    simp [*, R6.X, St6, r6B, r6Z, r6O, r6S, r6Y, St.forget, scr, scrC, usesC, usesA, -List.map_map]
theorem U00135 {r : R6} {K : St → Prop} (hr : R6ok r K) (hT : TabOK Try.prog (tab6 r)) : ∀ t : St, St6 r 0 0 1 3 5 t → cAnyY (tab6 r) ops6 63 K 7 #[false, true, true, true, false, false, true, true, true, false, false, false, false] t := by
  rintro ⟨e, h⟩ q
  simp [R6.X, St6, r6B, r6Z, r6O, r6S, r6Y] at q
  obtain ⟨hF, hg, hj, e1, e2, l1, l2, c1, c2, s1, s2, o1, o2, f1, f2, x1, x2, x3, v3, v4, v5, v6, v7, v8, v9, v1, v2, ch, hK⟩ := id hr
  replace hr : Hid (_) := hr
  replace hT : Hid (_) := hT
  refine cany3y 0 4 9 (by kernel_rfl) (by unfold ops6 getOps6; exact rfl) (by unfold ops6 getOps6; exact rfl) (by unfold ops6 getOps6; exact rfl) ?_ ?_ ?_
  · simp [*, appendV, srcCells, St.forget, scr, scrC, usesC, usesA, setsV, -List.map_map, -oneV]
    refine U01135 hr.out hT.out _ ?_
    simp [*, R6.X, St6, r6B, r6Z, r6O, r6S, r6Y, St.forget, scr, scrC, usesC, usesA, -List.map_map]
  · simp [*, appendV, srcCells, St.forget, scr, scrC, usesC, usesA, setsV, -List.map_map, -oneV]
    refine U00145 hr.out hT.out _ ?_
    simp [*, R6.X, St6, r6B, r6Z, r6O, r6S, r6Y, St.forget, scr, scrC, usesC, usesA, -List.map_map]
  · simp [*, appendV, srcCells, St.forget, scr, scrC, usesC, usesA, setsV, -List.map_map, -oneV]
    refine U00136 hr.out hT.out _ ?_
    simp [*, R6.X, St6, r6B, r6Z, r6O, r6S, r6Y, St.forget, scr, scrC, usesC, usesA, -List.map_map]
theorem U10142 {r : R6} {K : St → Prop} (hr : R6ok r K) (hT : TabOK Try.prog (tab6 r)) : ∀ t : St, St6 r 1 0 1 4 2 t → cAnyY (tab6 r) ops6 63 K 7 #[false, true, true, true, true, true, false, true, false, false, false, false, false] t := by
  rintro ⟨e, h⟩ q
  simp [R6.X, St6, r6B, r6Z, r6O, r6S, r6Y] at q
  obtain ⟨hF, hg, hj, e1, e2, l1, l2, c1, c2, s1, s2, o1, o2, f1, f2, x1, x2, x3, v3, v4, v5, v6, v7, v8, v9, v1, v2, ch, hK⟩ := id hr
  replace hr : Hid (_) := hr
  replace hT : Hid (_) := hT
  refine cany3y 0 6 8 (by kernel_rfl) (by unfold ops6 getOps6; exact rfl) (by unfold ops6 getOps6; exact rfl) (by unfold ops6 getOps6; exact rfl) ?_ ?_ ?_
  · simp [*, appendV, srcCells, St.forget, scr, scrC, usesC, usesA, setsV, -List.map_map, -oneV]
    refine U11142 hr.out hT.out _ ?_
    simp [*, R6.X, St6, r6B, r6Z, r6O, r6S, r6Y, St.forget, scr, scrC, usesC, usesA, -List.map_map]
  · simp [*, appendV, srcCells, St.forget, scr, scrC, usesC, usesA, setsV, -List.map_map, -oneV]
    refine U10143 hr.out hT.out _ ?_
    simp [*, R6.X, St6, r6B, r6Z, r6O, r6S, r6Y, St.forget, scr, scrC, usesC, usesA, -List.map_map]
  · simp [*, appendV, srcCells, St.forget, scr, scrC, usesC, usesA, setsV, -List.map_map, -oneV]
    refine U10144 hr.out hT.out _ ?_
    simp [*, R6.X, St6, r6B, r6Z, r6O, r6S, r6Y, St.forget, scr, scrC, usesC, usesA, -List.map_map]
theorem U01134 {r : R6} {K : St → Prop} (hr : R6ok r K) (hT : TabOK Try.prog (tab6 r)) : ∀ t : St, St6 r 0 1 1 3 4 t → cAnyY (tab6 r) ops6 63 K 7 #[true, true, true, true, false, false, false, true, true, false, false, false, false] t := by
  rintro ⟨e, h⟩ q
  simp [R6.X, St6, r6B, r6Z, r6O, r6S, r6Y] at q
  obtain ⟨hF, hg, hj, e1, e2, l1, l2, c1, c2, s1, s2, o1, o2, f1, f2, x1, x2, x3, v3, v4, v5, v6, v7, v8, v9, v1, v2, ch, hK⟩ := id hr
  replace hr : Hid (_) := hr
  replace hT : Hid (_) := hT
  refine cany2y 4 6 (by kernel_rfl) (by unfold ops6 getOps6; exact rfl) (by unfold ops6 getOps6; exact rfl) ?_ ?_
  · simp [*, appendV, srcCells, St.forget, scr, scrC, usesC, usesA, setsV, -List.map_map, -oneV]
    refine U01144 hr.out hT.out _ ?_
    simp [*, R6.X, St6, r6B, r6Z, r6O, r6S, r6Y, St.forget, scr, scrC, usesC, usesA, -List.map_map]
  · simp [*, appendV, srcCells, St.forget, scr, scrC, usesC, usesA, setsV, -List.map_map, -oneV]
    refine U01135 hr.out hT.out _ ?_
    simp [*, R6.X, St6, r6B, r6Z, r6O, r6S, r6Y, St.forget, scr, scrC, usesC, usesA, -List.map_map]
theorem U00126 {r : R6} {K : St → Prop} (hr : R6ok r K) (hT : TabOK Try.prog (tab6 r)) : ∀ t : St, St6 r 0 0 1 2 6 t → cAnyY (tab6 r) ops6 63 K 7 #[false, true, false, true, false, false, true, true, true, true, false, false, false] t := by
  rintro ⟨e, h⟩ q
  simp [R6.X, St6, r6B, r6Z, r6O, r6S, r6Y] at q
  obtain ⟨hF, hg, hj, e1, e2, l1, l2, c1, c2, s1, s2, o1, o2, f1, f2, x1, x2, x3, v3, v4, v5, v6, v7, v8, v9, v1, v2, ch, hK⟩ := id hr
  replace hr : Hid (_) := hr
  replace hT : Hid (_) := hT
  refine cany2y 0 2 (by kernel_rfl) (by unfold ops6 getOps6; exact rfl) (by unfold ops6 getOps6; exact rfl) ?_ ?_
  · simp [*, appendV, srcCells, St.forget, scr, scrC, usesC, usesA, setsV, -List.map_map, -oneV]
    refine U01126 hr.out hT.out _ ?_
    simp [*, R6.X, St6, r6B, r6Z, r6O, r6S, r6Y, St.forget, scr, scrC, usesC, usesA, -List.map_map]
  · simp [*, appendV, srcCells, St.forget, scr, scrC, usesC, usesA, setsV, -List.map_map, -oneV]
    refine U00136 hr.out hT.out _ ?_
    simp [*, R6.X, St6, r6B, r6Z, r6O, r6S, r6Y, St.forget, scr, scrC, usesC, usesA, -List.map_map]
theorem U00143 {r : R6} {K : St → Prop} (hr : R6ok r K) (hT : TabOK Try.prog (tab6 r)) : ∀ t : St, St6 r 0 0 1 4 3 t → cAnyY (tab6 r) ops6 63 K 7 #[false, true, true, true, true, false, true, true, false, false, false, false, false] t := by
  rintro ⟨e, h⟩ q
  simp [R6.X, St6, r6B, r6Z, r6O, r6S, r6Y] at q
  obtain ⟨hF, hg, hj, e1, e2, l1, l2, c1, c2, s1, s2, o1, o2, f1, f2, x1, x2, x3, v3, v4, v5, v6, v7, v8, v9, v1, v2, ch, hK⟩ := id hr
  replace hr : Hid (_) := hr
  replace hT : Hid (_) := hT
  refine cany3y 0 5 8 (by kernel_rfl) (by unfold ops6 getOps6; exact rfl) (by unfold ops6 getOps6; exact rfl) (by unfold ops6 getOps6; exact rfl) ?_ ?_ ?_
  · simp [*, appendV, srcCells, St.forget, scr, scrC, usesC, usesA, setsV, -List.map_map, -oneV]
    refine U01143 hr.out hT.out _ ?_
    simp [*, R6.X, St6, r6B, r6Z, r6O, r6S, r6Y, St.forget, scr, scrC, usesC, usesA, -List.map_map]
  · simp [*, appendV, srcCells, St.forget, scr, scrC, usesC, usesA, setsV, -List.map_map, -oneV]
    refine U10143 hr.out hT.out _ ?_
    simp [*, R6.X, St6, r6B, r6Z, r6O, r6S, r6Y, St.forget, scr, scrC, usesC, usesA, -List.map_map]
  · simp [*, appendV, srcCells, St.forget, scr, scrC, usesC, usesA, setsV, -List.map_map, -oneV]
    refine U00145 hr.out hT.out _ ?_
    simp [*, R6.X, St6, r6B, r6Z, r6O, r6S, r6Y, St.forget, scr, scrC, usesC, usesA, -List.map_map]
theorem U01016 {r : R6} {K : St → Prop} (hr : R6ok r K) (hT : TabOK Try.prog (tab6 r)) : ∀ t : St, St6 r 0 1 0 1 6 t → cAnyY (tab6 r) ops6 63 K 7 #[true, false, true, false, false, false, true, true, true, true, false, false, false] t := by
  rintro ⟨e, h⟩ q
  simp [R6.X, St6, r6B, r6Z, r6O, r6S, r6Y] at q
  obtain ⟨hF, hg, hj, e1, e2, l1, l2, c1, c2, s1, s2, o1, o2, f1, f2, x1, x2, x3, v3, v4, v5, v6, v7, v8, v9, v1, v2, ch, hK⟩ := id hr
  replace hr : Hid (_) := hr
  replace hT : Hid (_) := hT
  refine cany2y 1 3 (by kernel_rfl) (by unfold ops6 getOps6; exact rfl) (by unfold ops6 getOps6; exact rfl) ?_ ?_
  · simp [*, appendV, srcCells, St.forget, scr, scrC, usesC, usesA, setsV, -List.map_map, -oneV]
    refine U01116 hr.out hT.out _ ?_
    simp [*, R6.X, St6, r6B, r6Z, r6O, r6S, r6Y, St.forget, scr, scrC, usesC, usesA, -List.map_map]
  · simp [*, appendV, srcCells, St.forget, scr, scrC, usesC, usesA, setsV, -List.map_map, -oneV]
    refine U01036 hr.out hT.out _ ?_
    simp [*, R6.X, St6, r6B, r6Z, r6O, r6S, r6Y, St.forget, scr, scrC, usesC, usesA, -List.map_map]
theorem U01125 {r : R6} {K : St → Prop} (hr : R6ok r K) (hT : TabOK Try.prog (tab6 r)) : ∀ t : St, St6 r 0 1 1 2 5 t → cAnyY (tab6 r) ops6 63 K 7 #[true, true, false, true, false, false, true, true, true, false, false, false, false] t := by
  rintro ⟨e, h⟩ q
  simp [R6.X, St6, r6B, r6Z, r6O, r6S, r6Y] at q
  obtain ⟨hF, hg, hj, e1, e2, l1, l2, c1, c2, s1, s2, o1, o2, f1, f2, x1, x2, x3, v3, v4, v5, v6, v7, v8, v9, v1, v2, ch, hK⟩ := id hr
  replace hr : Hid (_) := hr
  replace hT : Hid (_) := hT
  refine cany2y 2 9 (by kernel_rfl) (by unfold ops6 getOps6; exact rfl) (by unfold ops6 getOps6; exact rfl) ?_ ?_
  · simp [*, appendV, srcCells, St.forget, scr, scrC, usesC, usesA, setsV, -List.map_map, -oneV]
    refine U01135 hr.out hT.out _ ?_
    simp [*, R6.X, St6, r6B, r6Z, r6O, r6S, r6Y, St.forget, scr, scrC, usesC, usesA, -List.map_map]
  · simp [*, appendV, srcCells, St.forget, scr, scrC, usesC, usesA, setsV, -List.map_map, -oneV]
    refine U01126 hr.out hT.out _ ?_
    simp [*, R6.X, St6, r6B, r6Z, r6O, r6S, r6Y, St.forget, scr, scrC, usesC, usesA, -List.map_map]
theorem U01142 {r : R6} {K : St → Prop} (hr : R6ok r K) (hT : TabOK Try.prog (tab6 r)) : ∀ t : St, St6 r 0 1 1 4 2 t → cAnyY (tab6 r) ops6 63 K 7 #[true, true, true, true, true, false, false, true, false, false, false, false, false] t := by
  rintro ⟨e, h⟩ q
  simp [R6.X, St6, r6B, r6Z, r6O, r6S, r6Y] at q
  obtain ⟨hF, hg, hj, e1, e2, l1, l2, c1, c2, s1, s2, o1, o2, f1, f2, x1, x2, x3, v3, v4, v5, v6, v7, v8, v9, v1, v2, ch, hK⟩ := id hr
  replace hr : Hid (_) := hr
  replace hT : Hid (_) := hT
  refine cany3y 5 6 8 (by kernel_rfl) (by unfold ops6 getOps6; exact rfl) (by unfold ops6 getOps6; exact rfl) (by unfold ops6 getOps6; exact rfl) ?_ ?_ ?_
  · simp [*, appendV, srcCells, St.forget, scr, scrC, usesC, usesA, setsV, -List.map_map, -oneV]
    refine U11142 hr.out hT.out _ ?_
    simp [*, R6.X, St6, r6B, r6Z, r6O, r6S, r6Y, St.forget, scr, scrC, usesC, usesA, -List.map_map]
  · simp [*, appendV, srcCells, St.forget, scr, scrC, usesC, usesA, setsV, -List.map_map, -oneV]
    refine U01143 hr.out hT.out _ ?_
    simp [*, R6.X, St6, r6B, r6Z, r6O, r6S, r6Y, St.forget, scr, scrC, usesC, usesA, -List.map_map]
  · simp [*, appendV, srcCells, St.forget, scr, scrC, usesC, usesA, setsV, -List.map_map, -oneV]
    refine U01144 hr.out hT.out _ ?_
    simp [*, R6.X, St6, r6B, r6Z, r6O, r6S, r6Y, St.forget, scr, scrC, usesC, usesA, -List.map_map]
theorem U01133 {r : R6} {K : St → Prop} (hr : R6ok r K) (hT : TabOK Try.prog (tab6 r)) : ∀ t : St, St6 r 0 1 1 3 3 t → cAnyY (tab6 r) ops6 63 K 7 #[true, true, true, true, false, false, true, true, false, false, false, false, false] t := by
  rintro ⟨e, h⟩ q
  simp [R6.X, St6, r6B, r6Z, r6O, r6S, r6Y] at q
  obtain ⟨hF, hg, hj, e1, e2, l1, l2, c1, c2, s1, s2, o1, o2, f1, f2, x1, x2, x3, v3, v4, v5, v6, v7, v8, v9, v1, v2, ch, hK⟩ := id hr
  replace hr : Hid (_) := hr
  replace hT : Hid (_) := hT
  refine cany2y 4 8 (by kernel_rfl) (by unfold ops6 getOps6; exact rfl) (by unfold ops6 getOps6; exact rfl) ?_ ?_
  · simp [*, appendV, srcCells, St.forget, scr, scrC, usesC, usesA, setsV, -List.map_map, -oneV]
    refine U01143 hr.out hT.out _ ?_
    simp [*, R6.X, St6, r6B, r6Z, r6O, r6S, r6Y, St.forget, scr, scrC, usesC, usesA, -List.map_map]
  · simp [*, appendV, srcCells, St.forget, scr, scrC, usesC, usesA, setsV, -List.map_map, -oneV]
    refine U01135 hr.out hT.out _ ?_
    simp [*, R6.X, St6, r6B, r6Z, r6O, r6S, r6Y, St.forget, scr, scrC, usesC, usesA, -List.map_map]
theorem U01006 {r : R6} {K : St → Prop} (hr : R6ok r K) (hT : TabOK Try.prog (tab6 r)) : ∀ t : St, St6 r 0 1 0 0 6 t → cAnyY (tab6 r) ops6 63 K 8 #[true, false, false, false, false, false, true, true, true, true, false, false, false] t := by
  rintro ⟨e, h⟩ q
  simp [R6.X, St6, r6B, r6Z, r6O, r6S, r6Y] at q
  obtain ⟨hF, hg, hj, e1, e2, l1, l2, c1, c2, s1, s2, o1, o2, f1, f2, x1, x2, x3, v3, v4, v5, v6, v7, v8, v9, v1, v2, ch, hK⟩ := id hr
  replace hr : Hid (_) := hr
  replace hT : Hid (_) := hT
  refine cany3y 1 2 3 (by kernel_rfl) (by unfold ops6 getOps6; exact rfl) (by unfold ops6 getOps6; exact rfl) (by unfold ops6 getOps6; exact rfl) ?_ ?_ ?_
  · simp [*, appendV, srcCells, St.forget, scr, scrC, usesC, usesA, setsV, -List.map_map, -oneV]
    refine U01106 hr.out hT.out _ ?_
    simp [*, R6.X, St6, r6B, r6Z, r6O, r6S, r6Y, St.forget, scr, scrC, usesC, usesA, -List.map_map]
  · simp [*, appendV, srcCells, St.forget, scr, scrC, usesC, usesA, setsV, -List.map_map, -oneV]
    refine U01016 hr.out hT.out _ ?_
    simp [*, R6.X, St6, r6B, r6Z, r6O, r6S, r6Y, St.forget, scr, scrC, usesC, usesA, -List.map_map]
  · simp [*, appendV, srcCells, St.forget, scr, scrC, usesC, usesA, setsV, -List.map_map, -oneV]
    refine U01026 hr.out hT.out _ ?_
    simp [*, R6.X, St6, r6B, r6Z, r6O, r6S, r6Y, St.forget, scr, scrC, usesC, usesA, -List.map_map]
theorem U00043 {r : R6} {K : St → Prop} (hr : R6ok r K) (hT : TabOK Try.prog (tab6 r)) : ∀ t : St, St6 r 0 0 0 4 3 t → cAnyY (tab6 r) ops6 63 K 8 #[false, false, true, true, true, false, true, true, false, false, false, false, false] t := by
  rintro ⟨e, h⟩ q
  simp [R6.X, St6, r6B, r6Z, r6O, r6S, r6Y] at q
  obtain ⟨hF, hg, hj, e1, e2, l1, l2, c1, c2, s1, s2, o1, o2, f1, f2, x1, x2, x3, v3, v4, v5, v6, v7, v8, v9, v1, v2, ch, hK⟩ := id hr
  replace hr : Hid (_) := hr
  replace hT : Hid (_) := hT
  refine cany3y 0 1 8 (by kernel_rfl) (by unfold ops6 getOps6; exact rfl) (by unfold ops6 getOps6; exact rfl) (by unfold ops6 getOps6; exact rfl) ?_ ?_ ?_
  · simp [*, appendV, srcCells, St.forget, scr, scrC, usesC, usesA, setsV, -List.map_map, -oneV]
    refine U01043 hr.out hT.out _ ?_
    simp [*, R6.X, St6, r6B, r6Z, r6O, r6S, r6Y, St.forget, scr, scrC, usesC, usesA, -List.map_map]
  · simp [*, appendV, srcCells, St.forget, scr, scrC, usesC, usesA, setsV, -List.map_map, -oneV]
    refine U00143 hr.out hT.out _ ?_
    simp [*, R6.X, St6, r6B, r6Z, r6O, r6S, r6Y, St.forget, scr, scrC, usesC, usesA, -List.map_map]
  · simp [*, appendV, srcCells, St.forget, scr, scrC, usesC, usesA, setsV, -List.map_map, -oneV]
    refine U00045 hr.out hT.out _ ?_
    simp [*, R6.X, St6, r6B, r6Z, r6O, r6S, r6Y, St.forget, scr, scrC, usesC, usesA, -List.map_map]
theorem U00134 {r : R6} {K : St → Prop} (hr : R6ok r K) (hT : TabOK Try.prog (tab6 r)) : ∀ t : St, St6 r 0 0 1 3 4 t → cAnyY (tab6 r) ops6 63 K 8 #[false, true, true, true, false, false, false, true, true, false, false, false, false] t := by
  rintro ⟨e, h⟩ q
  simp [R6.X, St6, r6B, r6Z, r6O, r6S, r6Y] at q
  obtain ⟨hF, hg, hj, e1, e2, l1, l2, c1, c2, s1, s2, o1, o2, f1, f2, x1, x2, x3, v3, v4, v5, v6, v7, v8, v9, v1, v2, ch, hK⟩ := id hr
  replace hr : Hid (_) := hr
  replace hT : Hid (_) := hT
  refine cany3y 0 4 6 (by kernel_rfl) (by unfold ops6 getOps6; exact rfl) (by unfold ops6 getOps6; exact rfl) (by unfold ops6 getOps6; exact rfl) ?_ ?_ ?_
  · simp [*, appendV, srcCells, St.forget, scr, scrC, usesC, usesA, setsV, -List.map_map, -oneV]
    refine U01134 hr.out hT.out _ ?_
    simp [*, R6.X, St6, r6B, r6Z, r6O, r6S, r6Y, St.forget, scr, scrC, usesC, usesA, -List.map_map]
  · simp [*, appendV, srcCells, St.forget, scr, scrC, usesC, usesA, setsV, -List.map_map, -oneV]
    refine U00144 hr.out hT.out _ ?_
    simp [*, R6.X, St6, r6B, r6Z, r6O, r6S, r6Y, St.forget, scr, scrC, usesC, usesA, -List.map_map]
  · simp [*, appendV, srcCells, St.forget, scr, scrC, usesC, usesA, setsV, -List.map_map, -oneV]
    refine U00135 hr.out hT.out _ ?_
    simp [*, R6.X, St6, r6B, r6Z, r6O, r6S, r6Y, St.forget, scr, scrC, usesC, usesA, -List.map_map]
theorem U01113 {r : R6} {K : St → Prop} (hr : R6ok r K) (hT : TabOK Try.prog (tab6 r)) : ∀ t : St, St6 r 0 1 1 1 3 t → cAnyY (tab6 r) ops6 63 K 8 #[true, true, true, false, false, false, true, true, false, false, false, false, false] t := by
  rintro ⟨e, h⟩ q
  simp [R6.X, St6, r6B, r6Z, r6O, r6S, r6Y] at q
  obtain ⟨hF, hg, hj, e1, e2, l1, l2, c1, c2, s1, s2, o1, o2, f1, f2, x1, x2, x3, v3, v4, v5, v6, v7, v8, v9, v1, v2, ch, hK⟩ := id hr
  replace hr : Hid (_) := hr
  replace hT : Hid (_) := hT
  refine cany2y 3 8 (by kernel_rfl) (by unfold ops6 getOps6; exact rfl) (by unfold ops6 getOps6; exact rfl) ?_ ?_
  · simp [*, appendV, srcCells, St.forget, scr, scrC, usesC, usesA, setsV, -List.map_map, -oneV]
    refine U01133 hr.out hT.out _ ?_
    simp [*, R6.X, St6, r6B, r6Z, r6O, r6S, r6Y, St.forget, scr, scrC, usesC, usesA, -List.map_map]
  · simp [*, appendV, srcCells, St.forget, scr, scrC, usesC, usesA, setsV, -List.map_map, -oneV]
    refine U01115 hr.out hT.out _ ?_
    simp [*, R6.X, St6, r6B, r6Z, r6O, r6S, r6Y, St.forget, scr, scrC, usesC, usesA, -List.map_map]
theorem U00125 {r : R6} {K : St → Prop} (hr : R6ok r K) (hT : TabOK Try.prog (tab6 r)) : ∀ t : St, St6 r 0 0 1 2 5 t → cAnyY (tab6 r) ops6 63 K 8 #[false, true, false, true, false, false, true, true, true, false, false, false, false] t := by
  rintro ⟨e, h⟩ q
  simp [R6.X, St6, r6B, r6Z, r6O, r6S, r6Y] at q
  obtain ⟨hF, hg, hj, e1, e2, l1, l2, c1, c2, s1, s2, o1, o2, f1, f2, x1, x2, x3, v3, v4, v5, v6, v7, v8, v9, v1, v2, ch, hK⟩ := id hr
  replace hr : Hid (_) := hr
  replace hT : Hid (_) := hT
  refine cany3y 0 2 9 (by kernel_rfl) (by unfold ops6 getOps6; exact rfl) (by unfold ops6 getOps6; exact rfl) (by unfold ops6 getOps6; exact rfl) ?_ ?_ ?_
  · simp [*, appendV, srcCells, St.forget, scr, scrC, usesC, usesA, setsV, -List.map_map, -oneV]
    refine U01125 hr.out hT.out _ ?_
    simp [*, R6.X, St6, r6B, r6Z, r6O, r6S, r6Y, St.forget, scr, scrC, usesC, usesA, -List.map_map]
  · simp [*, appendV, srcCells, St.forget, scr, scrC, usesC, usesA, setsV, -List.map_map, -oneV]
    refine U00135 hr.out hT.out _ ?_
    simp [*, R6.X, St6, r6B, r6Z, r6O, r6S, r6Y, St.forget, scr, scrC, usesC, usesA, -List.map_map]
  · simp [*, appendV, srcCells, St.forget, scr, scrC, usesC, usesA, setsV, -List.map_map, -oneV]
    refine U00126 hr.out hT.out _ ?_
    simp [*, R6.X, St6, r6B, r6Z, r6O, r6S, r6Y, St.forget, scr, scrC, usesC, usesA, -List.map_map]
theorem U00142 {r : R6} {K : St → Prop} (hr : R6ok r K) (hT : TabOK Try.prog (tab6 r)) : ∀ t : St, St6 r 0 0 1 4 2 t → cAnyY (tab6 r) ops6 63 K 8 #[false, true, true, true, true, false, false, true, false, false, false, false, false] t := by
  rintro ⟨e, h⟩ q
  simp [R6.X, St6, r6B, r6Z, r6O, r6S, r6Y] at q
  obtain ⟨hF, hg, hj, e1, e2, l1, l2, c1, c2, s1, s2, o1, o2, f1, f2, x1, x2, x3, v3, v4, v5, v6, v7, v8, v9, v1, v2, ch, hK⟩ := id hr
  replace hr : Hid (_) := hr
  replace hT : Hid (_) := hT
  refine cany4y 0 5 6 8 (by kernel_rfl) (by unfold ops6 getOps6; exact rfl) (by unfold ops6 getOps6; exact rfl) (by unfold ops6 getOps6; exact rfl) (by unfold ops6 getOps6; exact rfl) ?_ ?_ ?_ ?_
  · simp [*, appendV, srcCells, St.forget, scr, scrC, usesC, usesA, setsV, -List.map_map, -oneV]
    refine U01142 hr.out hT.out _ ?_
    simp [*, R6.X, St6, r6B, r6Z, r6O, r6S, r6Y, St.forget, scr, scrC, usesC, usesA, -List.map_map]
  · simp [*, appendV, srcCells, St.forget, scr, scrC, usesC, usesA, setsV, -List.map_map, -oneV]
    refine U10142 hr.out hT.out _ ?_
    simp [*, R6.X, St6, r6B, r6Z, r6O, r6S, r6Y, St.forget, scr, scrC, usesC, usesA, -List.map_map]
  · simp [*, appendV, srcCells, St.forget, scr, scrC, usesC, usesA, setsV, -List.map_map, -oneV]
    refine U00143 hr.out hT.out _ ?_
    simp [*, R6.X, St6, r6B, r6Z, r6O, r6S, r6Y, St.forget, scr, scrC, usesC, usesA, -List.map_map]
  · simp [*, appendV, srcCells, St.forget, scr, scrC, usesC, usesA, setsV, -List.map_map, -oneV]
    refine U00144 hr.out hT.out _ ?_
    simp [*, R6.X, St6, r6B, r6Z, r6O, r6S, r6Y, St.forget, scr, scrC, usesC, usesA, -List.map_map]
theorem U00016 {r : R6} {K : St → Prop} (hr : R6ok r K) (hT : TabOK Try.prog (tab6 r)) : ∀ t : St, St6 r 0 0 0 1 6 t → cAnyY (tab6 r) ops6 63 K 8 #[false, false, true, false, false, false, true, true, true, true, false, false, false] t := by
  rintro ⟨e, h⟩ q
  simp [R6.X, St6, r6B, r6Z, r6O, r6S, r6Y] at q
  obtain ⟨hF, hg, hj, e1, e2, l1, l2, c1, c2, s1, s2, o1, o2, f1, f2, x1, x2, x3, v3, v4, v5, v6, v7, v8, v9, v1, v2, ch, hK⟩ := id hr
  replace hr : Hid (_) := hr
  replace hT : Hid (_) := hT
  refine cany3y 0 1 3 (by kernel_rfl) (by unfold ops6 getOps6; exact rfl) (by unfold ops6 getOps6; exact rfl) (by unfold ops6 getOps6; exact rfl) ?_ ?_ ?_
  · simp [*, appendV, srcCells, St.forget, scr, scrC, usesC, usesA, setsV, -List.map_map, -oneV]
    refine U01016 hr.out hT.out _ ?_
    simp [*, R6.X, St6, r6B, r6Z, r6O, r6S, r6Y, St.forget, scr, scrC, usesC, usesA, -List.map_map]
  · simp [*, appendV, srcCells, St.forget, scr, scrC, usesC, usesA, setsV, -List.map_map, -oneV]
    refine U00116 hr.out hT.out _ ?_
    simp [*, R6.X, St6, r6B, r6Z, r6O, r6S, r6Y, St.forget, scr, scrC, usesC, usesA, -List.map_map]
  · simp [*, appendV, srcCells, St.forget, scr, scrC, usesC, usesA, setsV, -List.map_map, -oneV]
    refine U00036 hr.out hT.out _ ?_
    simp [*, R6.X, St6, r6B, r6Z, r6O, r6S, r6Y, St.forget, scr, scrC, usesC, usesA, -List.map_map]
theorem U01132 {r : R6} {K : St → Prop} (hr : R6ok r K) (hT : TabOK Try.prog (tab6 r)) : ∀ t : St, St6 r 0 1 1 3 2 t → cAnyY (tab6 r) ops6 63 K 8 #[true, true, true, true, false, false, false, true, false, false, false, false, false] t := by
  rintro ⟨e, h⟩ q
  simp [R6.X, St6, r6B, r6Z, r6O, r6S, r6Y] at q
  obtain ⟨hF, hg, hj, e1, e2, l1, l2, c1, c2, s1, s2, o1, o2, f1, f2, x1, x2, x3, v3, v4, v5, v6, v7, v8, v9, v1, v2, ch, hK⟩ := id hr
  replace hr : Hid (_) := hr
  replace hT : Hid (_) := hT
  refine cany3y 4 6 8 (by kernel_rfl) (by unfold ops6 getOps6; exact rfl) (by unfold ops6 getOps6; exact rfl) (by unfold ops6 getOps6; exact rfl) ?_ ?_ ?_
  · simp [*, appendV, srcCells, St.forget, scr, scrC, usesC, usesA, setsV, -List.map_map, -oneV]
    refine U01142 hr.out hT.out _ ?_
    simp [*, R6.X, St6, r6B, r6Z, r6O, r6S, r6Y, St.forget, scr, scrC, usesC, usesA, -List.map_map]
  · simp [*, appendV, srcCells, St.forget, scr, scrC, usesC, usesA, setsV, -List.map_map, -oneV]
    refine U01133 hr.out hT.out _ ?_
    simp [*, R6.X, St6, r6B, r6Z, r6O, r6S, r6Y, St.forget, scr, scrC, usesC, usesA, -List.map_map]
  · simp [*, appendV, srcCells, St.forget, scr, scrC, usesC, usesA, setsV, -List.map_map, -oneV]
    refine U01134 hr.out hT.out _ ?_
    simp [*, R6.X, St6, r6B, r6Z, r6O, r6S, r6Y, St.forget, scr, scrC, usesC, usesA, -List.map_map]
theorem U01041 {r : R6} {K : St → Prop} (hr : R6ok r K) (hT : TabOK Try.prog (tab6 r)) : ∀ t : St, St6 r 0 1 0 4 1 t → cAnyY (tab6 r) ops6 63 K 8 #[true, false, true, true, true, false, true, false, false, false, false, false, false] t := by
  rintro ⟨e, h⟩ q
  simp [R6.X, St6, r6B, r6Z, r6O, r6S, r6Y] at q
  obtain ⟨hF, hg, hj, e1, e2, l1, l2, c1, c2, s1, s2, o1, o2, f1, f2, x1, x2, x3, v3, v4, v5, v6, v7, v8, v9, v1, v2, ch, hK⟩ := id hr
  replace hr : Hid (_) := hr
  replace hT : Hid (_) := hT
  refine cany2y 1 7 (by kernel_rfl) (by unfold ops6 getOps6; exact rfl) (by unfold ops6 getOps6; exact rfl) ?_ ?_
  · simp [*, appendV, srcCells, St.forget, scr, scrC, usesC, usesA, setsV, -List.map_map, -oneV]
    refine U01141 hr.out hT.out _ ?_
    simp [*, R6.X, St6, r6B, r6Z, r6O, r6S, r6Y, St.forget, scr, scrC, usesC, usesA, -List.map_map]
  · simp [*, appendV, srcCells, St.forget, scr, scrC, usesC, usesA, setsV, -List.map_map, -oneV]
    refine U01043 hr.out hT.out _ ?_
    simp [*, R6.X, St6, r6B, r6Z, r6O, r6S, r6Y, St.forget, scr, scrC, usesC, usesA, -List.map_map]
theorem U01015 {r : R6} {K : St → Prop} (hr : R6ok r K) (hT : TabOK Try.prog (tab6 r)) : ∀ t : St, St6 r 0 1 0 1 5 t → cAnyY (tab6 r) ops6 63 K 8 #[true, false, true, false, false, false, true, true, true, false, false, false, false] t := by
  rintro ⟨e, h⟩ q
  simp [R6.X, St6, r6B, r6Z, r6O, r6S, r6Y] at q
  obtain ⟨hF, hg, hj, e1, e2, l1, l2, c1, c2, s1, s2, o1, o2, f1, f2, x1, x2, x3, v3, v4, v5, v6, v7, v8, v9, v1, v2, ch, hK⟩ := id hr
  replace hr : Hid (_) := hr
  replace hT : Hid (_) := hT
  refine cany3y 1 3 9 (by kernel_rfl) (by unfold ops6 getOps6; exact rfl) (by unfold ops6 getOps6; exact rfl) (by unfold ops6 getOps6; exact rfl) ?_ ?_ ?_
  · simp [*, appendV, srcCells, St.forget, scr, scrC, usesC, usesA, setsV, -List.map_map, -oneV]
    refine U01115 hr.out hT.out _ ?_
    simp [*, R6.X, St6, r6B, r6Z, r6O, r6S, r6Y, St.forget, scr, scrC, usesC, usesA, -List.map_map]
  · simp [*, appendV, srcCells, St.forget, scr, scrC, usesC, usesA, setsV, -List.map_map, -oneV]
    refine U01035 hr.out hT.out _ ?_
    simp [*, R6.X, St6, r6B, r6Z, r6O, r6S, r6Y, St.forget, scr, scrC, usesC, usesA, -List.map_map]
  · simp [*, appendV, srcCells, St.forget, scr, scrC, usesC, usesA, setsV, -List.map_map, -oneV]
    refine U01016 hr.out hT.out _ ?_
    simp [*, R6.X, St6, r6B, r6Z, r6O, r6S, r6Y, St.forget, scr, scrC, usesC, usesA, -List.map_map]
theorem U01025 {r : R6} {K : St → Prop} (hr : R6ok r K) (hT : TabOK Try.prog (tab6 r)) : ∀ t : St, St6 r 0 1 0 2 5 t → cAnyY (tab6 r) ops6 63 K 8 #[true, false, false, true, false, false, true, true, true, false, false, false, false] t := by
  rintro ⟨e, h⟩ q
  simp [R6.X, St6, r6B, r6Z, r6O, r6S, r6Y] at q
  obtain ⟨hF, hg, hj, e1, e2, l1, l2, c1, c2, s1, s2, o1, o2, f1, f2, x1, x2, x3, v3, v4, v5, v6, v7, v8, v9, v1, v2, ch, hK⟩ := id hr
  replace hr : Hid (_) := hr
  replace hT : Hid (_) := hT
  refine cany3y 1 2 9 (by kernel_rfl) (by unfold ops6 getOps6; exact rfl) (by unfold ops6 getOps6; exact rfl) (by unfold ops6 getOps6; exact rfl) ?_ ?_ ?_
  · simp [*, appendV, srcCells, St.forget, scr, scrC, usesC, usesA, setsV, -List.map_map, -oneV]
    refine U01125 hr.out hT.out _ ?_
    simp [*, R6.X, St6, r6B, r6Z, r6O, r6S, r6Y, St.forget, scr, scrC, usesC, usesA, -List.map_map]
  · simp [*, appendV, srcCells, St.forget, scr, scrC, usesC, usesA, setsV, -List.map_map, -oneV]
    refine U01035 hr.out hT.out _ ?_
    simp [*, R6.X, St6, r6B, r6Z, r6O, r6S, r6Y, St.forget, scr, scrC, usesC, usesA, -List.map_map]
  · simp [*, appendV, srcCells, St.forget, scr, scrC, usesC, usesA, setsV, -List.map_map, -oneV]
    refine U01026 hr.out hT.out _ ?_
    simp [*, R6.X, St6, r6B, r6Z, r6O, r6S, r6Y, St.forget, scr, scrC, usesC, usesA, -List.map_map]
theorem U01034 {r : R6} {K : St → Prop} (hr : R6ok r K) (hT : TabOK Try.prog (tab6 r)) : ∀ t : St, St6 r 0 1 0 3 4 t → cAnyY (tab6 r) ops6 63 K 8 #[true, false, true, true, false, false, false, true, true, false, false, false, false] t := by
  rintro ⟨e, h⟩ q
  simp [R6.X, St6, r6B, r6Z, r6O, r6S, r6Y] at q
  obtain ⟨hF, hg, hj, e1, e2, l1, l2, c1, c2, s1, s2, o1, o2, f1, f2, x1, x2, x3, v3, v4, v5, v6, v7, v8, v9, v1, v2, ch, hK⟩ := id hr
  replace hr : Hid (_) := hr
  replace hT : Hid (_) := hT
  refine cany3y 1 4 6 (by kernel_rfl) (by unfold ops6 getOps6; exact rfl) (by unfold ops6 getOps6; exact rfl) (by unfold ops6 getOps6; exact rfl) ?_ ?_ ?_
  · simp [*, appendV, srcCells, St.forget, scr, scrC, usesC, usesA, setsV, -List.map_map, -oneV]
    refine U01134 hr.out hT.out _ ?_
    simp [*, R6.X, St6, r6B, r6Z, r6O, r6S, r6Y, St.forget, scr, scrC, usesC, usesA, -List.map_map]
  · simp [*, appendV, srcCells, St.forget, scr, scrC, usesC, usesA, setsV, -List.map_map, -oneV]
    refine U01044 hr.out hT.out _ ?_
    simp [*, R6.X, St6, r6B, r6Z, r6O, r6S, r6Y, St.forget, scr, scrC, usesC, usesA, -List.map_map]
  · simp [*, appendV, srcCells, St.forget, scr, scrC, usesC, usesA, setsV, -List.map_map, -oneV]
    refine U01035 hr.out hT.out _ ?_
    simp [*, R6.X, St6, r6B, r6Z, r6O, r6S, r6Y, St.forget, scr, scrC, usesC, usesA, -List.map_map]
theorem U01124 {r : R6} {K : St → Prop} (hr : R6ok r K) (hT : TabOK Try.prog (tab6 r)) : ∀ t : St, St6 r 0 1 1 2 4 t → cAnyY (tab6 r) ops6 63 K 8 #[true, true, false, true, false, false, false, true, true, false, false, false, false] t := by
  rintro ⟨e, h⟩ q
  simp [R6.X, St6, r6B, r6Z, r6O, r6S, r6Y] at q
  obtain ⟨hF, hg, hj, e1, e2, l1, l2, c1, c2, s1, s2, o1, o2, f1, f2, x1, x2, x3, v3, v4, v5, v6, v7, v8, v9, v1, v2, ch, hK⟩ := id hr
  replace hr : Hid (_) := hr
  replace hT : Hid (_) := hT
  refine cany2y 2 6 (by kernel_rfl) (by unfold ops6 getOps6; exact rfl) (by unfold ops6 getOps6; exact rfl) ?_ ?_
  · simp [*, appendV, srcCells, St.forget, scr, scrC, usesC, usesA, setsV, -List.map_map, -oneV]
    refine U01134 hr.out hT.out _ ?_
    simp [*, R6.X, St6, r6B, r6Z, r6O, r6S, r6Y, St.forget, scr, scrC, usesC, usesA, -List.map_map]
  · simp [*, appendV, srcCells, St.forget, scr, scrC, usesC, usesA, setsV, -List.map_map, -oneV]
    refine U01125 hr.out hT.out _ ?_
    simp [*, R6.X, St6, r6B, r6Z, r6O, r6S, r6Y, St.forget, scr, scrC, usesC, usesA, -List.map_map]
theorem U00133 {r : R6} {K : St → Prop} (hr : R6ok r K) (hT : TabOK Try.prog (tab6 r)) : ∀ t : St, St6 r 0 0 1 3 3 t → cAnyY (tab6 r) ops6 63 K 8 #[false, true, true, true, false, false, true, true, false, false, false, false, false] t := by
  rintro ⟨e, h⟩ q
  simp [R6.X, St6, r6B, r6Z, r6O, r6S, r6Y] at q
  obtain ⟨hF, hg, hj, e1, e2, l1, l2, c1, c2, s1, s2, o1, o2, f1, f2, x1, x2, x3, v3, v4, v5, v6, v7, v8, v9, v1, v2, ch, hK⟩ := id hr
  replace hr : Hid (_) := hr
  replace hT : Hid (_) := hT
  refine cany3y 0 4 8 (by kernel_rfl) (by unfold ops6 getOps6; exact rfl) (by unfold ops6 getOps6; exact rfl) (by unfold ops6 getOps6; exact rfl) ?_ ?_ ?_
  · simp [*, appendV, srcCells, St.forget, scr, scrC, usesC, usesA, setsV, -List.map_map, -oneV]
    refine U01133 hr.out hT.out _ ?_
    simp [*, R6.X, St6, r6B, r6Z, r6O, r6S, r6Y, St.forget, scr, scrC, usesC, usesA, -List.map_map]
  · simp [*, appendV, srcCells, St.forget, scr, scrC, usesC, usesA, setsV, -List.map_map, -oneV]
    refine U00143 hr.out hT.out _ ?_
    simp [*, R6.X, St6, r6B, r6Z, r6O, r6S, r6Y, St.forget, scr, scrC, usesC, usesA, -List.map_map]
  · simp [*, appendV, srcCells, St.forget, scr, scrC, usesC, usesA, setsV, -List.map_map, -oneV]
    refine U00135 hr.out hT.out _ ?_
    simp [*, R6.X, St6, r6B, r6Z, r6O, r6S, r6Y, St.forget, scr, scrC, usesC, usesA, -List.map_map]
theorem U10140 {r : R6} {K : St → Prop} (hr : R6ok r K) (hT : TabOK Try.prog (tab6 r)) : ∀ t : St, St6 r 1 0 1 4 0 t → cAnyY (tab6 r) ops6 63 K 8 #[false, true, true, true, true, true, false, false, false, false, false, false, false] t := by
  rintro ⟨e, h⟩ q
  simp [R6.X, St6, r6B, r6Z, r6O, r6S, r6Y] at q
  obtain ⟨hF, hg, hj, e1, e2, l1, l2, c1, c2, s1, s2, o1, o2, f1, f2, x1, x2, x3, v3, v4, v5, v6, v7, v8, v9, v1, v2, ch, hK⟩ := id hr
  replace hr : Hid (_) := hr
  replace hT : Hid (_) := hT
  refine cany3y 0 6 7 (by kernel_rfl) (by unfold ops6 getOps6; exact rfl) (by unfold ops6 getOps6; exact rfl) (by unfold ops6 getOps6; exact rfl) ?_ ?_ ?_
  · simp [*, appendV, srcCells, St.forget, scr, scrC, usesC, usesA, setsV, -List.map_map, -oneV]
    refine U11140 hr.out hT.out _ ?_
    simp [*, R6.X, St6, r6B, r6Z, r6O, r6S, r6Y, St.forget, scr, scrC, usesC, usesA, -List.map_map]
  · simp [*, appendV, srcCells, St.forget, scr, scrC, usesC, usesA, setsV, -List.map_map, -oneV]
    refine U10141 hr.out hT.out _ ?_
    simp [*, R6.X, St6, r6B, r6Z, r6O, r6S, r6Y, St.forget, scr, scrC, usesC, usesA, -List.map_map]
  · simp [*, appendV, srcCells, St.forget, scr, scrC, usesC, usesA, setsV, -List.map_map, -oneV]
    refine U10142 hr.out hT.out _ ?_
    simp [*, R6.X, St6, r6B, r6Z, r6O, r6S, r6Y, St.forget, scr, scrC, usesC, usesA, -List.map_map]
theorem U00115 {r : R6} {K : St → Prop} (hr : R6ok r K) (hT : TabOK Try.prog (tab6 r)) : ∀ t : St, St6 r 0 0 1 1 5 t → cAnyY (tab6 r) ops6 63 K 8 #[false, true, true, false, false, false, true, true, true, false, false, false, false] t := by
  rintro ⟨e, h⟩ q
  simp [R6.X, St6, r6B, r6Z, r6O, r6S, r6Y] at q
  obtain ⟨hF, hg, hj, e1, e2, l1, l2, c1, c2, s1, s2, o1, o2, f1, f2, x1, x2, x3, v3, v4, v5, v6, v7, v8, v9, v1, v2, ch, hK⟩ := id hr
  replace hr : Hid (_) := hr
  replace hT : Hid (_) := hT
  refine cany3y 0 3 9 (by kernel_rfl) (by unfold ops6 getOps6; exact rfl) (by unfold ops6 getOps6; exact rfl) (by unfold ops6 getOps6; exact rfl) ?_ ?_ ?_
  · simp [*, appendV, srcCells, St.forget, scr, scrC, usesC, usesA, setsV, -List.map_map, -oneV]
    refine U01115 hr.out hT.out _ ?_
    simp [*, R6.X, St6, r6B, r6Z, r6O, r6S, r6Y, St.forget, scr, scrC, usesC, usesA, -List.map_map]
  · simp [*, appendV, srcCells, St.forget, scr, scrC, usesC, usesA, setsV, -List.map_map, -oneV]
    refine U00135 hr.out hT.out _ ?_
    simp [*, R6.X, St6, r6B, r6Z, r6O, r6S, r6Y, St.forget, scr, scrC, usesC, usesA, -List.map_map]
  · simp [*, appendV, srcCells, St.forget, scr, scrC, usesC, usesA, setsV, -List.map_map, -oneV]
    refine U00116 hr.out hT.out _ ?_
    simp [*, R6.X, St6, r6B, r6Z, r6O, r6S, r6Y, St.forget, scr, scrC, usesC, usesA, -List.map_map]
theorem U00141 {r : R6} {K : St → Prop} (hr : R6ok r K) (hT : TabOK Try.prog (tab6 r)) : ∀ t : St, St6 r 0 0 1 4 1 t → cAnyY (tab6 r) ops6 63 K 8 #[false, true, true, true, true, false, true, false, false, false, false, false, false] t := by
  rintro ⟨e, h⟩ q
  simp [R6.X, St6, r6B, r6Z, r6O, r6S, r6Y] at q
  obtain ⟨hF, hg, hj, e1, e2, l1, l2, c1, c2, s1, s2, o1, o2, f1, f2, x1, x2, x3, v3, v4, v5, v6, v7, v8, v9, v1, v2, ch, hK⟩ := id hr
  replace hr : Hid (_) := hr
  replace hT : Hid (_) := hT
  refine cany3y 0 5 7 (by kernel_rfl) (by unfold ops6 getOps6; exact rfl) (by unfold ops6 getOps6; exact rfl) (by unfold ops6 getOps6; exact rfl) ?_ ?_ ?_
  · simp [*, appendV, srcCells, St.forget, scr, scrC, usesC, usesA, setsV, -List.map_map, -oneV]
    refine U01141 hr.out hT.out _ ?_
    simp [*, R6.X, St6, r6B, r6Z, r6O, r6S, r6Y, St.forget, scr, scrC, usesC, usesA, -List.map_map]
  · simp [*, appendV, srcCells, St.forget, scr, scrC, usesC, usesA, setsV, -List.map_map, -oneV]
    refine U10141 hr.out hT.out _ ?_
    simp [*, R6.X, St6, r6B, r6Z, r6O, r6S, r6Y, St.forget, scr, scrC, usesC, usesA, -List.map_map]
  · simp [*, appendV, srcCells, St.forget, scr, scrC, usesC, usesA, setsV, -List.map_map, -oneV]
    refine U00143 hr.out hT.out _ ?_
    simp [*, R6.X, St6, r6B, r6Z, r6O, r6S, r6Y, St.forget, scr, scrC, usesC, usesA, -List.map_map]
theorem U00106 {r : R6} {K : St → Prop} (hr : R6ok r K) (hT : TabOK Try.prog (tab6 r)) : ∀ t : St, St6 r 0 0 1 0 6 t → cAnyY (tab6 r) ops6 63 K 8 #[false, true, false, false, false, false, true, true, true, true, false, false, false] t := by
  rintro ⟨e, h⟩ q
  simp [R6.X, St6, r6B, r6Z, r6O, r6S, r6Y] at q
  obtain ⟨hF, hg, hj, e1, e2, l1, l2, c1, c2, s1, s2, o1, o2, f1, f2, x1, x2, x3, v3, v4, v5, v6, v7, v8, v9, v1, v2, ch, hK⟩ := id hr
  replace hr : Hid (_) := hr
  replace hT : Hid (_) := hT
  refine cany3y 0 2 3 (by kernel_rfl) (by unfold ops6 getOps6; exact rfl) (by unfold ops6 getOps6; exact rfl) (by unfold ops6 getOps6; exact rfl) ?_ ?_ ?_
  · simp [*, appendV, srcCells, St.forget, scr, scrC, usesC, usesA, setsV, -List.map_map, -oneV]
    refine U01106 hr.out hT.out _ ?_
    simp [*, R6.X, St6, r6B, r6Z, r6O, r6S, r6Y, St.forget, scr, scrC, usesC, usesA, -List.map_map]
  · simp [*, appendV, srcCells, St.forget, scr, scrC, usesC, usesA, setsV, -List.map_map, -oneV]
    refine U00116 hr.out hT.out _ ?_
    simp [*, R6.X, St6, r6B, r6Z, r6O, r6S, r6Y, St.forget, scr, scrC, usesC, usesA, -List.map_map]
  · simp [*, appendV, srcCells, St.forget, scr, scrC, usesC, usesA, setsV, -List.map_map, -oneV]
    refine U00126 hr.out hT.out _ ?_
    simp [*, R6.X, St6, r6B, r6Z, r6O, r6S, r6Y, St.forget, scr, scrC, usesC, usesA, -List.map_map]
theorem U00035 {r : R6} {K : St → Prop} (hr : R6ok r K) (hT : TabOK Try.prog (tab6 r)) : ∀ t : St, St6 r 0 0 0 3 5 t → cAnyY (tab6 r) ops6 63 K 8 #[false, false, true, true, false, false, true, true, true, false, false, false, false] t := by
  rintro ⟨e, h⟩ q
  simp [R6.X, St6, r6B, r6Z, r6O, r6S, r6Y] at q
  obtain ⟨hF, hg, hj, e1, e2, l1, l2, c1, c2, s1, s2, o1, o2, f1, f2, x1, x2, x3, v3, v4, v5, v6, v7, v8, v9, v1, v2, ch, hK⟩ := id hr
  replace hr : Hid (_) := hr
  replace hT : Hid (_) := hT
  refine cany4y 0 1 4 9 (by kernel_rfl) (by unfold ops6 getOps6; exact rfl) (by unfold ops6 getOps6; exact rfl) (by unfold ops6 getOps6; exact rfl) (by unfold ops6 getOps6; exact rfl) ?_ ?_ ?_ ?_
  · simp [*, appendV, srcCells, St.forget, scr, scrC, usesC, usesA, setsV, -List.map_map, -oneV]
    refine U01035 hr.out hT.out _ ?_
    simp [*, R6.X, St6, r6B, r6Z, r6O, r6S, r6Y, St.forget, scr, scrC, usesC, usesA, -List.map_map]
  · simp [*, appendV, srcCells, St.forget, scr, scrC, usesC, usesA, setsV, -List.map_map, -oneV]
    refine U00135 hr.out hT.out _ ?_
    simp [*, R6.X, St6, r6B, r6Z, r6O, r6S, r6Y, St.forget, scr, scrC, usesC, usesA, -List.map_map]
  · simp [*, appendV, srcCells, St.forget, scr, scrC, usesC, usesA, setsV, -List.map_map, -oneV]
    refine U00045 hr.out hT.out _ ?_
    simp [*, R6.X, St6, r6B, r6Z, r6O, r6S, r6Y, St.forget, scr, scrC, usesC, usesA, -List.map_map]
  · simp [*, appendV, srcCells, St.forget, scr, scrC, usesC, usesA, setsV, -List.map_map, -oneV]
    refine U00036 hr.out hT.out _ ?_
    simp [*, R6.X, St6, r6B, r6Z, r6O, r6S, r6Y, St.forget, scr, scrC, usesC, usesA, -List.map_map]
theorem U01105 {r : R6} {K : St → Prop} (hr : R6ok r K) (hT : TabOK Try.prog (tab6 r)) : ∀ t : St, St6 r 0 1 1 0 5 t → cAnyY (tab6 r) ops6 63 K 8 #[true, true, false, false, false, false, true, true, true, false, false, false, false] t := by
  rintro ⟨e, h⟩ q
  simp [R6.X, St6, r6B, r6Z, r6O, r6S, r6Y] at q
  obtain ⟨hF, hg, hj, e1, e2, l1, l2, c1, c2, s1, s2, o1, o2, f1, f2, x1, x2, x3, v3, v4, v5, v6, v7, v8, v9, v1, v2, ch, hK⟩ := id hr
  replace hr : Hid (_) := hr
  replace hT : Hid (_) := hT
  refine cany3y 2 3 9 (by kernel_rfl) (by unfold ops6 getOps6; exact rfl) (by unfold ops6 getOps6; exact rfl) (by unfold ops6 getOps6; exact rfl) ?_ ?_ ?_
  · simp [*, appendV, srcCells, St.forget, scr, scrC, usesC, usesA, setsV, -List.map_map, -oneV]
    refine U01115 hr.out hT.out _ ?_
    simp [*, R6.X, St6, r6B, r6Z, r6O, r6S, r6Y, St.forget, scr, scrC, usesC, usesA, -List.map_map]
  · simp [*, appendV, srcCells, St.forget, scr, scrC, usesC, usesA, setsV, -List.map_map, -oneV]
    refine U01125 hr.out hT.out _ ?_
    simp [*, R6.X, St6, r6B, r6Z, r6O, r6S, r6Y, St.forget, scr, scrC, usesC, usesA, -List.map_map]
  · simp [*, appendV, srcCells, St.forget, scr, scrC, usesC, usesA, setsV, -List.map_map, -oneV]
    refine U01106 hr.out hT.out _ ?_
    simp [*, R6.X, St6, r6B, r6Z, r6O, r6S, r6Y, St.forget, scr, scrC, usesC, usesA, -List.map_map]
theorem U01123 {r : R6} {K : St → Prop} (hr : R6ok r K) (hT : TabOK Try.prog (tab6 r)) : ∀ t : St, St6 r 0 1 1 2 3 t → cAnyY (tab6 r) ops6 63 K 8 #[true, true, false, true, false, false, true, true, false, false, false, false, false] t := by
  rintro ⟨e, h⟩ q
  simp [R6.X, St6, r6B, r6Z, r6O, r6S, r6Y] at q
  obtain ⟨hF, hg, hj, e1, e2, l1, l2, c1, c2, s1, s2, o1, o2, f1, f2, x1, x2, x3, v3, v4, v5, v6, v7, v8, v9, v1, v2, ch, hK⟩ := id hr
  replace hr : Hid (_) := hr
  replace hT : Hid (_) := hT
  refine cany2y 2 8 (by kernel_rfl) (by unfold ops6 getOps6; exact rfl) (by unfold ops6 getOps6; exact rfl) ?_ ?_
  · simp [*, appendV, srcCells, St.forget, scr, scrC, usesC, usesA, setsV, -List.map_map, -oneV]
    refine U01133 hr.out hT.out _ ?_
    simp [*, R6.X, St6, r6B, r6Z, r6O, r6S, r6Y, St.forget, scr, scrC, usesC, usesA, -List.map_map]
  · simp [*, appendV, srcCells, St.forget, scr, scrC, usesC, usesA, setsV, -List.map_map, -oneV]
    refine U01125 hr.out hT.out _ ?_
    simp [*, R6.X, St6, r6B, r6Z, r6O, r6S, r6Y, St.forget, scr, scrC, usesC, usesA, -List.map_map]
theorem U01140 {r : R6} {K : St → Prop} (hr : R6ok r K) (hT : TabOK Try.prog (tab6 r)) : ∀ t : St, St6 r 0 1 1 4 0 t → cAnyY (tab6 r) ops6 63 K 8 #[true, true, true, true, true, false, false, false, false, false, false, false, false] t := by
  rintro ⟨e, h⟩ q
  simp [R6.X, St6, r6B, r6Z, r6O, r6S, r6Y] at q
  obtain ⟨hF, hg, hj, e1, e2, l1, l2, c1, c2, s1, s2, o1, o2, f1, f2, x1, x2, x3, v3, v4, v5, v6, v7, v8, v9, v1, v2, ch, hK⟩ := id hr
  replace hr : Hid (_) := hr
  replace hT : Hid (_) := hT
  refine cany3y 5 6 7 (by kernel_rfl) (by unfold ops6 getOps6; exact rfl) (by unfold ops6 getOps6; exact rfl) (by unfold ops6 getOps6; exact rfl) ?_ ?_ ?_
  · simp [*, appendV, srcCells, St.forget, scr, scrC, usesC, usesA, setsV, -List.map_map, -oneV]
    refine U11140 hr.out hT.out _ ?_
    simp [*, R6.X, St6, r6B, r6Z, r6O, r6S, r6Y, St.forget, scr, scrC, usesC, usesA, -List.map_map]
  · simp [*, appendV, srcCells, St.forget, scr, scrC, usesC, usesA, setsV, -List.map_map, -oneV]
    refine U01141 hr.out hT.out _ ?_
    simp [*, R6.X, St6, r6B, r6Z, r6O, r6S, r6Y, St.forget, scr, scrC, usesC, usesA, -List.map_map]
  · simp [*, appendV, srcCells, St.forget, scr, scrC, usesC, usesA, setsV, -List.map_map, -oneV]
    refine U01142 hr.out hT.out _ ?_
    simp [*, R6.X, St6, r6B, r6Z, r6O, r6S, r6Y, St.forget, scr, scrC, usesC, usesA, -List.map_map]
theorem U00044 {r : R6} {K : St → Prop} (hr : R6ok r K) (hT : TabOK Try.prog (tab6 r)) : ∀ t : St, St6 r 0 0 0 4 4 t → cAnyY (tab6 r) ops6 63 K 8 #[false, false, true, true, true, false, false, true, true, false, false, false, false] t := by
  rintro ⟨e, h⟩ q
  simp [R6.X, St6, r6B, r6Z, r6O, r6S, r6Y] at q
  obtain ⟨hF, hg, hj, e1, e2, l1, l2, c1, c2, s1, s2, o1, o2, f1, f2, x1, x2, x3, v3, v4, v5, v6, v7, v8, v9, v1, v2, ch, hK⟩ := id hr
  replace hr : Hid (_) := hr
  replace hT : Hid (_) := hT
  refine cany3y 0 1 6 (by kernel_rfl) (by unfold ops6 getOps6; exact rfl) (by unfold ops6 getOps6; exact rfl) (by unfold ops6 getOps6; exact rfl) ?_ ?_ ?_
  · simp [*, appendV, srcCells, St.forget, scr, scrC, usesC, usesA, setsV, -List.map_map, -oneV]
    refine U01044 hr.out hT.out _ ?_
    simp [*, R6.X, St6, r6B, r6Z, r6O, r6S, r6Y, St.forget, scr, scrC, usesC, usesA, -List.map_map]
  · simp [*, appendV, srcCells, St.forget, scr, scrC, usesC, usesA, setsV, -List.map_map, -oneV]
    refine U00144 hr.out hT.out _ ?_
    simp [*, R6.X, St6, r6B, r6Z, r6O, r6S, r6Y, St.forget, scr, scrC, usesC, usesA, -List.map_map]
  · simp [*, appendV, srcCells, St.forget, scr, scrC, usesC, usesA, setsV, -List.map_map, -oneV]
    refine U00045 hr.out hT.out _ ?_
    simp [*, R6.X, St6, r6B, r6Z, r6O, r6S, r6Y, St.forget, scr, scrC, usesC, usesA, -List.map_map]
theorem U01114 {r : R6} {K : St → Prop} (hr : R6ok r K) (hT : TabOK Try.prog (tab6 r)) : ∀ t : St, St6 r 0 1 1 1 4 t → cAnyY (tab6 r) ops6 63 K 8 #[true, true, true, false, false, false, false, true, true, false, false, false, false] t := by
  rintro ⟨e, h⟩ q
  simp [R6.X, St6, r6B, r6Z, r6O, r6S, r6Y] at q
  obtain ⟨hF, hg, hj, e1, e2, l1, l2, c1, c2, s1, s2, o1, o2, f1, f2, x1, x2, x3, v3, v4, v5, v6, v7, v8, v9, v1, v2, ch, hK⟩ := id hr
  replace hr : Hid (_) := hr
  replace hT : Hid (_) := hT
  refine cany2y 3 6 (by kernel_rfl) (by unfold ops6 getOps6; exact rfl) (by unfold ops6 getOps6; exact rfl) ?_ ?_
  · simp [*, appendV, srcCells, St.forget, scr, scrC, usesC, usesA, setsV, -List.map_map, -oneV]
    refine U01134 hr.out hT.out _ ?_
    simp [*, R6.X, St6, r6B, r6Z, r6O, r6S, r6Y, St.forget, scr, scrC, usesC, usesA, -List.map_map]
  · simp [*, appendV, srcCells, St.forget, scr, scrC, usesC, usesA, setsV, -List.map_map, -oneV]
    refine U01115 hr.out hT.out _ ?_
    simp [*, R6.X, St6, r6B, r6Z, r6O, r6S, r6Y, St.forget, scr, scrC, usesC, usesA, -List.map_map]
theorem U01131 {r : R6} {K : St → Prop} (hr : R6ok r K) (hT : TabOK Try.prog (tab6 r)) : ∀ t : St, St6 r 0 1 1 3 1 t → cAnyY (tab6 r) ops6 63 K 8 #[true, true, true, true, false, false, true, false, false, false, false, false, false] t := by
  rintro ⟨e, h⟩ q
  simp [R6.X, St6, r6B, r6Z, r6O, r6S, r6Y] at q
  obtain ⟨hF, hg, hj, e1, e2, l1, l2, c1, c2, s1, s2, o1, o2, f1, f2, x1, x2, x3, v3, v4, v5, v6, v7, v8, v9, v1, v2, ch, hK⟩ := id hr
  replace hr : Hid (_) := hr
  replace hT : Hid (_) := hT
  refine cany2y 4 7 (by kernel_rfl) (by unfold ops6 getOps6; exact rfl) (by unfold ops6 getOps6; exact rfl) ?_ ?_
  · simp [*, appendV, srcCells, St.forget, scr, scrC, usesC, usesA, setsV, -List.map_map, -oneV]
    refine U01141 hr.out hT.out _ ?_
    simp [*, R6.X, St6, r6B, r6Z, r6O, r6S, r6Y, St.forget, scr, scrC, usesC, usesA, -List.map_map]
  · simp [*, appendV, srcCells, St.forget, scr, scrC, usesC, usesA, setsV, -List.map_map, -oneV]
    refine U01133 hr.out hT.out _ ?_
    simp [*, R6.X, St6, r6B, r6Z, r6O, r6S, r6Y, St.forget, scr, scrC, usesC, usesA, -List.map_map]
theorem U00026 {r : R6} {K : St → Prop} (hr : R6ok r K) (hT : TabOK Try.prog (tab6 r)) : ∀ t : St, St6 r 0 0 0 2 6 t → cAnyY (tab6 r) ops6 63 K 8 #[false, false, false, true, false, false, true, true, true, true, false, false, false] t := by
  rintro ⟨e, h⟩ q
  simp [R6.X, St6, r6B, r6Z, r6O, r6S, r6Y] at q
  obtain ⟨hF, hg, hj, e1, e2, l1, l2, c1, c2, s1, s2, o1, o2, f1, f2, x1, x2, x3, v3, v4, v5, v6, v7, v8, v9, v1, v2, ch, hK⟩ := id hr
  replace hr : Hid (_) := hr
  replace hT : Hid (_) := hT
  refine cany3y 0 1 2 (by kernel_rfl) (by unfold ops6 getOps6; exact rfl) (by unfold ops6 getOps6; exact rfl) (by unfold ops6 getOps6; exact rfl) ?_ ?_ ?_
  · simp [*, appendV, srcCells, St.forget, scr, scrC, usesC, usesA, setsV, -List.map_map, -oneV]
    refine U01026 hr.out hT.out _ ?_
    simp [*, R6.X, St6, r6B, r6Z, r6O, r6S, r6Y, St.forget, scr, scrC, usesC, usesA, -List.map_map]
  · simp [*, appendV, srcCells, St.forget, scr, scrC, usesC, usesA, setsV, -List.map_map, -oneV]
    refine U00126 hr.out hT.out _ ?_
    simp [*, R6.X, St6, r6B, r6Z, r6O, r6S, r6Y, St.forget, scr, scrC, usesC, usesA, -List.map_map]
  · simp [*, appendV, srcCells, St.forget, scr, scrC, usesC, usesA, setsV, -List.map_map, -oneV]
    refine U00036 hr.out hT.out _ ?_
    simp [*, R6.X, St6, r6B, r6Z, r6O, r6S, r6Y, St.forget, scr, scrC, usesC, usesA, -List.map_map]
theorem U01042 {r : R6} {K : St → Prop} (hr : R6ok r K) (hT : TabOK Try.prog (tab6 r)) : ∀ t : St, St6 r 0 1 0 4 2 t → cAnyY (tab6 r) ops6 63 K 8 #[true, false, true, true, true, false, false, true, false, false, false, false, false] t := by
  rintro ⟨e, h⟩ q
  simp [R6.X, St6, r6B, r6Z, r6O, r6S, r6Y] at q
  obtain ⟨hF, hg, hj, e1, e2, l1, l2, c1, c2, s1, s2, o1, o2, f1, f2, x1, x2, x3, v3, v4, v5, v6, v7, v8, v9, v1, v2, ch, hK⟩ := id hr
  replace hr : Hid (_) := hr
  replace hT : Hid (_) := hT
  refine cany3y 1 6 8 (by kernel_rfl) (by unfold ops6 getOps6; exact rfl) (by unfold ops6 getOps6; exact rfl) (by unfold ops6 getOps6; exact rfl) ?_ ?_ ?_
  · simp [*, appendV, srcCells, St.forget, scr, scrC, usesC, usesA, setsV, -List.map_map, -oneV]
    refine U01142 hr.out hT.out _ ?_
    simp [*, R6.X, St6, r6B, r6Z, r6O, r6S, r6Y, St.forget, scr, scrC, usesC, usesA, -List.map_map]
  · simp [*, appendV, srcCells, St.forget, scr, scrC, usesC, usesA, setsV, -List.map_map, -oneV]
    refine U01043 hr.out hT.out _ ?_
    simp [*, R6.X, St6, r6B, r6Z, r6O, r6S, r6Y, St.forget, scr, scrC, usesC, usesA, -List.map_map]
  · simp [*, appendV, srcCells, St.forget, scr, scrC, usesC, usesA, setsV, -List.map_map, -oneV]
    refine U01044 hr.out hT.out _ ?_
    simp [*, R6.X, St6, r6B, r6Z, r6O, r6S, r6Y, St.forget, scr, scrC, usesC, usesA, -List.map_map]
theorem U01033 {r : R6} {K : St → Prop} (hr : R6ok r K) (hT : TabOK Try.prog (tab6 r)) : ∀ t : St, St6 r 0 1 0 3 3 t → cAnyY (tab6 r) ops6 63 K 8 #[true, false, true, true, false, false, true, true, false, false, false, false, false] t := by
  rintro ⟨e, h⟩ q
  simp [R6.X, St6, r6B, r6Z, r6O, r6S, r6Y] at q
  obtain ⟨hF, hg, hj, e1, e2, l1, l2, c1, c2, s1, s2, o1, o2, f1, f2, x1, x2, x3, v3, v4, v5, v6, v7, v8, v9, v1, v2, ch, hK⟩ := id hr
  replace hr : Hid (_) := hr
  replace hT : Hid (_) := hT
  refine cany3y 1 4 8 (by kernel_rfl) (by unfold ops6 getOps6; exact rfl) (by unfold ops6 getOps6; exact rfl) (by unfold ops6 getOps6; exact rfl) ?_ ?_ ?_
  · simp [*, appendV, srcCells, St.forget, scr, scrC, usesC, usesA, setsV, -List.map_map, -oneV]
    refine U01133 hr.out hT.out _ ?_
    simp [*, R6.X, St6, r6B, r6Z, r6O, r6S, r6Y, St.forget, scr, scrC, usesC, usesA, -List.map_map]
  · simp [*, appendV, srcCells, St.forget, scr, scrC, usesC, usesA, setsV, -List.map_map, -oneV]
    refine U01043 hr.out hT.out _ ?_
    simp [*, R6.X, St6, r6B, r6Z, r6O, r6S, r6Y, St.forget, scr, scrC, usesC, usesA, -List.map_map]
  · simp [*, appendV, srcCells, St.forget, scr, scrC, usesC, usesA, setsV, -List.map_map, -oneV]
    refine U01035 hr.out hT.out _ ?_
    simp [*, R6.X, St6, r6B, r6Z, r6O, r6S, r6Y, St.forget, scr, scrC, usesC, usesA, -List.map_map]
theorem U00041 {r : R6} {K : St → Prop} (hr : R6ok r K) (hT : TabOK Try.prog (tab6 r)) : ∀ t : St, St6 r 0 0 0 4 1 t → cAnyY (tab6 r) ops6 63 K 9 #[false, false, true, true, true, false, true, false, false, false, false, false, false] t := by
  rintro ⟨e, h⟩ q
  simp [R6.X, St6, r6B, r6Z, r6O, r6S, r6Y] at q
  obtain ⟨hF, hg, hj, e1, e2, l1, l2, c1, c2, s1, s2, o1, o2, f1, f2, x1, x2, x3, v3, v4, v5, v6, v7, v8, v9, v1, v2, ch, hK⟩ := id hr
  replace hr : Hid (_) := hr
  replace hT : Hid (_) := hT
  refine cany3y 0 1 7 (by kernel_rfl) (by unfold ops6 getOps6; exact rfl) (by unfold ops6 getOps6; exact rfl) (by unfold ops6 getOps6; exact rfl) ?_ ?_ ?_
  · simp [*, appendV, srcCells, St.forget, scr, scrC, usesC, usesA, setsV, -List.map_map, -oneV]
    refine U01041 hr.out hT.out _ ?_
    simp [*, R6.X, St6, r6B, r6Z, r6O, r6S, r6Y, St.forget, scr, scrC, usesC, usesA, -List.map_map]
  · simp [*, appendV, srcCells, St.forget, scr, scrC, usesC, usesA, setsV, -List.map_map, -oneV]
    refine U00141 hr.out hT.out _ ?_
    simp [*, R6.X, St6, r6B, r6Z, r6O, r6S, r6Y, St.forget, scr, scrC, usesC, usesA, -List.map_map]
  · simp [*, appendV, srcCells, St.forget, scr, scrC, usesC, usesA, setsV, -List.map_map, -oneV]
    refine U00043 hr.out hT.out _ ?_
    simp [*, R6.X, St6, r6B, r6Z, r6O, r6S, r6Y, St.forget, scr, scrC, usesC, usesA, -List.map_map]
theorem U00132 {r : R6} {K : St → Prop} (hr : R6ok r K) (hT : TabOK Try.prog (tab6 r)) : ∀ t : St, St6 r 0 0 1 3 2 t → cAnyY (tab6 r) ops6 63 K 9 #[false, true, true, true, false, false, false, true, false, false, false, false, false] t := by
  rintro ⟨e, h⟩ q
  simp [R6.X, St6, r6B, r6Z, r6O, r6S, r6Y] at q
  obtain ⟨hF, hg, hj, e1, e2, l1, l2, c1, c2, s1, s2, o1, o2, f1, f2, x1, x2, x3, v3, v4, v5, v6, v7, v8, v9, v1, v2, ch, hK⟩ := id hr
  replace hr : Hid (_) := hr
  replace hT : Hid (_) := hT
  refine cany4y 0 4 6 8 (by kernel_rfl) (by unfold ops6 getOps6; exact rfl) (by unfold ops6 getOps6; exact rfl) (by unfold ops6 getOps6; exact rfl) (by unfold ops6 getOps6; exact rfl) ?_ ?_ ?_ ?_
  · simp [*, appendV, srcCells, St.forget, scr, scrC, usesC, usesA, setsV, -List.map_map, -oneV]
    refine U01132 hr.out hT.out _ ?_
    simp [*, R6.X, St6, r6B, r6Z, r6O, r6S, r6Y, St.forget, scr, scrC, usesC, usesA, -List.map_map]
  · simp [*, appendV, srcCells, St.forget, scr, scrC, usesC, usesA, setsV, -List.map_map, -oneV]
    refine U00142 hr.out hT.out _ ?_
    simp [*, R6.X, St6, r6B, r6Z, r6O, r6S, r6Y, St.forget, scr, scrC, usesC, usesA, -List.map_map]
  · simp [*, appendV, srcCells, St.forget, scr, scrC, usesC, usesA, setsV, -List.map_map, -oneV]
    refine U00133 hr.out hT.out _ ?_
    simp [*, R6.X, St6, r6B, r6Z, r6O, r6S, r6Y, St.forget, scr, scrC, usesC, usesA, -List.map_map]
  · simp [*, appendV, srcCells, St.forget, scr, scrC, usesC, usesA, setsV, -List.map_map, -oneV]
    refine U00134 hr.out hT.out _ ?_
    simp [*, R6.X, St6, r6B, r6Z, r6O, r6S, r6Y, St.forget, scr, scrC, usesC, usesA, -List.map_map]
theorem U01111 {r : R6} {K : St → Prop} (hr : R6ok r K) (hT : TabOK Try.prog (tab6 r)) : ∀ t : St, St6 r 0 1 1 1 1 t → cAnyY (tab6 r) ops6 63 K 9 #[true, true, true, false, false, false, true, false, false, false, false, false, false] t := by
  rintro ⟨e, h⟩ q
  simp [R6.X, St6, r6B, r6Z, r6O, r6S, r6Y] at q
  obtain ⟨hF, hg, hj, e1, e2, l1, l2, c1, c2, s1, s2, o1, o2, f1, f2, x1, x2, x3, v3, v4, v5, v6, v7, v8, v9, v1, v2, ch, hK⟩ := id hr
  replace hr : Hid (_) := hr
  replace hT : Hid (_) := hT
  refine cany2y 3 7 (by kernel_rfl) (by unfold ops6 getOps6; exact rfl) (by unfold ops6 getOps6; exact rfl) ?_ ?_
  · simp [*, appendV, srcCells, St.forget, scr, scrC, usesC, usesA, setsV, -List.map_map, -oneV]
    refine U01131 hr.out hT.out _ ?_
    simp [*, R6.X, St6, r6B, r6Z, r6O, r6S, r6Y, St.forget, scr, scrC, usesC, usesA, -List.map_map]
  · simp [*, appendV, srcCells, St.forget, scr, scrC, usesC, usesA, setsV, -List.map_map, -oneV]
    refine U01113 hr.out hT.out _ ?_
    simp [*, R6.X, St6, r6B, r6Z, r6O, r6S, r6Y, St.forget, scr, scrC, usesC, usesA, -List.map_map]
theorem U00006 {r : R6} {K : St → Prop} (hr : R6ok r K) (hT : TabOK Try.prog (tab6 r)) : ∀ t : St, St6 r 0 0 0 0 6 t → cAnyY (tab6 r) ops6 63 K 9 #[false, false, false, false, false, false, true, true, true, true, false, false, false] t := by
  rintro ⟨e, h⟩ q
  simp [R6.X, St6, r6B, r6Z, r6O, r6S, r6Y] at q
  obtain ⟨hF, hg, hj, e1, e2, l1, l2, c1, c2, s1, s2, o1, o2, f1, f2, x1, x2, x3, v3, v4, v5, v6, v7, v8, v9, v1, v2, ch, hK⟩ := id hr
  replace hr : Hid (_) := hr
  replace hT : Hid (_) := hT
  refine cany4y 0 1 2 3 (by kernel_rfl) (by unfold ops6 getOps6; exact rfl) (by unfold ops6 getOps6; exact rfl) (by unfold ops6 getOps6; exact rfl) (by unfold ops6 getOps6; exact rfl) ?_ ?_ ?_ ?_
  · simp [*, appendV, srcCells, St.forget, scr, scrC, usesC, usesA, setsV, -List.map_map, -oneV]
    refine U01006 hr.out hT.out _ ?_
    simp [*, R6.X, St6, r6B, r6Z, r6O, r6S, r6Y, St.forget, scr, scrC, usesC, usesA, -List.map_map]
  · simp [*, appendV, srcCells, St.forget, scr, scrC, usesC, usesA, setsV, -List.map_map, -oneV]
    refine U00106 hr.out hT.out _ ?_
    simp [*, R6.X, St6, r6B, r6Z, r6O, r6S, r6Y, St.forget, scr, scrC, usesC, usesA, -List.map_map]
  · simp [*, appendV, srcCells, St.forget, scr, scrC, usesC, usesA, setsV, -List.map_map, -oneV]
    refine U00016 hr.out hT.out _ ?_
    simp [*, R6.X, St6, r6B, r6Z, r6O, r6S, r6Y, St.forget, scr, scrC, usesC, usesA, -List.map_map]
  · simp [*, appendV, srcCells, St.forget, scr, scrC, usesC, usesA, setsV, -List.map_map, -oneV]
    refine U00026 hr.out hT.out _ ?_
    simp [*, R6.X, St6, r6B, r6Z, r6O, r6S, r6Y, St.forget, scr, scrC, usesC, usesA, -List.map_map]
theorem U00114 {r : R6} {K : St → Prop} (hr : R6ok r K) (hT : TabOK Try.prog (tab6 r)) : ∀ t : St, St6 r 0 0 1 1 4 t → cAnyY (tab6 r) ops6 63 K 9 #[false, true, true, false, false, false, false, true, true, false, false, false, false] t := by
  rintro ⟨e, h⟩ q
  simp [R6.X, St6, r6B, r6Z, r6O, r6S, r6Y] at q
  obtain ⟨hF, hg, hj, e1, e2, l1, l2, c1, c2, s1, s2, o1, o2, f1, f2, x1, x2, x3, v3, v4, v5, v6, v7, v8, v9, v1, v2, ch, hK⟩ := id hr
  replace hr : Hid (_) := hr
  replace hT : Hid (_) := hT
  refine cany3y 0 3 6 (by kernel_rfl) (by unfold ops6 getOps6; exact rfl) (by unfold ops6 getOps6; exact rfl) (by unfold ops6 getOps6; exact rfl) ?_ ?_ ?_
  · simp [*, appendV, srcCells, St.forget, scr, scrC, usesC, usesA, setsV, -List.map_map, -oneV]
    refine U01114 hr.out hT.out _ ?_
    simp [*, R6.X, St6, r6B, r6Z, r6O, r6S, r6Y, St.forget, scr, scrC, usesC, usesA, -List.map_map]
  · simp [*, appendV, srcCells, St.forget, scr, scrC, usesC, usesA, setsV, -List.map_map, -oneV]
    refine U00134 hr.out hT.out _ ?_
    simp [*, R6.X, St6, r6B, r6Z, r6O, r6S, r6Y, St.forget, scr, scrC, usesC, usesA, -List.map_map]
  · simp [*, appendV, srcCells, St.forget, scr, scrC, usesC, usesA, setsV, -List.map_map, -oneV]
    refine U00115 hr.out hT.out _ ?_
    simp [*, R6.X, St6, r6B, r6Z, r6O, r6S, r6Y, St.forget, scr, scrC, usesC, usesA, -List.map_map]
theorem U01122 {r : R6} {K : St → Prop} (hr : R6ok r K) (hT : TabOK Try.prog (tab6 r)) : ∀ t : St, St6 r 0 1 1 2 2 t → cAnyY (tab6 r) ops6 63 K 9 #[true, true, false, true, false, false, false, true, false, false, false, false, false] t := by
  rintro ⟨e, h⟩ q
  simp [R6.X, St6, r6B, r6Z, r6O, r6S, r6Y] at q
  obtain ⟨hF, hg, hj, e1, e2, l1, l2, c1, c2, s1, s2, o1, o2, f1, f2, x1, x2, x3, v3, v4, v5, v6, v7, v8, v9, v1, v2, ch, hK⟩ := id hr
  replace hr : Hid (_) := hr
  replace hT : Hid (_) := hT
  refine cany3y 2 6 8 (by kernel_rfl) (by unfold ops6 getOps6; exact rfl) (by unfold ops6 getOps6; exact rfl) (by unfold ops6 getOps6; exact rfl) ?_ ?_ ?_
  · simp [*, appendV, srcCells, St.forget, scr, scrC, usesC, usesA, setsV, -List.map_map, -oneV]
    refine U01132 hr.out hT.out _ ?_
    simp [*, R6.X, St6, r6B, r6Z, r6O, r6S, r6Y, St.forget, scr, scrC, usesC, usesA, -List.map_map]
  · simp [*, appendV, srcCells, St.forget, scr, scrC, usesC, usesA, setsV, -List.map_map, -oneV]
    refine U01123 hr.out hT.out _ ?_
    simp [*, R6.X, St6, r6B, r6Z, r6O, r6S, r6Y, St.forget, scr, scrC, usesC, usesA, -List.map_map]
  · simp [*, appendV, srcCells, St.forget, scr, scrC, usesC, usesA, setsV, -List.map_map, -oneV]
    refine U01124 hr.out hT.out _ ?_
    simp [*, R6.X, St6, r6B, r6Z, r6O, r6S, r6Y, St.forget, scr, scrC, usesC, usesA, -List.map_map]
theorem U00140 {r : R6} {K : St → Prop} (hr : R6ok r K) (hT : TabOK Try.prog (tab6 r)) : ∀ t : St, St6 r 0 0 1 4 0 t → cAnyY (tab6 r) ops6 63 K 9 #[false, true, true, true, true, false, false, false, false, false, false, false, false] t := by
  rintro ⟨e, h⟩ q
  simp [R6.X, St6, r6B, r6Z, r6O, r6S, r6Y] at q
  obtain ⟨hF, hg, hj, e1, e2, l1, l2, c1, c2, s1, s2, o1, o2, f1, f2, x1, x2, x3, v3, v4, v5, v6, v7, v8, v9, v1, v2, ch, hK⟩ := id hr
  replace hr : Hid (_) := hr
  replace hT : Hid (_) := hT
  refine cany4y 0 5 6 7 (by kernel_rfl) (by unfold ops6 getOps6; exact rfl) (by unfold ops6 getOps6; exact rfl) (by unfold ops6 getOps6; exact rfl) (by unfold ops6 getOps6; exact rfl) ?_ ?_ ?_ ?_
  · simp [*, appendV, srcCells, St.forget, scr, scrC, usesC, usesA, setsV, -List.map_map, -oneV]
    refine U01140 hr.out hT.out _ ?_
    simp [*, R6.X, St6, r6B, r6Z, r6O, r6S, r6Y, St.forget, scr, scrC, usesC, usesA, -List.map_map]
  · simp [*, appendV, srcCells, St.forget, scr, scrC, usesC, usesA, setsV, -List.map_map, -oneV]
    refine U10140 hr.out hT.out _ ?_
    simp [*, R6.X, St6, r6B, r6Z, r6O, r6S, r6Y, St.forget, scr, scrC, usesC, usesA, -List.map_map]
  · simp [*, appendV, srcCells, St.forget, scr, scrC, usesC, usesA, setsV, -List.map_map, -oneV]
    refine U00141 hr.out hT.out _ ?_
    simp [*, R6.X, St6, r6B, r6Z, r6O, r6S, r6Y, St.forget, scr, scrC, usesC, usesA, -List.map_map]
  · simp [*, appendV, srcCells, St.forget, scr, scrC, usesC, usesA, setsV, -List.map_map, -oneV]
    refine U00142 hr.out hT.out _ ?_
    simp [*, R6.X, St6, r6B, r6Z, r6O, r6S, r6Y, St.forget, scr, scrC, usesC, usesA, -List.map_map]
theorem U01130 {r : R6} {K : St → Prop} (hr : R6ok r K) (hT : TabOK Try.prog (tab6 r)) : ∀ t : St, St6 r 0 1 1 3 0 t → cAnyY (tab6 r) ops6 63 K 9 #[true, true, true, true, false, false, false, false, false, false, false, false, false] t := by
  rintro ⟨e, h⟩ q
  simp [R6.X, St6, r6B, r6Z, r6O, r6S, r6Y] at q
  obtain ⟨hF, hg, hj, e1, e2, l1, l2, c1, c2, s1, s2, o1, o2, f1, f2, x1, x2, x3, v3, v4, v5, v6, v7, v8, v9, v1, v2, ch, hK⟩ := id hr
  replace hr : Hid (_) := hr
  replace hT : Hid (_) := hT
  refine cany3y 4 6 7 (by kernel_rfl) (by unfold ops6 getOps6; exact rfl) (by unfold ops6 getOps6; exact rfl) (by unfold ops6 getOps6; exact rfl) ?_ ?_ ?_
  · simp [*, appendV, srcCells, St.forget, scr, scrC, usesC, usesA, setsV, -List.map_map, -oneV]
    refine U01140 hr.out hT.out _ ?_
    simp [*, R6.X, St6, r6B, r6Z, r6O, r6S, r6Y, St.forget, scr, scrC, usesC, usesA, -List.map_map]
  · simp [*, appendV, srcCells, St.forget, scr, scrC, usesC, usesA, setsV, -List.map_map, -oneV]
    refine U01131 hr.out hT.out _ ?_
    simp [*, R6.X, St6, r6B, r6Z, r6O, r6S, r6Y, St.forget, scr, scrC, usesC, usesA, -List.map_map]
  · simp [*, appendV, srcCells, St.forget, scr, scrC, usesC, usesA, setsV, -List.map_map, -oneV]
    refine U01132 hr.out hT.out _ ?_
    simp [*, R6.X, St6, r6B, r6Z, r6O, r6S, r6Y, St.forget, scr, scrC, usesC, usesA, -List.map_map]
theorem U00025 {r : R6} {K : St → Prop} (hr : R6ok r K) (hT : TabOK Try.prog (tab6 r)) : ∀ t : St, St6 r 0 0 0 2 5 t → cAnyY (tab6 r) ops6 63 K 9 #[false, false, false, true, false, false, true, true, true, false, false, false, false] t := by
  rintro ⟨e, h⟩ q
  simp [R6.X, St6, r6B, r6Z, r6O, r6S, r6Y] at q
  obtain ⟨hF, hg, hj, e1, e2, l1, l2, c1, c2, s1, s2, o1, o2, f1, f2, x1, x2, x3, v3, v4, v5, v6, v7, v8, v9, v1, v2, ch, hK⟩ := id hr
  replace hr : Hid (_) := hr
  replace hT : Hid (_) := hT
  refine cany4y 0 1 2 9 (by kernel_rfl) (by unfold ops6 getOps6; exact rfl) (by unfold ops6 getOps6; exact rfl) (by unfold ops6 getOps6; exact rfl) (by unfold ops6 getOps6; exact rfl) ?_ ?_ ?_ ?_
  · simp [*, appendV, srcCells, St.forget, scr, scrC, usesC, usesA, setsV, -List.map_map, -oneV]
    refine U01025 hr.out hT.out _ ?_
    simp [*, R6.X, St6, r6B, r6Z, r6O, r6S, r6Y, St.forget, scr, scrC, usesC, usesA, -List.map_map]
  · simp [*, appendV, srcCells, St.forget, scr, scrC, usesC, usesA, setsV, -List.map_map, -oneV]
    refine U00125 hr.out hT.out _ ?_
    simp [*, R6.X, St6, r6B, r6Z, r6O, r6S, r6Y, St.forget, scr, scrC, usesC, usesA, -List.map_map]
  · simp [*, appendV, srcCells, St.forget, scr, scrC, usesC, usesA, setsV, -List.map_map, -oneV]
    refine U00035 hr.out hT.out _ ?_
    simp [*, R6.X, St6, r6B, r6Z, r6O, r6S, r6Y, St.forget, scr, scrC, usesC, usesA, -List.map_map]
  · simp [*, appendV, srcCells, St.forget, scr, scrC, usesC, usesA, setsV, -List.map_map, -oneV]
    refine U00026 hr.out hT.out _ ?_
    simp [*, R6.X, St6, r6B, r6Z, r6O, r6S, r6Y, St.forget, scr, scrC, usesC, usesA, -List.map_map]
theorem U00034 {r : R6} {K : St → Prop} (hr : R6ok r K) (hT : TabOK Try.prog (tab6 r)) : ∀ t : St, St6 r 0 0 0 3 4 t → cAnyY (tab6 r) ops6 63 K 9 #[false, false, true, true, false, false, false, true, true, false, false, false, false] t := by
  rintro ⟨e, h⟩ q
  simp [R6.X, St6, r6B, r6Z, r6O, r6S, r6Y] at q
  obtain ⟨hF, hg, hj, e1, e2, l1, l2, c1, c2, s1, s2, o1, o2, f1, f2, x1, x2, x3, v3, v4, v5, v6, v7, v8, v9, v1, v2, ch, hK⟩ := id hr
  replace hr : Hid (_) := hr
  replace hT : Hid (_) := hT
  refine cany4y 0 1 4 6 (by kernel_rfl) (by unfold ops6 getOps6; exact rfl) (by unfold ops6 getOps6; exact rfl) (by unfold ops6 getOps6; exact rfl) (by unfold ops6 getOps6; exact rfl) ?_ ?_ ?_ ?_
  · simp [*, appendV, srcCells, St.forget, scr, scrC, usesC, usesA, setsV, -List.map_map, -oneV]
    refine U01034 hr.out hT.out _ ?_
    simp [*, R6.X, St6, r6B, r6Z, r6O, r6S, r6Y, St.forget, scr, scrC, usesC, usesA, -List.map_map]
  · simp [*, appendV, srcCells, St.forget, scr, scrC, usesC, usesA, setsV, -List.map_map, -oneV]
    refine U00134 hr.out hT.out _ ?_
    simp [*, R6.X, St6, r6B, r6Z, r6O, r6S, r6Y, St.forget, scr, scrC, usesC, usesA, -List.map_map]
  · simp [*, appendV, srcCells, St.forget, scr, scrC, usesC, usesA, setsV, -List.map_map, -oneV]
    refine U00044 hr.out hT.out _ ?_
    simp [*, R6.X, St6, r6B, r6Z, r6O, r6S, r6Y, St.forget, scr, scrC, usesC, usesA, -List.map_map]
  · simp [*, appendV, srcCells, St.forget, scr, scrC, usesC, usesA, setsV, -List.map_map, -oneV]
    refine U00035 hr.out hT.out _ ?_
    simp [*, R6.X, St6, r6B, r6Z, r6O, r6S, r6Y, St.forget, scr, scrC, usesC, usesA, -List.map_map]
theorem U01104 {r : R6} {K : St → Prop} (hr : R6ok r K) (hT : TabOK Try.prog (tab6 r)) : ∀ t : St, St6 r 0 1 1 0 4 t → cAnyY (tab6 r) ops6 63 K 9 #[true, true, false, false, false, false, false, true, true, false, false, false, false] t := by
  rintro ⟨e, h⟩ q
  simp [R6.X, St6, r6B, r6Z, r6O, r6S, r6Y] at q
  obtain ⟨hF, hg, hj, e1, e2, l1, l2, c1, c2, s1, s2, o1, o2, f1, f2, x1, x2, x3, v3, v4, v5, v6, v7, v8, v9, v1, v2, ch, hK⟩ := id hr
  replace hr : Hid (_) := hr
  replace hT : Hid (_) := hT
  refine cany3y 2 3 6 (by kernel_rfl) (by unfold ops6 getOps6; exact rfl) (by unfold ops6 getOps6; exact rfl) (by unfold ops6 getOps6; exact rfl) ?_ ?_ ?_
  · simp [*, appendV, srcCells, St.forget, scr, scrC, usesC, usesA, setsV, -List.map_map, -oneV]
    refine U01114 hr.out hT.out _ ?_
    simp [*, R6.X, St6, r6B, r6Z, r6O, r6S, r6Y, St.forget, scr, scrC, usesC, usesA, -List.map_map]
  · simp [*, appendV, srcCells, St.forget, scr, scrC, usesC, usesA, setsV, -List.map_map, -oneV]
    refine U01124 hr.out hT.out _ ?_
    simp [*, R6.X, St6, r6B, r6Z, r6O, r6S, r6Y, St.forget, scr, scrC, usesC, usesA, -List.map_map]
  · simp [*, appendV, srcCells, St.forget, scr, scrC, usesC, usesA, setsV, -List.map_map, -oneV]
    refine U01105 hr.out hT.out _ ?_
    simp [*, R6.X, St6, r6B, r6Z, r6O, r6S, r6Y, St.forget, scr, scrC, usesC, usesA, -List.map_map]
theorem U01013 {r : R6} {K : St → Prop} (hr : R6ok r K) (hT : TabOK Try.prog (tab6 r)) : ∀ t : St, St6 r 0 1 0 1 3 t → cAnyY (tab6 r) ops6 63 K 9 #[true, false, true, false, false, false, true, true, false, false, false, false, false] t := by
  rintro ⟨e, h⟩ q
  simp [R6.X, St6, r6B, r6Z, r6O, r6S, r6Y] at q
  obtain ⟨hF, hg, hj, e1, e2, l1, l2, c1, c2, s1, s2, o1, o2, f1, f2, x1, x2, x3, v3, v4, v5, v6, v7, v8, v9, v1, v2, ch, hK⟩ := id hr
  replace hr : Hid (_) := hr
  replace hT : Hid (_) := hT
  refine cany3y 1 3 8 (by kernel_rfl) (by unfold ops6 getOps6; exact rfl) (by unfold ops6 getOps6; exact rfl) (by unfold ops6 getOps6; exact rfl) ?_ ?_ ?_
  · simp [*, appendV, srcCells, St.forget, scr, scrC, usesC, usesA, setsV, -List.map_map, -oneV]
    refine U01113 hr.out hT.out _ ?_
    simp [*, R6.X, St6, r6B, r6Z, r6O, r6S, r6Y, St.forget, scr, scrC, usesC, usesA, -List.map_map]
  · simp [*, appendV, srcCells, St.forget, scr, scrC, usesC, usesA, setsV, -List.map_map, -oneV]
    refine U01033 hr.out hT.out _ ?_
    simp [*, R6.X, St6, r6B, r6Z, r6O, r6S, r6Y, St.forget, scr, scrC, usesC, usesA, -List.map_map]
  · simp [*, appendV, srcCells, St.forget, scr, scrC, usesC, usesA, setsV, -List.map_map, -oneV]
    refine U01015 hr.out hT.out _ ?_
    simp [*, R6.X, St6, r6B, r6Z, r6O, r6S, r6Y, St.forget, scr, scrC, usesC, usesA, -List.map_map]
theorem U01023 {r : R6} {K : St → Prop} (hr : R6ok r K) (hT : TabOK Try.prog (tab6 r)) : ∀ t : St, St6 r 0 1 0 2 3 t → cAnyY (tab6 r) ops6 63 K 9 #[true, false, false, true, false, false, true, true, false, false, false, false, false] t := by
  rintro ⟨e, h⟩ q
  simp [R6.X, St6, r6B, r6Z, r6O, r6S, r6Y] at q
  obtain ⟨hF, hg, hj, e1, e2, l1, l2, c1, c2, s1, s2, o1, o2, f1, f2, x1, x2, x3, v3, v4, v5, v6, v7, v8, v9, v1, v2, ch, hK⟩ := id hr
  replace hr : Hid (_) := hr
  replace hT : Hid (_) := hT
  refine cany3y 1 2 8 (by kernel_rfl) (by unfold ops6 getOps6; exact rfl) (by unfold ops6 getOps6; exact rfl) (by unfold ops6 getOps6; exact rfl) ?_ ?_ ?_
  · simp [*, appendV, srcCells, St.forget, scr, scrC, usesC, usesA, setsV, -List.map_map, -oneV]
    refine U01123 hr.out hT.out _ ?_
    simp [*, R6.X, St6, r6B, r6Z, r6O, r6S, r6Y, St.forget, scr, scrC, usesC, usesA, -List.map_map]
  · simp [*, appendV, srcCells, St.forget, scr, scrC, usesC, usesA, setsV, -List.map_map, -oneV]
    refine U01033 hr.out hT.out _ ?_
    simp [*, R6.X, St6, r6B, r6Z, r6O, r6S, r6Y, St.forget, scr, scrC, usesC, usesA, -List.map_map]
  · simp [*, appendV, srcCells, St.forget, scr, scrC, usesC, usesA, setsV, -List.map_map, -oneV]
    refine U01025 hr.out hT.out _ ?_
    simp [*, R6.X, St6, r6B, r6Z, r6O, r6S, r6Y, St.forget, scr, scrC, usesC, usesA, -List.map_map]
theorem U01032 {r : R6} {K : St → Prop} (hr : R6ok r K) (hT : TabOK Try.prog (tab6 r)) : ∀ t : St, St6 r 0 1 0 3 2 t → cAnyY (tab6 r) ops6 63 K 9 #[true, false, true, true, false, false, false, true, false, false, false, false, false] t := by
  rintro ⟨e, h⟩ q
  simp [R6.X, St6, r6B, r6Z, r6O, r6S, r6Y] at q
  obtain ⟨hF, hg, hj, e1, e2, l1, l2, c1, c2, s1, s2, o1, o2, f1, f2, x1, x2, x3, v3, v4, v5, v6, v7, v8, v9, v1, v2, ch, hK⟩ := id hr
  replace hr : Hid (_) := hr
  replace hT : Hid (_) := hT
  refine cany4y 1 4 6 8 (by kernel_rfl) (by unfold ops6 getOps6; exact rfl) (by unfold ops6 getOps6; exact rfl) (by unfold ops6 getOps6; exact rfl) (by unfold ops6 getOps6; exact rfl) ?_ ?_ ?_ ?_
  · simp [*, appendV, srcCells, St.forget, scr, scrC, usesC, usesA, setsV, -List.map_map, -oneV]
    refine U01132 hr.out hT.out _ ?_
    simp [*, R6.X, St6, r6B, r6Z, r6O, r6S, r6Y, St.forget, scr, scrC, usesC, usesA, -List.map_map]
  · simp [*, appendV, srcCells, St.forget, scr, scrC, usesC, usesA, setsV, -List.map_map, -oneV]
    refine U01042 hr.out hT.out _ ?_
    simp [*, R6.X, St6, r6B, r6Z, r6O, r6S, r6Y, St.forget, scr, scrC, usesC, usesA, -List.map_map]
  · simp [*, appendV, srcCells, St.forget, scr, scrC, usesC, usesA, setsV, -List.map_map, -oneV]
    refine U01033 hr.out hT.out _ ?_
    simp [*, R6.X, St6, r6B, r6Z, r6O, r6S, r6Y, St.forget, scr, scrC, usesC, usesA, -List.map_map]
  · simp [*, appendV, srcCells, St.forget, scr, scrC, usesC, usesA, setsV, -List.map_map, -oneV]
    refine U01034 hr.out hT.out _ ?_
    simp [*, R6.X, St6, r6B, r6Z, r6O, r6S, r6Y, St.forget, scr, scrC, usesC, usesA, -List.map_map]
theorem U00131 {r : R6} {K : St → Prop} (hr : R6ok r K) (hT : TabOK Try.prog (tab6 r)) : ∀ t : St, St6 r 0 0 1 3 1 t → cAnyY (tab6 r) ops6 63 K 9 #[false, true, true, true, false, false, true, false, false, false, false, false, false] t := by
  rintro ⟨e, h⟩ q
  simp [R6.X, St6, r6B, r6Z, r6O, r6S, r6Y] at q
  obtain ⟨hF, hg, hj, e1, e2, l1, l2, c1, c2, s1, s2, o1, o2, f1, f2, x1, x2, x3, v3, v4, v5, v6, v7, v8, v9, v1, v2, ch, hK⟩ := id hr
  replace hr : Hid (_) := hr
  replace hT : Hid (_) := hT
  refine cany3y 0 4 7 (by kernel_rfl) (by unfold ops6 getOps6; exact rfl) (by unfold ops6 getOps6; exact rfl) (by unfold ops6 getOps6; exact rfl) ?_ ?_ ?_
  · simp [*, appendV, srcCells, St.forget, scr, scrC, usesC, usesA, setsV, -List.map_map, -oneV]
    refine U01131 hr.out hT.out _ ?_
    simp [*, R6.X, St6, r6B, r6Z, r6O, r6S, r6Y, St.forget, scr, scrC, usesC, usesA, -List.map_map]
  · simp [*, appendV, srcCells, St.forget, scr, scrC, usesC, usesA, setsV, -List.map_map, -oneV]
    refine U00141 hr.out hT.out _ ?_
    simp [*, R6.X, St6, r6B, r6Z, r6O, r6S, r6Y, St.forget, scr, scrC, usesC, usesA, -List.map_map]
  · simp [*, appendV, srcCells, St.forget, scr, scrC, usesC, usesA, setsV, -List.map_map, -oneV]
    refine U00133 hr.out hT.out _ ?_
    simp [*, R6.X, St6, r6B, r6Z, r6O, r6S, r6Y, St.forget, scr, scrC, usesC, usesA, -List.map_map]
theorem U00113 {r : R6} {K : St → Prop} (hr : R6ok r K) (hT : TabOK Try.prog (tab6 r)) : ∀ t : St, St6 r 0 0 1 1 3 t → cAnyY (tab6 r) ops6 63 K 9 #[false, true, true, false, false, false, true, true, false, false, false, false, false] t := by
  rintro ⟨e, h⟩ q
  simp [R6.X, St6, r6B, r6Z, r6O, r6S, r6Y] at q
  obtain ⟨hF, hg, hj, e1, e2, l1, l2, c1, c2, s1, s2, o1, o2, f1, f2, x1, x2, x3, v3, v4, v5, v6, v7, v8, v9, v1, v2, ch, hK⟩ := id hr
  replace hr : Hid (_) := hr
  replace hT : Hid (_) := hT
  refine cany3y 0 3 8 (by kernel_rfl) (by unfold ops6 getOps6; exact rfl) (by unfold ops6 getOps6; exact rfl) (by unfold ops6 getOps6; exact rfl) ?_ ?_ ?_
  · simp [*, appendV, srcCells, St.forget, scr, scrC, usesC, usesA, setsV, -List.map_map, -oneV]
    refine U01113 hr.out hT.out _ ?_
    simp [*, R6.X, St6, r6B, r6Z, r6O, r6S, r6Y, St.forget, scr, scrC, usesC, usesA, -List.map_map]
  · simp [*, appendV, srcCells, St.forget, scr, scrC, usesC, usesA, setsV, -List.map_map, -oneV]
    refine U00133 hr.out hT.out _ ?_
    simp [*, R6.X, St6, r6B, r6Z, r6O, r6S, r6Y, St.forget, scr, scrC, usesC, usesA, -List.map_map]
  · simp [*, appendV, srcCells, St.forget, scr, scrC, usesC, usesA, setsV, -List.map_map, -oneV]
    refine U00115 hr.out hT.out _ ?_
    simp [*, R6.X, St6, r6B, r6Z, r6O, r6S, r6Y, St.forget, scr, scrC, usesC, usesA, -List.map_map]
theorem U00033 {r : R6} {K : St → Prop} (hr : R6ok r K) (hT : TabOK Try.prog (tab6 r)) : ∀ t : St, St6 r 0 0 0 3 3 t → cAnyY (tab6 r) ops6 63 K 9 #[false, false, true, true, false, false, true, true, false, false, false, false, false] t := by
  rintro ⟨e, h⟩ q
  simp [R6.X, St6, r6B, r6Z, r6O, r6S, r6Y] at q
  obtain ⟨hF, hg, hj, e1, e2, l1, l2, c1, c2, s1, s2, o1, o2, f1, f2, x1, x2, x3, v3, v4, v5, v6, v7, v8, v9, v1, v2, ch, hK⟩ := id hr
  replace hr : Hid (_) := hr
  replace hT : Hid (_) := hT
  refine cany4y 0 1 4 8 (by kernel_rfl) (by unfold ops6 getOps6; exact rfl) (by unfold ops6 getOps6; exact rfl) (by unfold ops6 getOps6; exact rfl) (by unfold ops6 getOps6; exact rfl) ?_ ?_ ?_ ?_
  · simp [*, appendV, srcCells, St.forget, scr, scrC, usesC, usesA, setsV, -List.map_map, -oneV]
    refine U01033 hr.out hT.out _ ?_
    simp [*, R6.X, St6, r6B, r6Z, r6O, r6S, r6Y, St.forget, scr, scrC, usesC, usesA, -List.map_map]
  · simp [*, appendV, srcCells, St.forget, scr, scrC, usesC, usesA, setsV, -List.map_map, -oneV]
    refine U00133 hr.out hT.out _ ?_
    simp [*, R6.X, St6, r6B, r6Z, r6O, r6S, r6Y, St.forget, scr, scrC, usesC, usesA, -List.map_map]
  · simp [*, appendV, srcCells, St.forget, scr, scrC, usesC, usesA, setsV, -List.map_map, -oneV]
    refine U00043 hr.out hT.out _ ?_
    simp [*, R6.X, St6, r6B, r6Z, r6O, r6S, r6Y, St.forget, scr, scrC, usesC, usesA, -List.map_map]
  · simp [*, appendV, srcCells, St.forget, scr, scrC, usesC, usesA, setsV, -List.map_map, -oneV]
    refine U00035 hr.out hT.out _ ?_
    simp [*, R6.X, St6, r6B, r6Z, r6O, r6S, r6Y, St.forget, scr, scrC, usesC, usesA, -List.map_map]
theorem U00124 {r : R6} {K : St → Prop} (hr : R6ok r K) (hT : TabOK Try.prog (tab6 r)) : ∀ t : St, St6 r 0 0 1 2 4 t → cAnyY (tab6 r) ops6 63 K 9 #[false, true, false, true, false, false, false, true, true, false, false, false, false] t := by
  rintro ⟨e, h⟩ q
  simp [R6.X, St6, r6B, r6Z, r6O, r6S, r6Y] at q
  obtain ⟨hF, hg, hj, e1, e2, l1, l2, c1, c2, s1, s2, o1, o2, f1, f2, x1, x2, x3, v3, v4, v5, v6, v7, v8, v9, v1, v2, ch, hK⟩ := id hr
  replace hr : Hid (_) := hr
  replace hT : Hid (_) := hT
  refine cany3y 0 2 6 (by kernel_rfl) (by unfold ops6 getOps6; exact rfl) (by unfold ops6 getOps6; exact rfl) (by unfold ops6 getOps6; exact rfl) ?_ ?_ ?_
  · simp [*, appendV, srcCells, St.forget, scr, scrC, usesC, usesA, setsV, -List.map_map, -oneV]
    refine U01124 hr.out hT.out _ ?_
    simp [*, R6.X, St6, r6B, r6Z, r6O, r6S, r6Y, St.forget, scr, scrC, usesC, usesA, -List.map_map]
  · simp [*, appendV, srcCells, St.forget, scr, scrC, usesC, usesA, setsV, -List.map_map, -oneV]
    refine U00134 hr.out hT.out _ ?_
    simp [*, R6.X, St6, r6B, r6Z, r6O, r6S, r6Y, St.forget, scr, scrC, usesC, usesA, -List.map_map]
  · simp [*, appendV, srcCells, St.forget, scr, scrC, usesC, usesA, setsV, -List.map_map, -oneV]
    refine U00125 hr.out hT.out _ ?_
    simp [*, R6.X, St6, r6B, r6Z, r6O, r6S, r6Y, St.forget, scr, scrC, usesC, usesA, -List.map_map]
theorem U01103 {r : R6} {K : St → Prop} (hr : R6ok r K) (hT : TabOK Try.prog (tab6 r)) : ∀ t : St, St6 r 0 1 1 0 3 t → cAnyY (tab6 r) ops6 63 K 9 #[true, true, false, false, false, false, true, true, false, false, false, false, false] t := by
  rintro ⟨e, h⟩ q
  simp [R6.X, St6, r6B, r6Z, r6O, r6S, r6Y] at q
  obtain ⟨hF, hg, hj, e1, e2, l1, l2, c1, c2, s1, s2, o1, o2, f1, f2, x1, x2, x3, v3, v4, v5, v6, v7, v8, v9, v1, v2, ch, hK⟩ := id hr
  replace hr : Hid (_) := hr
  replace hT : Hid (_) := hT
  refine cany3y 2 3 8 (by kernel_rfl) (by unfold ops6 getOps6; exact rfl) (by unfold ops6 getOps6; exact rfl) (by unfold ops6 getOps6; exact rfl) ?_ ?_ ?_
  · simp [*, appendV, srcCells, St.forget, scr, scrC, usesC, usesA, setsV, -List.map_map, -oneV]
    refine U01113 hr.out hT.out _ ?_
    simp [*, R6.X, St6, r6B, r6Z, r6O, r6S, r6Y, St.forget, scr, scrC, usesC, usesA, -List.map_map]
  · simp [*, appendV, srcCells, St.forget, scr, scrC, usesC, usesA, setsV, -List.map_map, -oneV]
    refine U01123 hr.out hT.out _ ?_
    simp [*, R6.X, St6, r6B, r6Z, r6O, r6S, r6Y, St.forget, scr, scrC, usesC, usesA, -List.map_map]
  · simp [*, appendV, srcCells, St.forget, scr, scrC, usesC, usesA, setsV, -List.map_map, -oneV]
    refine U01105 hr.out hT.out _ ?_
    simp [*, R6.X, St6, r6B, r6Z, r6O, r6S, r6Y, St.forget, scr, scrC, usesC, usesA, -List.map_map]
theorem U00015 {r : R6} {K : St → Prop} (hr : R6ok r K) (hT : TabOK Try.prog (tab6 r)) : ∀ t : St, St6 r 0 0 0 1 5 t → cAnyY (tab6 r) ops6 63 K 9 #[false, false, true, false, false, false, true, true, true, false, false, false, false] t := by
  rintro ⟨e, h⟩ q
  simp [R6.X, St6, r6B, r6Z, r6O, r6S, r6Y] at q
  obtain ⟨hF, hg, hj, e1, e2, l1, l2, c1, c2, s1, s2, o1, o2, f1, f2, x1, x2, x3, v3, v4, v5, v6, v7, v8, v9, v1, v2, ch, hK⟩ := id hr
  replace hr : Hid (_) := hr
  replace hT : Hid (_) := hT
  refine cany4y 0 1 3 9 (by kernel_rfl) (by unfold ops6 getOps6; exact rfl) (by unfold ops6 getOps6; exact rfl) (by unfold ops6 getOps6; exact rfl) (by unfold ops6 getOps6; exact rfl) ?_ ?_ ?_ ?_
  · simp [*, appendV, srcCells, St.forget, scr, scrC, usesC, usesA, setsV, -List.map_map, -oneV]
    refine U01015 hr.out hT.out _ ?_
    simp [*, R6.X, St6, r6B, r6Z, r6O, r6S, r6Y, St.forget, scr, scrC, usesC, usesA, -List.map_map]
  · simp [*, appendV, srcCells, St.forget, scr, scrC, usesC, usesA, setsV, -List.map_map, -oneV]
    refine U00115 hr.out hT.out _ ?_
    simp [*, R6.X, St6, r6B, r6Z, r6O, r6S, r6Y, St.forget, scr, scrC, usesC, usesA, -List.map_map]
  · simp [*, appendV, srcCells, St.forget, scr, scrC, usesC, usesA, setsV, -List.map_map, -oneV]
    refine U00035 hr.out hT.out _ ?_
    simp [*, R6.X, St6, r6B, r6Z, r6O, r6S, r6Y, St.forget, scr, scrC, usesC, usesA, -List.map_map]
  · simp [*, appendV, srcCells, St.forget, scr, scrC, usesC, usesA, setsV, -List.map_map, -oneV]
    refine U00016 hr.out hT.out _ ?_
    simp [*, R6.X, St6, r6B, r6Z, r6O, r6S, r6Y, St.forget, scr, scrC, usesC, usesA, -List.map_map]
theorem U01014 {r : R6} {K : St → Prop} (hr : R6ok r K) (hT : TabOK Try.prog (tab6 r)) : ∀ t : St, St6 r 0 1 0 1 4 t → cAnyY (tab6 r) ops6 63 K 9 #[true, false, true, false, false, false, false, true, true, false, false, false, false] t := by
  rintro ⟨e, h⟩ q
  simp [R6.X, St6, r6B, r6Z, r6O, r6S, r6Y] at q
  obtain ⟨hF, hg, hj, e1, e2, l1, l2, c1, c2, s1, s2, o1, o2, f1, f2, x1, x2, x3, v3, v4, v5, v6, v7, v8, v9, v1, v2, ch, hK⟩ := id hr
  replace hr : Hid (_) := hr
  replace hT : Hid (_) := hT
  refine cany3y 1 3 6 (by kernel_rfl) (by unfold ops6 getOps6; exact rfl) (by unfold ops6 getOps6; exact rfl) (by unfold ops6 getOps6; exact rfl) ?_ ?_ ?_
  · simp [*, appendV, srcCells, St.forget, scr, scrC, usesC, usesA, setsV, -List.map_map, -oneV]
    refine U01114 hr.out hT.out _ ?_
    simp [*, R6.X, St6, r6B, r6Z, r6O, r6S, r6Y, St.forget, scr, scrC, usesC, usesA, -List.map_map]
  · simp [*, appendV, srcCells, St.forget, scr, scrC, usesC, usesA, setsV, -List.map_map, -oneV]
    refine U01034 hr.out hT.out _ ?_
    simp [*, R6.X, St6, r6B, r6Z, r6O, r6S, r6Y, St.forget, scr, scrC, usesC, usesA, -List.map_map]
  · simp [*, appendV, srcCells, St.forget, scr, scrC, usesC, usesA, setsV, -List.map_map, -oneV]
    refine U01015 hr.out hT.out _ ?_
    simp [*, R6.X, St6, r6B, r6Z, r6O, r6S, r6Y, St.forget, scr, scrC, usesC, usesA, -List.map_map]
theorem U01031 {r : R6} {K : St → Prop} (hr : R6ok r K) (hT : TabOK Try.prog (tab6 r)) : ∀ t : St, St6 r 0 1 0 3 1 t → cAnyY (tab6 r) ops6 63 K 9 #[true, false, true, true, false, false, true, false, false, false, false, false, false] t := by
  rintro ⟨e, h⟩ q
  simp [R6.X, St6, r6B, r6Z, r6O, r6S, r6Y] at q
  obtain ⟨hF, hg, hj, e1, e2, l1, l2, c1, c2, s1, s2, o1, o2, f1, f2, x1, x2, x3, v3, v4, v5, v6, v7, v8, v9, v1, v2, ch, hK⟩ := id hr
  replace hr : Hid (_) := hr
  replace hT : Hid (_) := hT
  refine cany3y 1 4 7 (by kernel_rfl) (by unfold ops6 getOps6; exact rfl) (by unfold ops6 getOps6; exact rfl) (by unfold ops6 getOps6; exact rfl) ?_ ?_ ?_
  · simp [*, appendV, srcCells, St.forget, scr, scrC, usesC, usesA, setsV, -List.map_map, -oneV]
    refine U01131 hr.out hT.out _ ?_
    simp [*, R6.X, St6, r6B, r6Z, r6O, r6S, r6Y, St.forget, scr, scrC, usesC, usesA, -List.map_map]
  · simp [*, appendV, srcCells, St.forget, scr, scrC, usesC, usesA, setsV, -List.map_map, -oneV]
    refine U01041 hr.out hT.out _ ?_
    simp [*, R6.X, St6, r6B, r6Z, r6O, r6S, r6Y, St.forget, scr, scrC, usesC, usesA, -List.map_map]
  · simp [*, appendV, srcCells, St.forget, scr, scrC, usesC, usesA, setsV, -List.map_map, -oneV]
    refine U01033 hr.out hT.out _ ?_
    simp [*, R6.X, St6, r6B, r6Z, r6O, r6S, r6Y, St.forget, scr, scrC, usesC, usesA, -List.map_map]
theorem U01121 {r : R6} {K : St → Prop} (hr : R6ok r K) (hT : TabOK Try.prog (tab6 r)) : ∀ t : St, St6 r 0 1 1 2 1 t → cAnyY (tab6 r) ops6 63 K 9 #[true, true, false, true, false, false, true, false, false, false, false, false, false] t := by
  rintro ⟨e, h⟩ q
  simp [R6.X, St6, r6B, r6Z, r6O, r6S, r6Y] at q
  obtain ⟨hF, hg, hj, e1, e2, l1, l2, c1, c2, s1, s2, o1, o2, f1, f2, x1, x2, x3, v3, v4, v5, v6, v7, v8, v9, v1, v2, ch, hK⟩ := id hr
  replace hr : Hid (_) := hr
  replace hT : Hid (_) := hT
  refine cany2y 2 7 (by kernel_rfl) (by unfold ops6 getOps6; exact rfl) (by unfold ops6 getOps6; exact rfl) ?_ ?_
  · simp [*, appendV, srcCells, St.forget, scr, scrC, usesC, usesA, setsV, -List.map_map, -oneV]
    refine U01131 hr.out hT.out _ ?_
    simp [*, R6.X, St6, r6B, r6Z, r6O, r6S, r6Y, St.forget, scr, scrC, usesC, usesA, -List.map_map]
  · simp [*, appendV, srcCells, St.forget, scr, scrC, usesC, usesA, setsV, -List.map_map, -oneV]
    refine U01123 hr.out hT.out _ ?_
    simp [*, R6.X, St6, r6B, r6Z, r6O, r6S, r6Y, St.forget, scr, scrC, usesC, usesA, -List.map_map]
theorem U01005 {r : R6} {K : St → Prop} (hr : R6ok r K) (hT : TabOK Try.prog (tab6 r)) : ∀ t : St, St6 r 0 1 0 0 5 t → cAnyY (tab6 r) ops6 63 K 9 #[true, false, false, false, false, false, true, true, true, false, false, false, false] t := by
  rintro ⟨e, h⟩ q
  simp [R6.X, St6, r6B, r6Z, r6O, r6S, r6Y] at q
  obtain ⟨hF, hg, hj, e1, e2, l1, l2, c1, c2, s1, s2, o1, o2, f1, f2, x1, x2, x3, v3, v4, v5, v6, v7, v8, v9, v1, v2, ch, hK⟩ := id hr
  replace hr : Hid (_) := hr
  replace hT : Hid (_) := hT
  refine cany4y 1 2 3 9 (by kernel_rfl) (by unfold ops6 getOps6; exact rfl) (by unfold ops6 getOps6; exact rfl) (by unfold ops6 getOps6; exact rfl) (by unfold ops6 getOps6; exact rfl) ?_ ?_ ?_ ?_
  · simp [*, appendV, srcCells, St.forget, scr, scrC, usesC, usesA, setsV, -List.map_map, -oneV]
    refine U01105 hr.out hT.out _ ?_
    simp [*, R6.X, St6, r6B, r6Z, r6O, r6S, r6Y, St.forget, scr, scrC, usesC, usesA, -List.map_map]
  · simp [*, appendV, srcCells, St.forget, scr, scrC, usesC, usesA, setsV, -List.map_map, -oneV]
    refine U01015 hr.out hT.out _ ?_
    simp [*, R6.X, St6, r6B, r6Z, r6O, r6S, r6Y, St.forget, scr, scrC, usesC, usesA, -List.map_map]
  · simp [*, appendV, srcCells, St.forget, scr, scrC, usesC, usesA, setsV, -List.map_map, -oneV]
    refine U01025 hr.out hT.out _ ?_
    simp [*, R6.X, St6, r6B, r6Z, r6O, r6S, r6Y, St.forget, scr, scrC, usesC, usesA, -List.map_map]
  · simp [*, appendV, srcCells, St.forget, scr, scrC, usesC, usesA, setsV, -List.map_map, -oneV]
    refine U01006 hr.out hT.out _ ?_
    simp [*, R6.X, St6, r6B, r6Z, r6O, r6S, r6Y, St.forget, scr, scrC, usesC, usesA, -List.map_map]
theorem U00042 {r : R6} {K : St → Prop} (hr : R6ok r K) (hT : TabOK Try.prog (tab6 r)) : ∀ t : St, St6 r 0 0 0 4 2 t → cAnyY (tab6 r) ops6 63 K 9 #[false, false, true, true, true, false, false, true, false, false, false, false, false] t := by
  rintro ⟨e, h⟩ q
  simp [R6.X, St6, r6B, r6Z, r6O, r6S, r6Y] at q
  obtain ⟨hF, hg, hj, e1, e2, l1, l2, c1, c2, s1, s2, o1, o2, f1, f2, x1, x2, x3, v3, v4, v5, v6, v7, v8, v9, v1, v2, ch, hK⟩ := id hr
  replace hr : Hid (_) := hr
  replace hT : Hid (_) := hT
  refine cany4y 0 1 6 8 (by kernel_rfl) (by unfold ops6 getOps6; exact rfl) (by unfold ops6 getOps6; exact rfl) (by unfold ops6 getOps6; exact rfl) (by unfold ops6 getOps6; exact rfl) ?_ ?_ ?_ ?_
  · simp [*, appendV, srcCells, St.forget, scr, scrC, usesC, usesA, setsV, -List.map_map, -oneV]
    refine U01042 hr.out hT.out _ ?_
    simp [*, R6.X, St6, r6B, r6Z, r6O, r6S, r6Y, St.forget, scr, scrC, usesC, usesA, -List.map_map]
  · simp [*, appendV, srcCells, St.forget, scr, scrC, usesC, usesA, setsV, -List.map_map, -oneV]
    refine U00142 hr.out hT.out _ ?_
    simp [*, R6.X, St6, r6B, r6Z, r6O, r6S, r6Y, St.forget, scr, scrC, usesC, usesA, -List.map_map]
  · simp [*, appendV, srcCells, St.forget, scr, scrC, usesC, usesA, setsV, -List.map_map, -oneV]
    refine U00043 hr.out hT.out _ ?_
    simp [*, R6.X, St6, r6B, r6Z, r6O, r6S, r6Y, St.forget, scr, scrC, usesC, usesA, -List.map_map]
  · simp [*, appendV, srcCells, St.forget, scr, scrC, usesC, usesA, setsV, -List.map_map, -oneV]
    refine U00044 hr.out hT.out _ ?_
    simp [*, R6.X, St6, r6B, r6Z, r6O, r6S, r6Y, St.forget, scr, scrC, usesC, usesA, -List.map_map]
theorem U01112 {r : R6} {K : St → Prop} (hr : R6ok r K) (hT : TabOK Try.prog (tab6 r)) : ∀ t : St, St6 r 0 1 1 1 2 t → cAnyY (tab6 r) ops6 63 K 9 #[true, true, true, false, false, false, false, true, false, false, false, false, false] t := by
  rintro ⟨e, h⟩ q
  simp [R6.X, St6, r6B, r6Z, r6O, r6S, r6Y] at q
  obtain ⟨hF, hg, hj, e1, e2, l1, l2, c1, c2, s1, s2, o1, o2, f1, f2, x1, x2, x3, v3, v4, v5, v6, v7, v8, v9, v1, v2, ch, hK⟩ := id hr
  replace hr : Hid (_) := hr
  replace hT : Hid (_) := hT
  refine cany3y 3 6 8 (by kernel_rfl) (by unfold ops6 getOps6; exact rfl) (by unfold ops6 getOps6; exact rfl) (by unfold ops6 getOps6; exact rfl) ?_ ?_ ?_
  · simp [*, appendV, srcCells, St.forget, scr, scrC, usesC, usesA, setsV, -List.map_map, -oneV]
    refine U01132 hr.out hT.out _ ?_
    simp [*, R6.X, St6, r6B, r6Z, r6O, r6S, r6Y, St.forget, scr, scrC, usesC, usesA, -List.map_map]
  · simp [*, appendV, srcCells, St.forget, scr, scrC, usesC, usesA, setsV, -List.map_map, -oneV]
    refine U01113 hr.out hT.out _ ?_
    simp [*, R6.X, St6, r6B, r6Z, r6O, r6S, r6Y, St.forget, scr, scrC, usesC, usesA, -List.map_map]
  · simp [*, appendV, srcCells, St.forget, scr, scrC, usesC, usesA, setsV, -List.map_map, -oneV]
    refine U01114 hr.out hT.out _ ?_
    simp [*, R6.X, St6, r6B, r6Z, r6O, r6S, r6Y, St.forget, scr, scrC, usesC, usesA, -List.map_map]
theorem U00123 {r : R6} {K : St → Prop} (hr : R6ok r K) (hT : TabOK Try.prog (tab6 r)) : ∀ t : St, St6 r 0 0 1 2 3 t → cAnyY (tab6 r) ops6 63 K 9 #[false, true, false, true, false, false, true, true, false, false, false, false, false] t := by
  rintro ⟨e, h⟩ q
  simp [R6.X, St6, r6B, r6Z, r6O, r6S, r6Y] at q
  obtain ⟨hF, hg, hj, e1, e2, l1, l2, c1, c2, s1, s2, o1, o2, f1, f2, x1, x2, x3, v3, v4, v5, v6, v7, v8, v9, v1, v2, ch, hK⟩ := id hr
  replace hr : Hid (_) := hr
  replace hT : Hid (_) := hT
  refine cany3y 0 2 8 (by kernel_rfl) (by unfold ops6 getOps6; exact rfl) (by unfold ops6 getOps6; exact rfl) (by unfold ops6 getOps6; exact rfl) ?_ ?_ ?_
  · simp [*, appendV, srcCells, St.forget, scr, scrC, usesC, usesA, setsV, -List.map_map, -oneV]
    refine U01123 hr.out hT.out _ ?_
    simp [*, R6.X, St6, r6B, r6Z, r6O, r6S, r6Y, St.forget, scr, scrC, usesC, usesA, -List.map_map]
  · simp [*, appendV, srcCells, St.forget, scr, scrC, usesC, usesA, setsV, -List.map_map, -oneV]
    refine U00133 hr.out hT.out _ ?_
    simp [*, R6.X, St6, r6B, r6Z, r6O, r6S, r6Y, St.forget, scr, scrC, usesC, usesA, -List.map_map]
  · simp [*, appendV, srcCells, St.forget, scr, scrC, usesC, usesA, setsV, -List.map_map, -oneV]
    refine U00125 hr.out hT.out _ ?_
    simp [*, R6.X, St6, r6B, r6Z, r6O, r6S, r6Y, St.forget, scr, scrC, usesC, usesA, -List.map_map]
theorem U00105 {r : R6} {K : St → Prop} (hr : R6ok r K) (hT : TabOK Try.prog (tab6 r)) : ∀ t : St, St6 r 0 0 1 0 5 t → cAnyY (tab6 r) ops6 63 K 9 #[false, true, false, false, false, false, true, true, true, false, false, false, false] t := by
  rintro ⟨e, h⟩ q
  simp [R6.X, St6, r6B, r6Z, r6O, r6S, r6Y] at q
  obtain ⟨hF, hg, hj, e1, e2, l1, l2, c1, c2, s1, s2, o1, o2, f1, f2, x1, x2, x3, v3, v4, v5, v6, v7, v8, v9, v1, v2, ch, hK⟩ := id hr
  replace hr : Hid (_) := hr
  replace hT : Hid (_) := hT
  refine cany4y 0 2 3 9 (by kernel_rfl) (by unfold ops6 getOps6; exact rfl) (by unfold ops6 getOps6; exact rfl) (by unfold ops6 getOps6; exact rfl) (by unfold ops6 getOps6; exact rfl) ?_ ?_ ?_ ?_
  · simp [*, appendV, srcCells, St.forget, scr, scrC, usesC, usesA, setsV, -List.map_map, -oneV]
    refine U01105 hr.out hT.out _ ?_
    simp [*, R6.X, St6, r6B, r6Z, r6O, r6S, r6Y, St.forget, scr, scrC, usesC, usesA, -List.map_map]
  · simp [*, appendV, srcCells, St.forget, scr, scrC, usesC, usesA, setsV, -List.map_map, -oneV]
    refine U00115 hr.out hT.out _ ?_
    simp [*, R6.X, St6, r6B, r6Z, r6O, r6S, r6Y, St.forget, scr, scrC, usesC, usesA, -List.map_map]
  · simp [*, appendV, srcCells, St.forget, scr, scrC, usesC, usesA, setsV, -List.map_map, -oneV]
    refine U00125 hr.out hT.out _ ?_
    simp [*, R6.X, St6, r6B, r6Z, r6O, r6S, r6Y, St.forget, scr, scrC, usesC, usesA, -List.map_map]
  · simp [*, appendV, srcCells, St.forget, scr, scrC, usesC, usesA, setsV, -List.map_map, -oneV]
    refine U00106 hr.out hT.out _ ?_
    simp [*, R6.X, St6, r6B, r6Z, r6O, r6S, r6Y, St.forget, scr, scrC, usesC, usesA, -List.map_map]
theorem U01040 {r : R6} {K : St → Prop} (hr : R6ok r K) (hT : TabOK Try.prog (tab6 r)) : ∀ t : St, St6 r 0 1 0 4 0 t → cAnyY (tab6 r) ops6 63 K 9 #[true, false, true, true, true, false, false, false, false, false, false, false, false] t := by
  rintro ⟨e, h⟩ q
  simp [R6.X, St6, r6B, r6Z, r6O, r6S, r6Y] at q
  obtain ⟨hF, hg, hj, e1, e2, l1, l2, c1, c2, s1, s2, o1, o2, f1, f2, x1, x2, x3, v3, v4, v5, v6, v7, v8, v9, v1, v2, ch, hK⟩ := id hr
  replace hr : Hid (_) := hr
  replace hT : Hid (_) := hT
  refine cany3y 1 6 7 (by kernel_rfl) (by unfold ops6 getOps6; exact rfl) (by unfold ops6 getOps6; exact rfl) (by unfold ops6 getOps6; exact rfl) ?_ ?_ ?_
  · simp [*, appendV, srcCells, St.forget, scr, scrC, usesC, usesA, setsV, -List.map_map, -oneV]
    refine U01140 hr.out hT.out _ ?_
    simp [*, R6.X, St6, r6B, r6Z, r6O, r6S, r6Y, St.forget, scr, scrC, usesC, usesA, -List.map_map]
  · simp [*, appendV, srcCells, St.forget, scr, scrC, usesC, usesA, setsV, -List.map_map, -oneV]
    refine U01041 hr.out hT.out _ ?_
    simp [*, R6.X, St6, r6B, r6Z, r6O, r6S, r6Y, St.forget, scr, scrC, usesC, usesA, -List.map_map]
  · simp [*, appendV, srcCells, St.forget, scr, scrC, usesC, usesA, setsV, -List.map_map, -oneV]
    refine U01042 hr.out hT.out _ ?_
    simp [*, R6.X, St6, r6B, r6Z, r6O, r6S, r6Y, St.forget, scr, scrC, usesC, usesA, -List.map_map]
theorem U01024 {r : R6} {K : St → Prop} (hr : R6ok r K) (hT : TabOK Try.prog (tab6 r)) : ∀ t : St, St6 r 0 1 0 2 4 t → cAnyY (tab6 r) ops6 63 K 9 #[true, false, false, true, false, false, false, true, true, false, false, false, false] t := by
  rintro ⟨e, h⟩ q
  simp [R6.X, St6, r6B, r6Z, r6O, r6S, r6Y] at q
  obtain ⟨hF, hg, hj, e1, e2, l1, l2, c1, c2, s1, s2, o1, o2, f1, f2, x1, x2, x3, v3, v4, v5, v6, v7, v8, v9, v1, v2, ch, hK⟩ := id hr
  replace hr : Hid (_) := hr
  replace hT : Hid (_) := hT
  refine cany3y 1 2 6 (by kernel_rfl) (by unfold ops6 getOps6; exact rfl) (by unfold ops6 getOps6; exact rfl) (by unfold ops6 getOps6; exact rfl) ?_ ?_ ?_
  · simp [*, appendV, srcCells, St.forget, scr, scrC, usesC, usesA, setsV, -List.map_map, -oneV]
    refine U01124 hr.out hT.out _ ?_
    simp [*, R6.X, St6, r6B, r6Z, r6O, r6S, r6Y, St.forget, scr, scrC, usesC, usesA, -List.map_map]
  · simp [*, appendV, srcCells, St.forget, scr, scrC, usesC, usesA, setsV, -List.map_map, -oneV]
    refine U01034 hr.out hT.out _ ?_
    simp [*, R6.X, St6, r6B, r6Z, r6O, r6S, r6Y, St.forget, scr, scrC, usesC, usesA, -List.map_map]
  · simp [*, appendV, srcCells, St.forget, scr, scrC, usesC, usesA, setsV, -List.map_map, -oneV]
    refine U01025 hr.out hT.out _ ?_
    simp [*, R6.X, St6, r6B, r6Z, r6O, r6S, r6Y, St.forget, scr, scrC, usesC, usesA, -List.map_map]
theorem U01120 {r : R6} {K : St → Prop} (hr : R6ok r K) (hT : TabOK Try.prog (tab6 r)) : ∀ t : St, St6 r 0 1 1 2 0 t → cAnyY (tab6 r) ops6 63 K 10 #[true, true, false, true, false, false, false, false, false, false, false, false, false] t := by
  rintro ⟨e, h⟩ q
  simp [R6.X, St6, r6B, r6Z, r6O, r6S, r6Y] at q
  obtain ⟨hF, hg, hj, e1, e2, l1, l2, c1, c2, s1, s2, o1, o2, f1, f2, x1, x2, x3, v3, v4, v5, v6, v7, v8, v9, v1, v2, ch, hK⟩ := id hr
  replace hr : Hid (_) := hr
  replace hT : Hid (_) := hT
  refine cany3y 2 6 7 (by kernel_rfl) (by unfold ops6 getOps6; exact rfl) (by unfold ops6 getOps6; exact rfl) (by unfold ops6 getOps6; exact rfl) ?_ ?_ ?_
  · simp [*, appendV, srcCells, St.forget, scr, scrC, usesC, usesA, setsV, -List.map_map, -oneV]
    refine U01130 hr.out hT.out _ ?_
    simp [*, R6.X, St6, r6B, r6Z, r6O, r6S, r6Y, St.forget, scr, scrC, usesC, usesA, -List.map_map]
  · simp [*, appendV, srcCells, St.forget, scr, scrC, usesC, usesA, setsV, -List.map_map, -oneV]
    refine U01121 hr.out hT.out _ ?_
    simp [*, R6.X, St6, r6B, r6Z, r6O, r6S, r6Y, St.forget, scr, scrC, usesC, usesA, -List.map_map]
  · simp [*, appendV, srcCells, St.forget, scr, scrC, usesC, usesA, setsV, -List.map_map, -oneV]
    refine U01122 hr.out hT.out _ ?_
    simp [*, R6.X, St6, r6B, r6Z, r6O, r6S, r6Y, St.forget, scr, scrC, usesC, usesA, -List.map_map]
theorem U01004 {r : R6} {K : St → Prop} (hr : R6ok r K) (hT : TabOK Try.prog (tab6 r)) : ∀ t : St, St6 r 0 1 0 0 4 t → cAnyY (tab6 r) ops6 63 K 10 #[true, false, false, false, false, false, false, true, true, false, false, false, false] t := by
  rintro ⟨e, h⟩ q
  simp [R6.X, St6, r6B, r6Z, r6O, r6S, r6Y] at q
  obtain ⟨hF, hg, hj, e1, e2, l1, l2, c1, c2, s1, s2, o1, o2, f1, f2, x1, x2, x3, v3, v4, v5, v6, v7, v8, v9, v1, v2, ch, hK⟩ := id hr
  replace hr : Hid (_) := hr
  replace hT : Hid (_) := hT
  refine cany4y 1 2 3 6 (by kernel_rfl) (by unfold ops6 getOps6; exact rfl) (by unfold ops6 getOps6; exact rfl) (by unfold ops6 getOps6; exact rfl) (by unfold ops6 getOps6; exact rfl) ?_ ?_ ?_ ?_
  · simp [*, appendV, srcCells, St.forget, scr, scrC, usesC, usesA, setsV, -List.map_map, -oneV]
    refine U01104 hr.out hT.out _ ?_
    simp [*, R6.X, St6, r6B, r6Z, r6O, r6S, r6Y, St.forget, scr, scrC, usesC, usesA, -List.map_map]
  · simp [*, appendV, srcCells, St.forget, scr, scrC, usesC, usesA, setsV, -List.map_map, -oneV]
    refine U01014 hr.out hT.out _ ?_
    simp [*, R6.X, St6, r6B, r6Z, r6O, r6S, r6Y, St.forget, scr, scrC, usesC, usesA, -List.map_map]
  · simp [*, appendV, srcCells, St.forget, scr, scrC, usesC, usesA, setsV, -List.map_map, -oneV]
    refine U01024 hr.out hT.out _ ?_
    simp [*, R6.X, St6, r6B, r6Z, r6O, r6S, r6Y, St.forget, scr, scrC, usesC, usesA, -List.map_map]
  · simp [*, appendV, srcCells, St.forget, scr, scrC, usesC, usesA, setsV, -List.map_map, -oneV]
    refine U01005 hr.out hT.out _ ?_
    simp [*, R6.X, St6, r6B, r6Z, r6O, r6S, r6Y, St.forget, scr, scrC, usesC, usesA, -List.map_map]
theorem U00023 {r : R6} {K : St → Prop} (hr : R6ok r K) (hT : TabOK Try.prog (tab6 r)) : ∀ t : St, St6 r 0 0 0 2 3 t → cAnyY (tab6 r) ops6 63 K 10 #[false, false, false, true, false, false, true, true, false, false, false, false, false] t := by
  rintro ⟨e, h⟩ q
  simp [R6.X, St6, r6B, r6Z, r6O, r6S, r6Y] at q
  obtain ⟨hF, hg, hj, e1, e2, l1, l2, c1, c2, s1, s2, o1, o2, f1, f2, x1, x2, x3, v3, v4, v5, v6, v7, v8, v9, v1, v2, ch, hK⟩ := id hr
  replace hr : Hid (_) := hr
  replace hT : Hid (_) := hT
  refine cany4y 0 1 2 8 (by kernel_rfl) (by unfold ops6 getOps6; exact rfl) (by unfold ops6 getOps6; exact rfl) (by unfold ops6 getOps6; exact rfl) (by unfold ops6 getOps6; exact rfl) ?_ ?_ ?_ ?_
  · simp [*, appendV, srcCells, St.forget, scr, scrC, usesC, usesA, setsV, -List.map_map, -oneV]
    refine U01023 hr.out hT.out _ ?_
    simp [*, R6.X, St6, r6B, r6Z, r6O, r6S, r6Y, St.forget, scr, scrC, usesC, usesA, -List.map_map]
  · simp [*, appendV, srcCells, St.forget, scr, scrC, usesC, usesA, setsV, -List.map_map, -oneV]
    refine U00123 hr.out hT.out _ ?_
    simp [*, R6.X, St6, r6B, r6Z, r6O, r6S, r6Y, St.forget, scr, scrC, usesC, usesA, -List.map_map]
  · simp [*, appendV, srcCells, St.forget, scr, scrC, usesC, usesA, setsV, -List.map_map, -oneV]
    refine U00033 hr.out hT.out _ ?_
    simp [*, R6.X, St6, r6B, r6Z, r6O, r6S, r6Y, St.forget, scr, scrC, usesC, usesA, -List.map_map]
  · simp [*, appendV, srcCells, St.forget, scr, scrC, usesC, usesA, setsV, -List.map_map, -oneV]
    refine U00025 hr.out hT.out _ ?_
    simp [*, R6.X, St6, r6B, r6Z, r6O, r6S, r6Y, St.forget, scr, scrC, usesC, usesA, -List.map_map]
theorem U00032 {r : R6} {K : St → Prop} (hr : R6ok r K) (hT : TabOK Try.prog (tab6 r)) : ∀ t : St, St6 r 0 0 0 3 2 t → cAnyY (tab6 r) ops6 63 K 10 #[false, false, true, true, false, false, false, true, false, false, false, false, false] t := by
  rintro ⟨e, h⟩ q
  simp [R6.X, St6, r6B, r6Z, r6O, r6S, r6Y] at q
  obtain ⟨hF, hg, hj, e1, e2, l1, l2, c1, c2, s1, s2, o1, o2, f1, f2, x1, x2, x3, v3, v4, v5, v6, v7, v8, v9, v1, v2, ch, hK⟩ := id hr
  replace hr : Hid (_) := hr
  replace hT : Hid (_) := hT
  refine cany5y 0 1 4 6 8 (by kernel_rfl) (by unfold ops6 getOps6; exact rfl) (by unfold ops6 getOps6; exact rfl) (by unfold ops6 getOps6; exact rfl) (by unfold ops6 getOps6; exact rfl) (by unfold ops6 getOps6; exact rfl) ?_ ?_ ?_ ?_ ?_
  · simp [*, appendV, srcCells, St.forget, scr, scrC, usesC, usesA, setsV, -List.map_map, -oneV]
    refine U01032 hr.out hT.out _ ?_
    simp [*, R6.X, St6, r6B, r6Z, r6O, r6S, r6Y, St.forget, scr, scrC, usesC, usesA, -List.map_map]
  · simp [*, appendV, srcCells, St.forget, scr, scrC, usesC, usesA, setsV, -List.map_map, -oneV]
    refine U00132 hr.out hT.out _ ?_
    simp [*, R6.X, St6, r6B, r6Z, r6O, r6S, r6Y, St.forget, scr, scrC, usesC, usesA, -List.map_map]
  · simp [*, appendV, srcCells, St.forget, scr, scrC, usesC, usesA, setsV, -List.map_map, -oneV]
    refine U00042 hr.out hT.out _ ?_
    simp [*, R6.X, St6, r6B, r6Z, r6O, r6S, r6Y, St.forget, scr, scrC, usesC, usesA, -List.map_map]
  · simp [*, appendV, srcCells, St.forget, scr, scrC, usesC, usesA, setsV, -List.map_map, -oneV]
    refine U00033 hr.out hT.out _ ?_
    simp [*, R6.X, St6, r6B, r6Z, r6O, r6S, r6Y, St.forget, scr, scrC, usesC, usesA, -List.map_map]
  · simp [*, appendV, srcCells, St.forget, scr, scrC, usesC, usesA, setsV, -List.map_map, -oneV]
    refine U00034 hr.out hT.out _ ?_
    simp [*, R6.X, St6, r6B, r6Z, r6O, r6S, r6Y, St.forget, scr, scrC, usesC, usesA, -List.map_map]
theorem U01102 {r : R6} {K : St → Prop} (hr : R6ok r K) (hT : TabOK Try.prog (tab6 r)) : ∀ t : St, St6 r 0 1 1 0 2 t → cAnyY (tab6 r) ops6 63 K 10 #[true, true, false, false, false, false, false, true, false, false, false, false, false] t := by
  rintro ⟨e, h⟩ q
  simp [R6.X, St6, r6B, r6Z, r6O, r6S, r6Y] at q
  obtain ⟨hF, hg, hj, e1, e2, l1, l2, c1, c2, s1, s2, o1, o2, f1, f2, x1, x2, x3, v3, v4, v5, v6, v7, v8, v9, v1, v2, ch, hK⟩ := id hr
  replace hr : Hid (_) := hr
  replace hT : Hid (_) := hT
  refine cany4y 2 3 6 8 (by kernel_rfl) (by unfold ops6 getOps6; exact rfl) (by unfold ops6 getOps6; exact rfl) (by unfold ops6 getOps6; exact rfl) (by unfold ops6 getOps6; exact rfl) ?_ ?_ ?_ ?_
  · simp [*, appendV, srcCells, St.forget, scr, scrC, usesC, usesA, setsV, -List.map_map, -oneV]
    refine U01112 hr.out hT.out _ ?_
    simp [*, R6.X, St6, r6B, r6Z, r6O, r6S, r6Y, St.forget, scr, scrC, usesC, usesA, -List.map_map]
  · simp [*, appendV, srcCells, St.forget, scr, scrC, usesC, usesA, setsV, -List.map_map, -oneV]
    refine U01122 hr.out hT.out _ ?_
    simp [*, R6.X, St6, r6B, r6Z, r6O, r6S, r6Y, St.forget, scr, scrC, usesC, usesA, -List.map_map]
  · simp [*, appendV, srcCells, St.forget, scr, scrC, usesC, usesA, setsV, -List.map_map, -oneV]
    refine U01103 hr.out hT.out _ ?_
    simp [*, R6.X, St6, r6B, r6Z, r6O, r6S, r6Y, St.forget, scr, scrC, usesC, usesA, -List.map_map]
  · simp [*, appendV, srcCells, St.forget, scr, scrC, usesC, usesA, setsV, -List.map_map, -oneV]
    refine U01104 hr.out hT.out _ ?_
    simp [*, R6.X, St6, r6B, r6Z, r6O, r6S, r6Y, St.forget, scr, scrC, usesC, usesA, -List.map_map]
theorem U00014 {r : R6} {K : St → Prop} (hr : R6ok r K) (hT : TabOK Try.prog (tab6 r)) : ∀ t : St, St6 r 0 0 0 1 4 t → cAnyY (tab6 r) ops6 63 K 10 #[false, false, true, false, false, false, false, true, true, false, false, false, false] t := by
  rintro ⟨e, h⟩ q
  simp [R6.X, St6, r6B, r6Z, r6O, r6S, r6Y] at q
  obtain ⟨hF, hg, hj, e1, e2, l1, l2, c1, c2, s1, s2, o1, o2, f1, f2, x1, x2, x3, v3, v4, v5, v6, v7, v8, v9, v1, v2, ch, hK⟩ := id hr
  replace hr : Hid (_) := hr
  replace hT : Hid (_) := hT
  refine cany4y 0 1 3 6 (by kernel_rfl) (by unfold ops6 getOps6; exact rfl) (by unfold ops6 getOps6; exact rfl) (by unfold ops6 getOps6; exact rfl) (by unfold ops6 getOps6; exact rfl) ?_ ?_ ?_ ?_
  · simp [*, appendV, srcCells, St.forget, scr, scrC, usesC, usesA, setsV, -List.map_map, -oneV]
    refine U01014 hr.out hT.out _ ?_
    simp [*, R6.X, St6, r6B, r6Z, r6O, r6S, r6Y, St.forget, scr, scrC, usesC, usesA, -List.map_map]
  · simp [*, appendV, srcCells, St.forget, scr, scrC, usesC, usesA, setsV, -List.map_map, -oneV]
    refine U00114 hr.out hT.out _ ?_
    simp [*, R6.X, St6, r6B, r6Z, r6O, r6S, r6Y, St.forget, scr, scrC, usesC, usesA, -List.map_map]
  · simp [*, appendV, srcCells, St.forget, scr, scrC, usesC, usesA, setsV, -List.map_map, -oneV]
    refine U00034 hr.out hT.out _ ?_
    simp [*, R6.X, St6, r6B, r6Z, r6O, r6S, r6Y, St.forget, scr, scrC, usesC, usesA, -List.map_map]
  · simp [*, appendV, srcCells, St.forget, scr, scrC, usesC, usesA, setsV, -List.map_map, -oneV]
    refine U00015 hr.out hT.out _ ?_
    simp [*, R6.X, St6, r6B, r6Z, r6O, r6S, r6Y, St.forget, scr, scrC, usesC, usesA, -List.map_map]
theorem U01021 {r : R6} {K : St → Prop} (hr : R6ok r K) (hT : TabOK Try.prog (tab6 r)) : ∀ t : St, St6 r 0 1 0 2 1 t → cAnyY (tab6 r) ops6 63 K 10 #[true, false, false, true, false, false, true, false, false, false, false, false, false] t := by
  rintro ⟨e, h⟩ q
  simp [R6.X, St6, r6B, r6Z, r6O, r6S, r6Y] at q
  obtain ⟨hF, hg, hj, e1, e2, l1, l2, c1, c2, s1, s2, o1, o2, f1, f2, x1, x2, x3, v3, v4, v5, v6, v7, v8, v9, v1, v2, ch, hK⟩ := id hr
  replace hr : Hid (_) := hr
  replace hT : Hid (_) := hT
  refine cany3y 1 2 7 (by kernel_rfl) (by unfold ops6 getOps6; exact rfl) (by unfold ops6 getOps6; exact rfl) (by unfold ops6 getOps6; exact rfl) ?_ ?_ ?_
  · simp [*, appendV, srcCells, St.forget, scr, scrC, usesC, usesA, setsV, -List.map_map, -oneV]
    refine U01121 hr.out hT.out _ ?_
    simp [*, R6.X, St6, r6B, r6Z, r6O, r6S, r6Y, St.forget, scr, scrC, usesC, usesA, -List.map_map]
  · simp [*, appendV, srcCells, St.forget, scr, scrC, usesC, usesA, setsV, -List.map_map, -oneV]
    refine U01031 hr.out hT.out _ ?_
    simp [*, R6.X, St6, r6B, r6Z, r6O, r6S, r6Y, St.forget, scr, scrC, usesC, usesA, -List.map_map]
  · simp [*, appendV, srcCells, St.forget, scr, scrC, usesC, usesA, setsV, -List.map_map, -oneV]
    refine U01023 hr.out hT.out _ ?_
    simp [*, R6.X, St6, r6B, r6Z, r6O, r6S, r6Y, St.forget, scr, scrC, usesC, usesA, -List.map_map]
theorem U01030 {r : R6} {K : St → Prop} (hr : R6ok r K) (hT : TabOK Try.prog (tab6 r)) : ∀ t : St, St6 r 0 1 0 3 0 t → cAnyY (tab6 r) ops6 63 K 10 #[true, false, true, true, false, false, false, false, false, false, false, false, false] t := by
  rintro ⟨e, h⟩ q
  simp [R6.X, St6, r6B, r6Z, r6O, r6S, r6Y] at q
  obtain ⟨hF, hg, hj, e1, e2, l1, l2, c1, c2, s1, s2, o1, o2, f1, f2, x1, x2, x3, v3, v4, v5, v6, v7, v8, v9, v1, v2, ch, hK⟩ := id hr
  replace hr : Hid (_) := hr
  replace hT : Hid (_) := hT
  refine cany4y 1 4 6 7 (by kernel_rfl) (by unfold ops6 getOps6; exact rfl) (by unfold ops6 getOps6; exact rfl) (by unfold ops6 getOps6; exact rfl) (by unfold ops6 getOps6; exact rfl) ?_ ?_ ?_ ?_
  · simp [*, appendV, srcCells, St.forget, scr, scrC, usesC, usesA, setsV, -List.map_map, -oneV]
    refine U01130 hr.out hT.out _ ?_
    simp [*, R6.X, St6, r6B, r6Z, r6O, r6S, r6Y, St.forget, scr, scrC, usesC, usesA, -List.map_map]
  · simp [*, appendV, srcCells, St.forget, scr, scrC, usesC, usesA, setsV, -List.map_map, -oneV]
    refine U01040 hr.out hT.out _ ?_
    simp [*, R6.X, St6, r6B, r6Z, r6O, r6S, r6Y, St.forget, scr, scrC, usesC, usesA, -List.map_map]
  · simp [*, appendV, srcCells, St.forget, scr, scrC, usesC, usesA, setsV, -List.map_map, -oneV]
    refine U01031 hr.out hT.out _ ?_
    simp [*, R6.X, St6, r6B, r6Z, r6O, r6S, r6Y, St.forget, scr, scrC, usesC, usesA, -List.map_map]
  · simp [*, appendV, srcCells, St.forget, scr, scrC, usesC, usesA, setsV, -List.map_map, -oneV]
    refine U01032 hr.out hT.out _ ?_
    simp [*, R6.X, St6, r6B, r6Z, r6O, r6S, r6Y, St.forget, scr, scrC, usesC, usesA, -List.map_map]
theorem U00111 {r : R6} {K : St → Prop} (hr : R6ok r K) (hT : TabOK Try.prog (tab6 r)) : ∀ t : St, St6 r 0 0 1 1 1 t → cAnyY (tab6 r) ops6 63 K 10 #[false, true, true, false, false, false, true, false, false, false, false, false, false] t := by
  rintro ⟨e, h⟩ q
  simp [R6.X, St6, r6B, r6Z, r6O, r6S, r6Y] at q
  obtain ⟨hF, hg, hj, e1, e2, l1, l2, c1, c2, s1, s2, o1, o2, f1, f2, x1, x2, x3, v3, v4, v5, v6, v7, v8, v9, v1, v2, ch, hK⟩ := id hr
  replace hr : Hid (_) := hr
  replace hT : Hid (_) := hT
  refine cany3y 0 3 7 (by kernel_rfl) (by unfold ops6 getOps6; exact rfl) (by unfold ops6 getOps6; exact rfl) (by unfold ops6 getOps6; exact rfl) ?_ ?_ ?_
  · simp [*, appendV, srcCells, St.forget, scr, scrC, usesC, usesA, setsV, -List.map_map, -oneV]
    refine U01111 hr.out hT.out _ ?_
    simp [*, R6.X, St6, r6B, r6Z, r6O, r6S, r6Y, St.forget, scr, scrC, usesC, usesA, -List.map_map]
  · simp [*, appendV, srcCells, St.forget, scr, scrC, usesC, usesA, setsV, -List.map_map, -oneV]
    refine U00131 hr.out hT.out _ ?_
    simp [*, R6.X, St6, r6B, r6Z, r6O, r6S, r6Y, St.forget, scr, scrC, usesC, usesA, -List.map_map]
  · simp [*, appendV, srcCells, St.forget, scr, scrC, usesC, usesA, setsV, -List.map_map, -oneV]
    refine U00113 hr.out hT.out _ ?_
    simp [*, R6.X, St6, r6B, r6Z, r6O, r6S, r6Y, St.forget, scr, scrC, usesC, usesA, -List.map_map]
theorem U00040 {r : R6} {K : St → Prop} (hr : R6ok r K) (hT : TabOK Try.prog (tab6 r)) : ∀ t : St, St6 r 0 0 0 4 0 t → cAnyY (tab6 r) ops6 63 K 10 #[false, false, true, true, true, false, false, false, false, false, false, false, false] t := by
  rintro ⟨e, h⟩ q
  simp [R6.X, St6, r6B, r6Z, r6O, r6S, r6Y] at q
  obtain ⟨hF, hg, hj, e1, e2, l1, l2, c1, c2, s1, s2, o1, o2, f1, f2, x1, x2, x3, v3, v4, v5, v6, v7, v8, v9, v1, v2, ch, hK⟩ := id hr
  replace hr : Hid (_) := hr
  replace hT : Hid (_) := hT
  refine cany4y 0 1 6 7 (by kernel_rfl) (by unfold ops6 getOps6; exact rfl) (by unfold ops6 getOps6; exact rfl) (by unfold ops6 getOps6; exact rfl) (by unfold ops6 getOps6; exact rfl) ?_ ?_ ?_ ?_
  · simp [*, appendV, srcCells, St.forget, scr, scrC, usesC, usesA, setsV, -List.map_map, -oneV]
    refine U01040 hr.out hT.out _ ?_
    simp [*, R6.X, St6, r6B, r6Z, r6O, r6S, r6Y, St.forget, scr, scrC, usesC, usesA, -List.map_map]
  · simp [*, appendV, srcCells, St.forget, scr, scrC, usesC, usesA, setsV, -List.map_map, -oneV]
    refine U00140 hr.out hT.out _ ?_
    simp [*, R6.X, St6, r6B, r6Z, r6O, r6S, r6Y, St.forget, scr, scrC, usesC, usesA, -List.map_map]
  · simp [*, appendV, srcCells, St.forget, scr, scrC, usesC, usesA, setsV, -List.map_map, -oneV]
    refine U00041 hr.out hT.out _ ?_
    simp [*, R6.X, St6, r6B, r6Z, r6O, r6S, r6Y, St.forget, scr, scrC, usesC, usesA, -List.map_map]
  · simp [*, appendV, srcCells, St.forget, scr, scrC, usesC, usesA, setsV, -List.map_map, -oneV]
    refine U00042 hr.out hT.out _ ?_
    simp [*, R6.X, St6, r6B, r6Z, r6O, r6S, r6Y, St.forget, scr, scrC, usesC, usesA, -List.map_map]
theorem U01110 {r : R6} {K : St → Prop} (hr : R6ok r K) (hT : TabOK Try.prog (tab6 r)) : ∀ t : St, St6 r 0 1 1 1 0 t → cAnyY (tab6 r) ops6 63 K 10 #[true, true, true, false, false, false, false, false, false, false, false, false, false] t := by
  rintro ⟨e, h⟩ q
  simp [R6.X, St6, r6B, r6Z, r6O, r6S, r6Y] at q
  obtain ⟨hF, hg, hj, e1, e2, l1, l2, c1, c2, s1, s2, o1, o2, f1, f2, x1, x2, x3, v3, v4, v5, v6, v7, v8, v9, v1, v2, ch, hK⟩ := id hr
  replace hr : Hid (_) := hr
  replace hT : Hid (_) := hT
  refine cany3y 3 6 7 (by kernel_rfl) (by unfold ops6 getOps6; exact rfl) (by unfold ops6 getOps6; exact rfl) (by unfold ops6 getOps6; exact rfl) ?_ ?_ ?_
  · simp [*, appendV, srcCells, St.forget, scr, scrC, usesC, usesA, setsV, -List.map_map, -oneV]
    refine U01130 hr.out hT.out _ ?_
    simp [*, R6.X, St6, r6B, r6Z, r6O, r6S, r6Y, St.forget, scr, scrC, usesC, usesA, -List.map_map]
  · simp [*, appendV, srcCells, St.forget, scr, scrC, usesC, usesA, setsV, -List.map_map, -oneV]
    refine U01111 hr.out hT.out _ ?_
    simp [*, R6.X, St6, r6B, r6Z, r6O, r6S, r6Y, St.forget, scr, scrC, usesC, usesA, -List.map_map]
  · simp [*, appendV, srcCells, St.forget, scr, scrC, usesC, usesA, setsV, -List.map_map, -oneV]
    refine U01112 hr.out hT.out _ ?_
    simp [*, R6.X, St6, r6B, r6Z, r6O, r6S, r6Y, St.forget, scr, scrC, usesC, usesA, -List.map_map]
theorem U00005 {r : R6} {K : St → Prop} (hr : R6ok r K) (hT : TabOK Try.prog (tab6 r)) : ∀ t : St, St6 r 0 0 0 0 5 t → cAnyY (tab6 r) ops6 63 K 10 #[false, false, false, false, false, false, true, true, true, false, false, false, false] t := by
  rintro ⟨e, h⟩ q
  simp [R6.X, St6, r6B, r6Z, r6O, r6S, r6Y] at q
  obtain ⟨hF, hg, hj, e1, e2, l1, l2, c1, c2, s1, s2, o1, o2, f1, f2, x1, x2, x3, v3, v4, v5, v6, v7, v8, v9, v1, v2, ch, hK⟩ := id hr
  replace hr : Hid (_) := hr
  replace hT : Hid (_) := hT
  refine cany5y 0 1 2 3 9 (by kernel_rfl) (by unfold ops6 getOps6; exact rfl) (by unfold ops6 getOps6; exact rfl) (by unfold ops6 getOps6; exact rfl) (by unfold ops6 getOps6; exact rfl) (by unfold ops6 getOps6; exact rfl) ?_ ?_ ?_ ?_ ?_
  · simp [*, appendV, srcCells, St.forget, scr, scrC, usesC, usesA, setsV, -List.map_map, -oneV]
    refine U01005 hr.out hT.out _ ?_
    simp [*, R6.X, St6, r6B, r6Z, r6O, r6S, r6Y, St.forget, scr, scrC, usesC, usesA, -List.map_map]
  · simp [*, appendV, srcCells, St.forget, scr, scrC, usesC, usesA, setsV, -List.map_map, -oneV]
    refine U00105 hr.out hT.out _ ?_
    simp [*, R6.X, St6, r6B, r6Z, r6O, r6S, r6Y, St.forget, scr, scrC, usesC, usesA, -List.map_map]
  · simp [*, appendV, srcCells, St.forget, scr, scrC, usesC, usesA, setsV, -List.map_map, -oneV]
    refine U00015 hr.out hT.out _ ?_
    simp [*, R6.X, St6, r6B, r6Z, r6O, r6S, r6Y, St.forget, scr, scrC, usesC, usesA, -List.map_map]
  · simp [*, appendV, srcCells, St.forget, scr, scrC, usesC, usesA, setsV, -List.map_map, -oneV]
    refine U00025 hr.out hT.out _ ?_
    simp [*, R6.X, St6, r6B, r6Z, r6O, r6S, r6Y, St.forget, scr, scrC, usesC, usesA, -List.map_map]
  · simp [*, appendV, srcCells, St.forget, scr, scrC, usesC, usesA, setsV, -List.map_map, -oneV]
    refine U00006 hr.out hT.out _ ?_
    simp [*, R6.X, St6, r6B, r6Z, r6O, r6S, r6Y, St.forget, scr, scrC, usesC, usesA, -List.map_map]
theorem U00031 {r : R6} {K : St → Prop} (hr : R6ok r K) (hT : TabOK Try.prog (tab6 r)) : ∀ t : St, St6 r 0 0 0 3 1 t → cAnyY (tab6 r) ops6 63 K 10 #[false, false, true, true, false, false, true, false, false, false, false, false, false] t := by
  rintro ⟨e, h⟩ q
  simp [R6.X, St6, r6B, r6Z, r6O, r6S, r6Y] at q
  obtain ⟨hF, hg, hj, e1, e2, l1, l2, c1, c2, s1, s2, o1, o2, f1, f2, x1, x2, x3, v3, v4, v5, v6, v7, v8, v9, v1, v2, ch, hK⟩ := id hr
  replace hr : Hid (_) := hr
  replace hT : Hid (_) := hT
  refine cany4y 0 1 4 7 (by kernel_rfl) (by unfold ops6 getOps6; exact rfl) (by unfold ops6 getOps6; exact rfl) (by unfold ops6 getOps6; exact rfl) (by unfold ops6 getOps6; exact rfl) ?_ ?_ ?_ ?_
  · simp [*, appendV, srcCells, St.forget, scr, scrC, usesC, usesA, setsV, -List.map_map, -oneV]
    refine U01031 hr.out hT.out _ ?_
    simp [*, R6.X, St6, r6B, r6Z, r6O, r6S, r6Y, St.forget, scr, scrC, usesC, usesA, -List.map_map]
  · simp [*, appendV, srcCells, St.forget, scr, scrC, usesC, usesA, setsV, -List.map_map, -oneV]
    refine U00131 hr.out hT.out _ ?_
    simp [*, R6.X, St6, r6B, r6Z, r6O, r6S, r6Y, St.forget, scr, scrC, usesC, usesA, -List.map_map]
  · simp [*, appendV, srcCells, St.forget, scr, scrC, usesC, usesA, setsV, -List.map_map, -oneV]
    refine U00041 hr.out hT.out _ ?_
    simp [*, R6.X, St6, r6B, r6Z, r6O, r6S, r6Y, St.forget, scr, scrC, usesC, usesA, -List.map_map]
  · simp [*, appendV, srcCells, St.forget, scr, scrC, usesC, usesA, setsV, -List.map_map, -oneV]
    refine U00033 hr.out hT.out _ ?_
    simp [*, R6.X, St6, r6B, r6Z, r6O, r6S, r6Y, St.forget, scr, scrC, usesC, usesA, -List.map_map]
theorem U00122 {r : R6} {K : St → Prop} (hr : R6ok r K) (hT : TabOK Try.prog (tab6 r)) : ∀ t : St, St6 r 0 0 1 2 2 t → cAnyY (tab6 r) ops6 63 K 10 #[false, true, false, true, false, false, false, true, false, false, false, false, false] t := by
  rintro ⟨e, h⟩ q
  simp [R6.X, St6, r6B, r6Z, r6O, r6S, r6Y] at q
  obtain ⟨hF, hg, hj, e1, e2, l1, l2, c1, c2, s1, s2, o1, o2, f1, f2, x1, x2, x3, v3, v4, v5, v6, v7, v8, v9, v1, v2, ch, hK⟩ := id hr
  replace hr : Hid (_) := hr
  replace hT : Hid (_) := hT
  refine cany4y 0 2 6 8 (by kernel_rfl) (by unfold ops6 getOps6; exact rfl) (by unfold ops6 getOps6; exact rfl) (by unfold ops6 getOps6; exact rfl) (by unfold ops6 getOps6; exact rfl) ?_ ?_ ?_ ?_
  · simp [*, appendV, srcCells, St.forget, scr, scrC, usesC, usesA, setsV, -List.map_map, -oneV]
    refine U01122 hr.out hT.out _ ?_
    simp [*, R6.X, St6, r6B, r6Z, r6O, r6S, r6Y, St.forget, scr, scrC, usesC, usesA, -List.map_map]
  · simp [*, appendV, srcCells, St.forget, scr, scrC, usesC, usesA, setsV, -List.map_map, -oneV]
    refine U00132 hr.out hT.out _ ?_
    simp [*, R6.X, St6, r6B, r6Z, r6O, r6S, r6Y, St.forget, scr, scrC, usesC, usesA, -List.map_map]
  · simp [*, appendV, srcCells, St.forget, scr, scrC, usesC, usesA, setsV, -List.map_map, -oneV]
    refine U00123 hr.out hT.out _ ?_
    simp [*, R6.X, St6, r6B, r6Z, r6O, r6S, r6Y, St.forget, scr, scrC, usesC, usesA, -List.map_map]
  · simp [*, appendV, srcCells, St.forget, scr, scrC, usesC, usesA, setsV, -List.map_map, -oneV]
    refine U00124 hr.out hT.out _ ?_
    simp [*, R6.X, St6, r6B, r6Z, r6O, r6S, r6Y, St.forget, scr, scrC, usesC, usesA, -List.map_map]
theorem U01101 {r : R6} {K : St → Prop} (hr : R6ok r K) (hT : TabOK Try.prog (tab6 r)) : ∀ t : St, St6 r 0 1 1 0 1 t → cAnyY (tab6 r) ops6 63 K 10 #[true, true, false, false, false, false, true, false, false, false, false, false, false] t := by
  rintro ⟨e, h⟩ q
  simp [R6.X, St6, r6B, r6Z, r6O, r6S, r6Y] at q
  obtain ⟨hF, hg, hj, e1, e2, l1, l2, c1, c2, s1, s2, o1, o2, f1, f2, x1, x2, x3, v3, v4, v5, v6, v7, v8, v9, v1, v2, ch, hK⟩ := id hr
  replace hr : Hid (_) := hr
  replace hT : Hid (_) := hT
  refine cany3y 2 3 7 (by kernel_rfl) (by unfold ops6 getOps6; exact rfl) (by unfold ops6 getOps6; exact rfl) (by unfold ops6 getOps6; exact rfl) ?_ ?_ ?_
  · simp [*, appendV, srcCells, St.forget, scr, scrC, usesC, usesA, setsV, -List.map_map, -oneV]
    refine U01111 hr.out hT.out _ ?_
    simp [*, R6.X, St6, r6B, r6Z, r6O, r6S, r6Y, St.forget, scr, scrC, usesC, usesA, -List.map_map]
  · simp [*, appendV, srcCells, St.forget, scr, scrC, usesC, usesA, setsV, -List.map_map, -oneV]
    refine U01121 hr.out hT.out _ ?_
    simp [*, R6.X, St6, r6B, r6Z, r6O, r6S, r6Y, St.forget, scr, scrC, usesC, usesA, -List.map_map]
  · simp [*, appendV, srcCells, St.forget, scr, scrC, usesC, usesA, setsV, -List.map_map, -oneV]
    refine U01103 hr.out hT.out _ ?_
    simp [*, R6.X, St6, r6B, r6Z, r6O, r6S, r6Y, St.forget, scr, scrC, usesC, usesA, -List.map_map]
theorem U00013 {r : R6} {K : St → Prop} (hr : R6ok r K) (hT : TabOK Try.prog (tab6 r)) : ∀ t : St, St6 r 0 0 0 1 3 t → cAnyY (tab6 r) ops6 63 K 10 #[false, false, true, false, false, false, true, true, false, false, false, false, false] t := by
  rintro ⟨e, h⟩ q
  simp [R6.X, St6, r6B, r6Z, r6O, r6S, r6Y] at q
  obtain ⟨hF, hg, hj, e1, e2, l1, l2, c1, c2, s1, s2, o1, o2, f1, f2, x1, x2, x3, v3, v4, v5, v6, v7, v8, v9, v1, v2, ch, hK⟩ := id hr
  replace hr : Hid (_) := hr
  replace hT : Hid (_) := hT
  refine cany4y 0 1 3 8 (by kernel_rfl) (by unfold ops6 getOps6; exact rfl) (by unfold ops6 getOps6; exact rfl) (by unfold ops6 getOps6; exact rfl) (by unfold ops6 getOps6; exact rfl) ?_ ?_ ?_ ?_
  · simp [*, appendV, srcCells, St.forget, scr, scrC, usesC, usesA, setsV, -List.map_map, -oneV]
    refine U01013 hr.out hT.out _ ?_
    simp [*, R6.X, St6, r6B, r6Z, r6O, r6S, r6Y, St.forget, scr, scrC, usesC, usesA, -List.map_map]
  · simp [*, appendV, srcCells, St.forget, scr, scrC, usesC, usesA, setsV, -List.map_map, -oneV]
    refine U00113 hr.out hT.out _ ?_
    simp [*, R6.X, St6, r6B, r6Z, r6O, r6S, r6Y, St.forget, scr, scrC, usesC, usesA, -List.map_map]
  · simp [*, appendV, srcCells, St.forget, scr, scrC, usesC, usesA, setsV, -List.map_map, -oneV]
    refine U00033 hr.out hT.out _ ?_
    simp [*, R6.X, St6, r6B, r6Z, r6O, r6S, r6Y, St.forget, scr, scrC, usesC, usesA, -List.map_map]
  · simp [*, appendV, srcCells, St.forget, scr, scrC, usesC, usesA, setsV, -List.map_map, -oneV]
    refine U00015 hr.out hT.out _ ?_
    simp [*, R6.X, St6, r6B, r6Z, r6O, r6S, r6Y, St.forget, scr, scrC, usesC, usesA, -List.map_map]
theorem U00104 {r : R6} {K : St → Prop} (hr : R6ok r K) (hT : TabOK Try.prog (tab6 r)) : ∀ t : St, St6 r 0 0 1 0 4 t → cAnyY (tab6 r) ops6 63 K 10 #[false, true, false, false, false, false, false, true, true, false, false, false, false] t := by
  rintro ⟨e, h⟩ q
  simp [R6.X, St6, r6B, r6Z, r6O, r6S, r6Y] at q
  obtain ⟨hF, hg, hj, e1, e2, l1, l2, c1, c2, s1, s2, o1, o2, f1, f2, x1, x2, x3, v3, v4, v5, v6, v7, v8, v9, v1, v2, ch, hK⟩ := id hr
  replace hr : Hid (_) := hr
  replace hT : Hid (_) := hT
  refine cany4y 0 2 3 6 (by kernel_rfl) (by unfold ops6 getOps6; exact rfl) (by unfold ops6 getOps6; exact rfl) (by unfold ops6 getOps6; exact rfl) (by unfold ops6 getOps6; exact rfl) ?_ ?_ ?_ ?_
  · simp [*, appendV, srcCells, St.forget, scr, scrC, usesC, usesA, setsV, -List.map_map, -oneV]
    refine U01104 hr.out hT.out _ ?_
    simp [*, R6.X, St6, r6B, r6Z, r6O, r6S, r6Y, St.forget, scr, scrC, usesC, usesA, -List.map_map]
  · simp [*, appendV, srcCells, St.forget, scr, scrC, usesC, usesA, setsV, -List.map_map, -oneV]
    refine U00114 hr.out hT.out _ ?_
    simp [*, R6.X, St6, r6B, r6Z, r6O, r6S, r6Y, St.forget, scr, scrC, usesC, usesA, -List.map_map]
  · simp [*, appendV, srcCells, St.forget, scr, scrC, usesC, usesA, setsV, -List.map_map, -oneV]
    refine U00124 hr.out hT.out _ ?_
    simp [*, R6.X, St6, r6B, r6Z, r6O, r6S, r6Y, St.forget, scr, scrC, usesC, usesA, -List.map_map]
  · simp [*, appendV, srcCells, St.forget, scr, scrC, usesC, usesA, setsV, -List.map_map, -oneV]
    refine U00105 hr.out hT.out _ ?_
    simp [*, R6.X, St6, r6B, r6Z, r6O, r6S, r6Y, St.forget, scr, scrC, usesC, usesA, -List.map_map]
theorem U01012 {r : R6} {K : St → Prop} (hr : R6ok r K) (hT : TabOK Try.prog (tab6 r)) : ∀ t : St, St6 r 0 1 0 1 2 t → cAnyY (tab6 r) ops6 63 K 10 #[true, false, true, false, false, false, false, true, false, false, false, false, false] t := by
  rintro ⟨e, h⟩ q
  simp [R6.X, St6, r6B, r6Z, r6O, r6S, r6Y] at q
  obtain ⟨hF, hg, hj, e1, e2, l1, l2, c1, c2, s1, s2, o1, o2, f1, f2, x1, x2, x3, v3, v4, v5, v6, v7, v8, v9, v1, v2, ch, hK⟩ := id hr
  replace hr : Hid (_) := hr
  replace hT : Hid (_) := hT
  refine cany4y 1 3 6 8 (by kernel_rfl) (by unfold ops6 getOps6; exact rfl) (by unfold ops6 getOps6; exact rfl) (by unfold ops6 getOps6; exact rfl) (by unfold ops6 getOps6; exact rfl) ?_ ?_ ?_ ?_
  · simp [*, appendV, srcCells, St.forget, scr, scrC, usesC, usesA, setsV, -List.map_map, -oneV]
    refine U01112 hr.out hT.out _ ?_
    simp [*, R6.X, St6, r6B, r6Z, r6O, r6S, r6Y, St.forget, scr, scrC, usesC, usesA, -List.map_map]
  · simp [*, appendV, srcCells, St.forget, scr, scrC, usesC, usesA, setsV, -List.map_map, -oneV]
    refine U01032 hr.out hT.out _ ?_
    simp [*, R6.X, St6, r6B, r6Z, r6O, r6S, r6Y, St.forget, scr, scrC, usesC, usesA, -List.map_map]
  · simp [*, appendV, srcCells, St.forget, scr, scrC, usesC, usesA, setsV, -List.map_map, -oneV]
    refine U01013 hr.out hT.out _ ?_
    simp [*, R6.X, St6, r6B, r6Z, r6O, r6S, r6Y, St.forget, scr, scrC, usesC, usesA, -List.map_map]
  · simp [*, appendV, srcCells, St.forget, scr, scrC, usesC, usesA, setsV, -List.map_map, -oneV]
    refine U01014 hr.out hT.out _ ?_
    simp [*, R6.X, St6, r6B, r6Z, r6O, r6S, r6Y, St.forget, scr, scrC, usesC, usesA, -List.map_map]
theorem U01003 {r : R6} {K : St → Prop} (hr : R6ok r K) (hT : TabOK Try.prog (tab6 r)) : ∀ t : St, St6 r 0 1 0 0 3 t → cAnyY (tab6 r) ops6 63 K 10 #[true, false, false, false, false, false, true, true, false, false, false, false, false] t := by
  rintro ⟨e, h⟩ q
  simp [R6.X, St6, r6B, r6Z, r6O, r6S, r6Y] at q
  obtain ⟨hF, hg, hj, e1, e2, l1, l2, c1, c2, s1, s2, o1, o2, f1, f2, x1, x2, x3, v3, v4, v5, v6, v7, v8, v9, v1, v2, ch, hK⟩ := id hr
  replace hr : Hid (_) := hr
  replace hT : Hid (_) := hT
  refine cany4y 1 2 3 8 (by kernel_rfl) (by unfold ops6 getOps6; exact rfl) (by unfold ops6 getOps6; exact rfl) (by unfold ops6 getOps6; exact rfl) (by unfold ops6 getOps6; exact rfl) ?_ ?_ ?_ ?_
  · simp [*, appendV, srcCells, St.forget, scr, scrC, usesC, usesA, setsV, -List.map_map, -oneV]
    refine U01103 hr.out hT.out _ ?_
    simp [*, R6.X, St6, r6B, r6Z, r6O, r6S, r6Y, St.forget, scr, scrC, usesC, usesA, -List.map_map]
  · simp [*, appendV, srcCells, St.forget, scr, scrC, usesC, usesA, setsV, -List.map_map, -oneV]
    refine U01013 hr.out hT.out _ ?_
    simp [*, R6.X, St6, r6B, r6Z, r6O, r6S, r6Y, St.forget, scr, scrC, usesC, usesA, -List.map_map]
  · simp [*, appendV, srcCells, St.forget, scr, scrC, usesC, usesA, setsV, -List.map_map, -oneV]
    refine U01023 hr.out hT.out _ ?_
    simp [*, R6.X, St6, r6B, r6Z, r6O, r6S, r6Y, St.forget, scr, scrC, usesC, usesA, -List.map_map]
  · simp [*, appendV, srcCells, St.forget, scr, scrC, usesC, usesA, setsV, -List.map_map, -oneV]
    refine U01005 hr.out hT.out _ ?_
    simp [*, R6.X, St6, r6B, r6Z, r6O, r6S, r6Y, St.forget, scr, scrC, usesC, usesA, -List.map_map]
theorem U00024 {r : R6} {K : St → Prop} (hr : R6ok r K) (hT : TabOK Try.prog (tab6 r)) : ∀ t : St, St6 r 0 0 0 2 4 t → cAnyY (tab6 r) ops6 63 K 10 #[false, false, false, true, false, false, false, true, true, false, false, false, false] t := by
  rintro ⟨e, h⟩ q
  simp [R6.X, St6, r6B, r6Z, r6O, r6S, r6Y] at q
  obtain ⟨hF, hg, hj, e1, e2, l1, l2, c1, c2, s1, s2, o1, o2, f1, f2, x1, x2, x3, v3, v4, v5, v6, v7, v8, v9, v1, v2, ch, hK⟩ := id hr
  replace hr : Hid (_) := hr
  replace hT : Hid (_) := hT
  refine cany4y 0 1 2 6 (by kernel_rfl) (by unfold ops6 getOps6; exact rfl) (by unfold ops6 getOps6; exact rfl) (by unfold ops6 getOps6; exact rfl) (by unfold ops6 getOps6; exact rfl) ?_ ?_ ?_ ?_
  · simp [*, appendV, srcCells, St.forget, scr, scrC, usesC, usesA, setsV, -List.map_map, -oneV]
    refine U01024 hr.out hT.out _ ?_
    simp [*, R6.X, St6, r6B, r6Z, r6O, r6S, r6Y, St.forget, scr, scrC, usesC, usesA, -List.map_map]
  · simp [*, appendV, srcCells, St.forget, scr, scrC, usesC, usesA, setsV, -List.map_map, -oneV]
    refine U00124 hr.out hT.out _ ?_
    simp [*, R6.X, St6, r6B, r6Z, r6O, r6S, r6Y, St.forget, scr, scrC, usesC, usesA, -List.map_map]
  · simp [*, appendV, srcCells, St.forget, scr, scrC, usesC, usesA, setsV, -List.map_map, -oneV]
    refine U00034 hr.out hT.out _ ?_
    simp [*, R6.X, St6, r6B, r6Z, r6O, r6S, r6Y, St.forget, scr, scrC, usesC, usesA, -List.map_map]
  · simp [*, appendV, srcCells, St.forget, scr, scrC, usesC, usesA, setsV, -List.map_map, -oneV]
    refine U00025 hr.out hT.out _ ?_
    simp [*, R6.X, St6, r6B, r6Z, r6O, r6S, r6Y, St.forget, scr, scrC, usesC, usesA, -List.map_map]
theorem U00121 {r : R6} {K : St → Prop} (hr : R6ok r K) (hT : TabOK Try.prog (tab6 r)) : ∀ t : St, St6 r 0 0 1 2 1 t → cAnyY (tab6 r) ops6 63 K 10 #[false, true, false, true, false, false, true, false, false, false, false, false, false] t := by
  rintro ⟨e, h⟩ q
  simp [R6.X, St6, r6B, r6Z, r6O, r6S, r6Y] at q
  obtain ⟨hF, hg, hj, e1, e2, l1, l2, c1, c2, s1, s2, o1, o2, f1, f2, x1, x2, x3, v3, v4, v5, v6, v7, v8, v9, v1, v2, ch, hK⟩ := id hr
  replace hr : Hid (_) := hr
  replace hT : Hid (_) := hT
  refine cany3y 0 2 7 (by kernel_rfl) (by unfold ops6 getOps6; exact rfl) (by unfold ops6 getOps6; exact rfl) (by unfold ops6 getOps6; exact rfl) ?_ ?_ ?_
  · simp [*, appendV, srcCells, St.forget, scr, scrC, usesC, usesA, setsV, -List.map_map, -oneV]
    refine U01121 hr.out hT.out _ ?_
    simp [*, R6.X, St6, r6B, r6Z, r6O, r6S, r6Y, St.forget, scr, scrC, usesC, usesA, -List.map_map]
  · simp [*, appendV, srcCells, St.forget, scr, scrC, usesC, usesA, setsV, -List.map_map, -oneV]
    refine U00131 hr.out hT.out _ ?_
    simp [*, R6.X, St6, r6B, r6Z, r6O, r6S, r6Y, St.forget, scr, scrC, usesC, usesA, -List.map_map]
  · simp [*, appendV, srcCells, St.forget, scr, scrC, usesC, usesA, setsV, -List.map_map, -oneV]
    refine U00123 hr.out hT.out _ ?_
    simp [*, R6.X, St6, r6B, r6Z, r6O, r6S, r6Y, St.forget, scr, scrC, usesC, usesA, -List.map_map]
theorem U00103 {r : R6} {K : St → Prop} (hr : R6ok r K) (hT : TabOK Try.prog (tab6 r)) : ∀ t : St, St6 r 0 0 1 0 3 t → cAnyY (tab6 r) ops6 63 K 10 #[false, true, false, false, false, false, true, true, false, false, false, false, false] t := by
  rintro ⟨e, h⟩ q
  simp [R6.X, St6, r6B, r6Z, r6O, r6S, r6Y] at q
  obtain ⟨hF, hg, hj, e1, e2, l1, l2, c1, c2, s1, s2, o1, o2, f1, f2, x1, x2, x3, v3, v4, v5, v6, v7, v8, v9, v1, v2, ch, hK⟩ := id hr
  replace hr : Hid (_) := hr
  replace hT : Hid (_) := hT
  refine cany4y 0 2 3 8 (by kernel_rfl) (by unfold ops6 getOps6; exact rfl) (by unfold ops6 getOps6; exact rfl) (by unfold ops6 getOps6; exact rfl) (by unfold ops6 getOps6; exact rfl) ?_ ?_ ?_ ?_
  · simp [*, appendV, srcCells, St.forget, scr, scrC, usesC, usesA, setsV, -List.map_map, -oneV]
    refine U01103 hr.out hT.out _ ?_
    simp [*, R6.X, St6, r6B, r6Z, r6O, r6S, r6Y, St.forget, scr, scrC, usesC, usesA, -List.map_map]
  · simp [*, appendV, srcCells, St.forget, scr, scrC, usesC, usesA, setsV, -List.map_map, -oneV]
    refine U00113 hr.out hT.out _ ?_
    simp [*, R6.X, St6, r6B, r6Z, r6O, r6S, r6Y, St.forget, scr, scrC, usesC, usesA, -List.map_map]
  · simp [*, appendV, srcCells, St.forget, scr, scrC, usesC, usesA, setsV, -List.map_map, -oneV]
    refine U00123 hr.out hT.out _ ?_
    simp [*, R6.X, St6, r6B, r6Z, r6O, r6S, r6Y, St.forget, scr, scrC, usesC, usesA, -List.map_map]
  · simp [*, appendV, srcCells, St.forget, scr, scrC, usesC, usesA, setsV, -List.map_map, -oneV]
    refine U00105 hr.out hT.out _ ?_
    simp [*, R6.X, St6, r6B, r6Z, r6O, r6S, r6Y, St.forget, scr, scrC, usesC, usesA, -List.map_map]
theorem U01011 {r : R6} {K : St → Prop} (hr : R6ok r K) (hT : TabOK Try.prog (tab6 r)) : ∀ t : St, St6 r 0 1 0 1 1 t → cAnyY (tab6 r) ops6 63 K 10 #[true, false, true, false, false, false, true, false, false, false, false, false, false] t := by
  rintro ⟨e, h⟩ q
  simp [R6.X, St6, r6B, r6Z, r6O, r6S, r6Y] at q
  obtain ⟨hF, hg, hj, e1, e2, l1, l2, c1, c2, s1, s2, o1, o2, f1, f2, x1, x2, x3, v3, v4, v5, v6, v7, v8, v9, v1, v2, ch, hK⟩ := id hr
  replace hr : Hid (_) := hr
  replace hT : Hid (_) := hT
  refine cany3y 1 3 7 (by kernel_rfl) (by unfold ops6 getOps6; exact rfl) (by unfold ops6 getOps6; exact rfl) (by unfold ops6 getOps6; exact rfl) ?_ ?_ ?_
  · simp [*, appendV, srcCells, St.forget, scr, scrC, usesC, usesA, setsV, -List.map_map, -oneV]
    refine U01111 hr.out hT.out _ ?_
    simp [*, R6.X, St6, r6B, r6Z, r6O, r6S, r6Y, St.forget, scr, scrC, usesC, usesA, -List.map_map]
  · simp [*, appendV, srcCells, St.forget, scr, scrC, usesC, usesA, setsV, -List.map_map, -oneV]
    refine U01031 hr.out hT.out _ ?_
    simp [*, R6.X, St6, r6B, r6Z, r6O, r6S, r6Y, St.forget, scr, scrC, usesC, usesA, -List.map_map]
  · simp [*, appendV, srcCells, St.forget, scr, scrC, usesC, usesA, setsV, -List.map_map, -oneV]
    refine U01013 hr.out hT.out _ ?_
    simp [*, R6.X, St6, r6B, r6Z, r6O, r6S, r6Y, St.forget, scr, scrC, usesC, usesA, -List.map_map]
theorem U01022 {r : R6} {K : St → Prop} (hr : R6ok r K) (hT : TabOK Try.prog (tab6 r)) : ∀ t : St, St6 r 0 1 0 2 2 t → cAnyY (tab6 r) ops6 63 K 10 #[true, false, false, true, false, false, false, true, false, false, false, false, false] t := by
  rintro ⟨e, h⟩ q
  simp [R6.X, St6, r6B, r6Z, r6O, r6S, r6Y] at q
  obtain ⟨hF, hg, hj, e1, e2, l1, l2, c1, c2, s1, s2, o1, o2, f1, f2, x1, x2, x3, v3, v4, v5, v6, v7, v8, v9, v1, v2, ch, hK⟩ := id hr
  replace hr : Hid (_) := hr
  replace hT : Hid (_) := hT
  refine cany4y 1 2 6 8 (by kernel_rfl) (by unfold ops6 getOps6; exact rfl) (by unfold ops6 getOps6; exact rfl) (by unfold ops6 getOps6; exact rfl) (by unfold ops6 getOps6; exact rfl) ?_ ?_ ?_ ?_
  · simp [*, appendV, srcCells, St.forget, scr, scrC, usesC, usesA, setsV, -List.map_map, -oneV]
    refine U01122 hr.out hT.out _ ?_
    simp [*, R6.X, St6, r6B, r6Z, r6O, r6S, r6Y, St.forget, scr, scrC, usesC, usesA, -List.map_map]
  · simp [*, appendV, srcCells, St.forget, scr, scrC, usesC, usesA, setsV, -List.map_map, -oneV]
    refine U01032 hr.out hT.out _ ?_
    simp [*, R6.X, St6, r6B, r6Z, r6O, r6S, r6Y, St.forget, scr, scrC, usesC, usesA, -List.map_map]
  · simp [*, appendV, srcCells, St.forget, scr, scrC, usesC, usesA, setsV, -List.map_map, -oneV]
    refine U01023 hr.out hT.out _ ?_
    simp [*, R6.X, St6, r6B, r6Z, r6O, r6S, r6Y, St.forget, scr, scrC, usesC, usesA, -List.map_map]
  · simp [*, appendV, srcCells, St.forget, scr, scrC, usesC, usesA, setsV, -List.map_map, -oneV]
    refine U01024 hr.out hT.out _ ?_
    simp [*, R6.X, St6, r6B, r6Z, r6O, r6S, r6Y, St.forget, scr, scrC, usesC, usesA, -List.map_map]
theorem U00130 {r : R6} {K : St → Prop} (hr : R6ok r K) (hT : TabOK Try.prog (tab6 r)) : ∀ t : St, St6 r 0 0 1 3 0 t → cAnyY (tab6 r) ops6 63 K 10 #[false, true, true, true, false, false, false, false, false, false, false, false, false] t := by
  rintro ⟨e, h⟩ q
  simp [R6.X, St6, r6B, r6Z, r6O, r6S, r6Y] at q
  obtain ⟨hF, hg, hj, e1, e2, l1, l2, c1, c2, s1, s2, o1, o2, f1, f2, x1, x2, x3, v3, v4, v5, v6, v7, v8, v9, v1, v2, ch, hK⟩ := id hr
  replace hr : Hid (_) := hr
  replace hT : Hid (_) := hT
  refine cany4y 0 4 6 7 (by kernel_rfl) (by unfold ops6 getOps6; exact rfl) (by unfold ops6 getOps6; exact rfl) (by unfold ops6 getOps6; exact rfl) (by unfold ops6 getOps6; exact rfl) ?_ ?_ ?_ ?_
  · simp [*, appendV, srcCells, St.forget, scr, scrC, usesC, usesA, setsV, -List.map_map, -oneV]
    refine U01130 hr.out hT.out _ ?_
    simp [*, R6.X, St6, r6B, r6Z, r6O, r6S, r6Y, St.forget, scr, scrC, usesC, usesA, -List.map_map]
  · simp [*, appendV, srcCells, St.forget, scr, scrC, usesC, usesA, setsV, -List.map_map, -oneV]
    refine U00140 hr.out hT.out _ ?_
    simp [*, R6.X, St6, r6B, r6Z, r6O, r6S, r6Y, St.forget, scr, scrC, usesC, usesA, -List.map_map]
  · simp [*, appendV, srcCells, St.forget, scr, scrC, usesC, usesA, setsV, -List.map_map, -oneV]
    refine U00131 hr.out hT.out _ ?_
    simp [*, R6.X, St6, r6B, r6Z, r6O, r6S, r6Y, St.forget, scr, scrC, usesC, usesA, -List.map_map]
  · simp [*, appendV, srcCells, St.forget, scr, scrC, usesC, usesA, setsV, -List.map_map, -oneV]
    refine U00132 hr.out hT.out _ ?_
    simp [*, R6.X, St6, r6B, r6Z, r6O, r6S, r6Y, St.forget, scr, scrC, usesC, usesA, -List.map_map]
theorem U00112 {r : R6} {K : St → Prop} (hr : R6ok r K) (hT : TabOK Try.prog (tab6 r)) : ∀ t : St, St6 r 0 0 1 1 2 t → cAnyY (tab6 r) ops6 63 K 10 #[false, true, true, false, false, false, false, true, false, false, false, false, false] t := by
  rintro ⟨e, h⟩ q
  simp [R6.X, St6, r6B, r6Z, r6O, r6S, r6Y] at q
  obtain ⟨hF, hg, hj, e1, e2, l1, l2, c1, c2, s1, s2, o1, o2, f1, f2, x1, x2, x3, v3, v4, v5, v6, v7, v8, v9, v1, v2, ch, hK⟩ := id hr
  replace hr : Hid (_) := hr
  replace hT : Hid (_) := hT
  refine cany4y 0 3 6 8 (by kernel_rfl) (by unfold ops6 getOps6; exact rfl) (by unfold ops6 getOps6; exact rfl) (by unfold ops6 getOps6; exact rfl) (by unfold ops6 getOps6; exact rfl) ?_ ?_ ?_ ?_
  · simp [*, appendV, srcCells, St.forget, scr, scrC, usesC, usesA, setsV, -List.map_map, -oneV]
    refine U01112 hr.out hT.out _ ?_
    simp [*, R6.X, St6, r6B, r6Z, r6O, r6S, r6Y, St.forget, scr, scrC, usesC, usesA, -List.map_map]
  · simp [*, appendV, srcCells, St.forget, scr, scrC, usesC, usesA, setsV, -List.map_map, -oneV]
    refine U00132 hr.out hT.out _ ?_
    simp [*, R6.X, St6, r6B, r6Z, r6O, r6S, r6Y, St.forget, scr, scrC, usesC, usesA, -List.map_map]
  · simp [*, appendV, srcCells, St.forget, scr, scrC, usesC, usesA, setsV, -List.map_map, -oneV]
    refine U00113 hr.out hT.out _ ?_
    simp [*, R6.X, St6, r6B, r6Z, r6O, r6S, r6Y, St.forget, scr, scrC, usesC, usesA, -List.map_map]
  · simp [*, appendV, srcCells, St.forget, scr, scrC, usesC, usesA, setsV, -List.map_map, -oneV]
    refine U00114 hr.out hT.out _ ?_
    simp [*, R6.X, St6, r6B, r6Z, r6O, r6S, r6Y, St.forget, scr, scrC, usesC, usesA, -List.map_map]
theorem U00003 {r : R6} {K : St → Prop} (hr : R6ok r K) (hT : TabOK Try.prog (tab6 r)) : ∀ t : St, St6 r 0 0 0 0 3 t → cAnyY (tab6 r) ops6 63 K 11 #[false, false, false, false, false, false, true, true, false, false, false, false, false] t := by
  rintro ⟨e, h⟩ q
  simp [R6.X, St6, r6B, r6Z, r6O, r6S, r6Y] at q
  obtain ⟨hF, hg, hj, e1, e2, l1, l2, c1, c2, s1, s2, o1, o2, f1, f2, x1, x2, x3, v3, v4, v5, v6, v7, v8, v9, v1, v2, ch, hK⟩ := id hr
  replace hr : Hid (_) := hr
  replace hT : Hid (_) := hT
  refine cany5y 0 1 2 3 8 (by kernel_rfl) (by unfold ops6 getOps6; exact rfl) (by unfold ops6 getOps6; exact rfl) (by unfold ops6 getOps6; exact rfl) (by unfold ops6 getOps6; exact rfl) (by unfold ops6 getOps6; exact rfl) ?_ ?_ ?_ ?_ ?_
  · simp [*, appendV, srcCells, St.forget, scr, scrC, usesC, usesA, setsV, -List.map_map, -oneV]
    refine U01003 hr.out hT.out _ ?_
    simp [*, R6.X, St6, r6B, r6Z, r6O, r6S, r6Y, St.forget, scr, scrC, usesC, usesA, -List.map_map]
  · simp [*, appendV, srcCells, St.forget, scr, scrC, usesC, usesA, setsV, -List.map_map, -oneV]
    refine U00103 hr.out hT.out _ ?_
    simp [*, R6.X, St6, r6B, r6Z, r6O, r6S, r6Y, St.forget, scr, scrC, usesC, usesA, -List.map_map]
  · simp [*, appendV, srcCells, St.forget, scr, scrC, usesC, usesA, setsV, -List.map_map, -oneV]
    refine U00013 hr.out hT.out _ ?_
    simp [*, R6.X, St6, r6B, r6Z, r6O, r6S, r6Y, St.forget, scr, scrC, usesC, usesA, -List.map_map]
  · simp [*, appendV, srcCells, St.forget, scr, scrC, usesC, usesA, setsV, -List.map_map, -oneV]
    refine U00023 hr.out hT.out _ ?_
    simp [*, R6.X, St6, r6B, r6Z, r6O, r6S, r6Y, St.forget, scr, scrC, usesC, usesA, -List.map_map]
  · simp [*, appendV, srcCells, St.forget, scr, scrC, usesC, usesA, setsV, -List.map_map, -oneV]
    refine U00005 hr.out hT.out _ ?_
    simp [*, R6.X, St6, r6B, r6Z, r6O, r6S, r6Y, St.forget, scr, scrC, usesC, usesA, -List.map_map]
theorem U00120 {r : R6} {K : St → Prop} (hr : R6ok r K) (hT : TabOK Try.prog (tab6 r)) : ∀ t : St, St6 r 0 0 1 2 0 t → cAnyY (tab6 r) ops6 63 K 11 #[false, true, false, true, false, false, false, false, false, false, false, false, false] t := by
  rintro ⟨e, h⟩ q
  simp [R6.X, St6, r6B, r6Z, r6O, r6S, r6Y] at q
  obtain ⟨hF, hg, hj, e1, e2, l1, l2, c1, c2, s1, s2, o1, o2, f1, f2, x1, x2, x3, v3, v4, v5, v6, v7, v8, v9, v1, v2, ch, hK⟩ := id hr
  replace hr : Hid (_) := hr
  replace hT : Hid (_) := hT
  refine cany4y 0 2 6 7 (by kernel_rfl) (by unfold ops6 getOps6; exact rfl) (by unfold ops6 getOps6; exact rfl) (by unfold ops6 getOps6; exact rfl) (by unfold ops6 getOps6; exact rfl) ?_ ?_ ?_ ?_
  · simp [*, appendV, srcCells, St.forget, scr, scrC, usesC, usesA, setsV, -List.map_map, -oneV]
    refine U01120 hr.out hT.out _ ?_
    simp [*, R6.X, St6, r6B, r6Z, r6O, r6S, r6Y, St.forget, scr, scrC, usesC, usesA, -List.map_map]
  · simp [*, appendV, srcCells, St.forget, scr, scrC, usesC, usesA, setsV, -List.map_map, -oneV]
    refine U00130 hr.out hT.out _ ?_
    simp [*, R6.X, St6, r6B, r6Z, r6O, r6S, r6Y, St.forget, scr, scrC, usesC, usesA, -List.map_map]
  · simp [*, appendV, srcCells, St.forget, scr, scrC, usesC, usesA, setsV, -List.map_map, -oneV]
    refine U00121 hr.out hT.out _ ?_
    simp [*, R6.X, St6, r6B, r6Z, r6O, r6S, r6Y, St.forget, scr, scrC, usesC, usesA, -List.map_map]
  · simp [*, appendV, srcCells, St.forget, scr, scrC, usesC, usesA, setsV, -List.map_map, -oneV]
    refine U00122 hr.out hT.out _ ?_
    simp [*, R6.X, St6, r6B, r6Z, r6O, r6S, r6Y, St.forget, scr, scrC, usesC, usesA, -List.map_map]
theorem U00011 {r : R6} {K : St → Prop} (hr : R6ok r K) (hT : TabOK Try.prog (tab6 r)) : ∀ t : St, St6 r 0 0 0 1 1 t → cAnyY (tab6 r) ops6 63 K 11 #[false, false, true, false, false, false, true, false, false, false, false, false, false] t := by
  rintro ⟨e, h⟩ q
  simp [R6.X, St6, r6B, r6Z, r6O, r6S, r6Y] at q
  obtain ⟨hF, hg, hj, e1, e2, l1, l2, c1, c2, s1, s2, o1, o2, f1, f2, x1, x2, x3, v3, v4, v5, v6, v7, v8, v9, v1, v2, ch, hK⟩ := id hr
  replace hr : Hid (_) := hr
  replace hT : Hid (_) := hT
  refine cany4y 0 1 3 7 (by kernel_rfl) (by unfold ops6 getOps6; exact rfl) (by unfold ops6 getOps6; exact rfl) (by unfold ops6 getOps6; exact rfl) (by unfold ops6 getOps6; exact rfl) ?_ ?_ ?_ ?_
  · simp [*, appendV, srcCells, St.forget, scr, scrC, usesC, usesA, setsV, -List.map_map, -oneV]
    refine U01011 hr.out hT.out _ ?_
    simp [*, R6.X, St6, r6B, r6Z, r6O, r6S, r6Y, St.forget, scr, scrC, usesC, usesA, -List.map_map]
  · simp [*, appendV, srcCells, St.forget, scr, scrC, usesC, usesA, setsV, -List.map_map, -oneV]
    refine U00111 hr.out hT.out _ ?_
    simp [*, R6.X, St6, r6B, r6Z, r6O, r6S, r6Y, St.forget, scr, scrC, usesC, usesA, -List.map_map]
  · simp [*, appendV, srcCells, St.forget, scr, scrC, usesC, usesA, setsV, -List.map_map, -oneV]
    refine U00031 hr.out hT.out _ ?_
    simp [*, R6.X, St6, r6B, r6Z, r6O, r6S, r6Y, St.forget, scr, scrC, usesC, usesA, -List.map_map]
  · simp [*, appendV, srcCells, St.forget, scr, scrC, usesC, usesA, setsV, -List.map_map, -oneV]
    refine U00013 hr.out hT.out _ ?_
    simp [*, R6.X, St6, r6B, r6Z, r6O, r6S, r6Y, St.forget, scr, scrC, usesC, usesA, -List.map_map]
theorem U00102 {r : R6} {K : St → Prop} (hr : R6ok r K) (hT : TabOK Try.prog (tab6 r)) : ∀ t : St, St6 r 0 0 1 0 2 t → cAnyY (tab6 r) ops6 63 K 11 #[false, true, false, false, false, false, false, true, false, false, false, false, false] t := by
  rintro ⟨e, h⟩ q
  simp [R6.X, St6, r6B, r6Z, r6O, r6S, r6Y] at q
  obtain ⟨hF, hg, hj, e1, e2, l1, l2, c1, c2, s1, s2, o1, o2, f1, f2, x1, x2, x3, v3, v4, v5, v6, v7, v8, v9, v1, v2, ch, hK⟩ := id hr
  replace hr : Hid (_) := hr
  replace hT : Hid (_) := hT
  refine cany5y 0 2 3 6 8 (by kernel_rfl) (by unfold ops6 getOps6; exact rfl) (by unfold ops6 getOps6; exact rfl) (by unfold ops6 getOps6; exact rfl) (by unfold ops6 getOps6; exact rfl) (by unfold ops6 getOps6; exact rfl) ?_ ?_ ?_ ?_ ?_
  · simp [*, appendV, srcCells, St.forget, scr, scrC, usesC, usesA, setsV, -List.map_map, -oneV]
    refine U01102 hr.out hT.out _ ?_
    simp [*, R6.X, St6, r6B, r6Z, r6O, r6S, r6Y, St.forget, scr, scrC, usesC, usesA, -List.map_map]
  · simp [*, appendV, srcCells, St.forget, scr, scrC, usesC, usesA, setsV, -List.map_map, -oneV]
    refine U00112 hr.out hT.out _ ?_
    simp [*, R6.X, St6, r6B, r6Z, r6O, r6S, r6Y, St.forget, scr, scrC, usesC, usesA, -List.map_map]
  · simp [*, appendV, srcCells, St.forget, scr, scrC, usesC, usesA, setsV, -List.map_map, -oneV]
    refine U00122 hr.out hT.out _ ?_
    simp [*, R6.X, St6, r6B, r6Z, r6O, r6S, r6Y, St.forget, scr, scrC, usesC, usesA, -List.map_map]
  · simp [*, appendV, srcCells, St.forget, scr, scrC, usesC, usesA, setsV, -List.map_map, -oneV]
    refine U00103 hr.out hT.out _ ?_
    simp [*, R6.X, St6, r6B, r6Z, r6O, r6S, r6Y, St.forget, scr, scrC, usesC, usesA, -List.map_map]
  · simp [*, appendV, srcCells, St.forget, scr, scrC, usesC, usesA, setsV, -List.map_map, -oneV]
    refine U00104 hr.out hT.out _ ?_
    simp [*, R6.X, St6, r6B, r6Z, r6O, r6S, r6Y, St.forget, scr, scrC, usesC, usesA, -List.map_map]
theorem U00022 {r : R6} {K : St → Prop} (hr : R6ok r K) (hT : TabOK Try.prog (tab6 r)) : ∀ t : St, St6 r 0 0 0 2 2 t → cAnyY (tab6 r) ops6 63 K 11 #[false, false, false, true, false, false, false, true, false, false, false, false, false] t := by
  rintro ⟨e, h⟩ q
  simp [R6.X, St6, r6B, r6Z, r6O, r6S, r6Y] at q
  obtain ⟨hF, hg, hj, e1, e2, l1, l2, c1, c2, s1, s2, o1, o2, f1, f2, x1, x2, x3, v3, v4, v5, v6, v7, v8, v9, v1, v2, ch, hK⟩ := id hr
  replace hr : Hid (_) := hr
  replace hT : Hid (_) := hT
  refine cany5y 0 1 2 6 8 (by kernel_rfl) (by unfold ops6 getOps6; exact rfl) (by unfold ops6 getOps6; exact rfl) (by unfold ops6 getOps6; exact rfl) (by unfold ops6 getOps6; exact rfl) (by unfold ops6 getOps6; exact rfl) ?_ ?_ ?_ ?_ ?_
  · simp [*, appendV, srcCells, St.forget, scr, scrC, usesC, usesA, setsV, -List.map_map, -oneV]
    refine U01022 hr.out hT.out _ ?_
    simp [*, R6.X, St6, r6B, r6Z, r6O, r6S, r6Y, St.forget, scr, scrC, usesC, usesA, -List.map_map]
  · simp [*, appendV, srcCells, St.forget, scr, scrC, usesC, usesA, setsV, -List.map_map, -oneV]
    refine U00122 hr.out hT.out _ ?_
    simp [*, R6.X, St6, r6B, r6Z, r6O, r6S, r6Y, St.forget, scr, scrC, usesC, usesA, -List.map_map]
  · simp [*, appendV, srcCells, St.forget, scr, scrC, usesC, usesA, setsV, -List.map_map, -oneV]
    refine U00032 hr.out hT.out _ ?_
    simp [*, R6.X, St6, r6B, r6Z, r6O, r6S, r6Y, St.forget, scr, scrC, usesC, usesA, -List.map_map]
  · simp [*, appendV, srcCells, St.forget, scr, scrC, usesC, usesA, setsV, -List.map_map, -oneV]
    refine U00023 hr.out hT.out _ ?_
    simp [*, R6.X, St6, r6B, r6Z, r6O, r6S, r6Y, St.forget, scr, scrC, usesC, usesA, -List.map_map]
  · simp [*, appendV, srcCells, St.forget, scr, scrC, usesC, usesA, setsV, -List.map_map, -oneV]
    refine U00024 hr.out hT.out _ ?_
    simp [*, R6.X, St6, r6B, r6Z, r6O, r6S, r6Y, St.forget, scr, scrC, usesC, usesA, -List.map_map]
theorem U01010 {r : R6} {K : St → Prop} (hr : R6ok r K) (hT : TabOK Try.prog (tab6 r)) : ∀ t : St, St6 r 0 1 0 1 0 t → cAnyY (tab6 r) ops6 63 K 11 #[true, false, true, false, false, false, false, false, false, false, false, false, false] t := by
  rintro ⟨e, h⟩ q
  simp [R6.X, St6, r6B, r6Z, r6O, r6S, r6Y] at q
  obtain ⟨hF, hg, hj, e1, e2, l1, l2, c1, c2, s1, s2, o1, o2, f1, f2, x1, x2, x3, v3, v4, v5, v6, v7, v8, v9, v1, v2, ch, hK⟩ := id hr
  replace hr : Hid (_) := hr
  replace hT : Hid (_) := hT
  refine cany4y 1 3 6 7 (by kernel_rfl) (by unfold ops6 getOps6; exact rfl) (by unfold ops6 getOps6; exact rfl) (by unfold ops6 getOps6; exact rfl) (by unfold ops6 getOps6; exact rfl) ?_ ?_ ?_ ?_
  · simp [*, appendV, srcCells, St.forget, scr, scrC, usesC, usesA, setsV, -List.map_map, -oneV]
    refine U01110 hr.out hT.out _ ?_
    simp [*, R6.X, St6, r6B, r6Z, r6O, r6S, r6Y, St.forget, scr, scrC, usesC, usesA, -List.map_map]
  · simp [*, appendV, srcCells, St.forget, scr, scrC, usesC, usesA, setsV, -List.map_map, -oneV]
    refine U01030 hr.out hT.out _ ?_
    simp [*, R6.X, St6, r6B, r6Z, r6O, r6S, r6Y, St.forget, scr, scrC, usesC, usesA, -List.map_map]
  · simp [*, appendV, srcCells, St.forget, scr, scrC, usesC, usesA, setsV, -List.map_map, -oneV]
    refine U01011 hr.out hT.out _ ?_
    simp [*, R6.X, St6, r6B, r6Z, r6O, r6S, r6Y, St.forget, scr, scrC, usesC, usesA, -List.map_map]
  · simp [*, appendV, srcCells, St.forget, scr, scrC, usesC, usesA, setsV, -List.map_map, -oneV]
    refine U01012 hr.out hT.out _ ?_
    simp [*, R6.X, St6, r6B, r6Z, r6O, r6S, r6Y, St.forget, scr, scrC, usesC, usesA, -List.map_map]
theorem U01001 {r : R6} {K : St → Prop} (hr : R6ok r K) (hT : TabOK Try.prog (tab6 r)) : ∀ t : St, St6 r 0 1 0 0 1 t → cAnyY (tab6 r) ops6 63 K 11 #[true, false, false, false, false, false, true, false, false, false, false, false, false] t := by
  rintro ⟨e, h⟩ q
  simp [R6.X, St6, r6B, r6Z, r6O, r6S, r6Y] at q
  obtain ⟨hF, hg, hj, e1, e2, l1, l2, c1, c2, s1, s2, o1, o2, f1, f2, x1, x2, x3, v3, v4, v5, v6, v7, v8, v9, v1, v2, ch, hK⟩ := id hr
  replace hr : Hid (_) := hr
  replace hT : Hid (_) := hT
  refine cany4y 1 2 3 7 (by kernel_rfl) (by unfold ops6 getOps6; exact rfl) (by unfold ops6 getOps6; exact rfl) (by unfold ops6 getOps6; exact rfl) (by unfold ops6 getOps6; exact rfl) ?_ ?_ ?_ ?_
  · simp [*, appendV, srcCells, St.forget, scr, scrC, usesC, usesA, setsV, -List.map_map, -oneV]
    refine U01101 hr.out hT.out _ ?_
    simp [*, R6.X, St6, r6B, r6Z, r6O, r6S, r6Y, St.forget, scr, scrC, usesC, usesA, -List.map_map]
  · simp [*, appendV, srcCells, St.forget, scr, scrC, usesC, usesA, setsV, -List.map_map, -oneV]
    refine U01011 hr.out hT.out _ ?_
    simp [*, R6.X, St6, r6B, r6Z, r6O, r6S, r6Y, St.forget, scr, scrC, usesC, usesA, -List.map_map]
  · simp [*, appendV, srcCells, St.forget, scr, scrC, usesC, usesA, setsV, -List.map_map, -oneV]
    refine U01021 hr.out hT.out _ ?_
    simp [*, R6.X, St6, r6B, r6Z, r6O, r6S, r6Y, St.forget, scr, scrC, usesC, usesA, -List.map_map]
  · simp [*, appendV, srcCells, St.forget, scr, scrC, usesC, usesA, setsV, -List.map_map, -oneV]
    refine U01003 hr.out hT.out _ ?_
    simp [*, R6.X, St6, r6B, r6Z, r6O, r6S, r6Y, St.forget, scr, scrC, usesC, usesA, -List.map_map]
theorem U00110 {r : R6} {K : St → Prop} (hr : R6ok r K) (hT : TabOK Try.prog (tab6 r)) : ∀ t : St, St6 r 0 0 1 1 0 t → cAnyY (tab6 r) ops6 63 K 11 #[false, true, true, false, false, false, false, false, false, false, false, false, false] t := by
  rintro ⟨e, h⟩ q
  simp [R6.X, St6, r6B, r6Z, r6O, r6S, r6Y] at q
  obtain ⟨hF, hg, hj, e1, e2, l1, l2, c1, c2, s1, s2, o1, o2, f1, f2, x1, x2, x3, v3, v4, v5, v6, v7, v8, v9, v1, v2, ch, hK⟩ := id hr
  replace hr : Hid (_) := hr
  replace hT : Hid (_) := hT
  refine cany4y 0 3 6 7 (by kernel_rfl) (by unfold ops6 getOps6; exact rfl) (by unfold ops6 getOps6; exact rfl) (by unfold ops6 getOps6; exact rfl) (by unfold ops6 getOps6; exact rfl) ?_ ?_ ?_ ?_
  · simp [*, appendV, srcCells, St.forget, scr, scrC, usesC, usesA, setsV, -List.map_map, -oneV]
    refine U01110 hr.out hT.out _ ?_
    simp [*, R6.X, St6, r6B, r6Z, r6O, r6S, r6Y, St.forget, scr, scrC, usesC, usesA, -List.map_map]
  · simp [*, appendV, srcCells, St.forget, scr, scrC, usesC, usesA, setsV, -List.map_map, -oneV]
    refine U00130 hr.out hT.out _ ?_
    simp [*, R6.X, St6, r6B, r6Z, r6O, r6S, r6Y, St.forget, scr, scrC, usesC, usesA, -List.map_map]
  · simp [*, appendV, srcCells, St.forget, scr, scrC, usesC, usesA, setsV, -List.map_map, -oneV]
    refine U00111 hr.out hT.out _ ?_
    simp [*, R6.X, St6, r6B, r6Z, r6O, r6S, r6Y, St.forget, scr, scrC, usesC, usesA, -List.map_map]
  · simp [*, appendV, srcCells, St.forget, scr, scrC, usesC, usesA, setsV, -List.map_map, -oneV]
    refine U00112 hr.out hT.out _ ?_
    simp [*, R6.X, St6, r6B, r6Z, r6O, r6S, r6Y, St.forget, scr, scrC, usesC, usesA, -List.map_map]
theorem U00101 {r : R6} {K : St → Prop} (hr : R6ok r K) (hT : TabOK Try.prog (tab6 r)) : ∀ t : St, St6 r 0 0 1 0 1 t → cAnyY (tab6 r) ops6 63 K 11 #[false, true, false, false, false, false, true, false, false, false, false, false, false] t := by
  rintro ⟨e, h⟩ q
  simp [R6.X, St6, r6B, r6Z, r6O, r6S, r6Y] at q
  obtain ⟨hF, hg, hj, e1, e2, l1, l2, c1, c2, s1, s2, o1, o2, f1, f2, x1, x2, x3, v3, v4, v5, v6, v7, v8, v9, v1, v2, ch, hK⟩ := id hr
  replace hr : Hid (_) := hr
  replace hT : Hid (_) := hT
  refine cany4y 0 2 3 7 (by kernel_rfl) (by unfold ops6 getOps6; exact rfl) (by unfold ops6 getOps6; exact rfl) (by unfold ops6 getOps6; exact rfl) (by unfold ops6 getOps6; exact rfl) ?_ ?_ ?_ ?_
  · simp [*, appendV, srcCells, St.forget, scr, scrC, usesC, usesA, setsV, -List.map_map, -oneV]
    refine U01101 hr.out hT.out _ ?_
    simp [*, R6.X, St6, r6B, r6Z, r6O, r6S, r6Y, St.forget, scr, scrC, usesC, usesA, -List.map_map]
  · simp [*, appendV, srcCells, St.forget, scr, scrC, usesC, usesA, setsV, -List.map_map, -oneV]
    refine U00111 hr.out hT.out _ ?_
    simp [*, R6.X, St6, r6B, r6Z, r6O, r6S, r6Y, St.forget, scr, scrC, usesC, usesA, -List.map_map]
  · simp [*, appendV, srcCells, St.forget, scr, scrC, usesC, usesA, setsV, -List.map_map, -oneV]
    refine U00121 hr.out hT.out _ ?_
    simp [*, R6.X, St6, r6B, r6Z, r6O, r6S, r6Y, St.forget, scr, scrC, usesC, usesA, -List.map_map]
  · simp [*, appendV, srcCells, St.forget, scr, scrC, usesC, usesA, setsV, -List.map_map, -oneV]
    refine U00103 hr.out hT.out _ ?_
    simp [*, R6.X, St6, r6B, r6Z, r6O, r6S, r6Y, St.forget, scr, scrC, usesC, usesA, -List.map_map]
theorem U00030 {r : R6} {K : St → Prop} (hr : R6ok r K) (hT : TabOK Try.prog (tab6 r)) : ∀ t : St, St6 r 0 0 0 3 0 t → cAnyY (tab6 r) ops6 63 K 11 #[false, false, true, true, false, false, false, false, false, false, false, false, false] t := by
  rintro ⟨e, h⟩ q
  simp [R6.X, St6, r6B, r6Z, r6O, r6S, r6Y] at q
  obtain ⟨hF, hg, hj, e1, e2, l1, l2, c1, c2, s1, s2, o1, o2, f1, f2, x1, x2, x3, v3, v4, v5, v6, v7, v8, v9, v1, v2, ch, hK⟩ := id hr
  replace hr : Hid (_) := hr
  replace hT : Hid (_) := hT
  refine cany5y 0 1 4 6 7 (by kernel_rfl) (by unfold ops6 getOps6; exact rfl) (by unfold ops6 getOps6; exact rfl) (by unfold ops6 getOps6; exact rfl) (by unfold ops6 getOps6; exact rfl) (by unfold ops6 getOps6; exact rfl) ?_ ?_ ?_ ?_ ?_
  · simp [*, appendV, srcCells, St.forget, scr, scrC, usesC, usesA, setsV, -List.map_map, -oneV]
    refine U01030 hr.out hT.out _ ?_
    simp [*, R6.X, St6, r6B, r6Z, r6O, r6S, r6Y, St.forget, scr, scrC, usesC, usesA, -List.map_map]
  · simp [*, appendV, srcCells, St.forget, scr, scrC, usesC, usesA, setsV, -List.map_map, -oneV]
    refine U00130 hr.out hT.out _ ?_
    simp [*, R6.X, St6, r6B, r6Z, r6O, r6S, r6Y, St.forget, scr, scrC, usesC, usesA, -List.map_map]
  · simp [*, appendV, srcCells, St.forget, scr, scrC, usesC, usesA, setsV, -List.map_map, -oneV]
    refine U00040 hr.out hT.out _ ?_
    simp [*, R6.X, St6, r6B, r6Z, r6O, r6S, r6Y, St.forget, scr, scrC, usesC, usesA, -List.map_map]
  · simp [*, appendV, srcCells, St.forget, scr, scrC, usesC, usesA, setsV, -List.map_map, -oneV]
    refine U00031 hr.out hT.out _ ?_
    simp [*, R6.X, St6, r6B, r6Z, r6O, r6S, r6Y, St.forget, scr, scrC, usesC, usesA, -List.map_map]
  · simp [*, appendV, srcCells, St.forget, scr, scrC, usesC, usesA, setsV, -List.map_map, -oneV]
    refine U00032 hr.out hT.out _ ?_
    simp [*, R6.X, St6, r6B, r6Z, r6O, r6S, r6Y, St.forget, scr, scrC, usesC, usesA, -List.map_map]
theorem U01100 {r : R6} {K : St → Prop} (hr : R6ok r K) (hT : TabOK Try.prog (tab6 r)) : ∀ t : St, St6 r 0 1 1 0 0 t → cAnyY (tab6 r) ops6 63 K 11 #[true, true, false, false, false, false, false, false, false, false, false, false, false] t := by
  rintro ⟨e, h⟩ q
  simp [R6.X, St6, r6B, r6Z, r6O, r6S, r6Y] at q
  obtain ⟨hF, hg, hj, e1, e2, l1, l2, c1, c2, s1, s2, o1, o2, f1, f2, x1, x2, x3, v3, v4, v5, v6, v7, v8, v9, v1, v2, ch, hK⟩ := id hr
  replace hr : Hid (_) := hr
  replace hT : Hid (_) := hT
  refine cany4y 2 3 6 7 (by kernel_rfl) (by unfold ops6 getOps6; exact rfl) (by unfold ops6 getOps6; exact rfl) (by unfold ops6 getOps6; exact rfl) (by unfold ops6 getOps6; exact rfl) ?_ ?_ ?_ ?_
  · simp [*, appendV, srcCells, St.forget, scr, scrC, usesC, usesA, setsV, -List.map_map, -oneV]
    refine U01110 hr.out hT.out _ ?_
    simp [*, R6.X, St6, r6B, r6Z, r6O, r6S, r6Y, St.forget, scr, scrC, usesC, usesA, -List.map_map]
  · simp [*, appendV, srcCells, St.forget, scr, scrC, usesC, usesA, setsV, -List.map_map, -oneV]
    refine U01120 hr.out hT.out _ ?_
    simp [*, R6.X, St6, r6B, r6Z, r6O, r6S, r6Y, St.forget, scr, scrC, usesC, usesA, -List.map_map]
  · simp [*, appendV, srcCells, St.forget, scr, scrC, usesC, usesA, setsV, -List.map_map, -oneV]
    refine U01101 hr.out hT.out _ ?_
    simp [*, R6.X, St6, r6B, r6Z, r6O, r6S, r6Y, St.forget, scr, scrC, usesC, usesA, -List.map_map]
  · simp [*, appendV, srcCells, St.forget, scr, scrC, usesC, usesA, setsV, -List.map_map, -oneV]
    refine U01102 hr.out hT.out _ ?_
    simp [*, R6.X, St6, r6B, r6Z, r6O, r6S, r6Y, St.forget, scr, scrC, usesC, usesA, -List.map_map]
theorem U00012 {r : R6} {K : St → Prop} (hr : R6ok r K) (hT : TabOK Try.prog (tab6 r)) : ∀ t : St, St6 r 0 0 0 1 2 t → cAnyY (tab6 r) ops6 63 K 11 #[false, false, true, false, false, false, false, true, false, false, false, false, false] t := by
  rintro ⟨e, h⟩ q
  simp [R6.X, St6, r6B, r6Z, r6O, r6S, r6Y] at q
  obtain ⟨hF, hg, hj, e1, e2, l1, l2, c1, c2, s1, s2, o1, o2, f1, f2, x1, x2, x3, v3, v4, v5, v6, v7, v8, v9, v1, v2, ch, hK⟩ := id hr
  replace hr : Hid (_) := hr
  replace hT : Hid (_) := hT
  refine cany5y 0 1 3 6 8 (by kernel_rfl) (by unfold ops6 getOps6; exact rfl) (by unfold ops6 getOps6; exact rfl) (by unfold ops6 getOps6; exact rfl) (by unfold ops6 getOps6; exact rfl) (by unfold ops6 getOps6; exact rfl) ?_ ?_ ?_ ?_ ?_
  · simp [*, appendV, srcCells, St.forget, scr, scrC, usesC, usesA, setsV, -List.map_map, -oneV]
    refine U01012 hr.out hT.out _ ?_
    simp [*, R6.X, St6, r6B, r6Z, r6O, r6S, r6Y, St.forget, scr, scrC, usesC, usesA, -List.map_map]
  · simp [*, appendV, srcCells, St.forget, scr, scrC, usesC, usesA, setsV, -List.map_map, -oneV]
    refine U00112 hr.out hT.out _ ?_
    simp [*, R6.X, St6, r6B, r6Z, r6O, r6S, r6Y, St.forget, scr, scrC, usesC, usesA, -List.map_map]
  · simp [*, appendV, srcCells, St.forget, scr, scrC, usesC, usesA, setsV, -List.map_map, -oneV]
    refine U00032 hr.out hT.out _ ?_
    simp [*, R6.X, St6, r6B, r6Z, r6O, r6S, r6Y, St.forget, scr, scrC, usesC, usesA, -List.map_map]
  · simp [*, appendV, srcCells, St.forget, scr, scrC, usesC, usesA, setsV, -List.map_map, -oneV]
    refine U00013 hr.out hT.out _ ?_
    simp [*, R6.X, St6, r6B, r6Z, r6O, r6S, r6Y, St.forget, scr, scrC, usesC, usesA, -List.map_map]
  · simp [*, appendV, srcCells, St.forget, scr, scrC, usesC, usesA, setsV, -List.map_map, -oneV]
    refine U00014 hr.out hT.out _ ?_
    simp [*, R6.X, St6, r6B, r6Z, r6O, r6S, r6Y, St.forget, scr, scrC, usesC, usesA, -List.map_map]
theorem U01020 {r : R6} {K : St → Prop} (hr : R6ok r K) (hT : TabOK Try.prog (tab6 r)) : ∀ t : St, St6 r 0 1 0 2 0 t → cAnyY (tab6 r) ops6 63 K 11 #[true, false, false, true, false, false, false, false, false, false, false, false, false] t := by
  rintro ⟨e, h⟩ q
  simp [R6.X, St6, r6B, r6Z, r6O, r6S, r6Y] at q
  obtain ⟨hF, hg, hj, e1, e2, l1, l2, c1, c2, s1, s2, o1, o2, f1, f2, x1, x2, x3, v3, v4, v5, v6, v7, v8, v9, v1, v2, ch, hK⟩ := id hr
  replace hr : Hid (_) := hr
  replace hT : Hid (_) := hT
  refine cany4y 1 2 6 7 (by kernel_rfl) (by unfold ops6 getOps6; exact rfl) (by unfold ops6 getOps6; exact rfl) (by unfold ops6 getOps6; exact rfl) (by unfold ops6 getOps6; exact rfl) ?_ ?_ ?_ ?_
  · simp [*, appendV, srcCells, St.forget, scr, scrC, usesC, usesA, setsV, -List.map_map, -oneV]
    refine U01120 hr.out hT.out _ ?_
    simp [*, R6.X, St6, r6B, r6Z, r6O, r6S, r6Y, St.forget, scr, scrC, usesC, usesA, -List.map_map]
  · simp [*, appendV, srcCells, St.forget, scr, scrC, usesC, usesA, setsV, -List.map_map, -oneV]
    refine U01030 hr.out hT.out _ ?_
    simp [*, R6.X, St6, r6B, r6Z, r6O, r6S, r6Y, St.forget, scr, scrC, usesC, usesA, -List.map_map]
  · simp [*, appendV, srcCells, St.forget, scr, scrC, usesC, usesA, setsV, -List.map_map, -oneV]
    refine U01021 hr.out hT.out _ ?_
    simp [*, R6.X, St6, r6B, r6Z, r6O, r6S, r6Y, St.forget, scr, scrC, usesC, usesA, -List.map_map]
  · simp [*, appendV, srcCells, St.forget, scr, scrC, usesC, usesA, setsV, -List.map_map, -oneV]
    refine U01022 hr.out hT.out _ ?_
    simp [*, R6.X, St6, r6B, r6Z, r6O, r6S, r6Y, St.forget, scr, scrC, usesC, usesA, -List.map_map]
theorem U01002 {r : R6} {K : St → Prop} (hr : R6ok r K) (hT : TabOK Try.prog (tab6 r)) : ∀ t : St, St6 r 0 1 0 0 2 t → cAnyY (tab6 r) ops6 63 K 11 #[true, false, false, false, false, false, false, true, false, false, false, false, false] t := by
  rintro ⟨e, h⟩ q
  simp [R6.X, St6, r6B, r6Z, r6O, r6S, r6Y] at q
  obtain ⟨hF, hg, hj, e1, e2, l1, l2, c1, c2, s1, s2, o1, o2, f1, f2, x1, x2, x3, v3, v4, v5, v6, v7, v8, v9, v1, v2, ch, hK⟩ := id hr
  replace hr : Hid (_) := hr
  replace hT : Hid (_) := hT
  refine cany5y 1 2 3 6 8 (by kernel_rfl) (by unfold ops6 getOps6; exact rfl) (by unfold ops6 getOps6; exact rfl) (by unfold ops6 getOps6; exact rfl) (by unfold ops6 getOps6; exact rfl) (by unfold ops6 getOps6; exact rfl) ?_ ?_ ?_ ?_ ?_
  · simp [*, appendV, srcCells, St.forget, scr, scrC, usesC, usesA, setsV, -List.map_map, -oneV]
    refine U01102 hr.out hT.out _ ?_
    simp [*, R6.X, St6, r6B, r6Z, r6O, r6S, r6Y, St.forget, scr, scrC, usesC, usesA, -List.map_map]
  · simp [*, appendV, srcCells, St.forget, scr, scrC, usesC, usesA, setsV, -List.map_map, -oneV]
    refine U01012 hr.out hT.out _ ?_
    simp [*, R6.X, St6, r6B, r6Z, r6O, r6S, r6Y, St.forget, scr, scrC, usesC, usesA, -List.map_map]
  · simp [*, appendV, srcCells, St.forget, scr, scrC, usesC, usesA, setsV, -List.map_map, -oneV]
    refine U01022 hr.out hT.out _ ?_
    simp [*, R6.X, St6, r6B, r6Z, r6O, r6S, r6Y, St.forget, scr, scrC, usesC, usesA, -List.map_map]
  · simp [*, appendV, srcCells, St.forget, scr, scrC, usesC, usesA, setsV, -List.map_map, -oneV]
    refine U01003 hr.out hT.out _ ?_
    simp [*, R6.X, St6, r6B, r6Z, r6O, r6S, r6Y, St.forget, scr, scrC, usesC, usesA, -List.map_map]
  · simp [*, appendV, srcCells, St.forget, scr, scrC, usesC, usesA, setsV, -List.map_map, -oneV]
    refine U01004 hr.out hT.out _ ?_
    simp [*, R6.X, St6, r6B, r6Z, r6O, r6S, r6Y, St.forget, scr, scrC, usesC, usesA, -List.map_map]
theorem U00004 {r : R6} {K : St → Prop} (hr : R6ok r K) (hT : TabOK Try.prog (tab6 r)) : ∀ t : St, St6 r 0 0 0 0 4 t → cAnyY (tab6 r) ops6 63 K 11 #[false, false, false, false, false, false, false, true, true, false, false, false, false] t := by
  rintro ⟨e, h⟩ q
  simp [R6.X, St6, r6B, r6Z, r6O, r6S, r6Y] at q
  obtain ⟨hF, hg, hj, e1, e2, l1, l2, c1, c2, s1, s2, o1, o2, f1, f2, x1, x2, x3, v3, v4, v5, v6, v7, v8, v9, v1, v2, ch, hK⟩ := id hr
  replace hr : Hid (_) := hr
  replace hT : Hid (_) := hT
  refine cany5y 0 1 2 3 6 (by kernel_rfl) (by unfold ops6 getOps6; exact rfl) (by unfold ops6 getOps6; exact rfl) (by unfold ops6 getOps6; exact rfl) (by unfold ops6 getOps6; exact rfl) (by unfold ops6 getOps6; exact rfl) ?_ ?_ ?_ ?_ ?_
  · simp [*, appendV, srcCells, St.forget, scr, scrC, usesC, usesA, setsV, -List.map_map, -oneV]
    refine U01004 hr.out hT.out _ ?_
    simp [*, R6.X, St6, r6B, r6Z, r6O, r6S, r6Y, St.forget, scr, scrC, usesC, usesA, -List.map_map]
  · simp [*, appendV, srcCells, St.forget, scr, scrC, usesC, usesA, setsV, -List.map_map, -oneV]
    refine U00104 hr.out hT.out _ ?_
    simp [*, R6.X, St6, r6B, r6Z, r6O, r6S, r6Y, St.forget, scr, scrC, usesC, usesA, -List.map_map]
  · simp [*, appendV, srcCells, St.forget, scr, scrC, usesC, usesA, setsV, -List.map_map, -oneV]
    refine U00014 hr.out hT.out _ ?_
    simp [*, R6.X, St6, r6B, r6Z, r6O, r6S, r6Y, St.forget, scr, scrC, usesC, usesA, -List.map_map]
  · simp [*, appendV, srcCells, St.forget, scr, scrC, usesC, usesA, setsV, -List.map_map, -oneV]
    refine U00024 hr.out hT.out _ ?_
    simp [*, R6.X, St6, r6B, r6Z, r6O, r6S, r6Y, St.forget, scr, scrC, usesC, usesA, -List.map_map]
  · simp [*, appendV, srcCells, St.forget, scr, scrC, usesC, usesA, setsV, -List.map_map, -oneV]
    refine U00005 hr.out hT.out _ ?_
    simp [*, R6.X, St6, r6B, r6Z, r6O, r6S, r6Y, St.forget, scr, scrC, usesC, usesA, -List.map_map]
theorem U00021 {r : R6} {K : St → Prop} (hr : R6ok r K) (hT : TabOK Try.prog (tab6 r)) : ∀ t : St, St6 r 0 0 0 2 1 t → cAnyY (tab6 r) ops6 63 K 11 #[false, false, false, true, false, false, true, false, false, false, false, false, false] t := by
  rintro ⟨e, h⟩ q
  simp [R6.X, St6, r6B, r6Z, r6O, r6S, r6Y] at q
  obtain ⟨hF, hg, hj, e1, e2, l1, l2, c1, c2, s1, s2, o1, o2, f1, f2, x1, x2, x3, v3, v4, v5, v6, v7, v8, v9, v1, v2, ch, hK⟩ := id hr
  replace hr : Hid (_) := hr
  replace hT : Hid (_) := hT
  refine cany4y 0 1 2 7 (by kernel_rfl) (by unfold ops6 getOps6; exact rfl) (by unfold ops6 getOps6; exact rfl) (by unfold ops6 getOps6; exact rfl) (by unfold ops6 getOps6; exact rfl) ?_ ?_ ?_ ?_
  · simp [*, appendV, srcCells, St.forget, scr, scrC, usesC, usesA, setsV, -List.map_map, -oneV]
    refine U01021 hr.out hT.out _ ?_
    simp [*, R6.X, St6, r6B, r6Z, r6O, r6S, r6Y, St.forget, scr, scrC, usesC, usesA, -List.map_map]
  · simp [*, appendV, srcCells, St.forget, scr, scrC, usesC, usesA, setsV, -List.map_map, -oneV]
    refine U00121 hr.out hT.out _ ?_
    simp [*, R6.X, St6, r6B, r6Z, r6O, r6S, r6Y, St.forget, scr, scrC, usesC, usesA, -List.map_map]
  · simp [*, appendV, srcCells, St.forget, scr, scrC, usesC, usesA, setsV, -List.map_map, -oneV]
    refine U00031 hr.out hT.out _ ?_
    simp [*, R6.X, St6, r6B, r6Z, r6O, r6S, r6Y, St.forget, scr, scrC, usesC, usesA, -List.map_map]
  · simp [*, appendV, srcCells, St.forget, scr, scrC, usesC, usesA, setsV, -List.map_map, -oneV]
    refine U00023 hr.out hT.out _ ?_
    simp [*, R6.X, St6, r6B, r6Z, r6O, r6S, r6Y, St.forget, scr, scrC, usesC, usesA, -List.map_map]
theorem U00100 {r : R6} {K : St → Prop} (hr : R6ok r K) (hT : TabOK Try.prog (tab6 r)) : ∀ t : St, St6 r 0 0 1 0 0 t → cAnyY (tab6 r) ops6 63 K 12 #[false, true, false, false, false, false, false, false, false, false, false, false, false] t := by
  rintro ⟨e, h⟩ q
  simp [R6.X, St6, r6B, r6Z, r6O, r6S, r6Y] at q
  obtain ⟨hF, hg, hj, e1, e2, l1, l2, c1, c2, s1, s2, o1, o2, f1, f2, x1, x2, x3, v3, v4, v5, v6, v7, v8, v9, v1, v2, ch, hK⟩ := id hr
  replace hr : Hid (_) := hr
  replace hT : Hid (_) := hT
  refine cany5y 0 2 3 6 7 (by kernel_rfl) (by unfold ops6 getOps6; exact rfl) (by unfold ops6 getOps6; exact rfl) (by unfold ops6 getOps6; exact rfl) (by unfold ops6 getOps6; exact rfl) (by unfold ops6 getOps6; exact rfl) ?_ ?_ ?_ ?_ ?_
  · simp [*, appendV, srcCells, St.forget, scr, scrC, usesC, usesA, setsV, -List.map_map, -oneV]
    refine U01100 hr.out hT.out _ ?_
    simp [*, R6.X, St6, r6B, r6Z, r6O, r6S, r6Y, St.forget, scr, scrC, usesC, usesA, -List.map_map]
  · simp [*, appendV, srcCells, St.forget, scr, scrC, usesC, usesA, setsV, -List.map_map, -oneV]
    refine U00110 hr.out hT.out _ ?_
    simp [*, R6.X, St6, r6B, r6Z, r6O, r6S, r6Y, St.forget, scr, scrC, usesC, usesA, -List.map_map]
  · simp [*, appendV, srcCells, St.forget, scr, scrC, usesC, usesA, setsV, -List.map_map, -oneV]
    refine U00120 hr.out hT.out _ ?_
    simp [*, R6.X, St6, r6B, r6Z, r6O, r6S, r6Y, St.forget, scr, scrC, usesC, usesA, -List.map_map]
  · simp [*, appendV, srcCells, St.forget, scr, scrC, usesC, usesA, setsV, -List.map_map, -oneV]
    refine U00101 hr.out hT.out _ ?_
    simp [*, R6.X, St6, r6B, r6Z, r6O, r6S, r6Y, St.forget, scr, scrC, usesC, usesA, -List.map_map]
  · simp [*, appendV, srcCells, St.forget, scr, scrC, usesC, usesA, setsV, -List.map_map, -oneV]
    refine U00102 hr.out hT.out _ ?_
    simp [*, R6.X, St6, r6B, r6Z, r6O, r6S, r6Y, St.forget, scr, scrC, usesC, usesA, -List.map_map]
theorem U00001 {r : R6} {K : St → Prop} (hr : R6ok r K) (hT : TabOK Try.prog (tab6 r)) : ∀ t : St, St6 r 0 0 0 0 1 t → cAnyY (tab6 r) ops6 63 K 12 #[false, false, false, false, false, false, true, false, false, false, false, false, false] t := by
  rintro ⟨e, h⟩ q
  simp [R6.X, St6, r6B, r6Z, r6O, r6S, r6Y] at q
  obtain ⟨hF, hg, hj, e1, e2, l1, l2, c1, c2, s1, s2, o1, o2, f1, f2, x1, x2, x3, v3, v4, v5, v6, v7, v8, v9, v1, v2, ch, hK⟩ := id hr
  replace hr : Hid (_) := hr
  replace hT : Hid (_) := hT
  refine cany5y 0 1 2 3 7 (by kernel_rfl) (by unfold ops6 getOps6; exact rfl) (by unfold ops6 getOps6; exact rfl) (by unfold ops6 getOps6; exact rfl) (by unfold ops6 getOps6; exact rfl) (by unfold ops6 getOps6; exact rfl) ?_ ?_ ?_ ?_ ?_
  · simp [*, appendV, srcCells, St.forget, scr, scrC, usesC, usesA, setsV, -List.map_map, -oneV]
    refine U01001 hr.out hT.out _ ?_
    simp [*, R6.X, St6, r6B, r6Z, r6O, r6S, r6Y, St.forget, scr, scrC, usesC, usesA, -List.map_map]
  · simp [*, appendV, srcCells, St.forget, scr, scrC, usesC, usesA, setsV, -List.map_map, -oneV]
    refine U00101 hr.out hT.out _ ?_
    simp [*, R6.X, St6, r6B, r6Z, r6O, r6S, r6Y, St.forget, scr, scrC, usesC, usesA, -List.map_map]
  · simp [*, appendV, srcCells, St.forget, scr, scrC, usesC, usesA, setsV, -List.map_map, -oneV]
    refine U00011 hr.out hT.out _ ?_
    simp [*, R6.X, St6, r6B, r6Z, r6O, r6S, r6Y, St.forget, scr, scrC, usesC, usesA, -List.map_map]
  · simp [*, appendV, srcCells, St.forget, scr, scrC, usesC, usesA, setsV, -List.map_map, -oneV]
    refine U00021 hr.out hT.out _ ?_
    simp [*, R6.X, St6, r6B, r6Z, r6O, r6S, r6Y, St.forget, scr, scrC, usesC, usesA, -List.map_map]
  · simp [*, appendV, srcCells, St.forget, scr, scrC, usesC, usesA, setsV, -List.map_map, -oneV]
    refine U00003 hr.out hT.out _ ?_
    simp [*, R6.X, St6, r6B, r6Z, r6O, r6S, r6Y, St.forget, scr, scrC, usesC, usesA, -List.map_map]
theorem U00020 {r : R6} {K : St → Prop} (hr : R6ok r K) (hT : TabOK Try.prog (tab6 r)) : ∀ t : St, St6 r 0 0 0 2 0 t → cAnyY (tab6 r) ops6 63 K 12 #[false, false, false, true, false, false, false, false, false, false, false, false, false] t := by
  rintro ⟨e, h⟩ q
  simp [R6.X, St6, r6B, r6Z, r6O, r6S, r6Y] at q
  obtain ⟨hF, hg, hj, e1, e2, l1, l2, c1, c2, s1, s2, o1, o2, f1, f2, x1, x2, x3, v3, v4, v5, v6, v7, v8, v9, v1, v2, ch, hK⟩ := id hr
  replace hr : Hid (_) := hr
  replace hT : Hid (_) := hT
  refine cany5y 0 1 2 6 7 (by kernel_rfl) (by unfold ops6 getOps6; exact rfl) (by unfold ops6 getOps6; exact rfl) (by unfold ops6 getOps6; exact rfl) (by unfold ops6 getOps6; exact rfl) (by unfold ops6 getOps6; exact rfl) ?_ ?_ ?_ ?_ ?_
  · simp [*, appendV, srcCells, St.forget, scr, scrC, usesC, usesA, setsV, -List.map_map, -oneV]
    refine U01020 hr.out hT.out _ ?_
    simp [*, R6.X, St6, r6B, r6Z, r6O, r6S, r6Y, St.forget, scr, scrC, usesC, usesA, -List.map_map]
  · simp [*, appendV, srcCells, St.forget, scr, scrC, usesC, usesA, setsV, -List.map_map, -oneV]
    refine U00120 hr.out hT.out _ ?_
    simp [*, R6.X, St6, r6B, r6Z, r6O, r6S, r6Y, St.forget, scr, scrC, usesC, usesA, -List.map_map]
  · simp [*, appendV, srcCells, St.forget, scr, scrC, usesC, usesA, setsV, -List.map_map, -oneV]
    refine U00030 hr.out hT.out _ ?_
    simp [*, R6.X, St6, r6B, r6Z, r6O, r6S, r6Y, St.forget, scr, scrC, usesC, usesA, -List.map_map]
  · simp [*, appendV, srcCells, St.forget, scr, scrC, usesC, usesA, setsV, -List.map_map, -oneV]
    refine U00021 hr.out hT.out _ ?_
    simp [*, R6.X, St6, r6B, r6Z, r6O, r6S, r6Y, St.forget, scr, scrC, usesC, usesA, -List.map_map]
  · simp [*, appendV, srcCells, St.forget, scr, scrC, usesC, usesA, setsV, -List.map_map, -oneV]
    refine U00022 hr.out hT.out _ ?_
    simp [*, R6.X, St6, r6B, r6Z, r6O, r6S, r6Y, St.forget, scr, scrC, usesC, usesA, -List.map_map]
theorem U00010 {r : R6} {K : St → Prop} (hr : R6ok r K) (hT : TabOK Try.prog (tab6 r)) : ∀ t : St, St6 r 0 0 0 1 0 t → cAnyY (tab6 r) ops6 63 K 12 #[false, false, true, false, false, false, false, false, false, false, false, false, false] t := by
  rintro ⟨e, h⟩ q
  simp [R6.X, St6, r6B, r6Z, r6O, r6S, r6Y] at q
  obtain ⟨hF, hg, hj, e1, e2, l1, l2, c1, c2, s1, s2, o1, o2, f1, f2, x1, x2, x3, v3, v4, v5, v6, v7, v8, v9, v1, v2, ch, hK⟩ := id hr
  replace hr : Hid (_) := hr
  replace hT : Hid (_) := hT
  refine cany5y 0 1 3 6 7 (by kernel_rfl) (by unfold ops6 getOps6; exact rfl) (by unfold ops6 getOps6; exact rfl) (by unfold ops6 getOps6; exact rfl) (by unfold ops6 getOps6; exact rfl) (by unfold ops6 getOps6; exact rfl) ?_ ?_ ?_ ?_ ?_
  · simp [*, appendV, srcCells, St.forget, scr, scrC, usesC, usesA, setsV, -List.map_map, -oneV]
    refine U01010 hr.out hT.out _ ?_
    simp [*, R6.X, St6, r6B, r6Z, r6O, r6S, r6Y, St.forget, scr, scrC, usesC, usesA, -List.map_map]
  · simp [*, appendV, srcCells, St.forget, scr, scrC, usesC, usesA, setsV, -List.map_map, -oneV]
    refine U00110 hr.out hT.out _ ?_
    simp [*, R6.X, St6, r6B, r6Z, r6O, r6S, r6Y, St.forget, scr, scrC, usesC, usesA, -List.map_map]
  · simp [*, appendV, srcCells, St.forget, scr, scrC, usesC, usesA, setsV, -List.map_map, -oneV]
    refine U00030 hr.out hT.out _ ?_
    simp [*, R6.X, St6, r6B, r6Z, r6O, r6S, r6Y, St.forget, scr, scrC, usesC, usesA, -List.map_map]
  · simp [*, appendV, srcCells, St.forget, scr, scrC, usesC, usesA, setsV, -List.map_map, -oneV]
    refine U00011 hr.out hT.out _ ?_
    simp [*, R6.X, St6, r6B, r6Z, r6O, r6S, r6Y, St.forget, scr, scrC, usesC, usesA, -List.map_map]
  · simp [*, appendV, srcCells, St.forget, scr, scrC, usesC, usesA, setsV, -List.map_map, -oneV]
    refine U00012 hr.out hT.out _ ?_
    simp [*, R6.X, St6, r6B, r6Z, r6O, r6S, r6Y, St.forget, scr, scrC, usesC, usesA, -List.map_map]
theorem U01000 {r : R6} {K : St → Prop} (hr : R6ok r K) (hT : TabOK Try.prog (tab6 r)) : ∀ t : St, St6 r 0 1 0 0 0 t → cAnyY (tab6 r) ops6 63 K 12 #[true, false, false, false, false, false, false, false, false, false, false, false, false] t := by
  rintro ⟨e, h⟩ q
  simp [R6.X, St6, r6B, r6Z, r6O, r6S, r6Y] at q
  obtain ⟨hF, hg, hj, e1, e2, l1, l2, c1, c2, s1, s2, o1, o2, f1, f2, x1, x2, x3, v3, v4, v5, v6, v7, v8, v9, v1, v2, ch, hK⟩ := id hr
  replace hr : Hid (_) := hr
  replace hT : Hid (_) := hT
  refine cany5y 1 2 3 6 7 (by kernel_rfl) (by unfold ops6 getOps6; exact rfl) (by unfold ops6 getOps6; exact rfl) (by unfold ops6 getOps6; exact rfl) (by unfold ops6 getOps6; exact rfl) (by unfold ops6 getOps6; exact rfl) ?_ ?_ ?_ ?_ ?_
  · simp [*, appendV, srcCells, St.forget, scr, scrC, usesC, usesA, setsV, -List.map_map, -oneV]
    refine U01100 hr.out hT.out _ ?_
    simp [*, R6.X, St6, r6B, r6Z, r6O, r6S, r6Y, St.forget, scr, scrC, usesC, usesA, -List.map_map]
  · simp [*, appendV, srcCells, St.forget, scr, scrC, usesC, usesA, setsV, -List.map_map, -oneV]
    refine U01010 hr.out hT.out _ ?_
    simp [*, R6.X, St6, r6B, r6Z, r6O, r6S, r6Y, St.forget, scr, scrC, usesC, usesA, -List.map_map]
  · simp [*, appendV, srcCells, St.forget, scr, scrC, usesC, usesA, setsV, -List.map_map, -oneV]
    refine U01020 hr.out hT.out _ ?_
    simp [*, R6.X, St6, r6B, r6Z, r6O, r6S, r6Y, St.forget, scr, scrC, usesC, usesA, -List.map_map]
  · simp [*, appendV, srcCells, St.forget, scr, scrC, usesC, usesA, setsV, -List.map_map, -oneV]
    refine U01001 hr.out hT.out _ ?_
    simp [*, R6.X, St6, r6B, r6Z, r6O, r6S, r6Y, St.forget, scr, scrC, usesC, usesA, -List.map_map]
  · simp [*, appendV, srcCells, St.forget, scr, scrC, usesC, usesA, setsV, -List.map_map, -oneV]
    refine U01002 hr.out hT.out _ ?_
    simp [*, R6.X, St6, r6B, r6Z, r6O, r6S, r6Y, St.forget, scr, scrC, usesC, usesA, -List.map_map]
theorem U00002 {r : R6} {K : St → Prop} (hr : R6ok r K) (hT : TabOK Try.prog (tab6 r)) : ∀ t : St, St6 r 0 0 0 0 2 t → cAnyY (tab6 r) ops6 63 K 12 #[false, false, false, false, false, false, false, true, false, false, false, false, false] t := by
  rintro ⟨e, h⟩ q
  simp [R6.X, St6, r6B, r6Z, r6O, r6S, r6Y] at q
  obtain ⟨hF, hg, hj, e1, e2, l1, l2, c1, c2, s1, s2, o1, o2, f1, f2, x1, x2, x3, v3, v4, v5, v6, v7, v8, v9, v1, v2, ch, hK⟩ := id hr
  replace hr : Hid (_) := hr
  replace hT : Hid (_) := hT
  refine cany6y 0 1 2 3 6 8 (by kernel_rfl) (by unfold ops6 getOps6; exact rfl) (by unfold ops6 getOps6; exact rfl) (by unfold ops6 getOps6; exact rfl) (by unfold ops6 getOps6; exact rfl) (by unfold ops6 getOps6; exact rfl) (by unfold ops6 getOps6; exact rfl) ?_ ?_ ?_ ?_ ?_ ?_
  · simp [*, appendV, srcCells, St.forget, scr, scrC, usesC, usesA, setsV, -List.map_map, -oneV]
    refine U01002 hr.out hT.out _ ?_
    simp [*, R6.X, St6, r6B, r6Z, r6O, r6S, r6Y, St.forget, scr, scrC, usesC, usesA, -List.map_map]
  · simp [*, appendV, srcCells, St.forget, scr, scrC, usesC, usesA, setsV, -List.map_map, -oneV]
    refine U00102 hr.out hT.out _ ?_
    simp [*, R6.X, St6, r6B, r6Z, r6O, r6S, r6Y, St.forget, scr, scrC, usesC, usesA, -List.map_map]
  · simp [*, appendV, srcCells, St.forget, scr, scrC, usesC, usesA, setsV, -List.map_map, -oneV]
    refine U00012 hr.out hT.out _ ?_
    simp [*, R6.X, St6, r6B, r6Z, r6O, r6S, r6Y, St.forget, scr, scrC, usesC, usesA, -List.map_map]
  · simp [*, appendV, srcCells, St.forget, scr, scrC, usesC, usesA, setsV, -List.map_map, -oneV]
    refine U00022 hr.out hT.out _ ?_
    simp [*, R6.X, St6, r6B, r6Z, r6O, r6S, r6Y, St.forget, scr, scrC, usesC, usesA, -List.map_map]
  · simp [*, appendV, srcCells, St.forget, scr, scrC, usesC, usesA, setsV, -List.map_map, -oneV]
    refine U00003 hr.out hT.out _ ?_
    simp [*, R6.X, St6, r6B, r6Z, r6O, r6S, r6Y, St.forget, scr, scrC, usesC, usesA, -List.map_map]
  · simp [*, appendV, srcCells, St.forget, scr, scrC, usesC, usesA, setsV, -List.map_map, -oneV]
    refine U00004 hr.out hT.out _ ?_
    simp [*, R6.X, St6, r6B, r6Z, r6O, r6S, r6Y, St.forget, scr, scrC, usesC, usesA, -List.map_map]
theorem U00000 {r : R6} {K : St → Prop} (hr : R6ok r K) (hT : TabOK Try.prog (tab6 r)) : ∀ t : St, St6 r 0 0 0 0 0 t → cAnyY (tab6 r) ops6 63 K 13 #[false, false, false, false, false, false, false, false, false, false, false, false, false] t := by
  rintro ⟨e, h⟩ q
  simp [R6.X, St6, r6B, r6Z, r6O, r6S, r6Y] at q
  obtain ⟨hF, hg, hj, e1, e2, l1, l2, c1, c2, s1, s2, o1, o2, f1, f2, x1, x2, x3, v3, v4, v5, v6, v7, v8, v9, v1, v2, ch, hK⟩ := id hr
  replace hr : Hid (_) := hr
  replace hT : Hid (_) := hT
  refine cany6y 0 1 2 3 6 7 (by kernel_rfl) (by unfold ops6 getOps6; exact rfl) (by unfold ops6 getOps6; exact rfl) (by unfold ops6 getOps6; exact rfl) (by unfold ops6 getOps6; exact rfl) (by unfold ops6 getOps6; exact rfl) (by unfold ops6 getOps6; exact rfl) ?_ ?_ ?_ ?_ ?_ ?_
  · simp [*, appendV, srcCells, St.forget, scr, scrC, usesC, usesA, setsV, -List.map_map, -oneV]
    refine U01000 hr.out hT.out _ ?_
    simp [*, R6.X, St6, r6B, r6Z, r6O, r6S, r6Y, St.forget, scr, scrC, usesC, usesA, -List.map_map]
  · simp [*, appendV, srcCells, St.forget, scr, scrC, usesC, usesA, setsV, -List.map_map, -oneV]
    refine U00100 hr.out hT.out _ ?_
    simp [*, R6.X, St6, r6B, r6Z, r6O, r6S, r6Y, St.forget, scr, scrC, usesC, usesA, -List.map_map]
  · simp [*, appendV, srcCells, St.forget, scr, scrC, usesC, usesA, setsV, -List.map_map, -oneV]
    refine U00010 hr.out hT.out _ ?_
    simp [*, R6.X, St6, r6B, r6Z, r6O, r6S, r6Y, St.forget, scr, scrC, usesC, usesA, -List.map_map]
  · simp [*, appendV, srcCells, St.forget, scr, scrC, usesC, usesA, setsV, -List.map_map, -oneV]
    refine U00020 hr.out hT.out _ ?_
    simp [*, R6.X, St6, r6B, r6Z, r6O, r6S, r6Y, St.forget, scr, scrC, usesC, usesA, -List.map_map]
  · simp [*, appendV, srcCells, St.forget, scr, scrC, usesC, usesA, setsV, -List.map_map, -oneV]
    refine U00001 hr.out hT.out _ ?_
    simp [*, R6.X, St6, r6B, r6Z, r6O, r6S, r6Y, St.forget, scr, scrC, usesC, usesA, -List.map_map]
  · simp [*, appendV, srcCells, St.forget, scr, scrC, usesC, usesA, setsV, -List.map_map, -oneV]
    refine U00002 hr.out hT.out _ ?_
    simp [*, R6.X, St6, r6B, r6Z, r6O, r6S, r6Y, St.forget, scr, scrC, usesC, usesA, -List.map_map]
theorem reg6 (r : R6) (hr : ∀ K : St → Prop, Hid (∀ s, K6 r s → K s) → R6ok r K) (hT : TabOK Try.prog (tab6 r)) (st : St) (hB : r6B r st) (h38 : st.heap 38 = none) :
    ∀ c : Code, (Try.f3.body).bind (findR 6) = some c → CW Try.prog 63 c (fun e s => e = .normal ∧ K6 r s) st := by
  intro c hc
  have hc2 : some c = some (.region 6 ops6 true) := hc.symm.trans (by kernel_rfl)
  cases hc2
  refine cw_anyY hT (by kernel_rfl) 13 (by kernel_rfl) ?_
  intro K hK
  exact U00000 (hr K (show _ from fun s hs => hK.out s ⟨rfl, hs⟩)) hT st ⟨hB, trivial, ⟨h38, trivial⟩, trivial, trivial, trivial⟩
end Go.Proofs.Ytongalkfcfkfiaa
end
