/-
  The copies are kept: a region that appends twice, in any order.
  The frames are sent: all copies.
  The copies of a ring are received.
-/
import Derived.Test.YtongalkfcfkfiaaJ5
section
namespace Go.Proofs.Ytongalkfcfkfiaa
open Go.Pv Go.RowKit
set_option linter.unusedSimpArgs false
set_option linter.unusedVariables false
set_option maxRecDepth 100000
set_option maxHeartbeats 40000000

/-- What the region leaves as it is. -/
def arE (FR CA CB : List (List V)) (n from_ to sq k : Int) (t : St) : Prop :=
  t.env 1 = .list 5 FR ∧ t.env 2 = .int .i64 2 ∧ t.env 7 = .int .i64 n ∧ t.env 8 = .int .i64 from_ ∧ t.env 9 = .ptr 9 0 ∧ t.env 10 = .int .i64 to ∧ t.env 12 = .int .i64 sq ∧ t.env 13 = .int .i64 k ∧ t.env 11 = .ptr 11 0 ∧
  t.heap 9 = some ⟨47, [.list 1 CA, .list 1 CB]⟩ ∧ t.heap 20 = none ∧ t.heap 24 = none ∧ t.heap 26 = none ∧ t.heap 28 = none ∧ t.heap 153 = none ∧ t.heap 154 = none
def r3P (p0 p1 : List (List V)) (t : St) : Prop := t.env 16 = .ptr 16 0 ∧ t.heap 16 = some ⟨55, [.list 1 p0, .list 1 p1]⟩
def r3A (m : Nat) : Nat → St → Prop
  | 0, t => True
  | 1, t => t.env 75 = .ptr 11 0
  | _, t => t.env 76 = .sl 80 0 m 1
def r3B (p0 : List (List V)) : Nat → St → Prop
  | 0, t => t.heap 79 = none
  | 1, t => t.env 77 = .ptr 16 0 ∧ t.heap 79 = none
  | 2, t => t.env 78 = .list 1 p0 ∧ t.heap 79 = none
  | _, t => t.env 79 = .sl 79 0 1 1 ∧ t.heap 79 = some ⟨52, [.list 1 p0]⟩
def r3C (m : Nat) : Nat → St → Prop
  | 0, t => True
  | 1, t => t.env 81 = .ptr 11 1
  | _, t => t.env 82 = .sl 86 0 m 1
def r3D (p1 : List (List V)) : Nat → St → Prop
  | 0, t => t.heap 85 = none
  | 1, t => t.env 83 = .ptr 16 1 ∧ t.heap 85 = none
  | 2, t => t.env 84 = .list 1 p1 ∧ t.heap 85 = none
  | _, t => t.env 85 = .sl 85 0 1 1 ∧ t.heap 85 = some ⟨52, [.list 1 p1]⟩
def r3G (m : Nat) (L0 L1 : List V) (p0 p1 : List (List V)) : Nat → St → Prop
  | 0, t => t.heap 11 = some ⟨51, [.sl 80 0 m 1, .sl 86 0 m 1]⟩ ∧ t.heap 80 = some ⟨52, L0⟩ ∧ t.heap 86 = some ⟨52, L1⟩
  | 1, t => t.heap 11 = some ⟨51, [.junk, .sl 86 0 m 1]⟩ ∧ t.heap 80 = some ⟨52, L0 ++ [.list 1 p0]⟩ ∧ t.heap 86 = some ⟨52, L1⟩ ∧ t.env 80 = .sl 80 0 (m + 1) 1 ∧ t.heap 79 = some ⟨52, [.list 1 p0]⟩
  | _, t => t.heap 11 = some ⟨51, [.junk, .junk]⟩ ∧ t.heap 80 = some ⟨52, L0 ++ [.list 1 p0]⟩ ∧ t.heap 86 = some ⟨52, L1 ++ [.list 1 p1]⟩ ∧ t.env 80 = .sl 80 0 (m + 1) 1 ∧ t.env 86 = .sl 86 0 (m + 1) 1 ∧ t.heap 79 = some ⟨52, [.list 1 p0]⟩ ∧ t.heap 85 = some ⟨52, [.list 1 p1]⟩
def r3E : Nat → St → Prop
  | 0, t => True
  | _, t => t.env 87 = .ptr 11 0
/-- What the region does. -/
def r3K (FR CA CB : List (List V)) (n from_ to sq k : Int) (m : Nat) (L0 L1 : List V) (p0 p1 : List (List V)) (t : St) : Prop :=
  arE FR CA CB n from_ to sq k t ∧ t.heap 11 = some ⟨51, [.sl 80 0 (m + 1) 1, .sl 86 0 (m + 1) 1]⟩ ∧ t.heap 80 = some ⟨52, L0 ++ [.list 1 p0]⟩ ∧ t.heap 86 = some ⟨52, L1 ++ [.list 1 p1]⟩ ∧
  r3P p0 p1 t ∧ t.heap 79 = some ⟨52, [.list 1 p0]⟩ ∧ t.heap 85 = some ⟨52, [.list 1 p1]⟩
def getOps {ops : Array Oper} (_ : (Try.f7.body).bind (findR 13) = some (.region 13 ops true)) : Array Oper := ops
def ops13 : Array Oper := getOps rfl
structure R3 where
  FR : List (List V)
  CA : List (List V)
  CB : List (List V)
  n : Int
  src : Int
  to : Int
  sq : Int
  k : Int
  m : Nat
  L0 : List V
  L1 : List V
  p0 : List (List V)
  p1 : List (List V)
structure R3ok (r : R3) (K : St → Prop) : Prop where
  l0 : r.L0.length = r.m
  l1 : r.L1.length = r.m
  q0 : r.L0.any ownC = false
  q1 : r.L1.any ownC = false
  s0 : ∀ k, r.L0.map (scrC k) = r.L0
  s1 : ∀ k, r.L1.map (scrC k) = r.L1
  q7 : (r.m + 1) * 24 ≤ 140737488355328
  q8 : r.m + 1 ≤ 9223372036854775807
  hK : Hid (∀ s, r3K r.FR r.CA r.CB r.n r.src r.to r.sq r.k r.m r.L0 r.L1 r.p0 r.p1 s → K s)
def St3 (r : R3) (p a b c d x : Nat) (t : St) : Prop := arE r.FR r.CA r.CB r.n r.src r.to r.sq r.k t ∧ r3P r.p0 r.p1 t ∧ r3G r.m r.L0 r.L1 r.p0 r.p1 p t ∧ (if p = 0 then r3A r.m a t ∧ r3B r.p0 b t else True) ∧ (if p = 2 then True else r3C r.m c t ∧ r3D r.p1 d t) ∧ r3E x t

theorem T223231 {r : R3} {K : St → Prop} (hr : R3ok r K) : ∀ t : St, St3 r 2 2 3 2 3 1 t → cAnyX noTab ops13 K 3 #[true, true, true, true, true, true, true, true, true, true, true, true, true, false, false, false] t := by
  rintro ⟨e, h⟩ q
  simp [St3, arE, r3P, r3G, r3A, r3B, r3C, r3D, r3E] at q
  obtain ⟨l0, l1, q0, q1, s0, s1, q7, q8, hK⟩ := id hr
  clear hr
  refine cany1 13 (by kernel_rfl) (by unfold ops13 getOps; exact rfl) ?_
  simp [*, appendV, srcCells, St.forget, scr, scrC, setsV, -List.map_map]
  refine cany1 14 (by kernel_rfl) (by unfold ops13 getOps; exact rfl) ?_
  simp [*, appendV, srcCells, St.forget, scr, scrC, setsV, -List.map_map]
  refine cany1 15 (by kernel_rfl) (by unfold ops13 getOps; exact rfl) ?_
  simp [*, appendV, srcCells, St.forget, scr, scrC, setsV, -List.map_map]
  refine cany0 (by kernel_rfl) (hK.out _ ?_)
  simp [*, r3K, arE, r3P, St.forget, scr, scrC, -List.map_map]
theorem T123231 {r : R3} {K : St → Prop} (hr : R3ok r K) : ∀ t : St, St3 r 1 2 3 2 3 1 t → cAnyX noTab ops13 K 4 #[true, true, true, true, true, true, true, true, true, true, true, false, true, false, false, false] t := by
  rintro ⟨e, h⟩ q
  simp [St3, arE, r3P, r3G, r3A, r3B, r3C, r3D, r3E] at q
  obtain ⟨l0, l1, q0, q1, s0, s1, q7, q8, hK⟩ := id hr
  replace hr : Hid (_) := hr
  refine cany1 11 (by kernel_rfl) (by unfold ops13 getOps; exact rfl) ?_
  · simp [*, appendV, srcCells, St.forget, scr, scrC, setsV, -List.map_map]
    refine T223231 hr.out _ ?_
    simp [*, St3, arE, r3P, r3G, r3A, r3B, r3C, r3D, r3E, St.forget, scr, scrC, -List.map_map]
theorem T223230 {r : R3} {K : St → Prop} (hr : R3ok r K) : ∀ t : St, St3 r 2 2 3 2 3 0 t → cAnyX noTab ops13 K 4 #[true, true, true, true, true, true, true, true, true, true, true, true, false, false, false, false] t := by
  rintro ⟨e, h⟩ q
  simp [St3, arE, r3P, r3G, r3A, r3B, r3C, r3D, r3E] at q
  obtain ⟨l0, l1, q0, q1, s0, s1, q7, q8, hK⟩ := id hr
  replace hr : Hid (_) := hr
  refine cany1 12 (by kernel_rfl) (by unfold ops13 getOps; exact rfl) ?_
  · simp [*, appendV, srcCells, St.forget, scr, scrC, setsV, -List.map_map]
    refine T223231 hr.out _ ?_
    simp [*, St3, arE, r3P, r3G, r3A, r3B, r3C, r3D, r3E, St.forget, scr, scrC, -List.map_map]
theorem T123221 {r : R3} {K : St → Prop} (hr : R3ok r K) : ∀ t : St, St3 r 1 2 3 2 2 1 t → cAnyX noTab ops13 K 5 #[true, true, true, true, true, true, true, true, true, true, false, false, true, false, false, false] t := by
  rintro ⟨e, h⟩ q
  simp [St3, arE, r3P, r3G, r3A, r3B, r3C, r3D, r3E] at q
  obtain ⟨l0, l1, q0, q1, s0, s1, q7, q8, hK⟩ := id hr
  replace hr : Hid (_) := hr
  refine cany1 10 (by kernel_rfl) (by unfold ops13 getOps; exact rfl) ?_
  · simp [*, appendV, srcCells, St.forget, scr, scrC, setsV, -List.map_map]
    refine T123231 hr.out _ ?_
    simp [*, St3, arE, r3P, r3G, r3A, r3B, r3C, r3D, r3E, St.forget, scr, scrC, -List.map_map]
theorem T123230 {r : R3} {K : St → Prop} (hr : R3ok r K) : ∀ t : St, St3 r 1 2 3 2 3 0 t → cAnyX noTab ops13 K 5 #[true, true, true, true, true, true, true, true, true, true, true, false, false, false, false, false] t := by
  rintro ⟨e, h⟩ q
  simp [St3, arE, r3P, r3G, r3A, r3B, r3C, r3D, r3E] at q
  obtain ⟨l0, l1, q0, q1, s0, s1, q7, q8, hK⟩ := id hr
  replace hr : Hid (_) := hr
  refine cany2 11 12 (by kernel_rfl) (by unfold ops13 getOps; exact rfl) (by unfold ops13 getOps; exact rfl) ?_ ?_
  · simp [*, appendV, srcCells, St.forget, scr, scrC, setsV, -List.map_map]
    refine T223230 hr.out _ ?_
    simp [*, St3, arE, r3P, r3G, r3A, r3B, r3C, r3D, r3E, St.forget, scr, scrC, -List.map_map]
  · simp [*, appendV, srcCells, St.forget, scr, scrC, setsV, -List.map_map]
    refine T123231 hr.out _ ?_
    simp [*, St3, arE, r3P, r3G, r3A, r3B, r3C, r3D, r3E, St.forget, scr, scrC, -List.map_map]
theorem T123211 {r : R3} {K : St → Prop} (hr : R3ok r K) : ∀ t : St, St3 r 1 2 3 2 1 1 t → cAnyX noTab ops13 K 6 #[true, true, true, true, true, true, true, true, true, false, false, false, true, false, false, false] t := by
  rintro ⟨e, h⟩ q
  simp [St3, arE, r3P, r3G, r3A, r3B, r3C, r3D, r3E] at q
  obtain ⟨l0, l1, q0, q1, s0, s1, q7, q8, hK⟩ := id hr
  replace hr : Hid (_) := hr
  refine cany1 9 (by kernel_rfl) (by unfold ops13 getOps; exact rfl) ?_
  · simp [*, appendV, srcCells, St.forget, scr, scrC, setsV, -List.map_map]
    refine T123221 hr.out _ ?_
    simp [*, St3, arE, r3P, r3G, r3A, r3B, r3C, r3D, r3E, St.forget, scr, scrC, -List.map_map]
theorem T123130 {r : R3} {K : St → Prop} (hr : R3ok r K) : ∀ t : St, St3 r 1 2 3 1 3 0 t → cAnyX noTab ops13 K 6 #[true, true, true, true, true, true, true, false, true, true, true, false, false, false, false, false] t := by
  rintro ⟨e, h⟩ q
  simp [St3, arE, r3P, r3G, r3A, r3B, r3C, r3D, r3E] at q
  obtain ⟨l0, l1, q0, q1, s0, s1, q7, q8, hK⟩ := id hr
  replace hr : Hid (_) := hr
  refine cany1 7 (by kernel_rfl) (by unfold ops13 getOps; exact rfl) ?_
  · simp [*, appendV, srcCells, St.forget, scr, scrC, setsV, -List.map_map]
    refine T123230 hr.out _ ?_
    simp [*, St3, arE, r3P, r3G, r3A, r3B, r3C, r3D, r3E, St.forget, scr, scrC, -List.map_map]
theorem T023230 {r : R3} {K : St → Prop} (hr : R3ok r K) : ∀ t : St, St3 r 0 2 3 2 3 0 t → cAnyX noTab ops13 K 6 #[true, true, true, true, true, false, true, true, true, true, true, false, false, false, false, false] t := by
  rintro ⟨e, h⟩ q
  simp [St3, arE, r3P, r3G, r3A, r3B, r3C, r3D, r3E] at q
  obtain ⟨l0, l1, q0, q1, s0, s1, q7, q8, hK⟩ := id hr
  replace hr : Hid (_) := hr
  refine cany1 5 (by kernel_rfl) (by unfold ops13 getOps; exact rfl) ?_
  · simp [*, appendV, srcCells, St.forget, scr, scrC, setsV, -List.map_map]
    refine T123230 hr.out _ ?_
    simp [*, St3, arE, r3P, r3G, r3A, r3B, r3C, r3D, r3E, St.forget, scr, scrC, -List.map_map]
theorem T123220 {r : R3} {K : St → Prop} (hr : R3ok r K) : ∀ t : St, St3 r 1 2 3 2 2 0 t → cAnyX noTab ops13 K 6 #[true, true, true, true, true, true, true, true, true, true, false, false, false, false, false, false] t := by
  rintro ⟨e, h⟩ q
  simp [St3, arE, r3P, r3G, r3A, r3B, r3C, r3D, r3E] at q
  obtain ⟨l0, l1, q0, q1, s0, s1, q7, q8, hK⟩ := id hr
  replace hr : Hid (_) := hr
  refine cany2 10 12 (by kernel_rfl) (by unfold ops13 getOps; exact rfl) (by unfold ops13 getOps; exact rfl) ?_ ?_
  · simp [*, appendV, srcCells, St.forget, scr, scrC, setsV, -List.map_map]
    refine T123230 hr.out _ ?_
    simp [*, St3, arE, r3P, r3G, r3A, r3B, r3C, r3D, r3E, St.forget, scr, scrC, -List.map_map]
  · simp [*, appendV, srcCells, St.forget, scr, scrC, setsV, -List.map_map]
    refine T123221 hr.out _ ?_
    simp [*, St3, arE, r3P, r3G, r3A, r3B, r3C, r3D, r3E, St.forget, scr, scrC, -List.map_map]
theorem T123120 {r : R3} {K : St → Prop} (hr : R3ok r K) : ∀ t : St, St3 r 1 2 3 1 2 0 t → cAnyX noTab ops13 K 7 #[true, true, true, true, true, true, true, false, true, true, false, false, false, false, false, false] t := by
  rintro ⟨e, h⟩ q
  simp [St3, arE, r3P, r3G, r3A, r3B, r3C, r3D, r3E] at q
  obtain ⟨l0, l1, q0, q1, s0, s1, q7, q8, hK⟩ := id hr
  replace hr : Hid (_) := hr
  refine cany2 7 10 (by kernel_rfl) (by unfold ops13 getOps; exact rfl) (by unfold ops13 getOps; exact rfl) ?_ ?_
  · simp [*, appendV, srcCells, St.forget, scr, scrC, setsV, -List.map_map]
    refine T123220 hr.out _ ?_
    simp [*, St3, arE, r3P, r3G, r3A, r3B, r3C, r3D, r3E, St.forget, scr, scrC, -List.map_map]
  · simp [*, appendV, srcCells, St.forget, scr, scrC, setsV, -List.map_map]
    refine T123130 hr.out _ ?_
    simp [*, St3, arE, r3P, r3G, r3A, r3B, r3C, r3D, r3E, St.forget, scr, scrC, -List.map_map]
theorem T022230 {r : R3} {K : St → Prop} (hr : R3ok r K) : ∀ t : St, St3 r 0 2 2 2 3 0 t → cAnyX noTab ops13 K 7 #[true, true, true, true, false, false, true, true, true, true, true, false, false, false, false, false] t := by
  rintro ⟨e, h⟩ q
  simp [St3, arE, r3P, r3G, r3A, r3B, r3C, r3D, r3E] at q
  obtain ⟨l0, l1, q0, q1, s0, s1, q7, q8, hK⟩ := id hr
  replace hr : Hid (_) := hr
  refine cany1 4 (by kernel_rfl) (by unfold ops13 getOps; exact rfl) ?_
  · simp [*, appendV, srcCells, St.forget, scr, scrC, setsV, -List.map_map]
    refine T023230 hr.out _ ?_
    simp [*, St3, arE, r3P, r3G, r3A, r3B, r3C, r3D, r3E, St.forget, scr, scrC, -List.map_map]
theorem T023220 {r : R3} {K : St → Prop} (hr : R3ok r K) : ∀ t : St, St3 r 0 2 3 2 2 0 t → cAnyX noTab ops13 K 7 #[true, true, true, true, true, false, true, true, true, true, false, false, false, false, false, false] t := by
  rintro ⟨e, h⟩ q
  simp [St3, arE, r3P, r3G, r3A, r3B, r3C, r3D, r3E] at q
  obtain ⟨l0, l1, q0, q1, s0, s1, q7, q8, hK⟩ := id hr
  replace hr : Hid (_) := hr
  refine cany2 5 10 (by kernel_rfl) (by unfold ops13 getOps; exact rfl) (by unfold ops13 getOps; exact rfl) ?_ ?_
  · simp [*, appendV, srcCells, St.forget, scr, scrC, setsV, -List.map_map]
    refine T123220 hr.out _ ?_
    simp [*, St3, arE, r3P, r3G, r3A, r3B, r3C, r3D, r3E, St.forget, scr, scrC, -List.map_map]
  · simp [*, appendV, srcCells, St.forget, scr, scrC, setsV, -List.map_map]
    refine T023230 hr.out _ ?_
    simp [*, St3, arE, r3P, r3G, r3A, r3B, r3C, r3D, r3E, St.forget, scr, scrC, -List.map_map]
theorem T123210 {r : R3} {K : St → Prop} (hr : R3ok r K) : ∀ t : St, St3 r 1 2 3 2 1 0 t → cAnyX noTab ops13 K 7 #[true, true, true, true, true, true, true, true, true, false, false, false, false, false, false, false] t := by
  rintro ⟨e, h⟩ q
  simp [St3, arE, r3P, r3G, r3A, r3B, r3C, r3D, r3E] at q
  obtain ⟨l0, l1, q0, q1, s0, s1, q7, q8, hK⟩ := id hr
  replace hr : Hid (_) := hr
  refine cany2 9 12 (by kernel_rfl) (by unfold ops13 getOps; exact rfl) (by unfold ops13 getOps; exact rfl) ?_ ?_
  · simp [*, appendV, srcCells, St.forget, scr, scrC, setsV, -List.map_map]
    refine T123220 hr.out _ ?_
    simp [*, St3, arE, r3P, r3G, r3A, r3B, r3C, r3D, r3E, St.forget, scr, scrC, -List.map_map]
  · simp [*, appendV, srcCells, St.forget, scr, scrC, setsV, -List.map_map]
    refine T123211 hr.out _ ?_
    simp [*, St3, arE, r3P, r3G, r3A, r3B, r3C, r3D, r3E, St.forget, scr, scrC, -List.map_map]
theorem T023130 {r : R3} {K : St → Prop} (hr : R3ok r K) : ∀ t : St, St3 r 0 2 3 1 3 0 t → cAnyX noTab ops13 K 7 #[true, true, true, true, true, false, true, false, true, true, true, false, false, false, false, false] t := by
  rintro ⟨e, h⟩ q
  simp [St3, arE, r3P, r3G, r3A, r3B, r3C, r3D, r3E] at q
  obtain ⟨l0, l1, q0, q1, s0, s1, q7, q8, hK⟩ := id hr
  replace hr : Hid (_) := hr
  refine cany2 5 7 (by kernel_rfl) (by unfold ops13 getOps; exact rfl) (by unfold ops13 getOps; exact rfl) ?_ ?_
  · simp [*, appendV, srcCells, St.forget, scr, scrC, setsV, -List.map_map]
    refine T123130 hr.out _ ?_
    simp [*, St3, arE, r3P, r3G, r3A, r3B, r3C, r3D, r3E, St.forget, scr, scrC, -List.map_map]
  · simp [*, appendV, srcCells, St.forget, scr, scrC, setsV, -List.map_map]
    refine T023230 hr.out _ ?_
    simp [*, St3, arE, r3P, r3G, r3A, r3B, r3C, r3D, r3E, St.forget, scr, scrC, -List.map_map]
theorem T123201 {r : R3} {K : St → Prop} (hr : R3ok r K) : ∀ t : St, St3 r 1 2 3 2 0 1 t → cAnyX noTab ops13 K 7 #[true, true, true, true, true, true, true, true, false, false, false, false, true, false, false, false] t := by
  rintro ⟨e, h⟩ q
  simp [St3, arE, r3P, r3G, r3A, r3B, r3C, r3D, r3E] at q
  obtain ⟨l0, l1, q0, q1, s0, s1, q7, q8, hK⟩ := id hr
  replace hr : Hid (_) := hr
  refine cany1 8 (by kernel_rfl) (by unfold ops13 getOps; exact rfl) ?_
  · simp [*, appendV, srcCells, St.forget, scr, scrC, setsV, -List.map_map]
    refine T123211 hr.out _ ?_
    simp [*, St3, arE, r3P, r3G, r3A, r3B, r3C, r3D, r3E, St.forget, scr, scrC, -List.map_map]
theorem T123030 {r : R3} {K : St → Prop} (hr : R3ok r K) : ∀ t : St, St3 r 1 2 3 0 3 0 t → cAnyX noTab ops13 K 7 #[true, true, true, true, true, true, false, false, true, true, true, false, false, false, false, false] t := by
  rintro ⟨e, h⟩ q
  simp [St3, arE, r3P, r3G, r3A, r3B, r3C, r3D, r3E] at q
  obtain ⟨l0, l1, q0, q1, s0, s1, q7, q8, hK⟩ := id hr
  replace hr : Hid (_) := hr
  refine cany1 6 (by kernel_rfl) (by unfold ops13 getOps; exact rfl) ?_
  · simp [*, appendV, srcCells, St.forget, scr, scrC, setsV, -List.map_map]
    refine T123130 hr.out _ ?_
    simp [*, St3, arE, r3P, r3G, r3A, r3B, r3C, r3D, r3E, St.forget, scr, scrC, -List.map_map]
theorem T013230 {r : R3} {K : St → Prop} (hr : R3ok r K) : ∀ t : St, St3 r 0 1 3 2 3 0 t → cAnyX noTab ops13 K 7 #[true, false, true, true, true, false, true, true, true, true, true, false, false, false, false, false] t := by
  rintro ⟨e, h⟩ q
  simp [St3, arE, r3P, r3G, r3A, r3B, r3C, r3D, r3E] at q
  obtain ⟨l0, l1, q0, q1, s0, s1, q7, q8, hK⟩ := id hr
  replace hr : Hid (_) := hr
  refine cany1 1 (by kernel_rfl) (by unfold ops13 getOps; exact rfl) ?_
  · simp [*, appendV, srcCells, St.forget, scr, scrC, setsV, -List.map_map]
    refine T023230 hr.out _ ?_
    simp [*, St3, arE, r3P, r3G, r3A, r3B, r3C, r3D, r3E, St.forget, scr, scrC, -List.map_map]
theorem T023120 {r : R3} {K : St → Prop} (hr : R3ok r K) : ∀ t : St, St3 r 0 2 3 1 2 0 t → cAnyX noTab ops13 K 8 #[true, true, true, true, true, false, true, false, true, true, false, false, false, false, false, false] t := by
  rintro ⟨e, h⟩ q
  simp [St3, arE, r3P, r3G, r3A, r3B, r3C, r3D, r3E] at q
  obtain ⟨l0, l1, q0, q1, s0, s1, q7, q8, hK⟩ := id hr
  replace hr : Hid (_) := hr
  refine cany3 5 7 10 (by kernel_rfl) (by unfold ops13 getOps; exact rfl) (by unfold ops13 getOps; exact rfl) (by unfold ops13 getOps; exact rfl) ?_ ?_ ?_
  · simp [*, appendV, srcCells, St.forget, scr, scrC, setsV, -List.map_map]
    refine T123120 hr.out _ ?_
    simp [*, St3, arE, r3P, r3G, r3A, r3B, r3C, r3D, r3E, St.forget, scr, scrC, -List.map_map]
  · simp [*, appendV, srcCells, St.forget, scr, scrC, setsV, -List.map_map]
    refine T023220 hr.out _ ?_
    simp [*, St3, arE, r3P, r3G, r3A, r3B, r3C, r3D, r3E, St.forget, scr, scrC, -List.map_map]
  · simp [*, appendV, srcCells, St.forget, scr, scrC, setsV, -List.map_map]
    refine T023130 hr.out _ ?_
    simp [*, St3, arE, r3P, r3G, r3A, r3B, r3C, r3D, r3E, St.forget, scr, scrC, -List.map_map]
theorem T013130 {r : R3} {K : St → Prop} (hr : R3ok r K) : ∀ t : St, St3 r 0 1 3 1 3 0 t → cAnyX noTab ops13 K 8 #[true, false, true, true, true, false, true, false, true, true, true, false, false, false, false, false] t := by
  rintro ⟨e, h⟩ q
  simp [St3, arE, r3P, r3G, r3A, r3B, r3C, r3D, r3E] at q
  obtain ⟨l0, l1, q0, q1, s0, s1, q7, q8, hK⟩ := id hr
  replace hr : Hid (_) := hr
  refine cany2 1 7 (by kernel_rfl) (by unfold ops13 getOps; exact rfl) (by unfold ops13 getOps; exact rfl) ?_ ?_
  · simp [*, appendV, srcCells, St.forget, scr, scrC, setsV, -List.map_map]
    refine T023130 hr.out _ ?_
    simp [*, St3, arE, r3P, r3G, r3A, r3B, r3C, r3D, r3E, St.forget, scr, scrC, -List.map_map]
  · simp [*, appendV, srcCells, St.forget, scr, scrC, setsV, -List.map_map]
    refine T013230 hr.out _ ?_
    simp [*, St3, arE, r3P, r3G, r3A, r3B, r3C, r3D, r3E, St.forget, scr, scrC, -List.map_map]
theorem T123020 {r : R3} {K : St → Prop} (hr : R3ok r K) : ∀ t : St, St3 r 1 2 3 0 2 0 t → cAnyX noTab ops13 K 8 #[true, true, true, true, true, true, false, false, true, true, false, false, false, false, false, false] t := by
  rintro ⟨e, h⟩ q
  simp [St3, arE, r3P, r3G, r3A, r3B, r3C, r3D, r3E] at q
  obtain ⟨l0, l1, q0, q1, s0, s1, q7, q8, hK⟩ := id hr
  replace hr : Hid (_) := hr
  refine cany2 6 10 (by kernel_rfl) (by unfold ops13 getOps; exact rfl) (by unfold ops13 getOps; exact rfl) ?_ ?_
  · simp [*, appendV, srcCells, St.forget, scr, scrC, setsV, -List.map_map]
    refine T123120 hr.out _ ?_
    simp [*, St3, arE, r3P, r3G, r3A, r3B, r3C, r3D, r3E, St.forget, scr, scrC, -List.map_map]
  · simp [*, appendV, srcCells, St.forget, scr, scrC, setsV, -List.map_map]
    refine T123030 hr.out _ ?_
    simp [*, St3, arE, r3P, r3G, r3A, r3B, r3C, r3D, r3E, St.forget, scr, scrC, -List.map_map]
theorem T023210 {r : R3} {K : St → Prop} (hr : R3ok r K) : ∀ t : St, St3 r 0 2 3 2 1 0 t → cAnyX noTab ops13 K 8 #[true, true, true, true, true, false, true, true, true, false, false, false, false, false, false, false] t := by
  rintro ⟨e, h⟩ q
  simp [St3, arE, r3P, r3G, r3A, r3B, r3C, r3D, r3E] at q
  obtain ⟨l0, l1, q0, q1, s0, s1, q7, q8, hK⟩ := id hr
  replace hr : Hid (_) := hr
  refine cany2 5 9 (by kernel_rfl) (by unfold ops13 getOps; exact rfl) (by unfold ops13 getOps; exact rfl) ?_ ?_
  · simp [*, appendV, srcCells, St.forget, scr, scrC, setsV, -List.map_map]
    refine T123210 hr.out _ ?_
    simp [*, St3, arE, r3P, r3G, r3A, r3B, r3C, r3D, r3E, St.forget, scr, scrC, -List.map_map]
  · simp [*, appendV, srcCells, St.forget, scr, scrC, setsV, -List.map_map]
    refine T023220 hr.out _ ?_
    simp [*, St3, arE, r3P, r3G, r3A, r3B, r3C, r3D, r3E, St.forget, scr, scrC, -List.map_map]
theorem T012230 {r : R3} {K : St → Prop} (hr : R3ok r K) : ∀ t : St, St3 r 0 1 2 2 3 0 t → cAnyX noTab ops13 K 8 #[true, false, true, true, false, false, true, true, true, true, true, false, false, false, false, false] t := by
  rintro ⟨e, h⟩ q
  simp [St3, arE, r3P, r3G, r3A, r3B, r3C, r3D, r3E] at q
  obtain ⟨l0, l1, q0, q1, s0, s1, q7, q8, hK⟩ := id hr
  replace hr : Hid (_) := hr
  refine cany2 1 4 (by kernel_rfl) (by unfold ops13 getOps; exact rfl) (by unfold ops13 getOps; exact rfl) ?_ ?_
  · simp [*, appendV, srcCells, St.forget, scr, scrC, setsV, -List.map_map]
    refine T022230 hr.out _ ?_
    simp [*, St3, arE, r3P, r3G, r3A, r3B, r3C, r3D, r3E, St.forget, scr, scrC, -List.map_map]
  · simp [*, appendV, srcCells, St.forget, scr, scrC, setsV, -List.map_map]
    refine T013230 hr.out _ ?_
    simp [*, St3, arE, r3P, r3G, r3A, r3B, r3C, r3D, r3E, St.forget, scr, scrC, -List.map_map]
theorem T123200 {r : R3} {K : St → Prop} (hr : R3ok r K) : ∀ t : St, St3 r 1 2 3 2 0 0 t → cAnyX noTab ops13 K 8 #[true, true, true, true, true, true, true, true, false, false, false, false, false, false, false, false] t := by
  rintro ⟨e, h⟩ q
  simp [St3, arE, r3P, r3G, r3A, r3B, r3C, r3D, r3E] at q
  obtain ⟨l0, l1, q0, q1, s0, s1, q7, q8, hK⟩ := id hr
  replace hr : Hid (_) := hr
  refine cany2 8 12 (by kernel_rfl) (by unfold ops13 getOps; exact rfl) (by unfold ops13 getOps; exact rfl) ?_ ?_
  · simp [*, appendV, srcCells, St.forget, scr, scrC, setsV, -List.map_map]
    refine T123210 hr.out _ ?_
    simp [*, St3, arE, r3P, r3G, r3A, r3B, r3C, r3D, r3E, St.forget, scr, scrC, -List.map_map]
  · simp [*, appendV, srcCells, St.forget, scr, scrC, setsV, -List.map_map]
    refine T123201 hr.out _ ?_
    simp [*, St3, arE, r3P, r3G, r3A, r3B, r3C, r3D, r3E, St.forget, scr, scrC, -List.map_map]
theorem T013220 {r : R3} {K : St → Prop} (hr : R3ok r K) : ∀ t : St, St3 r 0 1 3 2 2 0 t → cAnyX noTab ops13 K 8 #[true, false, true, true, true, false, true, true, true, true, false, false, false, false, false, false] t := by
  rintro ⟨e, h⟩ q
  simp [St3, arE, r3P, r3G, r3A, r3B, r3C, r3D, r3E] at q
  obtain ⟨l0, l1, q0, q1, s0, s1, q7, q8, hK⟩ := id hr
  replace hr : Hid (_) := hr
  refine cany2 1 10 (by kernel_rfl) (by unfold ops13 getOps; exact rfl) (by unfold ops13 getOps; exact rfl) ?_ ?_
  · simp [*, appendV, srcCells, St.forget, scr, scrC, setsV, -List.map_map]
    refine T023220 hr.out _ ?_
    simp [*, St3, arE, r3P, r3G, r3A, r3B, r3C, r3D, r3E, St.forget, scr, scrC, -List.map_map]
  · simp [*, appendV, srcCells, St.forget, scr, scrC, setsV, -List.map_map]
    refine T013230 hr.out _ ?_
    simp [*, St3, arE, r3P, r3G, r3A, r3B, r3C, r3D, r3E, St.forget, scr, scrC, -List.map_map]
theorem T123110 {r : R3} {K : St → Prop} (hr : R3ok r K) : ∀ t : St, St3 r 1 2 3 1 1 0 t → cAnyX noTab ops13 K 8 #[true, true, true, true, true, true, true, false, true, false, false, false, false, false, false, false] t := by
  rintro ⟨e, h⟩ q
  simp [St3, arE, r3P, r3G, r3A, r3B, r3C, r3D, r3E] at q
  obtain ⟨l0, l1, q0, q1, s0, s1, q7, q8, hK⟩ := id hr
  replace hr : Hid (_) := hr
  refine cany2 7 9 (by kernel_rfl) (by unfold ops13 getOps; exact rfl) (by unfold ops13 getOps; exact rfl) ?_ ?_
  · simp [*, appendV, srcCells, St.forget, scr, scrC, setsV, -List.map_map]
    refine T123210 hr.out _ ?_
    simp [*, St3, arE, r3P, r3G, r3A, r3B, r3C, r3D, r3E, St.forget, scr, scrC, -List.map_map]
  · simp [*, appendV, srcCells, St.forget, scr, scrC, setsV, -List.map_map]
    refine T123120 hr.out _ ?_
    simp [*, St3, arE, r3P, r3G, r3A, r3B, r3C, r3D, r3E, St.forget, scr, scrC, -List.map_map]
theorem T003230 {r : R3} {K : St → Prop} (hr : R3ok r K) : ∀ t : St, St3 r 0 0 3 2 3 0 t → cAnyX noTab ops13 K 8 #[false, false, true, true, true, false, true, true, true, true, true, false, false, false, false, false] t := by
  rintro ⟨e, h⟩ q
  simp [St3, arE, r3P, r3G, r3A, r3B, r3C, r3D, r3E] at q
  obtain ⟨l0, l1, q0, q1, s0, s1, q7, q8, hK⟩ := id hr
  replace hr : Hid (_) := hr
  refine cany1 0 (by kernel_rfl) (by unfold ops13 getOps; exact rfl) ?_
  · simp [*, appendV, srcCells, St.forget, scr, scrC, setsV, -List.map_map]
    refine T013230 hr.out _ ?_
    simp [*, St3, arE, r3P, r3G, r3A, r3B, r3C, r3D, r3E, St.forget, scr, scrC, -List.map_map]
theorem T022220 {r : R3} {K : St → Prop} (hr : R3ok r K) : ∀ t : St, St3 r 0 2 2 2 2 0 t → cAnyX noTab ops13 K 8 #[true, true, true, true, false, false, true, true, true, true, false, false, false, false, false, false] t := by
  rintro ⟨e, h⟩ q
  simp [St3, arE, r3P, r3G, r3A, r3B, r3C, r3D, r3E] at q
  obtain ⟨l0, l1, q0, q1, s0, s1, q7, q8, hK⟩ := id hr
  replace hr : Hid (_) := hr
  refine cany2 4 10 (by kernel_rfl) (by unfold ops13 getOps; exact rfl) (by unfold ops13 getOps; exact rfl) ?_ ?_
  · simp [*, appendV, srcCells, St.forget, scr, scrC, setsV, -List.map_map]
    refine T023220 hr.out _ ?_
    simp [*, St3, arE, r3P, r3G, r3A, r3B, r3C, r3D, r3E, St.forget, scr, scrC, -List.map_map]
  · simp [*, appendV, srcCells, St.forget, scr, scrC, setsV, -List.map_map]
    refine T022230 hr.out _ ?_
    simp [*, St3, arE, r3P, r3G, r3A, r3B, r3C, r3D, r3E, St.forget, scr, scrC, -List.map_map]
theorem T023030 {r : R3} {K : St → Prop} (hr : R3ok r K) : ∀ t : St, St3 r 0 2 3 0 3 0 t → cAnyX noTab ops13 K 8 #[true, true, true, true, true, false, false, false, true, true, true, false, false, false, false, false] t := by
  rintro ⟨e, h⟩ q
  simp [St3, arE, r3P, r3G, r3A, r3B, r3C, r3D, r3E] at q
  obtain ⟨l0, l1, q0, q1, s0, s1, q7, q8, hK⟩ := id hr
  replace hr : Hid (_) := hr
  refine cany2 5 6 (by kernel_rfl) (by unfold ops13 getOps; exact rfl) (by unfold ops13 getOps; exact rfl) ?_ ?_
  · simp [*, appendV, srcCells, St.forget, scr, scrC, setsV, -List.map_map]
    refine T123030 hr.out _ ?_
    simp [*, St3, arE, r3P, r3G, r3A, r3B, r3C, r3D, r3E, St.forget, scr, scrC, -List.map_map]
  · simp [*, appendV, srcCells, St.forget, scr, scrC, setsV, -List.map_map]
    refine T023130 hr.out _ ?_
    simp [*, St3, arE, r3P, r3G, r3A, r3B, r3C, r3D, r3E, St.forget, scr, scrC, -List.map_map]
theorem T022130 {r : R3} {K : St → Prop} (hr : R3ok r K) : ∀ t : St, St3 r 0 2 2 1 3 0 t → cAnyX noTab ops13 K 8 #[true, true, true, true, false, false, true, false, true, true, true, false, false, false, false, false] t := by
  rintro ⟨e, h⟩ q
  simp [St3, arE, r3P, r3G, r3A, r3B, r3C, r3D, r3E] at q
  obtain ⟨l0, l1, q0, q1, s0, s1, q7, q8, hK⟩ := id hr
  replace hr : Hid (_) := hr
  refine cany2 4 7 (by kernel_rfl) (by unfold ops13 getOps; exact rfl) (by unfold ops13 getOps; exact rfl) ?_ ?_
  · simp [*, appendV, srcCells, St.forget, scr, scrC, setsV, -List.map_map]
    refine T023130 hr.out _ ?_
    simp [*, St3, arE, r3P, r3G, r3A, r3B, r3C, r3D, r3E, St.forget, scr, scrC, -List.map_map]
  · simp [*, appendV, srcCells, St.forget, scr, scrC, setsV, -List.map_map]
    refine T022230 hr.out _ ?_
    simp [*, St3, arE, r3P, r3G, r3A, r3B, r3C, r3D, r3E, St.forget, scr, scrC, -List.map_map]
theorem T021230 {r : R3} {K : St → Prop} (hr : R3ok r K) : ∀ t : St, St3 r 0 2 1 2 3 0 t → cAnyX noTab ops13 K 8 #[true, true, true, false, false, false, true, true, true, true, true, false, false, false, false, false] t := by
  rintro ⟨e, h⟩ q
  simp [St3, arE, r3P, r3G, r3A, r3B, r3C, r3D, r3E] at q
  obtain ⟨l0, l1, q0, q1, s0, s1, q7, q8, hK⟩ := id hr
  replace hr : Hid (_) := hr
  refine cany1 3 (by kernel_rfl) (by unfold ops13 getOps; exact rfl) ?_
  · simp [*, appendV, srcCells, St.forget, scr, scrC, setsV, -List.map_map]
    refine T022230 hr.out _ ?_
    simp [*, St3, arE, r3P, r3G, r3A, r3B, r3C, r3D, r3E, St.forget, scr, scrC, -List.map_map]
theorem T013030 {r : R3} {K : St → Prop} (hr : R3ok r K) : ∀ t : St, St3 r 0 1 3 0 3 0 t → cAnyX noTab ops13 K 9 #[true, false, true, true, true, false, false, false, true, true, true, false, false, false, false, false] t := by
  rintro ⟨e, h⟩ q
  simp [St3, arE, r3P, r3G, r3A, r3B, r3C, r3D, r3E] at q
  obtain ⟨l0, l1, q0, q1, s0, s1, q7, q8, hK⟩ := id hr
  replace hr : Hid (_) := hr
  refine cany2 1 6 (by kernel_rfl) (by unfold ops13 getOps; exact rfl) (by unfold ops13 getOps; exact rfl) ?_ ?_
  · simp [*, appendV, srcCells, St.forget, scr, scrC, setsV, -List.map_map]
    refine T023030 hr.out _ ?_
    simp [*, St3, arE, r3P, r3G, r3A, r3B, r3C, r3D, r3E, St.forget, scr, scrC, -List.map_map]
  · simp [*, appendV, srcCells, St.forget, scr, scrC, setsV, -List.map_map]
    refine T013130 hr.out _ ?_
    simp [*, St3, arE, r3P, r3G, r3A, r3B, r3C, r3D, r3E, St.forget, scr, scrC, -List.map_map]
theorem T023020 {r : R3} {K : St → Prop} (hr : R3ok r K) : ∀ t : St, St3 r 0 2 3 0 2 0 t → cAnyX noTab ops13 K 9 #[true, true, true, true, true, false, false, false, true, true, false, false, false, false, false, false] t := by
  rintro ⟨e, h⟩ q
  simp [St3, arE, r3P, r3G, r3A, r3B, r3C, r3D, r3E] at q
  obtain ⟨l0, l1, q0, q1, s0, s1, q7, q8, hK⟩ := id hr
  replace hr : Hid (_) := hr
  refine cany3 5 6 10 (by kernel_rfl) (by unfold ops13 getOps; exact rfl) (by unfold ops13 getOps; exact rfl) (by unfold ops13 getOps; exact rfl) ?_ ?_ ?_
  · simp [*, appendV, srcCells, St.forget, scr, scrC, setsV, -List.map_map]
    refine T123020 hr.out _ ?_
    simp [*, St3, arE, r3P, r3G, r3A, r3B, r3C, r3D, r3E, St.forget, scr, scrC, -List.map_map]
  · simp [*, appendV, srcCells, St.forget, scr, scrC, setsV, -List.map_map]
    refine T023120 hr.out _ ?_
    simp [*, St3, arE, r3P, r3G, r3A, r3B, r3C, r3D, r3E, St.forget, scr, scrC, -List.map_map]
  · simp [*, appendV, srcCells, St.forget, scr, scrC, setsV, -List.map_map]
    refine T023030 hr.out _ ?_
    simp [*, St3, arE, r3P, r3G, r3A, r3B, r3C, r3D, r3E, St.forget, scr, scrC, -List.map_map]
theorem T003220 {r : R3} {K : St → Prop} (hr : R3ok r K) : ∀ t : St, St3 r 0 0 3 2 2 0 t → cAnyX noTab ops13 K 9 #[false, false, true, true, true, false, true, true, true, true, false, false, false, false, false, false] t := by
  rintro ⟨e, h⟩ q
  simp [St3, arE, r3P, r3G, r3A, r3B, r3C, r3D, r3E] at q
  obtain ⟨l0, l1, q0, q1, s0, s1, q7, q8, hK⟩ := id hr
  replace hr : Hid (_) := hr
  refine cany2 0 10 (by kernel_rfl) (by unfold ops13 getOps; exact rfl) (by unfold ops13 getOps; exact rfl) ?_ ?_
  · simp [*, appendV, srcCells, St.forget, scr, scrC, setsV, -List.map_map]
    refine T013220 hr.out _ ?_
    simp [*, St3, arE, r3P, r3G, r3A, r3B, r3C, r3D, r3E, St.forget, scr, scrC, -List.map_map]
  · simp [*, appendV, srcCells, St.forget, scr, scrC, setsV, -List.map_map]
    refine T003230 hr.out _ ?_
    simp [*, St3, arE, r3P, r3G, r3A, r3B, r3C, r3D, r3E, St.forget, scr, scrC, -List.map_map]
theorem T022210 {r : R3} {K : St → Prop} (hr : R3ok r K) : ∀ t : St, St3 r 0 2 2 2 1 0 t → cAnyX noTab ops13 K 9 #[true, true, true, true, false, false, true, true, true, false, false, false, false, false, false, false] t := by
  rintro ⟨e, h⟩ q
  simp [St3, arE, r3P, r3G, r3A, r3B, r3C, r3D, r3E] at q
  obtain ⟨l0, l1, q0, q1, s0, s1, q7, q8, hK⟩ := id hr
  replace hr : Hid (_) := hr
  refine cany2 4 9 (by kernel_rfl) (by unfold ops13 getOps; exact rfl) (by unfold ops13 getOps; exact rfl) ?_ ?_
  · simp [*, appendV, srcCells, St.forget, scr, scrC, setsV, -List.map_map]
    refine T023210 hr.out _ ?_
    simp [*, St3, arE, r3P, r3G, r3A, r3B, r3C, r3D, r3E, St.forget, scr, scrC, -List.map_map]
  · simp [*, appendV, srcCells, St.forget, scr, scrC, setsV, -List.map_map]
    refine T022220 hr.out _ ?_
    simp [*, St3, arE, r3P, r3G, r3A, r3B, r3C, r3D, r3E, St.forget, scr, scrC, -List.map_map]
theorem T012130 {r : R3} {K : St → Prop} (hr : R3ok r K) : ∀ t : St, St3 r 0 1 2 1 3 0 t → cAnyX noTab ops13 K 9 #[true, false, true, true, false, false, true, false, true, true, true, false, false, false, false, false] t := by
  rintro ⟨e, h⟩ q
  simp [St3, arE, r3P, r3G, r3A, r3B, r3C, r3D, r3E] at q
  obtain ⟨l0, l1, q0, q1, s0, s1, q7, q8, hK⟩ := id hr
  replace hr : Hid (_) := hr
  refine cany3 1 4 7 (by kernel_rfl) (by unfold ops13 getOps; exact rfl) (by unfold ops13 getOps; exact rfl) (by unfold ops13 getOps; exact rfl) ?_ ?_ ?_
  · simp [*, appendV, srcCells, St.forget, scr, scrC, setsV, -List.map_map]
    refine T022130 hr.out _ ?_
    simp [*, St3, arE, r3P, r3G, r3A, r3B, r3C, r3D, r3E, St.forget, scr, scrC, -List.map_map]
  · simp [*, appendV, srcCells, St.forget, scr, scrC, setsV, -List.map_map]
    refine T013130 hr.out _ ?_
    simp [*, St3, arE, r3P, r3G, r3A, r3B, r3C, r3D, r3E, St.forget, scr, scrC, -List.map_map]
  · simp [*, appendV, srcCells, St.forget, scr, scrC, setsV, -List.map_map]
    refine T012230 hr.out _ ?_
    simp [*, St3, arE, r3P, r3G, r3A, r3B, r3C, r3D, r3E, St.forget, scr, scrC, -List.map_map]
theorem T003130 {r : R3} {K : St → Prop} (hr : R3ok r K) : ∀ t : St, St3 r 0 0 3 1 3 0 t → cAnyX noTab ops13 K 9 #[false, false, true, true, true, false, true, false, true, true, true, false, false, false, false, false] t := by
  rintro ⟨e, h⟩ q
  simp [St3, arE, r3P, r3G, r3A, r3B, r3C, r3D, r3E] at q
  obtain ⟨l0, l1, q0, q1, s0, s1, q7, q8, hK⟩ := id hr
  replace hr : Hid (_) := hr
  refine cany2 0 7 (by kernel_rfl) (by unfold ops13 getOps; exact rfl) (by unfold ops13 getOps; exact rfl) ?_ ?_
  · simp [*, appendV, srcCells, St.forget, scr, scrC, setsV, -List.map_map]
    refine T013130 hr.out _ ?_
    simp [*, St3, arE, r3P, r3G, r3A, r3B, r3C, r3D, r3E, St.forget, scr, scrC, -List.map_map]
  · simp [*, appendV, srcCells, St.forget, scr, scrC, setsV, -List.map_map]
    refine T003230 hr.out _ ?_
    simp [*, St3, arE, r3P, r3G, r3A, r3B, r3C, r3D, r3E, St.forget, scr, scrC, -List.map_map]
theorem T022120 {r : R3} {K : St → Prop} (hr : R3ok r K) : ∀ t : St, St3 r 0 2 2 1 2 0 t → cAnyX noTab ops13 K 9 #[true, true, true, true, false, false, true, false, true, true, false, false, false, false, false, false] t := by
  rintro ⟨e, h⟩ q
  simp [St3, arE, r3P, r3G, r3A, r3B, r3C, r3D, r3E] at q
  obtain ⟨l0, l1, q0, q1, s0, s1, q7, q8, hK⟩ := id hr
  replace hr : Hid (_) := hr
  refine cany3 4 7 10 (by kernel_rfl) (by unfold ops13 getOps; exact rfl) (by unfold ops13 getOps; exact rfl) (by unfold ops13 getOps; exact rfl) ?_ ?_ ?_
  · simp [*, appendV, srcCells, St.forget, scr, scrC, setsV, -List.map_map]
    refine T023120 hr.out _ ?_
    simp [*, St3, arE, r3P, r3G, r3A, r3B, r3C, r3D, r3E, St.forget, scr, scrC, -List.map_map]
  · simp [*, appendV, srcCells, St.forget, scr, scrC, setsV, -List.map_map]
    refine T022220 hr.out _ ?_
    simp [*, St3, arE, r3P, r3G, r3A, r3B, r3C, r3D, r3E, St.forget, scr, scrC, -List.map_map]
  · simp [*, appendV, srcCells, St.forget, scr, scrC, setsV, -List.map_map]
    refine T022130 hr.out _ ?_
    simp [*, St3, arE, r3P, r3G, r3A, r3B, r3C, r3D, r3E, St.forget, scr, scrC, -List.map_map]
theorem T021130 {r : R3} {K : St → Prop} (hr : R3ok r K) : ∀ t : St, St3 r 0 2 1 1 3 0 t → cAnyX noTab ops13 K 9 #[true, true, true, false, false, false, true, false, true, true, true, false, false, false, false, false] t := by
  rintro ⟨e, h⟩ q
  simp [St3, arE, r3P, r3G, r3A, r3B, r3C, r3D, r3E] at q
  obtain ⟨l0, l1, q0, q1, s0, s1, q7, q8, hK⟩ := id hr
  replace hr : Hid (_) := hr
  refine cany2 3 7 (by kernel_rfl) (by unfold ops13 getOps; exact rfl) (by unfold ops13 getOps; exact rfl) ?_ ?_
  · simp [*, appendV, srcCells, St.forget, scr, scrC, setsV, -List.map_map]
    refine T022130 hr.out _ ?_
    simp [*, St3, arE, r3P, r3G, r3A, r3B, r3C, r3D, r3E, St.forget, scr, scrC, -List.map_map]
  · simp [*, appendV, srcCells, St.forget, scr, scrC, setsV, -List.map_map]
    refine T021230 hr.out _ ?_
    simp [*, St3, arE, r3P, r3G, r3A, r3B, r3C, r3D, r3E, St.forget, scr, scrC, -List.map_map]
theorem T023110 {r : R3} {K : St → Prop} (hr : R3ok r K) : ∀ t : St, St3 r 0 2 3 1 1 0 t → cAnyX noTab ops13 K 9 #[true, true, true, true, true, false, true, false, true, false, false, false, false, false, false, false] t := by
  rintro ⟨e, h⟩ q
  simp [St3, arE, r3P, r3G, r3A, r3B, r3C, r3D, r3E] at q
  obtain ⟨l0, l1, q0, q1, s0, s1, q7, q8, hK⟩ := id hr
  replace hr : Hid (_) := hr
  refine cany3 5 7 9 (by kernel_rfl) (by unfold ops13 getOps; exact rfl) (by unfold ops13 getOps; exact rfl) (by unfold ops13 getOps; exact rfl) ?_ ?_ ?_
  · simp [*, appendV, srcCells, St.forget, scr, scrC, setsV, -List.map_map]
    refine T123110 hr.out _ ?_
    simp [*, St3, arE, r3P, r3G, r3A, r3B, r3C, r3D, r3E, St.forget, scr, scrC, -List.map_map]
  · simp [*, appendV, srcCells, St.forget, scr, scrC, setsV, -List.map_map]
    refine T023210 hr.out _ ?_
    simp [*, St3, arE, r3P, r3G, r3A, r3B, r3C, r3D, r3E, St.forget, scr, scrC, -List.map_map]
  · simp [*, appendV, srcCells, St.forget, scr, scrC, setsV, -List.map_map]
    refine T023120 hr.out _ ?_
    simp [*, St3, arE, r3P, r3G, r3A, r3B, r3C, r3D, r3E, St.forget, scr, scrC, -List.map_map]
theorem T013120 {r : R3} {K : St → Prop} (hr : R3ok r K) : ∀ t : St, St3 r 0 1 3 1 2 0 t → cAnyX noTab ops13 K 9 #[true, false, true, true, true, false, true, false, true, true, false, false, false, false, false, false] t := by
  rintro ⟨e, h⟩ q
  simp [St3, arE, r3P, r3G, r3A, r3B, r3C, r3D, r3E] at q
  obtain ⟨l0, l1, q0, q1, s0, s1, q7, q8, hK⟩ := id hr
  replace hr : Hid (_) := hr
  refine cany3 1 7 10 (by kernel_rfl) (by unfold ops13 getOps; exact rfl) (by unfold ops13 getOps; exact rfl) (by unfold ops13 getOps; exact rfl) ?_ ?_ ?_
  · simp [*, appendV, srcCells, St.forget, scr, scrC, setsV, -List.map_map]
    refine T023120 hr.out _ ?_
    simp [*, St3, arE, r3P, r3G, r3A, r3B, r3C, r3D, r3E, St.forget, scr, scrC, -List.map_map]
  · simp [*, appendV, srcCells, St.forget, scr, scrC, setsV, -List.map_map]
    refine T013220 hr.out _ ?_
    simp [*, St3, arE, r3P, r3G, r3A, r3B, r3C, r3D, r3E, St.forget, scr, scrC, -List.map_map]
  · simp [*, appendV, srcCells, St.forget, scr, scrC, setsV, -List.map_map]
    refine T013130 hr.out _ ?_
    simp [*, St3, arE, r3P, r3G, r3A, r3B, r3C, r3D, r3E, St.forget, scr, scrC, -List.map_map]
theorem T021220 {r : R3} {K : St → Prop} (hr : R3ok r K) : ∀ t : St, St3 r 0 2 1 2 2 0 t → cAnyX noTab ops13 K 9 #[true, true, true, false, false, false, true, true, true, true, false, false, false, false, false, false] t := by
  rintro ⟨e, h⟩ q
  simp [St3, arE, r3P, r3G, r3A, r3B, r3C, r3D, r3E] at q
  obtain ⟨l0, l1, q0, q1, s0, s1, q7, q8, hK⟩ := id hr
  replace hr : Hid (_) := hr
  refine cany2 3 10 (by kernel_rfl) (by unfold ops13 getOps; exact rfl) (by unfold ops13 getOps; exact rfl) ?_ ?_
  · simp [*, appendV, srcCells, St.forget, scr, scrC, setsV, -List.map_map]
    refine T022220 hr.out _ ?_
    simp [*, St3, arE, r3P, r3G, r3A, r3B, r3C, r3D, r3E, St.forget, scr, scrC, -List.map_map]
  · simp [*, appendV, srcCells, St.forget, scr, scrC, setsV, -List.map_map]
    refine T021230 hr.out _ ?_
    simp [*, St3, arE, r3P, r3G, r3A, r3B, r3C, r3D, r3E, St.forget, scr, scrC, -List.map_map]
theorem T023200 {r : R3} {K : St → Prop} (hr : R3ok r K) : ∀ t : St, St3 r 0 2 3 2 0 0 t → cAnyX noTab ops13 K 9 #[true, true, true, true, true, false, true, true, false, false, false, false, false, false, false, false] t := by
  rintro ⟨e, h⟩ q
  simp [St3, arE, r3P, r3G, r3A, r3B, r3C, r3D, r3E] at q
  obtain ⟨l0, l1, q0, q1, s0, s1, q7, q8, hK⟩ := id hr
  replace hr : Hid (_) := hr
  refine cany2 5 8 (by kernel_rfl) (by unfold ops13 getOps; exact rfl) (by unfold ops13 getOps; exact rfl) ?_ ?_
  · simp [*, appendV, srcCells, St.forget, scr, scrC, setsV, -List.map_map]
    refine T123200 hr.out _ ?_
    simp [*, St3, arE, r3P, r3G, r3A, r3B, r3C, r3D, r3E, St.forget, scr, scrC, -List.map_map]
  · simp [*, appendV, srcCells, St.forget, scr, scrC, setsV, -List.map_map]
    refine T023210 hr.out _ ?_
    simp [*, St3, arE, r3P, r3G, r3A, r3B, r3C, r3D, r3E, St.forget, scr, scrC, -List.map_map]
theorem T123010 {r : R3} {K : St → Prop} (hr : R3ok r K) : ∀ t : St, St3 r 1 2 3 0 1 0 t → cAnyX noTab ops13 K 9 #[true, true, true, true, true, true, false, false, true, false, false, false, false, false, false, false] t := by
  rintro ⟨e, h⟩ q
  simp [St3, arE, r3P, r3G, r3A, r3B, r3C, r3D, r3E] at q
  obtain ⟨l0, l1, q0, q1, s0, s1, q7, q8, hK⟩ := id hr
  replace hr : Hid (_) := hr
  refine cany2 6 9 (by kernel_rfl) (by unfold ops13 getOps; exact rfl) (by unfold ops13 getOps; exact rfl) ?_ ?_
  · simp [*, appendV, srcCells, St.forget, scr, scrC, setsV, -List.map_map]
    refine T123110 hr.out _ ?_
    simp [*, St3, arE, r3P, r3G, r3A, r3B, r3C, r3D, r3E, St.forget, scr, scrC, -List.map_map]
  · simp [*, appendV, srcCells, St.forget, scr, scrC, setsV, -List.map_map]
    refine T123020 hr.out _ ?_
    simp [*, St3, arE, r3P, r3G, r3A, r3B, r3C, r3D, r3E, St.forget, scr, scrC, -List.map_map]
theorem T002230 {r : R3} {K : St → Prop} (hr : R3ok r K) : ∀ t : St, St3 r 0 0 2 2 3 0 t → cAnyX noTab ops13 K 9 #[false, false, true, true, false, false, true, true, true, true, true, false, false, false, false, false] t := by
  rintro ⟨e, h⟩ q
  simp [St3, arE, r3P, r3G, r3A, r3B, r3C, r3D, r3E] at q
  obtain ⟨l0, l1, q0, q1, s0, s1, q7, q8, hK⟩ := id hr
  replace hr : Hid (_) := hr
  refine cany2 0 4 (by kernel_rfl) (by unfold ops13 getOps; exact rfl) (by unfold ops13 getOps; exact rfl) ?_ ?_
  · simp [*, appendV, srcCells, St.forget, scr, scrC, setsV, -List.map_map]
    refine T012230 hr.out _ ?_
    simp [*, St3, arE, r3P, r3G, r3A, r3B, r3C, r3D, r3E, St.forget, scr, scrC, -List.map_map]
  · simp [*, appendV, srcCells, St.forget, scr, scrC, setsV, -List.map_map]
    refine T003230 hr.out _ ?_
    simp [*, St3, arE, r3P, r3G, r3A, r3B, r3C, r3D, r3E, St.forget, scr, scrC, -List.map_map]
theorem T011230 {r : R3} {K : St → Prop} (hr : R3ok r K) : ∀ t : St, St3 r 0 1 1 2 3 0 t → cAnyX noTab ops13 K 9 #[true, false, true, false, false, false, true, true, true, true, true, false, false, false, false, false] t := by
  rintro ⟨e, h⟩ q
  simp [St3, arE, r3P, r3G, r3A, r3B, r3C, r3D, r3E] at q
  obtain ⟨l0, l1, q0, q1, s0, s1, q7, q8, hK⟩ := id hr
  replace hr : Hid (_) := hr
  refine cany2 1 3 (by kernel_rfl) (by unfold ops13 getOps; exact rfl) (by unfold ops13 getOps; exact rfl) ?_ ?_
  · simp [*, appendV, srcCells, St.forget, scr, scrC, setsV, -List.map_map]
    refine T021230 hr.out _ ?_
    simp [*, St3, arE, r3P, r3G, r3A, r3B, r3C, r3D, r3E, St.forget, scr, scrC, -List.map_map]
  · simp [*, appendV, srcCells, St.forget, scr, scrC, setsV, -List.map_map]
    refine T012230 hr.out _ ?_
    simp [*, St3, arE, r3P, r3G, r3A, r3B, r3C, r3D, r3E, St.forget, scr, scrC, -List.map_map]
theorem T022030 {r : R3} {K : St → Prop} (hr : R3ok r K) : ∀ t : St, St3 r 0 2 2 0 3 0 t → cAnyX noTab ops13 K 9 #[true, true, true, true, false, false, false, false, true, true, true, false, false, false, false, false] t := by
  rintro ⟨e, h⟩ q
  simp [St3, arE, r3P, r3G, r3A, r3B, r3C, r3D, r3E] at q
  obtain ⟨l0, l1, q0, q1, s0, s1, q7, q8, hK⟩ := id hr
  replace hr : Hid (_) := hr
  refine cany2 4 6 (by kernel_rfl) (by unfold ops13 getOps; exact rfl) (by unfold ops13 getOps; exact rfl) ?_ ?_
  · simp [*, appendV, srcCells, St.forget, scr, scrC, setsV, -List.map_map]
    refine T023030 hr.out _ ?_
    simp [*, St3, arE, r3P, r3G, r3A, r3B, r3C, r3D, r3E, St.forget, scr, scrC, -List.map_map]
  · simp [*, appendV, srcCells, St.forget, scr, scrC, setsV, -List.map_map]
    refine T022130 hr.out _ ?_
    simp [*, St3, arE, r3P, r3G, r3A, r3B, r3C, r3D, r3E, St.forget, scr, scrC, -List.map_map]
theorem T123100 {r : R3} {K : St → Prop} (hr : R3ok r K) : ∀ t : St, St3 r 1 2 3 1 0 0 t → cAnyX noTab ops13 K 9 #[true, true, true, true, true, true, true, false, false, false, false, false, false, false, false, false] t := by
  rintro ⟨e, h⟩ q
  simp [St3, arE, r3P, r3G, r3A, r3B, r3C, r3D, r3E] at q
  obtain ⟨l0, l1, q0, q1, s0, s1, q7, q8, hK⟩ := id hr
  replace hr : Hid (_) := hr
  refine cany2 7 8 (by kernel_rfl) (by unfold ops13 getOps; exact rfl) (by unfold ops13 getOps; exact rfl) ?_ ?_
  · simp [*, appendV, srcCells, St.forget, scr, scrC, setsV, -List.map_map]
    refine T123200 hr.out _ ?_
    simp [*, St3, arE, r3P, r3G, r3A, r3B, r3C, r3D, r3E, St.forget, scr, scrC, -List.map_map]
  · simp [*, appendV, srcCells, St.forget, scr, scrC, setsV, -List.map_map]
    refine T123110 hr.out _ ?_
    simp [*, St3, arE, r3P, r3G, r3A, r3B, r3C, r3D, r3E, St.forget, scr, scrC, -List.map_map]
theorem T012220 {r : R3} {K : St → Prop} (hr : R3ok r K) : ∀ t : St, St3 r 0 1 2 2 2 0 t → cAnyX noTab ops13 K 9 #[true, false, true, true, false, false, true, true, true, true, false, false, false, false, false, false] t := by
  rintro ⟨e, h⟩ q
  simp [St3, arE, r3P, r3G, r3A, r3B, r3C, r3D, r3E] at q
  obtain ⟨l0, l1, q0, q1, s0, s1, q7, q8, hK⟩ := id hr
  replace hr : Hid (_) := hr
  refine cany3 1 4 10 (by kernel_rfl) (by unfold ops13 getOps; exact rfl) (by unfold ops13 getOps; exact rfl) (by unfold ops13 getOps; exact rfl) ?_ ?_ ?_
  · simp [*, appendV, srcCells, St.forget, scr, scrC, setsV, -List.map_map]
    refine T022220 hr.out _ ?_
    simp [*, St3, arE, r3P, r3G, r3A, r3B, r3C, r3D, r3E, St.forget, scr, scrC, -List.map_map]
  · simp [*, appendV, srcCells, St.forget, scr, scrC, setsV, -List.map_map]
    refine T013220 hr.out _ ?_
    simp [*, St3, arE, r3P, r3G, r3A, r3B, r3C, r3D, r3E, St.forget, scr, scrC, -List.map_map]
  · simp [*, appendV, srcCells, St.forget, scr, scrC, setsV, -List.map_map]
    refine T012230 hr.out _ ?_
    simp [*, St3, arE, r3P, r3G, r3A, r3B, r3C, r3D, r3E, St.forget, scr, scrC, -List.map_map]
theorem T013210 {r : R3} {K : St → Prop} (hr : R3ok r K) : ∀ t : St, St3 r 0 1 3 2 1 0 t → cAnyX noTab ops13 K 9 #[true, false, true, true, true, false, true, true, true, false, false, false, false, false, false, false] t := by
  rintro ⟨e, h⟩ q
  simp [St3, arE, r3P, r3G, r3A, r3B, r3C, r3D, r3E] at q
  obtain ⟨l0, l1, q0, q1, s0, s1, q7, q8, hK⟩ := id hr
  replace hr : Hid (_) := hr
  refine cany2 1 9 (by kernel_rfl) (by unfold ops13 getOps; exact rfl) (by unfold ops13 getOps; exact rfl) ?_ ?_
  · simp [*, appendV, srcCells, St.forget, scr, scrC, setsV, -List.map_map]
    refine T023210 hr.out _ ?_
    simp [*, St3, arE, r3P, r3G, r3A, r3B, r3C, r3D, r3E, St.forget, scr, scrC, -List.map_map]
  · simp [*, appendV, srcCells, St.forget, scr, scrC, setsV, -List.map_map]
    refine T013220 hr.out _ ?_
    simp [*, St3, arE, r3P, r3G, r3A, r3B, r3C, r3D, r3E, St.forget, scr, scrC, -List.map_map]
theorem T020230 {r : R3} {K : St → Prop} (hr : R3ok r K) : ∀ t : St, St3 r 0 2 0 2 3 0 t → cAnyX noTab ops13 K 9 #[true, true, false, false, false, false, true, true, true, true, true, false, false, false, false, false] t := by
  rintro ⟨e, h⟩ q
  simp [St3, arE, r3P, r3G, r3A, r3B, r3C, r3D, r3E] at q
  obtain ⟨l0, l1, q0, q1, s0, s1, q7, q8, hK⟩ := id hr
  replace hr : Hid (_) := hr
  refine cany1 2 (by kernel_rfl) (by unfold ops13 getOps; exact rfl) ?_
  · simp [*, appendV, srcCells, St.forget, scr, scrC, setsV, -List.map_map]
    refine T021230 hr.out _ ?_
    simp [*, St3, arE, r3P, r3G, r3A, r3B, r3C, r3D, r3E, St.forget, scr, scrC, -List.map_map]
theorem T023100 {r : R3} {K : St → Prop} (hr : R3ok r K) : ∀ t : St, St3 r 0 2 3 1 0 0 t → cAnyX noTab ops13 K 10 #[true, true, true, true, true, false, true, false, false, false, false, false, false, false, false, false] t := by
  rintro ⟨e, h⟩ q
  simp [St3, arE, r3P, r3G, r3A, r3B, r3C, r3D, r3E] at q
  obtain ⟨l0, l1, q0, q1, s0, s1, q7, q8, hK⟩ := id hr
  replace hr : Hid (_) := hr
  refine cany3 5 7 8 (by kernel_rfl) (by unfold ops13 getOps; exact rfl) (by unfold ops13 getOps; exact rfl) (by unfold ops13 getOps; exact rfl) ?_ ?_ ?_
  · simp [*, appendV, srcCells, St.forget, scr, scrC, setsV, -List.map_map]
    refine T123100 hr.out _ ?_
    simp [*, St3, arE, r3P, r3G, r3A, r3B, r3C, r3D, r3E, St.forget, scr, scrC, -List.map_map]
  · simp [*, appendV, srcCells, St.forget, scr, scrC, setsV, -List.map_map]
    refine T023200 hr.out _ ?_
    simp [*, St3, arE, r3P, r3G, r3A, r3B, r3C, r3D, r3E, St.forget, scr, scrC, -List.map_map]
  · simp [*, appendV, srcCells, St.forget, scr, scrC, setsV, -List.map_map]
    refine T023110 hr.out _ ?_
    simp [*, St3, arE, r3P, r3G, r3A, r3B, r3C, r3D, r3E, St.forget, scr, scrC, -List.map_map]
theorem T123000 {r : R3} {K : St → Prop} (hr : R3ok r K) : ∀ t : St, St3 r 1 2 3 0 0 0 t → cAnyX noTab ops13 K 10 #[true, true, true, true, true, true, false, false, false, false, false, false, false, false, false, false] t := by
  rintro ⟨e, h⟩ q
  simp [St3, arE, r3P, r3G, r3A, r3B, r3C, r3D, r3E] at q
  obtain ⟨l0, l1, q0, q1, s0, s1, q7, q8, hK⟩ := id hr
  replace hr : Hid (_) := hr
  refine cany2 6 8 (by kernel_rfl) (by unfold ops13 getOps; exact rfl) (by unfold ops13 getOps; exact rfl) ?_ ?_
  · simp [*, appendV, srcCells, St.forget, scr, scrC, setsV, -List.map_map]
    refine T123100 hr.out _ ?_
    simp [*, St3, arE, r3P, r3G, r3A, r3B, r3C, r3D, r3E, St.forget, scr, scrC, -List.map_map]
  · simp [*, appendV, srcCells, St.forget, scr, scrC, setsV, -List.map_map]
    refine T123010 hr.out _ ?_
    simp [*, St3, arE, r3P, r3G, r3A, r3B, r3C, r3D, r3E, St.forget, scr, scrC, -List.map_map]
theorem T020130 {r : R3} {K : St → Prop} (hr : R3ok r K) : ∀ t : St, St3 r 0 2 0 1 3 0 t → cAnyX noTab ops13 K 10 #[true, true, false, false, false, false, true, false, true, true, true, false, false, false, false, false] t := by
  rintro ⟨e, h⟩ q
  simp [St3, arE, r3P, r3G, r3A, r3B, r3C, r3D, r3E] at q
  obtain ⟨l0, l1, q0, q1, s0, s1, q7, q8, hK⟩ := id hr
  replace hr : Hid (_) := hr
  refine cany2 2 7 (by kernel_rfl) (by unfold ops13 getOps; exact rfl) (by unfold ops13 getOps; exact rfl) ?_ ?_
  · simp [*, appendV, srcCells, St.forget, scr, scrC, setsV, -List.map_map]
    refine T021130 hr.out _ ?_
    simp [*, St3, arE, r3P, r3G, r3A, r3B, r3C, r3D, r3E, St.forget, scr, scrC, -List.map_map]
  · simp [*, appendV, srcCells, St.forget, scr, scrC, setsV, -List.map_map]
    refine T020230 hr.out _ ?_
    simp [*, St3, arE, r3P, r3G, r3A, r3B, r3C, r3D, r3E, St.forget, scr, scrC, -List.map_map]
theorem T002220 {r : R3} {K : St → Prop} (hr : R3ok r K) : ∀ t : St, St3 r 0 0 2 2 2 0 t → cAnyX noTab ops13 K 10 #[false, false, true, true, false, false, true, true, true, true, false, false, false, false, false, false] t := by
  rintro ⟨e, h⟩ q
  simp [St3, arE, r3P, r3G, r3A, r3B, r3C, r3D, r3E] at q
  obtain ⟨l0, l1, q0, q1, s0, s1, q7, q8, hK⟩ := id hr
  replace hr : Hid (_) := hr
  refine cany3 0 4 10 (by kernel_rfl) (by unfold ops13 getOps; exact rfl) (by unfold ops13 getOps; exact rfl) (by unfold ops13 getOps; exact rfl) ?_ ?_ ?_
  · simp [*, appendV, srcCells, St.forget, scr, scrC, setsV, -List.map_map]
    refine T012220 hr.out _ ?_
    simp [*, St3, arE, r3P, r3G, r3A, r3B, r3C, r3D, r3E, St.forget, scr, scrC, -List.map_map]
  · simp [*, appendV, srcCells, St.forget, scr, scrC, setsV, -List.map_map]
    refine T003220 hr.out _ ?_
    simp [*, St3, arE, r3P, r3G, r3A, r3B, r3C, r3D, r3E, St.forget, scr, scrC, -List.map_map]
  · simp [*, appendV, srcCells, St.forget, scr, scrC, setsV, -List.map_map]
    refine T002230 hr.out _ ?_
    simp [*, St3, arE, r3P, r3G, r3A, r3B, r3C, r3D, r3E, St.forget, scr, scrC, -List.map_map]
theorem T012030 {r : R3} {K : St → Prop} (hr : R3ok r K) : ∀ t : St, St3 r 0 1 2 0 3 0 t → cAnyX noTab ops13 K 10 #[true, false, true, true, false, false, false, false, true, true, true, false, false, false, false, false] t := by
  rintro ⟨e, h⟩ q
  simp [St3, arE, r3P, r3G, r3A, r3B, r3C, r3D, r3E] at q
  obtain ⟨l0, l1, q0, q1, s0, s1, q7, q8, hK⟩ := id hr
  replace hr : Hid (_) := hr
  refine cany3 1 4 6 (by kernel_rfl) (by unfold ops13 getOps; exact rfl) (by unfold ops13 getOps; exact rfl) (by unfold ops13 getOps; exact rfl) ?_ ?_ ?_
  · simp [*, appendV, srcCells, St.forget, scr, scrC, setsV, -List.map_map]
    refine T022030 hr.out _ ?_
    simp [*, St3, arE, r3P, r3G, r3A, r3B, r3C, r3D, r3E, St.forget, scr, scrC, -List.map_map]
  · simp [*, appendV, srcCells, St.forget, scr, scrC, setsV, -List.map_map]
    refine T013030 hr.out _ ?_
    simp [*, St3, arE, r3P, r3G, r3A, r3B, r3C, r3D, r3E, St.forget, scr, scrC, -List.map_map]
  · simp [*, appendV, srcCells, St.forget, scr, scrC, setsV, -List.map_map]
    refine T012130 hr.out _ ?_
    simp [*, St3, arE, r3P, r3G, r3A, r3B, r3C, r3D, r3E, St.forget, scr, scrC, -List.map_map]
theorem T011220 {r : R3} {K : St → Prop} (hr : R3ok r K) : ∀ t : St, St3 r 0 1 1 2 2 0 t → cAnyX noTab ops13 K 10 #[true, false, true, false, false, false, true, true, true, true, false, false, false, false, false, false] t := by
  rintro ⟨e, h⟩ q
  simp [St3, arE, r3P, r3G, r3A, r3B, r3C, r3D, r3E] at q
  obtain ⟨l0, l1, q0, q1, s0, s1, q7, q8, hK⟩ := id hr
  replace hr : Hid (_) := hr
  refine cany3 1 3 10 (by kernel_rfl) (by unfold ops13 getOps; exact rfl) (by unfold ops13 getOps; exact rfl) (by unfold ops13 getOps; exact rfl) ?_ ?_ ?_
  · simp [*, appendV, srcCells, St.forget, scr, scrC, setsV, -List.map_map]
    refine T021220 hr.out _ ?_
    simp [*, St3, arE, r3P, r3G, r3A, r3B, r3C, r3D, r3E, St.forget, scr, scrC, -List.map_map]
  · simp [*, appendV, srcCells, St.forget, scr, scrC, setsV, -List.map_map]
    refine T012220 hr.out _ ?_
    simp [*, St3, arE, r3P, r3G, r3A, r3B, r3C, r3D, r3E, St.forget, scr, scrC, -List.map_map]
  · simp [*, appendV, srcCells, St.forget, scr, scrC, setsV, -List.map_map]
    refine T011230 hr.out _ ?_
    simp [*, St3, arE, r3P, r3G, r3A, r3B, r3C, r3D, r3E, St.forget, scr, scrC, -List.map_map]
theorem T022020 {r : R3} {K : St → Prop} (hr : R3ok r K) : ∀ t : St, St3 r 0 2 2 0 2 0 t → cAnyX noTab ops13 K 10 #[true, true, true, true, false, false, false, false, true, true, false, false, false, false, false, false] t := by
  rintro ⟨e, h⟩ q
  simp [St3, arE, r3P, r3G, r3A, r3B, r3C, r3D, r3E] at q
  obtain ⟨l0, l1, q0, q1, s0, s1, q7, q8, hK⟩ := id hr
  replace hr : Hid (_) := hr
  refine cany3 4 6 10 (by kernel_rfl) (by unfold ops13 getOps; exact rfl) (by unfold ops13 getOps; exact rfl) (by unfold ops13 getOps; exact rfl) ?_ ?_ ?_
  · simp [*, appendV, srcCells, St.forget, scr, scrC, setsV, -List.map_map]
    refine T023020 hr.out _ ?_
    simp [*, St3, arE, r3P, r3G, r3A, r3B, r3C, r3D, r3E, St.forget, scr, scrC, -List.map_map]
  · simp [*, appendV, srcCells, St.forget, scr, scrC, setsV, -List.map_map]
    refine T022120 hr.out _ ?_
    simp [*, St3, arE, r3P, r3G, r3A, r3B, r3C, r3D, r3E, St.forget, scr, scrC, -List.map_map]
  · simp [*, appendV, srcCells, St.forget, scr, scrC, setsV, -List.map_map]
    refine T022030 hr.out _ ?_
    simp [*, St3, arE, r3P, r3G, r3A, r3B, r3C, r3D, r3E, St.forget, scr, scrC, -List.map_map]
theorem T001230 {r : R3} {K : St → Prop} (hr : R3ok r K) : ∀ t : St, St3 r 0 0 1 2 3 0 t → cAnyX noTab ops13 K 10 #[false, false, true, false, false, false, true, true, true, true, true, false, false, false, false, false] t := by
  rintro ⟨e, h⟩ q
  simp [St3, arE, r3P, r3G, r3A, r3B, r3C, r3D, r3E] at q
  obtain ⟨l0, l1, q0, q1, s0, s1, q7, q8, hK⟩ := id hr
  replace hr : Hid (_) := hr
  refine cany2 0 3 (by kernel_rfl) (by unfold ops13 getOps; exact rfl) (by unfold ops13 getOps; exact rfl) ?_ ?_
  · simp [*, appendV, srcCells, St.forget, scr, scrC, setsV, -List.map_map]
    refine T011230 hr.out _ ?_
    simp [*, St3, arE, r3P, r3G, r3A, r3B, r3C, r3D, r3E, St.forget, scr, scrC, -List.map_map]
  · simp [*, appendV, srcCells, St.forget, scr, scrC, setsV, -List.map_map]
    refine T002230 hr.out _ ?_
    simp [*, St3, arE, r3P, r3G, r3A, r3B, r3C, r3D, r3E, St.forget, scr, scrC, -List.map_map]
theorem T010230 {r : R3} {K : St → Prop} (hr : R3ok r K) : ∀ t : St, St3 r 0 1 0 2 3 0 t → cAnyX noTab ops13 K 10 #[true, false, false, false, false, false, true, true, true, true, true, false, false, false, false, false] t := by
  rintro ⟨e, h⟩ q
  simp [St3, arE, r3P, r3G, r3A, r3B, r3C, r3D, r3E] at q
  obtain ⟨l0, l1, q0, q1, s0, s1, q7, q8, hK⟩ := id hr
  replace hr : Hid (_) := hr
  refine cany2 1 2 (by kernel_rfl) (by unfold ops13 getOps; exact rfl) (by unfold ops13 getOps; exact rfl) ?_ ?_
  · simp [*, appendV, srcCells, St.forget, scr, scrC, setsV, -List.map_map]
    refine T020230 hr.out _ ?_
    simp [*, St3, arE, r3P, r3G, r3A, r3B, r3C, r3D, r3E, St.forget, scr, scrC, -List.map_map]
  · simp [*, appendV, srcCells, St.forget, scr, scrC, setsV, -List.map_map]
    refine T011230 hr.out _ ?_
    simp [*, St3, arE, r3P, r3G, r3A, r3B, r3C, r3D, r3E, St.forget, scr, scrC, -List.map_map]
theorem T012210 {r : R3} {K : St → Prop} (hr : R3ok r K) : ∀ t : St, St3 r 0 1 2 2 1 0 t → cAnyX noTab ops13 K 10 #[true, false, true, true, false, false, true, true, true, false, false, false, false, false, false, false] t := by
  rintro ⟨e, h⟩ q
  simp [St3, arE, r3P, r3G, r3A, r3B, r3C, r3D, r3E] at q
  obtain ⟨l0, l1, q0, q1, s0, s1, q7, q8, hK⟩ := id hr
  replace hr : Hid (_) := hr
  refine cany3 1 4 9 (by kernel_rfl) (by unfold ops13 getOps; exact rfl) (by unfold ops13 getOps; exact rfl) (by unfold ops13 getOps; exact rfl) ?_ ?_ ?_
  · simp [*, appendV, srcCells, St.forget, scr, scrC, setsV, -List.map_map]
    refine T022210 hr.out _ ?_
    simp [*, St3, arE, r3P, r3G, r3A, r3B, r3C, r3D, r3E, St.forget, scr, scrC, -List.map_map]
  · simp [*, appendV, srcCells, St.forget, scr, scrC, setsV, -List.map_map]
    refine T013210 hr.out _ ?_
    simp [*, St3, arE, r3P, r3G, r3A, r3B, r3C, r3D, r3E, St.forget, scr, scrC, -List.map_map]
  · simp [*, appendV, srcCells, St.forget, scr, scrC, setsV, -List.map_map]
    refine T012220 hr.out _ ?_
    simp [*, St3, arE, r3P, r3G, r3A, r3B, r3C, r3D, r3E, St.forget, scr, scrC, -List.map_map]
theorem T021120 {r : R3} {K : St → Prop} (hr : R3ok r K) : ∀ t : St, St3 r 0 2 1 1 2 0 t → cAnyX noTab ops13 K 10 #[true, true, true, false, false, false, true, false, true, true, false, false, false, false, false, false] t := by
  rintro ⟨e, h⟩ q
  simp [St3, arE, r3P, r3G, r3A, r3B, r3C, r3D, r3E] at q
  obtain ⟨l0, l1, q0, q1, s0, s1, q7, q8, hK⟩ := id hr
  replace hr : Hid (_) := hr
  refine cany3 3 7 10 (by kernel_rfl) (by unfold ops13 getOps; exact rfl) (by unfold ops13 getOps; exact rfl) (by unfold ops13 getOps; exact rfl) ?_ ?_ ?_
  · simp [*, appendV, srcCells, St.forget, scr, scrC, setsV, -List.map_map]
    refine T022120 hr.out _ ?_
    simp [*, St3, arE, r3P, r3G, r3A, r3B, r3C, r3D, r3E, St.forget, scr, scrC, -List.map_map]
  · simp [*, appendV, srcCells, St.forget, scr, scrC, setsV, -List.map_map]
    refine T021220 hr.out _ ?_
    simp [*, St3, arE, r3P, r3G, r3A, r3B, r3C, r3D, r3E, St.forget, scr, scrC, -List.map_map]
  · simp [*, appendV, srcCells, St.forget, scr, scrC, setsV, -List.map_map]
    refine T021130 hr.out _ ?_
    simp [*, St3, arE, r3P, r3G, r3A, r3B, r3C, r3D, r3E, St.forget, scr, scrC, -List.map_map]
theorem T003030 {r : R3} {K : St → Prop} (hr : R3ok r K) : ∀ t : St, St3 r 0 0 3 0 3 0 t → cAnyX noTab ops13 K 10 #[false, false, true, true, true, false, false, false, true, true, true, false, false, false, false, false] t := by
  rintro ⟨e, h⟩ q
  simp [St3, arE, r3P, r3G, r3A, r3B, r3C, r3D, r3E] at q
  obtain ⟨l0, l1, q0, q1, s0, s1, q7, q8, hK⟩ := id hr
  replace hr : Hid (_) := hr
  refine cany2 0 6 (by kernel_rfl) (by unfold ops13 getOps; exact rfl) (by unfold ops13 getOps; exact rfl) ?_ ?_
  · simp [*, appendV, srcCells, St.forget, scr, scrC, setsV, -List.map_map]
    refine T013030 hr.out _ ?_
    simp [*, St3, arE, r3P, r3G, r3A, r3B, r3C, r3D, r3E, St.forget, scr, scrC, -List.map_map]
  · simp [*, appendV, srcCells, St.forget, scr, scrC, setsV, -List.map_map]
    refine T003130 hr.out _ ?_
    simp [*, St3, arE, r3P, r3G, r3A, r3B, r3C, r3D, r3E, St.forget, scr, scrC, -List.map_map]
theorem T011130 {r : R3} {K : St → Prop} (hr : R3ok r K) : ∀ t : St, St3 r 0 1 1 1 3 0 t → cAnyX noTab ops13 K 10 #[true, false, true, false, false, false, true, false, true, true, true, false, false, false, false, false] t := by
  rintro ⟨e, h⟩ q
  simp [St3, arE, r3P, r3G, r3A, r3B, r3C, r3D, r3E] at q
  obtain ⟨l0, l1, q0, q1, s0, s1, q7, q8, hK⟩ := id hr
  replace hr : Hid (_) := hr
  refine cany3 1 3 7 (by kernel_rfl) (by unfold ops13 getOps; exact rfl) (by unfold ops13 getOps; exact rfl) (by unfold ops13 getOps; exact rfl) ?_ ?_ ?_
  · simp [*, appendV, srcCells, St.forget, scr, scrC, setsV, -List.map_map]
    refine T021130 hr.out _ ?_
    simp [*, St3, arE, r3P, r3G, r3A, r3B, r3C, r3D, r3E, St.forget, scr, scrC, -List.map_map]
  · simp [*, appendV, srcCells, St.forget, scr, scrC, setsV, -List.map_map]
    refine T012130 hr.out _ ?_
    simp [*, St3, arE, r3P, r3G, r3A, r3B, r3C, r3D, r3E, St.forget, scr, scrC, -List.map_map]
  · simp [*, appendV, srcCells, St.forget, scr, scrC, setsV, -List.map_map]
    refine T011230 hr.out _ ?_
    simp [*, St3, arE, r3P, r3G, r3A, r3B, r3C, r3D, r3E, St.forget, scr, scrC, -List.map_map]
theorem T013020 {r : R3} {K : St → Prop} (hr : R3ok r K) : ∀ t : St, St3 r 0 1 3 0 2 0 t → cAnyX noTab ops13 K 10 #[true, false, true, true, true, false, false, false, true, true, false, false, false, false, false, false] t := by
  rintro ⟨e, h⟩ q
  simp [St3, arE, r3P, r3G, r3A, r3B, r3C, r3D, r3E] at q
  obtain ⟨l0, l1, q0, q1, s0, s1, q7, q8, hK⟩ := id hr
  replace hr : Hid (_) := hr
  refine cany3 1 6 10 (by kernel_rfl) (by unfold ops13 getOps; exact rfl) (by unfold ops13 getOps; exact rfl) (by unfold ops13 getOps; exact rfl) ?_ ?_ ?_
  · simp [*, appendV, srcCells, St.forget, scr, scrC, setsV, -List.map_map]
    refine T023020 hr.out _ ?_
    simp [*, St3, arE, r3P, r3G, r3A, r3B, r3C, r3D, r3E, St.forget, scr, scrC, -List.map_map]
  · simp [*, appendV, srcCells, St.forget, scr, scrC, setsV, -List.map_map]
    refine T013120 hr.out _ ?_
    simp [*, St3, arE, r3P, r3G, r3A, r3B, r3C, r3D, r3E, St.forget, scr, scrC, -List.map_map]
  · simp [*, appendV, srcCells, St.forget, scr, scrC, setsV, -List.map_map]
    refine T013030 hr.out _ ?_
    simp [*, St3, arE, r3P, r3G, r3A, r3B, r3C, r3D, r3E, St.forget, scr, scrC, -List.map_map]
theorem T003210 {r : R3} {K : St → Prop} (hr : R3ok r K) : ∀ t : St, St3 r 0 0 3 2 1 0 t → cAnyX noTab ops13 K 10 #[false, false, true, true, true, false, true, true, true, false, false, false, false, false, false, false] t := by
  rintro ⟨e, h⟩ q
  simp [St3, arE, r3P, r3G, r3A, r3B, r3C, r3D, r3E] at q
  obtain ⟨l0, l1, q0, q1, s0, s1, q7, q8, hK⟩ := id hr
  replace hr : Hid (_) := hr
  refine cany2 0 9 (by kernel_rfl) (by unfold ops13 getOps; exact rfl) (by unfold ops13 getOps; exact rfl) ?_ ?_
  · simp [*, appendV, srcCells, St.forget, scr, scrC, setsV, -List.map_map]
    refine T013210 hr.out _ ?_
    simp [*, St3, arE, r3P, r3G, r3A, r3B, r3C, r3D, r3E, St.forget, scr, scrC, -List.map_map]
  · simp [*, appendV, srcCells, St.forget, scr, scrC, setsV, -List.map_map]
    refine T003220 hr.out _ ?_
    simp [*, St3, arE, r3P, r3G, r3A, r3B, r3C, r3D, r3E, St.forget, scr, scrC, -List.map_map]
theorem T022200 {r : R3} {K : St → Prop} (hr : R3ok r K) : ∀ t : St, St3 r 0 2 2 2 0 0 t → cAnyX noTab ops13 K 10 #[true, true, true, true, false, false, true, true, false, false, false, false, false, false, false, false] t := by
  rintro ⟨e, h⟩ q
  simp [St3, arE, r3P, r3G, r3A, r3B, r3C, r3D, r3E] at q
  obtain ⟨l0, l1, q0, q1, s0, s1, q7, q8, hK⟩ := id hr
  replace hr : Hid (_) := hr
  refine cany2 4 8 (by kernel_rfl) (by unfold ops13 getOps; exact rfl) (by unfold ops13 getOps; exact rfl) ?_ ?_
  · simp [*, appendV, srcCells, St.forget, scr, scrC, setsV, -List.map_map]
    refine T023200 hr.out _ ?_
    simp [*, St3, arE, r3P, r3G, r3A, r3B, r3C, r3D, r3E, St.forget, scr, scrC, -List.map_map]
  · simp [*, appendV, srcCells, St.forget, scr, scrC, setsV, -List.map_map]
    refine T022210 hr.out _ ?_
    simp [*, St3, arE, r3P, r3G, r3A, r3B, r3C, r3D, r3E, St.forget, scr, scrC, -List.map_map]
theorem T013200 {r : R3} {K : St → Prop} (hr : R3ok r K) : ∀ t : St, St3 r 0 1 3 2 0 0 t → cAnyX noTab ops13 K 10 #[true, false, true, true, true, false, true, true, false, false, false, false, false, false, false, false] t := by
  rintro ⟨e, h⟩ q
  simp [St3, arE, r3P, r3G, r3A, r3B, r3C, r3D, r3E] at q
  obtain ⟨l0, l1, q0, q1, s0, s1, q7, q8, hK⟩ := id hr
  replace hr : Hid (_) := hr
  refine cany2 1 8 (by kernel_rfl) (by unfold ops13 getOps; exact rfl) (by unfold ops13 getOps; exact rfl) ?_ ?_
  · simp [*, appendV, srcCells, St.forget, scr, scrC, setsV, -List.map_map]
    refine T023200 hr.out _ ?_
    simp [*, St3, arE, r3P, r3G, r3A, r3B, r3C, r3D, r3E, St.forget, scr, scrC, -List.map_map]
  · simp [*, appendV, srcCells, St.forget, scr, scrC, setsV, -List.map_map]
    refine T013210 hr.out _ ?_
    simp [*, St3, arE, r3P, r3G, r3A, r3B, r3C, r3D, r3E, St.forget, scr, scrC, -List.map_map]
theorem T003120 {r : R3} {K : St → Prop} (hr : R3ok r K) : ∀ t : St, St3 r 0 0 3 1 2 0 t → cAnyX noTab ops13 K 10 #[false, false, true, true, true, false, true, false, true, true, false, false, false, false, false, false] t := by
  rintro ⟨e, h⟩ q
  simp [St3, arE, r3P, r3G, r3A, r3B, r3C, r3D, r3E] at q
  obtain ⟨l0, l1, q0, q1, s0, s1, q7, q8, hK⟩ := id hr
  replace hr : Hid (_) := hr
  refine cany3 0 7 10 (by kernel_rfl) (by unfold ops13 getOps; exact rfl) (by unfold ops13 getOps; exact rfl) (by unfold ops13 getOps; exact rfl) ?_ ?_ ?_
  · simp [*, appendV, srcCells, St.forget, scr, scrC, setsV, -List.map_map]
    refine T013120 hr.out _ ?_
    simp [*, St3, arE, r3P, r3G, r3A, r3B, r3C, r3D, r3E, St.forget, scr, scrC, -List.map_map]
  · simp [*, appendV, srcCells, St.forget, scr, scrC, setsV, -List.map_map]
    refine T003220 hr.out _ ?_
    simp [*, St3, arE, r3P, r3G, r3A, r3B, r3C, r3D, r3E, St.forget, scr, scrC, -List.map_map]
  · simp [*, appendV, srcCells, St.forget, scr, scrC, setsV, -List.map_map]
    refine T003130 hr.out _ ?_
    simp [*, St3, arE, r3P, r3G, r3A, r3B, r3C, r3D, r3E, St.forget, scr, scrC, -List.map_map]
theorem T012120 {r : R3} {K : St → Prop} (hr : R3ok r K) : ∀ t : St, St3 r 0 1 2 1 2 0 t → cAnyX noTab ops13 K 10 #[true, false, true, true, false, false, true, false, true, true, false, false, false, false, false, false] t := by
  rintro ⟨e, h⟩ q
  simp [St3, arE, r3P, r3G, r3A, r3B, r3C, r3D, r3E] at q
  obtain ⟨l0, l1, q0, q1, s0, s1, q7, q8, hK⟩ := id hr
  replace hr : Hid (_) := hr
  refine cany4 1 4 7 10 (by kernel_rfl) (by unfold ops13 getOps; exact rfl) (by unfold ops13 getOps; exact rfl) (by unfold ops13 getOps; exact rfl) (by unfold ops13 getOps; exact rfl) ?_ ?_ ?_ ?_
  · simp [*, appendV, srcCells, St.forget, scr, scrC, setsV, -List.map_map]
    refine T022120 hr.out _ ?_
    simp [*, St3, arE, r3P, r3G, r3A, r3B, r3C, r3D, r3E, St.forget, scr, scrC, -List.map_map]
  · simp [*, appendV, srcCells, St.forget, scr, scrC, setsV, -List.map_map]
    refine T013120 hr.out _ ?_
    simp [*, St3, arE, r3P, r3G, r3A, r3B, r3C, r3D, r3E, St.forget, scr, scrC, -List.map_map]
  · simp [*, appendV, srcCells, St.forget, scr, scrC, setsV, -List.map_map]
    refine T012220 hr.out _ ?_
    simp [*, St3, arE, r3P, r3G, r3A, r3B, r3C, r3D, r3E, St.forget, scr, scrC, -List.map_map]
  · simp [*, appendV, srcCells, St.forget, scr, scrC, setsV, -List.map_map]
    refine T012130 hr.out _ ?_
    simp [*, St3, arE, r3P, r3G, r3A, r3B, r3C, r3D, r3E, St.forget, scr, scrC, -List.map_map]
theorem T013110 {r : R3} {K : St → Prop} (hr : R3ok r K) : ∀ t : St, St3 r 0 1 3 1 1 0 t → cAnyX noTab ops13 K 10 #[true, false, true, true, true, false, true, false, true, false, false, false, false, false, false, false] t := by
  rintro ⟨e, h⟩ q
  simp [St3, arE, r3P, r3G, r3A, r3B, r3C, r3D, r3E] at q
  obtain ⟨l0, l1, q0, q1, s0, s1, q7, q8, hK⟩ := id hr
  replace hr : Hid (_) := hr
  refine cany3 1 7 9 (by kernel_rfl) (by unfold ops13 getOps; exact rfl) (by unfold ops13 getOps; exact rfl) (by unfold ops13 getOps; exact rfl) ?_ ?_ ?_
  · simp [*, appendV, srcCells, St.forget, scr, scrC, setsV, -List.map_map]
    refine T023110 hr.out _ ?_
    simp [*, St3, arE, r3P, r3G, r3A, r3B, r3C, r3D, r3E, St.forget, scr, scrC, -List.map_map]
  · simp [*, appendV, srcCells, St.forget, scr, scrC, setsV, -List.map_map]
    refine T013210 hr.out _ ?_
    simp [*, St3, arE, r3P, r3G, r3A, r3B, r3C, r3D, r3E, St.forget, scr, scrC, -List.map_map]
  · simp [*, appendV, srcCells, St.forget, scr, scrC, setsV, -List.map_map]
    refine T013120 hr.out _ ?_
    simp [*, St3, arE, r3P, r3G, r3A, r3B, r3C, r3D, r3E, St.forget, scr, scrC, -List.map_map]
theorem T021210 {r : R3} {K : St → Prop} (hr : R3ok r K) : ∀ t : St, St3 r 0 2 1 2 1 0 t → cAnyX noTab ops13 K 10 #[true, true, true, false, false, false, true, true, true, false, false, false, false, false, false, false] t := by
  rintro ⟨e, h⟩ q
  simp [St3, arE, r3P, r3G, r3A, r3B, r3C, r3D, r3E] at q
  obtain ⟨l0, l1, q0, q1, s0, s1, q7, q8, hK⟩ := id hr
  replace hr : Hid (_) := hr
  refine cany2 3 9 (by kernel_rfl) (by unfold ops13 getOps; exact rfl) (by unfold ops13 getOps; exact rfl) ?_ ?_
  · simp [*, appendV, srcCells, St.forget, scr, scrC, setsV, -List.map_map]
    refine T022210 hr.out _ ?_
    simp [*, St3, arE, r3P, r3G, r3A, r3B, r3C, r3D, r3E, St.forget, scr, scrC, -List.map_map]
  · simp [*, appendV, srcCells, St.forget, scr, scrC, setsV, -List.map_map]
    refine T021220 hr.out _ ?_
    simp [*, St3, arE, r3P, r3G, r3A, r3B, r3C, r3D, r3E, St.forget, scr, scrC, -List.map_map]
theorem T002130 {r : R3} {K : St → Prop} (hr : R3ok r K) : ∀ t : St, St3 r 0 0 2 1 3 0 t → cAnyX noTab ops13 K 10 #[false, false, true, true, false, false, true, false, true, true, true, false, false, false, false, false] t := by
  rintro ⟨e, h⟩ q
  simp [St3, arE, r3P, r3G, r3A, r3B, r3C, r3D, r3E] at q
  obtain ⟨l0, l1, q0, q1, s0, s1, q7, q8, hK⟩ := id hr
  replace hr : Hid (_) := hr
  refine cany3 0 4 7 (by kernel_rfl) (by unfold ops13 getOps; exact rfl) (by unfold ops13 getOps; exact rfl) (by unfold ops13 getOps; exact rfl) ?_ ?_ ?_
  · simp [*, appendV, srcCells, St.forget, scr, scrC, setsV, -List.map_map]
    refine T012130 hr.out _ ?_
    simp [*, St3, arE, r3P, r3G, r3A, r3B, r3C, r3D, r3E, St.forget, scr, scrC, -List.map_map]
  · simp [*, appendV, srcCells, St.forget, scr, scrC, setsV, -List.map_map]
    refine T003130 hr.out _ ?_
    simp [*, St3, arE, r3P, r3G, r3A, r3B, r3C, r3D, r3E, St.forget, scr, scrC, -List.map_map]
  · simp [*, appendV, srcCells, St.forget, scr, scrC, setsV, -List.map_map]
    refine T002230 hr.out _ ?_
    simp [*, St3, arE, r3P, r3G, r3A, r3B, r3C, r3D, r3E, St.forget, scr, scrC, -List.map_map]
theorem T020220 {r : R3} {K : St → Prop} (hr : R3ok r K) : ∀ t : St, St3 r 0 2 0 2 2 0 t → cAnyX noTab ops13 K 10 #[true, true, false, false, false, false, true, true, true, true, false, false, false, false, false, false] t := by
  rintro ⟨e, h⟩ q
  simp [St3, arE, r3P, r3G, r3A, r3B, r3C, r3D, r3E] at q
  obtain ⟨l0, l1, q0, q1, s0, s1, q7, q8, hK⟩ := id hr
  replace hr : Hid (_) := hr
  refine cany2 2 10 (by kernel_rfl) (by unfold ops13 getOps; exact rfl) (by unfold ops13 getOps; exact rfl) ?_ ?_
  · simp [*, appendV, srcCells, St.forget, scr, scrC, setsV, -List.map_map]
    refine T021220 hr.out _ ?_
    simp [*, St3, arE, r3P, r3G, r3A, r3B, r3C, r3D, r3E, St.forget, scr, scrC, -List.map_map]
  · simp [*, appendV, srcCells, St.forget, scr, scrC, setsV, -List.map_map]
    refine T020230 hr.out _ ?_
    simp [*, St3, arE, r3P, r3G, r3A, r3B, r3C, r3D, r3E, St.forget, scr, scrC, -List.map_map]
theorem T021030 {r : R3} {K : St → Prop} (hr : R3ok r K) : ∀ t : St, St3 r 0 2 1 0 3 0 t → cAnyX noTab ops13 K 10 #[true, true, true, false, false, false, false, false, true, true, true, false, false, false, false, false] t := by
  rintro ⟨e, h⟩ q
  simp [St3, arE, r3P, r3G, r3A, r3B, r3C, r3D, r3E] at q
  obtain ⟨l0, l1, q0, q1, s0, s1, q7, q8, hK⟩ := id hr
  replace hr : Hid (_) := hr
  refine cany2 3 6 (by kernel_rfl) (by unfold ops13 getOps; exact rfl) (by unfold ops13 getOps; exact rfl) ?_ ?_
  · simp [*, appendV, srcCells, St.forget, scr, scrC, setsV, -List.map_map]
    refine T022030 hr.out _ ?_
    simp [*, St3, arE, r3P, r3G, r3A, r3B, r3C, r3D, r3E, St.forget, scr, scrC, -List.map_map]
  · simp [*, appendV, srcCells, St.forget, scr, scrC, setsV, -List.map_map]
    refine T021130 hr.out _ ?_
    simp [*, St3, arE, r3P, r3G, r3A, r3B, r3C, r3D, r3E, St.forget, scr, scrC, -List.map_map]
theorem T023010 {r : R3} {K : St → Prop} (hr : R3ok r K) : ∀ t : St, St3 r 0 2 3 0 1 0 t → cAnyX noTab ops13 K 10 #[true, true, true, true, true, false, false, false, true, false, false, false, false, false, false, false] t := by
  rintro ⟨e, h⟩ q
  simp [St3, arE, r3P, r3G, r3A, r3B, r3C, r3D, r3E] at q
  obtain ⟨l0, l1, q0, q1, s0, s1, q7, q8, hK⟩ := id hr
  replace hr : Hid (_) := hr
  refine cany3 5 6 9 (by kernel_rfl) (by unfold ops13 getOps; exact rfl) (by unfold ops13 getOps; exact rfl) (by unfold ops13 getOps; exact rfl) ?_ ?_ ?_
  · simp [*, appendV, srcCells, St.forget, scr, scrC, setsV, -List.map_map]
    refine T123010 hr.out _ ?_
    simp [*, St3, arE, r3P, r3G, r3A, r3B, r3C, r3D, r3E, St.forget, scr, scrC, -List.map_map]
  · simp [*, appendV, srcCells, St.forget, scr, scrC, setsV, -List.map_map]
    refine T023110 hr.out _ ?_
    simp [*, St3, arE, r3P, r3G, r3A, r3B, r3C, r3D, r3E, St.forget, scr, scrC, -List.map_map]
  · simp [*, appendV, srcCells, St.forget, scr, scrC, setsV, -List.map_map]
    refine T023020 hr.out _ ?_
    simp [*, St3, arE, r3P, r3G, r3A, r3B, r3C, r3D, r3E, St.forget, scr, scrC, -List.map_map]
theorem T022110 {r : R3} {K : St → Prop} (hr : R3ok r K) : ∀ t : St, St3 r 0 2 2 1 1 0 t → cAnyX noTab ops13 K 10 #[true, true, true, true, false, false, true, false, true, false, false, false, false, false, false, false] t := by
  rintro ⟨e, h⟩ q
  simp [St3, arE, r3P, r3G, r3A, r3B, r3C, r3D, r3E] at q
  obtain ⟨l0, l1, q0, q1, s0, s1, q7, q8, hK⟩ := id hr
  replace hr : Hid (_) := hr
  refine cany3 4 7 9 (by kernel_rfl) (by unfold ops13 getOps; exact rfl) (by unfold ops13 getOps; exact rfl) (by unfold ops13 getOps; exact rfl) ?_ ?_ ?_
  · simp [*, appendV, srcCells, St.forget, scr, scrC, setsV, -List.map_map]
    refine T023110 hr.out _ ?_
    simp [*, St3, arE, r3P, r3G, r3A, r3B, r3C, r3D, r3E, St.forget, scr, scrC, -List.map_map]
  · simp [*, appendV, srcCells, St.forget, scr, scrC, setsV, -List.map_map]
    refine T022210 hr.out _ ?_
    simp [*, St3, arE, r3P, r3G, r3A, r3B, r3C, r3D, r3E, St.forget, scr, scrC, -List.map_map]
  · simp [*, appendV, srcCells, St.forget, scr, scrC, setsV, -List.map_map]
    refine T022120 hr.out _ ?_
    simp [*, St3, arE, r3P, r3G, r3A, r3B, r3C, r3D, r3E, St.forget, scr, scrC, -List.map_map]
theorem T022010 {r : R3} {K : St → Prop} (hr : R3ok r K) : ∀ t : St, St3 r 0 2 2 0 1 0 t → cAnyX noTab ops13 K 11 #[true, true, true, true, false, false, false, false, true, false, false, false, false, false, false, false] t := by
  rintro ⟨e, h⟩ q
  simp [St3, arE, r3P, r3G, r3A, r3B, r3C, r3D, r3E] at q
  obtain ⟨l0, l1, q0, q1, s0, s1, q7, q8, hK⟩ := id hr
  replace hr : Hid (_) := hr
  refine cany3 4 6 9 (by kernel_rfl) (by unfold ops13 getOps; exact rfl) (by unfold ops13 getOps; exact rfl) (by unfold ops13 getOps; exact rfl) ?_ ?_ ?_
  · simp [*, appendV, srcCells, St.forget, scr, scrC, setsV, -List.map_map]
    refine T023010 hr.out _ ?_
    simp [*, St3, arE, r3P, r3G, r3A, r3B, r3C, r3D, r3E, St.forget, scr, scrC, -List.map_map]
  · simp [*, appendV, srcCells, St.forget, scr, scrC, setsV, -List.map_map]
    refine T022110 hr.out _ ?_
    simp [*, St3, arE, r3P, r3G, r3A, r3B, r3C, r3D, r3E, St.forget, scr, scrC, -List.map_map]
  · simp [*, appendV, srcCells, St.forget, scr, scrC, setsV, -List.map_map]
    refine T022020 hr.out _ ?_
    simp [*, St3, arE, r3P, r3G, r3A, r3B, r3C, r3D, r3E, St.forget, scr, scrC, -List.map_map]
theorem T010220 {r : R3} {K : St → Prop} (hr : R3ok r K) : ∀ t : St, St3 r 0 1 0 2 2 0 t → cAnyX noTab ops13 K 11 #[true, false, false, false, false, false, true, true, true, true, false, false, false, false, false, false] t := by
  rintro ⟨e, h⟩ q
  simp [St3, arE, r3P, r3G, r3A, r3B, r3C, r3D, r3E] at q
  obtain ⟨l0, l1, q0, q1, s0, s1, q7, q8, hK⟩ := id hr
  replace hr : Hid (_) := hr
  refine cany3 1 2 10 (by kernel_rfl) (by unfold ops13 getOps; exact rfl) (by unfold ops13 getOps; exact rfl) (by unfold ops13 getOps; exact rfl) ?_ ?_ ?_
  · simp [*, appendV, srcCells, St.forget, scr, scrC, setsV, -List.map_map]
    refine T020220 hr.out _ ?_
    simp [*, St3, arE, r3P, r3G, r3A, r3B, r3C, r3D, r3E, St.forget, scr, scrC, -List.map_map]
  · simp [*, appendV, srcCells, St.forget, scr, scrC, setsV, -List.map_map]
    refine T011220 hr.out _ ?_
    simp [*, St3, arE, r3P, r3G, r3A, r3B, r3C, r3D, r3E, St.forget, scr, scrC, -List.map_map]
  · simp [*, appendV, srcCells, St.forget, scr, scrC, setsV, -List.map_map]
    refine T010230 hr.out _ ?_
    simp [*, St3, arE, r3P, r3G, r3A, r3B, r3C, r3D, r3E, St.forget, scr, scrC, -List.map_map]
theorem T013100 {r : R3} {K : St → Prop} (hr : R3ok r K) : ∀ t : St, St3 r 0 1 3 1 0 0 t → cAnyX noTab ops13 K 11 #[true, false, true, true, true, false, true, false, false, false, false, false, false, false, false, false] t := by
  rintro ⟨e, h⟩ q
  simp [St3, arE, r3P, r3G, r3A, r3B, r3C, r3D, r3E] at q
  obtain ⟨l0, l1, q0, q1, s0, s1, q7, q8, hK⟩ := id hr
  replace hr : Hid (_) := hr
  refine cany3 1 7 8 (by kernel_rfl) (by unfold ops13 getOps; exact rfl) (by unfold ops13 getOps; exact rfl) (by unfold ops13 getOps; exact rfl) ?_ ?_ ?_
  · simp [*, appendV, srcCells, St.forget, scr, scrC, setsV, -List.map_map]
    refine T023100 hr.out _ ?_
    simp [*, St3, arE, r3P, r3G, r3A, r3B, r3C, r3D, r3E, St.forget, scr, scrC, -List.map_map]
  · simp [*, appendV, srcCells, St.forget, scr, scrC, setsV, -List.map_map]
    refine T013200 hr.out _ ?_
    simp [*, St3, arE, r3P, r3G, r3A, r3B, r3C, r3D, r3E, St.forget, scr, scrC, -List.map_map]
  · simp [*, appendV, srcCells, St.forget, scr, scrC, setsV, -List.map_map]
    refine T013110 hr.out _ ?_
    simp [*, St3, arE, r3P, r3G, r3A, r3B, r3C, r3D, r3E, St.forget, scr, scrC, -List.map_map]
theorem T002030 {r : R3} {K : St → Prop} (hr : R3ok r K) : ∀ t : St, St3 r 0 0 2 0 3 0 t → cAnyX noTab ops13 K 11 #[false, false, true, true, false, false, false, false, true, true, true, false, false, false, false, false] t := by
  rintro ⟨e, h⟩ q
  simp [St3, arE, r3P, r3G, r3A, r3B, r3C, r3D, r3E] at q
  obtain ⟨l0, l1, q0, q1, s0, s1, q7, q8, hK⟩ := id hr
  replace hr : Hid (_) := hr
  refine cany3 0 4 6 (by kernel_rfl) (by unfold ops13 getOps; exact rfl) (by unfold ops13 getOps; exact rfl) (by unfold ops13 getOps; exact rfl) ?_ ?_ ?_
  · simp [*, appendV, srcCells, St.forget, scr, scrC, setsV, -List.map_map]
    refine T012030 hr.out _ ?_
    simp [*, St3, arE, r3P, r3G, r3A, r3B, r3C, r3D, r3E, St.forget, scr, scrC, -List.map_map]
  · simp [*, appendV, srcCells, St.forget, scr, scrC, setsV, -List.map_map]
    refine T003030 hr.out _ ?_
    simp [*, St3, arE, r3P, r3G, r3A, r3B, r3C, r3D, r3E, St.forget, scr, scrC, -List.map_map]
  · simp [*, appendV, srcCells, St.forget, scr, scrC, setsV, -List.map_map]
    refine T002130 hr.out _ ?_
    simp [*, St3, arE, r3P, r3G, r3A, r3B, r3C, r3D, r3E, St.forget, scr, scrC, -List.map_map]
theorem T021200 {r : R3} {K : St → Prop} (hr : R3ok r K) : ∀ t : St, St3 r 0 2 1 2 0 0 t → cAnyX noTab ops13 K 11 #[true, true, true, false, false, false, true, true, false, false, false, false, false, false, false, false] t := by
  rintro ⟨e, h⟩ q
  simp [St3, arE, r3P, r3G, r3A, r3B, r3C, r3D, r3E] at q
  obtain ⟨l0, l1, q0, q1, s0, s1, q7, q8, hK⟩ := id hr
  replace hr : Hid (_) := hr
  refine cany2 3 8 (by kernel_rfl) (by unfold ops13 getOps; exact rfl) (by unfold ops13 getOps; exact rfl) ?_ ?_
  · simp [*, appendV, srcCells, St.forget, scr, scrC, setsV, -List.map_map]
    refine T022200 hr.out _ ?_
    simp [*, St3, arE, r3P, r3G, r3A, r3B, r3C, r3D, r3E, St.forget, scr, scrC, -List.map_map]
  · simp [*, appendV, srcCells, St.forget, scr, scrC, setsV, -List.map_map]
    refine T021210 hr.out _ ?_
    simp [*, St3, arE, r3P, r3G, r3A, r3B, r3C, r3D, r3E, St.forget, scr, scrC, -List.map_map]
theorem T020210 {r : R3} {K : St → Prop} (hr : R3ok r K) : ∀ t : St, St3 r 0 2 0 2 1 0 t → cAnyX noTab ops13 K 11 #[true, true, false, false, false, false, true, true, true, false, false, false, false, false, false, false] t := by
  rintro ⟨e, h⟩ q
  simp [St3, arE, r3P, r3G, r3A, r3B, r3C, r3D, r3E] at q
  obtain ⟨l0, l1, q0, q1, s0, s1, q7, q8, hK⟩ := id hr
  replace hr : Hid (_) := hr
  refine cany2 2 9 (by kernel_rfl) (by unfold ops13 getOps; exact rfl) (by unfold ops13 getOps; exact rfl) ?_ ?_
  · simp [*, appendV, srcCells, St.forget, scr, scrC, setsV, -List.map_map]
    refine T021210 hr.out _ ?_
    simp [*, St3, arE, r3P, r3G, r3A, r3B, r3C, r3D, r3E, St.forget, scr, scrC, -List.map_map]
  · simp [*, appendV, srcCells, St.forget, scr, scrC, setsV, -List.map_map]
    refine T020220 hr.out _ ?_
    simp [*, St3, arE, r3P, r3G, r3A, r3B, r3C, r3D, r3E, St.forget, scr, scrC, -List.map_map]
theorem T002120 {r : R3} {K : St → Prop} (hr : R3ok r K) : ∀ t : St, St3 r 0 0 2 1 2 0 t → cAnyX noTab ops13 K 11 #[false, false, true, true, false, false, true, false, true, true, false, false, false, false, false, false] t := by
  rintro ⟨e, h⟩ q
  simp [St3, arE, r3P, r3G, r3A, r3B, r3C, r3D, r3E] at q
  obtain ⟨l0, l1, q0, q1, s0, s1, q7, q8, hK⟩ := id hr
  replace hr : Hid (_) := hr
  refine cany4 0 4 7 10 (by kernel_rfl) (by unfold ops13 getOps; exact rfl) (by unfold ops13 getOps; exact rfl) (by unfold ops13 getOps; exact rfl) (by unfold ops13 getOps; exact rfl) ?_ ?_ ?_ ?_
  · simp [*, appendV, srcCells, St.forget, scr, scrC, setsV, -List.map_map]
    refine T012120 hr.out _ ?_
    simp [*, St3, arE, r3P, r3G, r3A, r3B, r3C, r3D, r3E, St.forget, scr, scrC, -List.map_map]
  · simp [*, appendV, srcCells, St.forget, scr, scrC, setsV, -List.map_map]
    refine T003120 hr.out _ ?_
    simp [*, St3, arE, r3P, r3G, r3A, r3B, r3C, r3D, r3E, St.forget, scr, scrC, -List.map_map]
  · simp [*, appendV, srcCells, St.forget, scr, scrC, setsV, -List.map_map]
    refine T002220 hr.out _ ?_
    simp [*, St3, arE, r3P, r3G, r3A, r3B, r3C, r3D, r3E, St.forget, scr, scrC, -List.map_map]
  · simp [*, appendV, srcCells, St.forget, scr, scrC, setsV, -List.map_map]
    refine T002130 hr.out _ ?_
    simp [*, St3, arE, r3P, r3G, r3A, r3B, r3C, r3D, r3E, St.forget, scr, scrC, -List.map_map]
theorem T023000 {r : R3} {K : St → Prop} (hr : R3ok r K) : ∀ t : St, St3 r 0 2 3 0 0 0 t → cAnyX noTab ops13 K 11 #[true, true, true, true, true, false, false, false, false, false, false, false, false, false, false, false] t := by
  rintro ⟨e, h⟩ q
  simp [St3, arE, r3P, r3G, r3A, r3B, r3C, r3D, r3E] at q
  obtain ⟨l0, l1, q0, q1, s0, s1, q7, q8, hK⟩ := id hr
  replace hr : Hid (_) := hr
  refine cany3 5 6 8 (by kernel_rfl) (by unfold ops13 getOps; exact rfl) (by unfold ops13 getOps; exact rfl) (by unfold ops13 getOps; exact rfl) ?_ ?_ ?_
  · simp [*, appendV, srcCells, St.forget, scr, scrC, setsV, -List.map_map]
    refine T123000 hr.out _ ?_
    simp [*, St3, arE, r3P, r3G, r3A, r3B, r3C, r3D, r3E, St.forget, scr, scrC, -List.map_map]
  · simp [*, appendV, srcCells, St.forget, scr, scrC, setsV, -List.map_map]
    refine T023100 hr.out _ ?_
    simp [*, St3, arE, r3P, r3G, r3A, r3B, r3C, r3D, r3E, St.forget, scr, scrC, -List.map_map]
  · simp [*, appendV, srcCells, St.forget, scr, scrC, setsV, -List.map_map]
    refine T023010 hr.out _ ?_
    simp [*, St3, arE, r3P, r3G, r3A, r3B, r3C, r3D, r3E, St.forget, scr, scrC, -List.map_map]
theorem T022100 {r : R3} {K : St → Prop} (hr : R3ok r K) : ∀ t : St, St3 r 0 2 2 1 0 0 t → cAnyX noTab ops13 K 11 #[true, true, true, true, false, false, true, false, false, false, false, false, false, false, false, false] t := by
  rintro ⟨e, h⟩ q
  simp [St3, arE, r3P, r3G, r3A, r3B, r3C, r3D, r3E] at q
  obtain ⟨l0, l1, q0, q1, s0, s1, q7, q8, hK⟩ := id hr
  replace hr : Hid (_) := hr
  refine cany3 4 7 8 (by kernel_rfl) (by unfold ops13 getOps; exact rfl) (by unfold ops13 getOps; exact rfl) (by unfold ops13 getOps; exact rfl) ?_ ?_ ?_
  · simp [*, appendV, srcCells, St.forget, scr, scrC, setsV, -List.map_map]
    refine T023100 hr.out _ ?_
    simp [*, St3, arE, r3P, r3G, r3A, r3B, r3C, r3D, r3E, St.forget, scr, scrC, -List.map_map]
  · simp [*, appendV, srcCells, St.forget, scr, scrC, setsV, -List.map_map]
    refine T022200 hr.out _ ?_
    simp [*, St3, arE, r3P, r3G, r3A, r3B, r3C, r3D, r3E, St.forget, scr, scrC, -List.map_map]
  · simp [*, appendV, srcCells, St.forget, scr, scrC, setsV, -List.map_map]
    refine T022110 hr.out _ ?_
    simp [*, St3, arE, r3P, r3G, r3A, r3B, r3C, r3D, r3E, St.forget, scr, scrC, -List.map_map]
theorem T012110 {r : R3} {K : St → Prop} (hr : R3ok r K) : ∀ t : St, St3 r 0 1 2 1 1 0 t → cAnyX noTab ops13 K 11 #[true, false, true, true, false, false, true, false, true, false, false, false, false, false, false, false] t := by
  rintro ⟨e, h⟩ q
  simp [St3, arE, r3P, r3G, r3A, r3B, r3C, r3D, r3E] at q
  obtain ⟨l0, l1, q0, q1, s0, s1, q7, q8, hK⟩ := id hr
  replace hr : Hid (_) := hr
  refine cany4 1 4 7 9 (by kernel_rfl) (by unfold ops13 getOps; exact rfl) (by unfold ops13 getOps; exact rfl) (by unfold ops13 getOps; exact rfl) (by unfold ops13 getOps; exact rfl) ?_ ?_ ?_ ?_
  · simp [*, appendV, srcCells, St.forget, scr, scrC, setsV, -List.map_map]
    refine T022110 hr.out _ ?_
    simp [*, St3, arE, r3P, r3G, r3A, r3B, r3C, r3D, r3E, St.forget, scr, scrC, -List.map_map]
  · simp [*, appendV, srcCells, St.forget, scr, scrC, setsV, -List.map_map]
    refine T013110 hr.out _ ?_
    simp [*, St3, arE, r3P, r3G, r3A, r3B, r3C, r3D, r3E, St.forget, scr, scrC, -List.map_map]
  · simp [*, appendV, srcCells, St.forget, scr, scrC, setsV, -List.map_map]
    refine T012210 hr.out _ ?_
    simp [*, St3, arE, r3P, r3G, r3A, r3B, r3C, r3D, r3E, St.forget, scr, scrC, -List.map_map]
  · simp [*, appendV, srcCells, St.forget, scr, scrC, setsV, -List.map_map]
    refine T012120 hr.out _ ?_
    simp [*, St3, arE, r3P, r3G, r3A, r3B, r3C, r3D, r3E, St.forget, scr, scrC, -List.map_map]
theorem T020120 {r : R3} {K : St → Prop} (hr : R3ok r K) : ∀ t : St, St3 r 0 2 0 1 2 0 t → cAnyX noTab ops13 K 11 #[true, true, false, false, false, false, true, false, true, true, false, false, false, false, false, false] t := by
  rintro ⟨e, h⟩ q
  simp [St3, arE, r3P, r3G, r3A, r3B, r3C, r3D, r3E] at q
  obtain ⟨l0, l1, q0, q1, s0, s1, q7, q8, hK⟩ := id hr
  replace hr : Hid (_) := hr
  refine cany3 2 7 10 (by kernel_rfl) (by unfold ops13 getOps; exact rfl) (by unfold ops13 getOps; exact rfl) (by unfold ops13 getOps; exact rfl) ?_ ?_ ?_
  · simp [*, appendV, srcCells, St.forget, scr, scrC, setsV, -List.map_map]
    refine T021120 hr.out _ ?_
    simp [*, St3, arE, r3P, r3G, r3A, r3B, r3C, r3D, r3E, St.forget, scr, scrC, -List.map_map]
  · simp [*, appendV, srcCells, St.forget, scr, scrC, setsV, -List.map_map]
    refine T020220 hr.out _ ?_
    simp [*, St3, arE, r3P, r3G, r3A, r3B, r3C, r3D, r3E, St.forget, scr, scrC, -List.map_map]
  · simp [*, appendV, srcCells, St.forget, scr, scrC, setsV, -List.map_map]
    refine T020130 hr.out _ ?_
    simp [*, St3, arE, r3P, r3G, r3A, r3B, r3C, r3D, r3E, St.forget, scr, scrC, -List.map_map]
theorem T001130 {r : R3} {K : St → Prop} (hr : R3ok r K) : ∀ t : St, St3 r 0 0 1 1 3 0 t → cAnyX noTab ops13 K 11 #[false, false, true, false, false, false, true, false, true, true, true, false, false, false, false, false] t := by
  rintro ⟨e, h⟩ q
  simp [St3, arE, r3P, r3G, r3A, r3B, r3C, r3D, r3E] at q
  obtain ⟨l0, l1, q0, q1, s0, s1, q7, q8, hK⟩ := id hr
  replace hr : Hid (_) := hr
  refine cany3 0 3 7 (by kernel_rfl) (by unfold ops13 getOps; exact rfl) (by unfold ops13 getOps; exact rfl) (by unfold ops13 getOps; exact rfl) ?_ ?_ ?_
  · simp [*, appendV, srcCells, St.forget, scr, scrC, setsV, -List.map_map]
    refine T011130 hr.out _ ?_
    simp [*, St3, arE, r3P, r3G, r3A, r3B, r3C, r3D, r3E, St.forget, scr, scrC, -List.map_map]
  · simp [*, appendV, srcCells, St.forget, scr, scrC, setsV, -List.map_map]
    refine T002130 hr.out _ ?_
    simp [*, St3, arE, r3P, r3G, r3A, r3B, r3C, r3D, r3E, St.forget, scr, scrC, -List.map_map]
  · simp [*, appendV, srcCells, St.forget, scr, scrC, setsV, -List.map_map]
    refine T001230 hr.out _ ?_
    simp [*, St3, arE, r3P, r3G, r3A, r3B, r3C, r3D, r3E, St.forget, scr, scrC, -List.map_map]
theorem T021020 {r : R3} {K : St → Prop} (hr : R3ok r K) : ∀ t : St, St3 r 0 2 1 0 2 0 t → cAnyX noTab ops13 K 11 #[true, true, true, false, false, false, false, false, true, true, false, false, false, false, false, false] t := by
  rintro ⟨e, h⟩ q
  simp [St3, arE, r3P, r3G, r3A, r3B, r3C, r3D, r3E] at q
  obtain ⟨l0, l1, q0, q1, s0, s1, q7, q8, hK⟩ := id hr
  replace hr : Hid (_) := hr
  refine cany3 3 6 10 (by kernel_rfl) (by unfold ops13 getOps; exact rfl) (by unfold ops13 getOps; exact rfl) (by unfold ops13 getOps; exact rfl) ?_ ?_ ?_
  · simp [*, appendV, srcCells, St.forget, scr, scrC, setsV, -List.map_map]
    refine T022020 hr.out _ ?_
    simp [*, St3, arE, r3P, r3G, r3A, r3B, r3C, r3D, r3E, St.forget, scr, scrC, -List.map_map]
  · simp [*, appendV, srcCells, St.forget, scr, scrC, setsV, -List.map_map]
    refine T021120 hr.out _ ?_
    simp [*, St3, arE, r3P, r3G, r3A, r3B, r3C, r3D, r3E, St.forget, scr, scrC, -List.map_map]
  · simp [*, appendV, srcCells, St.forget, scr, scrC, setsV, -List.map_map]
    refine T021030 hr.out _ ?_
    simp [*, St3, arE, r3P, r3G, r3A, r3B, r3C, r3D, r3E, St.forget, scr, scrC, -List.map_map]
theorem T011030 {r : R3} {K : St → Prop} (hr : R3ok r K) : ∀ t : St, St3 r 0 1 1 0 3 0 t → cAnyX noTab ops13 K 11 #[true, false, true, false, false, false, false, false, true, true, true, false, false, false, false, false] t := by
  rintro ⟨e, h⟩ q
  simp [St3, arE, r3P, r3G, r3A, r3B, r3C, r3D, r3E] at q
  obtain ⟨l0, l1, q0, q1, s0, s1, q7, q8, hK⟩ := id hr
  replace hr : Hid (_) := hr
  refine cany3 1 3 6 (by kernel_rfl) (by unfold ops13 getOps; exact rfl) (by unfold ops13 getOps; exact rfl) (by unfold ops13 getOps; exact rfl) ?_ ?_ ?_
  · simp [*, appendV, srcCells, St.forget, scr, scrC, setsV, -List.map_map]
    refine T021030 hr.out _ ?_
    simp [*, St3, arE, r3P, r3G, r3A, r3B, r3C, r3D, r3E, St.forget, scr, scrC, -List.map_map]
  · simp [*, appendV, srcCells, St.forget, scr, scrC, setsV, -List.map_map]
    refine T012030 hr.out _ ?_
    simp [*, St3, arE, r3P, r3G, r3A, r3B, r3C, r3D, r3E, St.forget, scr, scrC, -List.map_map]
  · simp [*, appendV, srcCells, St.forget, scr, scrC, setsV, -List.map_map]
    refine T011130 hr.out _ ?_
    simp [*, St3, arE, r3P, r3G, r3A, r3B, r3C, r3D, r3E, St.forget, scr, scrC, -List.map_map]
theorem T000230 {r : R3} {K : St → Prop} (hr : R3ok r K) : ∀ t : St, St3 r 0 0 0 2 3 0 t → cAnyX noTab ops13 K 11 #[false, false, false, false, false, false, true, true, true, true, true, false, false, false, false, false] t := by
  rintro ⟨e, h⟩ q
  simp [St3, arE, r3P, r3G, r3A, r3B, r3C, r3D, r3E] at q
  obtain ⟨l0, l1, q0, q1, s0, s1, q7, q8, hK⟩ := id hr
  replace hr : Hid (_) := hr
  refine cany2 0 2 (by kernel_rfl) (by unfold ops13 getOps; exact rfl) (by unfold ops13 getOps; exact rfl) ?_ ?_
  · simp [*, appendV, srcCells, St.forget, scr, scrC, setsV, -List.map_map]
    refine T010230 hr.out _ ?_
    simp [*, St3, arE, r3P, r3G, r3A, r3B, r3C, r3D, r3E, St.forget, scr, scrC, -List.map_map]
  · simp [*, appendV, srcCells, St.forget, scr, scrC, setsV, -List.map_map]
    refine T001230 hr.out _ ?_
    simp [*, St3, arE, r3P, r3G, r3A, r3B, r3C, r3D, r3E, St.forget, scr, scrC, -List.map_map]
theorem T012020 {r : R3} {K : St → Prop} (hr : R3ok r K) : ∀ t : St, St3 r 0 1 2 0 2 0 t → cAnyX noTab ops13 K 11 #[true, false, true, true, false, false, false, false, true, true, false, false, false, false, false, false] t := by
  rintro ⟨e, h⟩ q
  simp [St3, arE, r3P, r3G, r3A, r3B, r3C, r3D, r3E] at q
  obtain ⟨l0, l1, q0, q1, s0, s1, q7, q8, hK⟩ := id hr
  replace hr : Hid (_) := hr
  refine cany4 1 4 6 10 (by kernel_rfl) (by unfold ops13 getOps; exact rfl) (by unfold ops13 getOps; exact rfl) (by unfold ops13 getOps; exact rfl) (by unfold ops13 getOps; exact rfl) ?_ ?_ ?_ ?_
  · simp [*, appendV, srcCells, St.forget, scr, scrC, setsV, -List.map_map]
    refine T022020 hr.out _ ?_
    simp [*, St3, arE, r3P, r3G, r3A, r3B, r3C, r3D, r3E, St.forget, scr, scrC, -List.map_map]
  · simp [*, appendV, srcCells, St.forget, scr, scrC, setsV, -List.map_map]
    refine T013020 hr.out _ ?_
    simp [*, St3, arE, r3P, r3G, r3A, r3B, r3C, r3D, r3E, St.forget, scr, scrC, -List.map_map]
  · simp [*, appendV, srcCells, St.forget, scr, scrC, setsV, -List.map_map]
    refine T012120 hr.out _ ?_
    simp [*, St3, arE, r3P, r3G, r3A, r3B, r3C, r3D, r3E, St.forget, scr, scrC, -List.map_map]
  · simp [*, appendV, srcCells, St.forget, scr, scrC, setsV, -List.map_map]
    refine T012030 hr.out _ ?_
    simp [*, St3, arE, r3P, r3G, r3A, r3B, r3C, r3D, r3E, St.forget, scr, scrC, -List.map_map]
theorem T003110 {r : R3} {K : St → Prop} (hr : R3ok r K) : ∀ t : St, St3 r 0 0 3 1 1 0 t → cAnyX noTab ops13 K 11 #[false, false, true, true, true, false, true, false, true, false, false, false, false, false, false, false] t := by
  rintro ⟨e, h⟩ q
  simp [St3, arE, r3P, r3G, r3A, r3B, r3C, r3D, r3E] at q
  obtain ⟨l0, l1, q0, q1, s0, s1, q7, q8, hK⟩ := id hr
  replace hr : Hid (_) := hr
  refine cany3 0 7 9 (by kernel_rfl) (by unfold ops13 getOps; exact rfl) (by unfold ops13 getOps; exact rfl) (by unfold ops13 getOps; exact rfl) ?_ ?_ ?_
  · simp [*, appendV, srcCells, St.forget, scr, scrC, setsV, -List.map_map]
    refine T013110 hr.out _ ?_
    simp [*, St3, arE, r3P, r3G, r3A, r3B, r3C, r3D, r3E, St.forget, scr, scrC, -List.map_map]
  · simp [*, appendV, srcCells, St.forget, scr, scrC, setsV, -List.map_map]
    refine T003210 hr.out _ ?_
    simp [*, St3, arE, r3P, r3G, r3A, r3B, r3C, r3D, r3E, St.forget, scr, scrC, -List.map_map]
  · simp [*, appendV, srcCells, St.forget, scr, scrC, setsV, -List.map_map]
    refine T003120 hr.out _ ?_
    simp [*, St3, arE, r3P, r3G, r3A, r3B, r3C, r3D, r3E, St.forget, scr, scrC, -List.map_map]
theorem T021110 {r : R3} {K : St → Prop} (hr : R3ok r K) : ∀ t : St, St3 r 0 2 1 1 1 0 t → cAnyX noTab ops13 K 11 #[true, true, true, false, false, false, true, false, true, false, false, false, false, false, false, false] t := by
  rintro ⟨e, h⟩ q
  simp [St3, arE, r3P, r3G, r3A, r3B, r3C, r3D, r3E] at q
  obtain ⟨l0, l1, q0, q1, s0, s1, q7, q8, hK⟩ := id hr
  replace hr : Hid (_) := hr
  refine cany3 3 7 9 (by kernel_rfl) (by unfold ops13 getOps; exact rfl) (by unfold ops13 getOps; exact rfl) (by unfold ops13 getOps; exact rfl) ?_ ?_ ?_
  · simp [*, appendV, srcCells, St.forget, scr, scrC, setsV, -List.map_map]
    refine T022110 hr.out _ ?_
    simp [*, St3, arE, r3P, r3G, r3A, r3B, r3C, r3D, r3E, St.forget, scr, scrC, -List.map_map]
  · simp [*, appendV, srcCells, St.forget, scr, scrC, setsV, -List.map_map]
    refine T021210 hr.out _ ?_
    simp [*, St3, arE, r3P, r3G, r3A, r3B, r3C, r3D, r3E, St.forget, scr, scrC, -List.map_map]
  · simp [*, appendV, srcCells, St.forget, scr, scrC, setsV, -List.map_map]
    refine T021120 hr.out _ ?_
    simp [*, St3, arE, r3P, r3G, r3A, r3B, r3C, r3D, r3E, St.forget, scr, scrC, -List.map_map]
theorem T010130 {r : R3} {K : St → Prop} (hr : R3ok r K) : ∀ t : St, St3 r 0 1 0 1 3 0 t → cAnyX noTab ops13 K 11 #[true, false, false, false, false, false, true, false, true, true, true, false, false, false, false, false] t := by
  rintro ⟨e, h⟩ q
  simp [St3, arE, r3P, r3G, r3A, r3B, r3C, r3D, r3E] at q
  obtain ⟨l0, l1, q0, q1, s0, s1, q7, q8, hK⟩ := id hr
  replace hr : Hid (_) := hr
  refine cany3 1 2 7 (by kernel_rfl) (by unfold ops13 getOps; exact rfl) (by unfold ops13 getOps; exact rfl) (by unfold ops13 getOps; exact rfl) ?_ ?_ ?_
  · simp [*, appendV, srcCells, St.forget, scr, scrC, setsV, -List.map_map]
    refine T020130 hr.out _ ?_
    simp [*, St3, arE, r3P, r3G, r3A, r3B, r3C, r3D, r3E, St.forget, scr, scrC, -List.map_map]
  · simp [*, appendV, srcCells, St.forget, scr, scrC, setsV, -List.map_map]
    refine T011130 hr.out _ ?_
    simp [*, St3, arE, r3P, r3G, r3A, r3B, r3C, r3D, r3E, St.forget, scr, scrC, -List.map_map]
  · simp [*, appendV, srcCells, St.forget, scr, scrC, setsV, -List.map_map]
    refine T010230 hr.out _ ?_
    simp [*, St3, arE, r3P, r3G, r3A, r3B, r3C, r3D, r3E, St.forget, scr, scrC, -List.map_map]
theorem T002210 {r : R3} {K : St → Prop} (hr : R3ok r K) : ∀ t : St, St3 r 0 0 2 2 1 0 t → cAnyX noTab ops13 K 11 #[false, false, true, true, false, false, true, true, true, false, false, false, false, false, false, false] t := by
  rintro ⟨e, h⟩ q
  simp [St3, arE, r3P, r3G, r3A, r3B, r3C, r3D, r3E] at q
  obtain ⟨l0, l1, q0, q1, s0, s1, q7, q8, hK⟩ := id hr
  replace hr : Hid (_) := hr
  refine cany3 0 4 9 (by kernel_rfl) (by unfold ops13 getOps; exact rfl) (by unfold ops13 getOps; exact rfl) (by unfold ops13 getOps; exact rfl) ?_ ?_ ?_
  · simp [*, appendV, srcCells, St.forget, scr, scrC, setsV, -List.map_map]
    refine T012210 hr.out _ ?_
    simp [*, St3, arE, r3P, r3G, r3A, r3B, r3C, r3D, r3E, St.forget, scr, scrC, -List.map_map]
  · simp [*, appendV, srcCells, St.forget, scr, scrC, setsV, -List.map_map]
    refine T003210 hr.out _ ?_
    simp [*, St3, arE, r3P, r3G, r3A, r3B, r3C, r3D, r3E, St.forget, scr, scrC, -List.map_map]
  · simp [*, appendV, srcCells, St.forget, scr, scrC, setsV, -List.map_map]
    refine T002220 hr.out _ ?_
    simp [*, St3, arE, r3P, r3G, r3A, r3B, r3C, r3D, r3E, St.forget, scr, scrC, -List.map_map]
theorem T011210 {r : R3} {K : St → Prop} (hr : R3ok r K) : ∀ t : St, St3 r 0 1 1 2 1 0 t → cAnyX noTab ops13 K 11 #[true, false, true, false, false, false, true, true, true, false, false, false, false, false, false, false] t := by
  rintro ⟨e, h⟩ q
  simp [St3, arE, r3P, r3G, r3A, r3B, r3C, r3D, r3E] at q
  obtain ⟨l0, l1, q0, q1, s0, s1, q7, q8, hK⟩ := id hr
  replace hr : Hid (_) := hr
  refine cany3 1 3 9 (by kernel_rfl) (by unfold ops13 getOps; exact rfl) (by unfold ops13 getOps; exact rfl) (by unfold ops13 getOps; exact rfl) ?_ ?_ ?_
  · simp [*, appendV, srcCells, St.forget, scr, scrC, setsV, -List.map_map]
    refine T021210 hr.out _ ?_
    simp [*, St3, arE, r3P, r3G, r3A, r3B, r3C, r3D, r3E, St.forget, scr, scrC, -List.map_map]
  · simp [*, appendV, srcCells, St.forget, scr, scrC, setsV, -List.map_map]
    refine T012210 hr.out _ ?_
    simp [*, St3, arE, r3P, r3G, r3A, r3B, r3C, r3D, r3E, St.forget, scr, scrC, -List.map_map]
  · simp [*, appendV, srcCells, St.forget, scr, scrC, setsV, -List.map_map]
    refine T011220 hr.out _ ?_
    simp [*, St3, arE, r3P, r3G, r3A, r3B, r3C, r3D, r3E, St.forget, scr, scrC, -List.map_map]
theorem T001220 {r : R3} {K : St → Prop} (hr : R3ok r K) : ∀ t : St, St3 r 0 0 1 2 2 0 t → cAnyX noTab ops13 K 11 #[false, false, true, false, false, false, true, true, true, true, false, false, false, false, false, false] t := by
  rintro ⟨e, h⟩ q
  simp [St3, arE, r3P, r3G, r3A, r3B, r3C, r3D, r3E] at q
  obtain ⟨l0, l1, q0, q1, s0, s1, q7, q8, hK⟩ := id hr
  replace hr : Hid (_) := hr
  refine cany3 0 3 10 (by kernel_rfl) (by unfold ops13 getOps; exact rfl) (by unfold ops13 getOps; exact rfl) (by unfold ops13 getOps; exact rfl) ?_ ?_ ?_
  · simp [*, appendV, srcCells, St.forget, scr, scrC, setsV, -List.map_map]
    refine T011220 hr.out _ ?_
    simp [*, St3, arE, r3P, r3G, r3A, r3B, r3C, r3D, r3E, St.forget, scr, scrC, -List.map_map]
  · simp [*, appendV, srcCells, St.forget, scr, scrC, setsV, -List.map_map]
    refine T002220 hr.out _ ?_
    simp [*, St3, arE, r3P, r3G, r3A, r3B, r3C, r3D, r3E, St.forget, scr, scrC, -List.map_map]
  · simp [*, appendV, srcCells, St.forget, scr, scrC, setsV, -List.map_map]
    refine T001230 hr.out _ ?_
    simp [*, St3, arE, r3P, r3G, r3A, r3B, r3C, r3D, r3E, St.forget, scr, scrC, -List.map_map]
theorem T012200 {r : R3} {K : St → Prop} (hr : R3ok r K) : ∀ t : St, St3 r 0 1 2 2 0 0 t → cAnyX noTab ops13 K 11 #[true, false, true, true, false, false, true, true, false, false, false, false, false, false, false, false] t := by
  rintro ⟨e, h⟩ q
  simp [St3, arE, r3P, r3G, r3A, r3B, r3C, r3D, r3E] at q
  obtain ⟨l0, l1, q0, q1, s0, s1, q7, q8, hK⟩ := id hr
  replace hr : Hid (_) := hr
  refine cany3 1 4 8 (by kernel_rfl) (by unfold ops13 getOps; exact rfl) (by unfold ops13 getOps; exact rfl) (by unfold ops13 getOps; exact rfl) ?_ ?_ ?_
  · simp [*, appendV, srcCells, St.forget, scr, scrC, setsV, -List.map_map]
    refine T022200 hr.out _ ?_
    simp [*, St3, arE, r3P, r3G, r3A, r3B, r3C, r3D, r3E, St.forget, scr, scrC, -List.map_map]
  · simp [*, appendV, srcCells, St.forget, scr, scrC, setsV, -List.map_map]
    refine T013200 hr.out _ ?_
    simp [*, St3, arE, r3P, r3G, r3A, r3B, r3C, r3D, r3E, St.forget, scr, scrC, -List.map_map]
  · simp [*, appendV, srcCells, St.forget, scr, scrC, setsV, -List.map_map]
    refine T012210 hr.out _ ?_
    simp [*, St3, arE, r3P, r3G, r3A, r3B, r3C, r3D, r3E, St.forget, scr, scrC, -List.map_map]
theorem T003200 {r : R3} {K : St → Prop} (hr : R3ok r K) : ∀ t : St, St3 r 0 0 3 2 0 0 t → cAnyX noTab ops13 K 11 #[false, false, true, true, true, false, true, true, false, false, false, false, false, false, false, false] t := by
  rintro ⟨e, h⟩ q
  simp [St3, arE, r3P, r3G, r3A, r3B, r3C, r3D, r3E] at q
  obtain ⟨l0, l1, q0, q1, s0, s1, q7, q8, hK⟩ := id hr
  replace hr : Hid (_) := hr
  refine cany2 0 8 (by kernel_rfl) (by unfold ops13 getOps; exact rfl) (by unfold ops13 getOps; exact rfl) ?_ ?_
  · simp [*, appendV, srcCells, St.forget, scr, scrC, setsV, -List.map_map]
    refine T013200 hr.out _ ?_
    simp [*, St3, arE, r3P, r3G, r3A, r3B, r3C, r3D, r3E, St.forget, scr, scrC, -List.map_map]
  · simp [*, appendV, srcCells, St.forget, scr, scrC, setsV, -List.map_map]
    refine T003210 hr.out _ ?_
    simp [*, St3, arE, r3P, r3G, r3A, r3B, r3C, r3D, r3E, St.forget, scr, scrC, -List.map_map]
theorem T003020 {r : R3} {K : St → Prop} (hr : R3ok r K) : ∀ t : St, St3 r 0 0 3 0 2 0 t → cAnyX noTab ops13 K 11 #[false, false, true, true, true, false, false, false, true, true, false, false, false, false, false, false] t := by
  rintro ⟨e, h⟩ q
  simp [St3, arE, r3P, r3G, r3A, r3B, r3C, r3D, r3E] at q
  obtain ⟨l0, l1, q0, q1, s0, s1, q7, q8, hK⟩ := id hr
  replace hr : Hid (_) := hr
  refine cany3 0 6 10 (by kernel_rfl) (by unfold ops13 getOps; exact rfl) (by unfold ops13 getOps; exact rfl) (by unfold ops13 getOps; exact rfl) ?_ ?_ ?_
  · simp [*, appendV, srcCells, St.forget, scr, scrC, setsV, -List.map_map]
    refine T013020 hr.out _ ?_
    simp [*, St3, arE, r3P, r3G, r3A, r3B, r3C, r3D, r3E, St.forget, scr, scrC, -List.map_map]
  · simp [*, appendV, srcCells, St.forget, scr, scrC, setsV, -List.map_map]
    refine T003120 hr.out _ ?_
    simp [*, St3, arE, r3P, r3G, r3A, r3B, r3C, r3D, r3E, St.forget, scr, scrC, -List.map_map]
  · simp [*, appendV, srcCells, St.forget, scr, scrC, setsV, -List.map_map]
    refine T003030 hr.out _ ?_
    simp [*, St3, arE, r3P, r3G, r3A, r3B, r3C, r3D, r3E, St.forget, scr, scrC, -List.map_map]
theorem T011120 {r : R3} {K : St → Prop} (hr : R3ok r K) : ∀ t : St, St3 r 0 1 1 1 2 0 t → cAnyX noTab ops13 K 11 #[true, false, true, false, false, false, true, false, true, true, false, false, false, false, false, false] t := by
  rintro ⟨e, h⟩ q
  simp [St3, arE, r3P, r3G, r3A, r3B, r3C, r3D, r3E] at q
  obtain ⟨l0, l1, q0, q1, s0, s1, q7, q8, hK⟩ := id hr
  replace hr : Hid (_) := hr
  refine cany4 1 3 7 10 (by kernel_rfl) (by unfold ops13 getOps; exact rfl) (by unfold ops13 getOps; exact rfl) (by unfold ops13 getOps; exact rfl) (by unfold ops13 getOps; exact rfl) ?_ ?_ ?_ ?_
  · simp [*, appendV, srcCells, St.forget, scr, scrC, setsV, -List.map_map]
    refine T021120 hr.out _ ?_
    simp [*, St3, arE, r3P, r3G, r3A, r3B, r3C, r3D, r3E, St.forget, scr, scrC, -List.map_map]
  · simp [*, appendV, srcCells, St.forget, scr, scrC, setsV, -List.map_map]
    refine T012120 hr.out _ ?_
    simp [*, St3, arE, r3P, r3G, r3A, r3B, r3C, r3D, r3E, St.forget, scr, scrC, -List.map_map]
  · simp [*, appendV, srcCells, St.forget, scr, scrC, setsV, -List.map_map]
    refine T011220 hr.out _ ?_
    simp [*, St3, arE, r3P, r3G, r3A, r3B, r3C, r3D, r3E, St.forget, scr, scrC, -List.map_map]
  · simp [*, appendV, srcCells, St.forget, scr, scrC, setsV, -List.map_map]
    refine T011130 hr.out _ ?_
    simp [*, St3, arE, r3P, r3G, r3A, r3B, r3C, r3D, r3E, St.forget, scr, scrC, -List.map_map]
theorem T013010 {r : R3} {K : St → Prop} (hr : R3ok r K) : ∀ t : St, St3 r 0 1 3 0 1 0 t → cAnyX noTab ops13 K 11 #[true, false, true, true, true, false, false, false, true, false, false, false, false, false, false, false] t := by
  rintro ⟨e, h⟩ q
  simp [St3, arE, r3P, r3G, r3A, r3B, r3C, r3D, r3E] at q
  obtain ⟨l0, l1, q0, q1, s0, s1, q7, q8, hK⟩ := id hr
  replace hr : Hid (_) := hr
  refine cany3 1 6 9 (by kernel_rfl) (by unfold ops13 getOps; exact rfl) (by unfold ops13 getOps; exact rfl) (by unfold ops13 getOps; exact rfl) ?_ ?_ ?_
  · simp [*, appendV, srcCells, St.forget, scr, scrC, setsV, -List.map_map]
    refine T023010 hr.out _ ?_
    simp [*, St3, arE, r3P, r3G, r3A, r3B, r3C, r3D, r3E, St.forget, scr, scrC, -List.map_map]
  · simp [*, appendV, srcCells, St.forget, scr, scrC, setsV, -List.map_map]
    refine T013110 hr.out _ ?_
    simp [*, St3, arE, r3P, r3G, r3A, r3B, r3C, r3D, r3E, St.forget, scr, scrC, -List.map_map]
  · simp [*, appendV, srcCells, St.forget, scr, scrC, setsV, -List.map_map]
    refine T013020 hr.out _ ?_
    simp [*, St3, arE, r3P, r3G, r3A, r3B, r3C, r3D, r3E, St.forget, scr, scrC, -List.map_map]
theorem T020030 {r : R3} {K : St → Prop} (hr : R3ok r K) : ∀ t : St, St3 r 0 2 0 0 3 0 t → cAnyX noTab ops13 K 11 #[true, true, false, false, false, false, false, false, true, true, true, false, false, false, false, false] t := by
  rintro ⟨e, h⟩ q
  simp [St3, arE, r3P, r3G, r3A, r3B, r3C, r3D, r3E] at q
  obtain ⟨l0, l1, q0, q1, s0, s1, q7, q8, hK⟩ := id hr
  replace hr : Hid (_) := hr
  refine cany2 2 6 (by kernel_rfl) (by unfold ops13 getOps; exact rfl) (by unfold ops13 getOps; exact rfl) ?_ ?_
  · simp [*, appendV, srcCells, St.forget, scr, scrC, setsV, -List.map_map]
    refine T021030 hr.out _ ?_
    simp [*, St3, arE, r3P, r3G, r3A, r3B, r3C, r3D, r3E, St.forget, scr, scrC, -List.map_map]
  · simp [*, appendV, srcCells, St.forget, scr, scrC, setsV, -List.map_map]
    refine T020130 hr.out _ ?_
    simp [*, St3, arE, r3P, r3G, r3A, r3B, r3C, r3D, r3E, St.forget, scr, scrC, -List.map_map]
theorem T021100 {r : R3} {K : St → Prop} (hr : R3ok r K) : ∀ t : St, St3 r 0 2 1 1 0 0 t → cAnyX noTab ops13 K 12 #[true, true, true, false, false, false, true, false, false, false, false, false, false, false, false, false] t := by
  rintro ⟨e, h⟩ q
  simp [St3, arE, r3P, r3G, r3A, r3B, r3C, r3D, r3E] at q
  obtain ⟨l0, l1, q0, q1, s0, s1, q7, q8, hK⟩ := id hr
  replace hr : Hid (_) := hr
  refine cany3 3 7 8 (by kernel_rfl) (by unfold ops13 getOps; exact rfl) (by unfold ops13 getOps; exact rfl) (by unfold ops13 getOps; exact rfl) ?_ ?_ ?_
  · simp [*, appendV, srcCells, St.forget, scr, scrC, setsV, -List.map_map]
    refine T022100 hr.out _ ?_
    simp [*, St3, arE, r3P, r3G, r3A, r3B, r3C, r3D, r3E, St.forget, scr, scrC, -List.map_map]
  · simp [*, appendV, srcCells, St.forget, scr, scrC, setsV, -List.map_map]
    refine T021200 hr.out _ ?_
    simp [*, St3, arE, r3P, r3G, r3A, r3B, r3C, r3D, r3E, St.forget, scr, scrC, -List.map_map]
  · simp [*, appendV, srcCells, St.forget, scr, scrC, setsV, -List.map_map]
    refine T021110 hr.out _ ?_
    simp [*, St3, arE, r3P, r3G, r3A, r3B, r3C, r3D, r3E, St.forget, scr, scrC, -List.map_map]
theorem T001120 {r : R3} {K : St → Prop} (hr : R3ok r K) : ∀ t : St, St3 r 0 0 1 1 2 0 t → cAnyX noTab ops13 K 12 #[false, false, true, false, false, false, true, false, true, true, false, false, false, false, false, false] t := by
  rintro ⟨e, h⟩ q
  simp [St3, arE, r3P, r3G, r3A, r3B, r3C, r3D, r3E] at q
  obtain ⟨l0, l1, q0, q1, s0, s1, q7, q8, hK⟩ := id hr
  replace hr : Hid (_) := hr
  refine cany4 0 3 7 10 (by kernel_rfl) (by unfold ops13 getOps; exact rfl) (by unfold ops13 getOps; exact rfl) (by unfold ops13 getOps; exact rfl) (by unfold ops13 getOps; exact rfl) ?_ ?_ ?_ ?_
  · simp [*, appendV, srcCells, St.forget, scr, scrC, setsV, -List.map_map]
    refine T011120 hr.out _ ?_
    simp [*, St3, arE, r3P, r3G, r3A, r3B, r3C, r3D, r3E, St.forget, scr, scrC, -List.map_map]
  · simp [*, appendV, srcCells, St.forget, scr, scrC, setsV, -List.map_map]
    refine T002120 hr.out _ ?_
    simp [*, St3, arE, r3P, r3G, r3A, r3B, r3C, r3D, r3E, St.forget, scr, scrC, -List.map_map]
  · simp [*, appendV, srcCells, St.forget, scr, scrC, setsV, -List.map_map]
    refine T001220 hr.out _ ?_
    simp [*, St3, arE, r3P, r3G, r3A, r3B, r3C, r3D, r3E, St.forget, scr, scrC, -List.map_map]
  · simp [*, appendV, srcCells, St.forget, scr, scrC, setsV, -List.map_map]
    refine T001130 hr.out _ ?_
    simp [*, St3, arE, r3P, r3G, r3A, r3B, r3C, r3D, r3E, St.forget, scr, scrC, -List.map_map]
theorem T021010 {r : R3} {K : St → Prop} (hr : R3ok r K) : ∀ t : St, St3 r 0 2 1 0 1 0 t → cAnyX noTab ops13 K 12 #[true, true, true, false, false, false, false, false, true, false, false, false, false, false, false, false] t := by
  rintro ⟨e, h⟩ q
  simp [St3, arE, r3P, r3G, r3A, r3B, r3C, r3D, r3E] at q
  obtain ⟨l0, l1, q0, q1, s0, s1, q7, q8, hK⟩ := id hr
  replace hr : Hid (_) := hr
  refine cany3 3 6 9 (by kernel_rfl) (by unfold ops13 getOps; exact rfl) (by unfold ops13 getOps; exact rfl) (by unfold ops13 getOps; exact rfl) ?_ ?_ ?_
  · simp [*, appendV, srcCells, St.forget, scr, scrC, setsV, -List.map_map]
    refine T022010 hr.out _ ?_
    simp [*, St3, arE, r3P, r3G, r3A, r3B, r3C, r3D, r3E, St.forget, scr, scrC, -List.map_map]
  · simp [*, appendV, srcCells, St.forget, scr, scrC, setsV, -List.map_map]
    refine T021110 hr.out _ ?_
    simp [*, St3, arE, r3P, r3G, r3A, r3B, r3C, r3D, r3E, St.forget, scr, scrC, -List.map_map]
  · simp [*, appendV, srcCells, St.forget, scr, scrC, setsV, -List.map_map]
    refine T021020 hr.out _ ?_
    simp [*, St3, arE, r3P, r3G, r3A, r3B, r3C, r3D, r3E, St.forget, scr, scrC, -List.map_map]
theorem T011200 {r : R3} {K : St → Prop} (hr : R3ok r K) : ∀ t : St, St3 r 0 1 1 2 0 0 t → cAnyX noTab ops13 K 12 #[true, false, true, false, false, false, true, true, false, false, false, false, false, false, false, false] t := by
  rintro ⟨e, h⟩ q
  simp [St3, arE, r3P, r3G, r3A, r3B, r3C, r3D, r3E] at q
  obtain ⟨l0, l1, q0, q1, s0, s1, q7, q8, hK⟩ := id hr
  replace hr : Hid (_) := hr
  refine cany3 1 3 8 (by kernel_rfl) (by unfold ops13 getOps; exact rfl) (by unfold ops13 getOps; exact rfl) (by unfold ops13 getOps; exact rfl) ?_ ?_ ?_
  · simp [*, appendV, srcCells, St.forget, scr, scrC, setsV, -List.map_map]
    refine T021200 hr.out _ ?_
    simp [*, St3, arE, r3P, r3G, r3A, r3B, r3C, r3D, r3E, St.forget, scr, scrC, -List.map_map]
  · simp [*, appendV, srcCells, St.forget, scr, scrC, setsV, -List.map_map]
    refine T012200 hr.out _ ?_
    simp [*, St3, arE, r3P, r3G, r3A, r3B, r3C, r3D, r3E, St.forget, scr, scrC, -List.map_map]
  · simp [*, appendV, srcCells, St.forget, scr, scrC, setsV, -List.map_map]
    refine T011210 hr.out _ ?_
    simp [*, St3, arE, r3P, r3G, r3A, r3B, r3C, r3D, r3E, St.forget, scr, scrC, -List.map_map]
theorem T001210 {r : R3} {K : St → Prop} (hr : R3ok r K) : ∀ t : St, St3 r 0 0 1 2 1 0 t → cAnyX noTab ops13 K 12 #[false, false, true, false, false, false, true, true, true, false, false, false, false, false, false, false] t := by
  rintro ⟨e, h⟩ q
  simp [St3, arE, r3P, r3G, r3A, r3B, r3C, r3D, r3E] at q
  obtain ⟨l0, l1, q0, q1, s0, s1, q7, q8, hK⟩ := id hr
  replace hr : Hid (_) := hr
  refine cany3 0 3 9 (by kernel_rfl) (by unfold ops13 getOps; exact rfl) (by unfold ops13 getOps; exact rfl) (by unfold ops13 getOps; exact rfl) ?_ ?_ ?_
  · simp [*, appendV, srcCells, St.forget, scr, scrC, setsV, -List.map_map]
    refine T011210 hr.out _ ?_
    simp [*, St3, arE, r3P, r3G, r3A, r3B, r3C, r3D, r3E, St.forget, scr, scrC, -List.map_map]
  · simp [*, appendV, srcCells, St.forget, scr, scrC, setsV, -List.map_map]
    refine T002210 hr.out _ ?_
    simp [*, St3, arE, r3P, r3G, r3A, r3B, r3C, r3D, r3E, St.forget, scr, scrC, -List.map_map]
  · simp [*, appendV, srcCells, St.forget, scr, scrC, setsV, -List.map_map]
    refine T001220 hr.out _ ?_
    simp [*, St3, arE, r3P, r3G, r3A, r3B, r3C, r3D, r3E, St.forget, scr, scrC, -List.map_map]
theorem T001030 {r : R3} {K : St → Prop} (hr : R3ok r K) : ∀ t : St, St3 r 0 0 1 0 3 0 t → cAnyX noTab ops13 K 12 #[false, false, true, false, false, false, false, false, true, true, true, false, false, false, false, false] t := by
  rintro ⟨e, h⟩ q
  simp [St3, arE, r3P, r3G, r3A, r3B, r3C, r3D, r3E] at q
  obtain ⟨l0, l1, q0, q1, s0, s1, q7, q8, hK⟩ := id hr
  replace hr : Hid (_) := hr
  refine cany3 0 3 6 (by kernel_rfl) (by unfold ops13 getOps; exact rfl) (by unfold ops13 getOps; exact rfl) (by unfold ops13 getOps; exact rfl) ?_ ?_ ?_
  · simp [*, appendV, srcCells, St.forget, scr, scrC, setsV, -List.map_map]
    refine T011030 hr.out _ ?_
    simp [*, St3, arE, r3P, r3G, r3A, r3B, r3C, r3D, r3E, St.forget, scr, scrC, -List.map_map]
  · simp [*, appendV, srcCells, St.forget, scr, scrC, setsV, -List.map_map]
    refine T002030 hr.out _ ?_
    simp [*, St3, arE, r3P, r3G, r3A, r3B, r3C, r3D, r3E, St.forget, scr, scrC, -List.map_map]
  · simp [*, appendV, srcCells, St.forget, scr, scrC, setsV, -List.map_map]
    refine T001130 hr.out _ ?_
    simp [*, St3, arE, r3P, r3G, r3A, r3B, r3C, r3D, r3E, St.forget, scr, scrC, -List.map_map]
theorem T020110 {r : R3} {K : St → Prop} (hr : R3ok r K) : ∀ t : St, St3 r 0 2 0 1 1 0 t → cAnyX noTab ops13 K 12 #[true, true, false, false, false, false, true, false, true, false, false, false, false, false, false, false] t := by
  rintro ⟨e, h⟩ q
  simp [St3, arE, r3P, r3G, r3A, r3B, r3C, r3D, r3E] at q
  obtain ⟨l0, l1, q0, q1, s0, s1, q7, q8, hK⟩ := id hr
  replace hr : Hid (_) := hr
  refine cany3 2 7 9 (by kernel_rfl) (by unfold ops13 getOps; exact rfl) (by unfold ops13 getOps; exact rfl) (by unfold ops13 getOps; exact rfl) ?_ ?_ ?_
  · simp [*, appendV, srcCells, St.forget, scr, scrC, setsV, -List.map_map]
    refine T021110 hr.out _ ?_
    simp [*, St3, arE, r3P, r3G, r3A, r3B, r3C, r3D, r3E, St.forget, scr, scrC, -List.map_map]
  · simp [*, appendV, srcCells, St.forget, scr, scrC, setsV, -List.map_map]
    refine T020210 hr.out _ ?_
    simp [*, St3, arE, r3P, r3G, r3A, r3B, r3C, r3D, r3E, St.forget, scr, scrC, -List.map_map]
  · simp [*, appendV, srcCells, St.forget, scr, scrC, setsV, -List.map_map]
    refine T020120 hr.out _ ?_
    simp [*, St3, arE, r3P, r3G, r3A, r3B, r3C, r3D, r3E, St.forget, scr, scrC, -List.map_map]
theorem T010120 {r : R3} {K : St → Prop} (hr : R3ok r K) : ∀ t : St, St3 r 0 1 0 1 2 0 t → cAnyX noTab ops13 K 12 #[true, false, false, false, false, false, true, false, true, true, false, false, false, false, false, false] t := by
  rintro ⟨e, h⟩ q
  simp [St3, arE, r3P, r3G, r3A, r3B, r3C, r3D, r3E] at q
  obtain ⟨l0, l1, q0, q1, s0, s1, q7, q8, hK⟩ := id hr
  replace hr : Hid (_) := hr
  refine cany4 1 2 7 10 (by kernel_rfl) (by unfold ops13 getOps; exact rfl) (by unfold ops13 getOps; exact rfl) (by unfold ops13 getOps; exact rfl) (by unfold ops13 getOps; exact rfl) ?_ ?_ ?_ ?_
  · simp [*, appendV, srcCells, St.forget, scr, scrC, setsV, -List.map_map]
    refine T020120 hr.out _ ?_
    simp [*, St3, arE, r3P, r3G, r3A, r3B, r3C, r3D, r3E, St.forget, scr, scrC, -List.map_map]
  · simp [*, appendV, srcCells, St.forget, scr, scrC, setsV, -List.map_map]
    refine T011120 hr.out _ ?_
    simp [*, St3, arE, r3P, r3G, r3A, r3B, r3C, r3D, r3E, St.forget, scr, scrC, -List.map_map]
  · simp [*, appendV, srcCells, St.forget, scr, scrC, setsV, -List.map_map]
    refine T010220 hr.out _ ?_
    simp [*, St3, arE, r3P, r3G, r3A, r3B, r3C, r3D, r3E, St.forget, scr, scrC, -List.map_map]
  · simp [*, appendV, srcCells, St.forget, scr, scrC, setsV, -List.map_map]
    refine T010130 hr.out _ ?_
    simp [*, St3, arE, r3P, r3G, r3A, r3B, r3C, r3D, r3E, St.forget, scr, scrC, -List.map_map]
theorem T020020 {r : R3} {K : St → Prop} (hr : R3ok r K) : ∀ t : St, St3 r 0 2 0 0 2 0 t → cAnyX noTab ops13 K 12 #[true, true, false, false, false, false, false, false, true, true, false, false, false, false, false, false] t := by
  rintro ⟨e, h⟩ q
  simp [St3, arE, r3P, r3G, r3A, r3B, r3C, r3D, r3E] at q
  obtain ⟨l0, l1, q0, q1, s0, s1, q7, q8, hK⟩ := id hr
  replace hr : Hid (_) := hr
  refine cany3 2 6 10 (by kernel_rfl) (by unfold ops13 getOps; exact rfl) (by unfold ops13 getOps; exact rfl) (by unfold ops13 getOps; exact rfl) ?_ ?_ ?_
  · simp [*, appendV, srcCells, St.forget, scr, scrC, setsV, -List.map_map]
    refine T021020 hr.out _ ?_
    simp [*, St3, arE, r3P, r3G, r3A, r3B, r3C, r3D, r3E, St.forget, scr, scrC, -List.map_map]
  · simp [*, appendV, srcCells, St.forget, scr, scrC, setsV, -List.map_map]
    refine T020120 hr.out _ ?_
    simp [*, St3, arE, r3P, r3G, r3A, r3B, r3C, r3D, r3E, St.forget, scr, scrC, -List.map_map]
  · simp [*, appendV, srcCells, St.forget, scr, scrC, setsV, -List.map_map]
    refine T020030 hr.out _ ?_
    simp [*, St3, arE, r3P, r3G, r3A, r3B, r3C, r3D, r3E, St.forget, scr, scrC, -List.map_map]
theorem T000220 {r : R3} {K : St → Prop} (hr : R3ok r K) : ∀ t : St, St3 r 0 0 0 2 2 0 t → cAnyX noTab ops13 K 12 #[false, false, false, false, false, false, true, true, true, true, false, false, false, false, false, false] t := by
  rintro ⟨e, h⟩ q
  simp [St3, arE, r3P, r3G, r3A, r3B, r3C, r3D, r3E] at q
  obtain ⟨l0, l1, q0, q1, s0, s1, q7, q8, hK⟩ := id hr
  replace hr : Hid (_) := hr
  refine cany3 0 2 10 (by kernel_rfl) (by unfold ops13 getOps; exact rfl) (by unfold ops13 getOps; exact rfl) (by unfold ops13 getOps; exact rfl) ?_ ?_ ?_
  · simp [*, appendV, srcCells, St.forget, scr, scrC, setsV, -List.map_map]
    refine T010220 hr.out _ ?_
    simp [*, St3, arE, r3P, r3G, r3A, r3B, r3C, r3D, r3E, St.forget, scr, scrC, -List.map_map]
  · simp [*, appendV, srcCells, St.forget, scr, scrC, setsV, -List.map_map]
    refine T001220 hr.out _ ?_
    simp [*, St3, arE, r3P, r3G, r3A, r3B, r3C, r3D, r3E, St.forget, scr, scrC, -List.map_map]
  · simp [*, appendV, srcCells, St.forget, scr, scrC, setsV, -List.map_map]
    refine T000230 hr.out _ ?_
    simp [*, St3, arE, r3P, r3G, r3A, r3B, r3C, r3D, r3E, St.forget, scr, scrC, -List.map_map]
theorem T022000 {r : R3} {K : St → Prop} (hr : R3ok r K) : ∀ t : St, St3 r 0 2 2 0 0 0 t → cAnyX noTab ops13 K 12 #[true, true, true, true, false, false, false, false, false, false, false, false, false, false, false, false] t := by
  rintro ⟨e, h⟩ q
  simp [St3, arE, r3P, r3G, r3A, r3B, r3C, r3D, r3E] at q
  obtain ⟨l0, l1, q0, q1, s0, s1, q7, q8, hK⟩ := id hr
  replace hr : Hid (_) := hr
  refine cany3 4 6 8 (by kernel_rfl) (by unfold ops13 getOps; exact rfl) (by unfold ops13 getOps; exact rfl) (by unfold ops13 getOps; exact rfl) ?_ ?_ ?_
  · simp [*, appendV, srcCells, St.forget, scr, scrC, setsV, -List.map_map]
    refine T023000 hr.out _ ?_
    simp [*, St3, arE, r3P, r3G, r3A, r3B, r3C, r3D, r3E, St.forget, scr, scrC, -List.map_map]
  · simp [*, appendV, srcCells, St.forget, scr, scrC, setsV, -List.map_map]
    refine T022100 hr.out _ ?_
    simp [*, St3, arE, r3P, r3G, r3A, r3B, r3C, r3D, r3E, St.forget, scr, scrC, -List.map_map]
  · simp [*, appendV, srcCells, St.forget, scr, scrC, setsV, -List.map_map]
    refine T022010 hr.out _ ?_
    simp [*, St3, arE, r3P, r3G, r3A, r3B, r3C, r3D, r3E, St.forget, scr, scrC, -List.map_map]
theorem T010210 {r : R3} {K : St → Prop} (hr : R3ok r K) : ∀ t : St, St3 r 0 1 0 2 1 0 t → cAnyX noTab ops13 K 12 #[true, false, false, false, false, false, true, true, true, false, false, false, false, false, false, false] t := by
  rintro ⟨e, h⟩ q
  simp [St3, arE, r3P, r3G, r3A, r3B, r3C, r3D, r3E] at q
  obtain ⟨l0, l1, q0, q1, s0, s1, q7, q8, hK⟩ := id hr
  replace hr : Hid (_) := hr
  refine cany3 1 2 9 (by kernel_rfl) (by unfold ops13 getOps; exact rfl) (by unfold ops13 getOps; exact rfl) (by unfold ops13 getOps; exact rfl) ?_ ?_ ?_
  · simp [*, appendV, srcCells, St.forget, scr, scrC, setsV, -List.map_map]
    refine T020210 hr.out _ ?_
    simp [*, St3, arE, r3P, r3G, r3A, r3B, r3C, r3D, r3E, St.forget, scr, scrC, -List.map_map]
  · simp [*, appendV, srcCells, St.forget, scr, scrC, setsV, -List.map_map]
    refine T011210 hr.out _ ?_
    simp [*, St3, arE, r3P, r3G, r3A, r3B, r3C, r3D, r3E, St.forget, scr, scrC, -List.map_map]
  · simp [*, appendV, srcCells, St.forget, scr, scrC, setsV, -List.map_map]
    refine T010220 hr.out _ ?_
    simp [*, St3, arE, r3P, r3G, r3A, r3B, r3C, r3D, r3E, St.forget, scr, scrC, -List.map_map]
theorem T002020 {r : R3} {K : St → Prop} (hr : R3ok r K) : ∀ t : St, St3 r 0 0 2 0 2 0 t → cAnyX noTab ops13 K 12 #[false, false, true, true, false, false, false, false, true, true, false, false, false, false, false, false] t := by
  rintro ⟨e, h⟩ q
  simp [St3, arE, r3P, r3G, r3A, r3B, r3C, r3D, r3E] at q
  obtain ⟨l0, l1, q0, q1, s0, s1, q7, q8, hK⟩ := id hr
  replace hr : Hid (_) := hr
  refine cany4 0 4 6 10 (by kernel_rfl) (by unfold ops13 getOps; exact rfl) (by unfold ops13 getOps; exact rfl) (by unfold ops13 getOps; exact rfl) (by unfold ops13 getOps; exact rfl) ?_ ?_ ?_ ?_
  · simp [*, appendV, srcCells, St.forget, scr, scrC, setsV, -List.map_map]
    refine T012020 hr.out _ ?_
    simp [*, St3, arE, r3P, r3G, r3A, r3B, r3C, r3D, r3E, St.forget, scr, scrC, -List.map_map]
  · simp [*, appendV, srcCells, St.forget, scr, scrC, setsV, -List.map_map]
    refine T003020 hr.out _ ?_
    simp [*, St3, arE, r3P, r3G, r3A, r3B, r3C, r3D, r3E, St.forget, scr, scrC, -List.map_map]
  · simp [*, appendV, srcCells, St.forget, scr, scrC, setsV, -List.map_map]
    refine T002120 hr.out _ ?_
    simp [*, St3, arE, r3P, r3G, r3A, r3B, r3C, r3D, r3E, St.forget, scr, scrC, -List.map_map]
  · simp [*, appendV, srcCells, St.forget, scr, scrC, setsV, -List.map_map]
    refine T002030 hr.out _ ?_
    simp [*, St3, arE, r3P, r3G, r3A, r3B, r3C, r3D, r3E, St.forget, scr, scrC, -List.map_map]
theorem T003010 {r : R3} {K : St → Prop} (hr : R3ok r K) : ∀ t : St, St3 r 0 0 3 0 1 0 t → cAnyX noTab ops13 K 12 #[false, false, true, true, true, false, false, false, true, false, false, false, false, false, false, false] t := by
  rintro ⟨e, h⟩ q
  simp [St3, arE, r3P, r3G, r3A, r3B, r3C, r3D, r3E] at q
  obtain ⟨l0, l1, q0, q1, s0, s1, q7, q8, hK⟩ := id hr
  replace hr : Hid (_) := hr
  refine cany3 0 6 9 (by kernel_rfl) (by unfold ops13 getOps; exact rfl) (by unfold ops13 getOps; exact rfl) (by unfold ops13 getOps; exact rfl) ?_ ?_ ?_
  · simp [*, appendV, srcCells, St.forget, scr, scrC, setsV, -List.map_map]
    refine T013010 hr.out _ ?_
    simp [*, St3, arE, r3P, r3G, r3A, r3B, r3C, r3D, r3E, St.forget, scr, scrC, -List.map_map]
  · simp [*, appendV, srcCells, St.forget, scr, scrC, setsV, -List.map_map]
    refine T003110 hr.out _ ?_
    simp [*, St3, arE, r3P, r3G, r3A, r3B, r3C, r3D, r3E, St.forget, scr, scrC, -List.map_map]
  · simp [*, appendV, srcCells, St.forget, scr, scrC, setsV, -List.map_map]
    refine T003020 hr.out _ ?_
    simp [*, St3, arE, r3P, r3G, r3A, r3B, r3C, r3D, r3E, St.forget, scr, scrC, -List.map_map]
theorem T020200 {r : R3} {K : St → Prop} (hr : R3ok r K) : ∀ t : St, St3 r 0 2 0 2 0 0 t → cAnyX noTab ops13 K 12 #[true, true, false, false, false, false, true, true, false, false, false, false, false, false, false, false] t := by
  rintro ⟨e, h⟩ q
  simp [St3, arE, r3P, r3G, r3A, r3B, r3C, r3D, r3E] at q
  obtain ⟨l0, l1, q0, q1, s0, s1, q7, q8, hK⟩ := id hr
  replace hr : Hid (_) := hr
  refine cany2 2 8 (by kernel_rfl) (by unfold ops13 getOps; exact rfl) (by unfold ops13 getOps; exact rfl) ?_ ?_
  · simp [*, appendV, srcCells, St.forget, scr, scrC, setsV, -List.map_map]
    refine T021200 hr.out _ ?_
    simp [*, St3, arE, r3P, r3G, r3A, r3B, r3C, r3D, r3E, St.forget, scr, scrC, -List.map_map]
  · simp [*, appendV, srcCells, St.forget, scr, scrC, setsV, -List.map_map]
    refine T020210 hr.out _ ?_
    simp [*, St3, arE, r3P, r3G, r3A, r3B, r3C, r3D, r3E, St.forget, scr, scrC, -List.map_map]
theorem T000130 {r : R3} {K : St → Prop} (hr : R3ok r K) : ∀ t : St, St3 r 0 0 0 1 3 0 t → cAnyX noTab ops13 K 12 #[false, false, false, false, false, false, true, false, true, true, true, false, false, false, false, false] t := by
  rintro ⟨e, h⟩ q
  simp [St3, arE, r3P, r3G, r3A, r3B, r3C, r3D, r3E] at q
  obtain ⟨l0, l1, q0, q1, s0, s1, q7, q8, hK⟩ := id hr
  replace hr : Hid (_) := hr
  refine cany3 0 2 7 (by kernel_rfl) (by unfold ops13 getOps; exact rfl) (by unfold ops13 getOps; exact rfl) (by unfold ops13 getOps; exact rfl) ?_ ?_ ?_
  · simp [*, appendV, srcCells, St.forget, scr, scrC, setsV, -List.map_map]
    refine T010130 hr.out _ ?_
    simp [*, St3, arE, r3P, r3G, r3A, r3B, r3C, r3D, r3E, St.forget, scr, scrC, -List.map_map]
  · simp [*, appendV, srcCells, St.forget, scr, scrC, setsV, -List.map_map]
    refine T001130 hr.out _ ?_
    simp [*, St3, arE, r3P, r3G, r3A, r3B, r3C, r3D, r3E, St.forget, scr, scrC, -List.map_map]
  · simp [*, appendV, srcCells, St.forget, scr, scrC, setsV, -List.map_map]
    refine T000230 hr.out _ ?_
    simp [*, St3, arE, r3P, r3G, r3A, r3B, r3C, r3D, r3E, St.forget, scr, scrC, -List.map_map]
theorem T011110 {r : R3} {K : St → Prop} (hr : R3ok r K) : ∀ t : St, St3 r 0 1 1 1 1 0 t → cAnyX noTab ops13 K 12 #[true, false, true, false, false, false, true, false, true, false, false, false, false, false, false, false] t := by
  rintro ⟨e, h⟩ q
  simp [St3, arE, r3P, r3G, r3A, r3B, r3C, r3D, r3E] at q
  obtain ⟨l0, l1, q0, q1, s0, s1, q7, q8, hK⟩ := id hr
  replace hr : Hid (_) := hr
  refine cany4 1 3 7 9 (by kernel_rfl) (by unfold ops13 getOps; exact rfl) (by unfold ops13 getOps; exact rfl) (by unfold ops13 getOps; exact rfl) (by unfold ops13 getOps; exact rfl) ?_ ?_ ?_ ?_
  · simp [*, appendV, srcCells, St.forget, scr, scrC, setsV, -List.map_map]
    refine T021110 hr.out _ ?_
    simp [*, St3, arE, r3P, r3G, r3A, r3B, r3C, r3D, r3E, St.forget, scr, scrC, -List.map_map]
  · simp [*, appendV, srcCells, St.forget, scr, scrC, setsV, -List.map_map]
    refine T012110 hr.out _ ?_
    simp [*, St3, arE, r3P, r3G, r3A, r3B, r3C, r3D, r3E, St.forget, scr, scrC, -List.map_map]
  · simp [*, appendV, srcCells, St.forget, scr, scrC, setsV, -List.map_map]
    refine T011210 hr.out _ ?_
    simp [*, St3, arE, r3P, r3G, r3A, r3B, r3C, r3D, r3E, St.forget, scr, scrC, -List.map_map]
  · simp [*, appendV, srcCells, St.forget, scr, scrC, setsV, -List.map_map]
    refine T011120 hr.out _ ?_
    simp [*, St3, arE, r3P, r3G, r3A, r3B, r3C, r3D, r3E, St.forget, scr, scrC, -List.map_map]
theorem T013000 {r : R3} {K : St → Prop} (hr : R3ok r K) : ∀ t : St, St3 r 0 1 3 0 0 0 t → cAnyX noTab ops13 K 12 #[true, false, true, true, true, false, false, false, false, false, false, false, false, false, false, false] t := by
  rintro ⟨e, h⟩ q
  simp [St3, arE, r3P, r3G, r3A, r3B, r3C, r3D, r3E] at q
  obtain ⟨l0, l1, q0, q1, s0, s1, q7, q8, hK⟩ := id hr
  replace hr : Hid (_) := hr
  refine cany3 1 6 8 (by kernel_rfl) (by unfold ops13 getOps; exact rfl) (by unfold ops13 getOps; exact rfl) (by unfold ops13 getOps; exact rfl) ?_ ?_ ?_
  · simp [*, appendV, srcCells, St.forget, scr, scrC, setsV, -List.map_map]
    refine T023000 hr.out _ ?_
    simp [*, St3, arE, r3P, r3G, r3A, r3B, r3C, r3D, r3E, St.forget, scr, scrC, -List.map_map]
  · simp [*, appendV, srcCells, St.forget, scr, scrC, setsV, -List.map_map]
    refine T013100 hr.out _ ?_
    simp [*, St3, arE, r3P, r3G, r3A, r3B, r3C, r3D, r3E, St.forget, scr, scrC, -List.map_map]
  · simp [*, appendV, srcCells, St.forget, scr, scrC, setsV, -List.map_map]
    refine T013010 hr.out _ ?_
    simp [*, St3, arE, r3P, r3G, r3A, r3B, r3C, r3D, r3E, St.forget, scr, scrC, -List.map_map]
theorem T002200 {r : R3} {K : St → Prop} (hr : R3ok r K) : ∀ t : St, St3 r 0 0 2 2 0 0 t → cAnyX noTab ops13 K 12 #[false, false, true, true, false, false, true, true, false, false, false, false, false, false, false, false] t := by
  rintro ⟨e, h⟩ q
  simp [St3, arE, r3P, r3G, r3A, r3B, r3C, r3D, r3E] at q
  obtain ⟨l0, l1, q0, q1, s0, s1, q7, q8, hK⟩ := id hr
  replace hr : Hid (_) := hr
  refine cany3 0 4 8 (by kernel_rfl) (by unfold ops13 getOps; exact rfl) (by unfold ops13 getOps; exact rfl) (by unfold ops13 getOps; exact rfl) ?_ ?_ ?_
  · simp [*, appendV, srcCells, St.forget, scr, scrC, setsV, -List.map_map]
    refine T012200 hr.out _ ?_
    simp [*, St3, arE, r3P, r3G, r3A, r3B, r3C, r3D, r3E, St.forget, scr, scrC, -List.map_map]
  · simp [*, appendV, srcCells, St.forget, scr, scrC, setsV, -List.map_map]
    refine T003200 hr.out _ ?_
    simp [*, St3, arE, r3P, r3G, r3A, r3B, r3C, r3D, r3E, St.forget, scr, scrC, -List.map_map]
  · simp [*, appendV, srcCells, St.forget, scr, scrC, setsV, -List.map_map]
    refine T002210 hr.out _ ?_
    simp [*, St3, arE, r3P, r3G, r3A, r3B, r3C, r3D, r3E, St.forget, scr, scrC, -List.map_map]
theorem T010030 {r : R3} {K : St → Prop} (hr : R3ok r K) : ∀ t : St, St3 r 0 1 0 0 3 0 t → cAnyX noTab ops13 K 12 #[true, false, false, false, false, false, false, false, true, true, true, false, false, false, false, false] t := by
  rintro ⟨e, h⟩ q
  simp [St3, arE, r3P, r3G, r3A, r3B, r3C, r3D, r3E] at q
  obtain ⟨l0, l1, q0, q1, s0, s1, q7, q8, hK⟩ := id hr
  replace hr : Hid (_) := hr
  refine cany3 1 2 6 (by kernel_rfl) (by unfold ops13 getOps; exact rfl) (by unfold ops13 getOps; exact rfl) (by unfold ops13 getOps; exact rfl) ?_ ?_ ?_
  · simp [*, appendV, srcCells, St.forget, scr, scrC, setsV, -List.map_map]
    refine T020030 hr.out _ ?_
    simp [*, St3, arE, r3P, r3G, r3A, r3B, r3C, r3D, r3E, St.forget, scr, scrC, -List.map_map]
  · simp [*, appendV, srcCells, St.forget, scr, scrC, setsV, -List.map_map]
    refine T011030 hr.out _ ?_
    simp [*, St3, arE, r3P, r3G, r3A, r3B, r3C, r3D, r3E, St.forget, scr, scrC, -List.map_map]
  · simp [*, appendV, srcCells, St.forget, scr, scrC, setsV, -List.map_map]
    refine T010130 hr.out _ ?_
    simp [*, St3, arE, r3P, r3G, r3A, r3B, r3C, r3D, r3E, St.forget, scr, scrC, -List.map_map]
theorem T011020 {r : R3} {K : St → Prop} (hr : R3ok r K) : ∀ t : St, St3 r 0 1 1 0 2 0 t → cAnyX noTab ops13 K 12 #[true, false, true, false, false, false, false, false, true, true, false, false, false, false, false, false] t := by
  rintro ⟨e, h⟩ q
  simp [St3, arE, r3P, r3G, r3A, r3B, r3C, r3D, r3E] at q
  obtain ⟨l0, l1, q0, q1, s0, s1, q7, q8, hK⟩ := id hr
  replace hr : Hid (_) := hr
  refine cany4 1 3 6 10 (by kernel_rfl) (by unfold ops13 getOps; exact rfl) (by unfold ops13 getOps; exact rfl) (by unfold ops13 getOps; exact rfl) (by unfold ops13 getOps; exact rfl) ?_ ?_ ?_ ?_
  · simp [*, appendV, srcCells, St.forget, scr, scrC, setsV, -List.map_map]
    refine T021020 hr.out _ ?_
    simp [*, St3, arE, r3P, r3G, r3A, r3B, r3C, r3D, r3E, St.forget, scr, scrC, -List.map_map]
  · simp [*, appendV, srcCells, St.forget, scr, scrC, setsV, -List.map_map]
    refine T012020 hr.out _ ?_
    simp [*, St3, arE, r3P, r3G, r3A, r3B, r3C, r3D, r3E, St.forget, scr, scrC, -List.map_map]
  · simp [*, appendV, srcCells, St.forget, scr, scrC, setsV, -List.map_map]
    refine T011120 hr.out _ ?_
    simp [*, St3, arE, r3P, r3G, r3A, r3B, r3C, r3D, r3E, St.forget, scr, scrC, -List.map_map]
  · simp [*, appendV, srcCells, St.forget, scr, scrC, setsV, -List.map_map]
    refine T011030 hr.out _ ?_
    simp [*, St3, arE, r3P, r3G, r3A, r3B, r3C, r3D, r3E, St.forget, scr, scrC, -List.map_map]
theorem T002110 {r : R3} {K : St → Prop} (hr : R3ok r K) : ∀ t : St, St3 r 0 0 2 1 1 0 t → cAnyX noTab ops13 K 12 #[false, false, true, true, false, false, true, false, true, false, false, false, false, false, false, false] t := by
  rintro ⟨e, h⟩ q
  simp [St3, arE, r3P, r3G, r3A, r3B, r3C, r3D, r3E] at q
  obtain ⟨l0, l1, q0, q1, s0, s1, q7, q8, hK⟩ := id hr
  replace hr : Hid (_) := hr
  refine cany4 0 4 7 9 (by kernel_rfl) (by unfold ops13 getOps; exact rfl) (by unfold ops13 getOps; exact rfl) (by unfold ops13 getOps; exact rfl) (by unfold ops13 getOps; exact rfl) ?_ ?_ ?_ ?_
  · simp [*, appendV, srcCells, St.forget, scr, scrC, setsV, -List.map_map]
    refine T012110 hr.out _ ?_
    simp [*, St3, arE, r3P, r3G, r3A, r3B, r3C, r3D, r3E, St.forget, scr, scrC, -List.map_map]
  · simp [*, appendV, srcCells, St.forget, scr, scrC, setsV, -List.map_map]
    refine T003110 hr.out _ ?_
    simp [*, St3, arE, r3P, r3G, r3A, r3B, r3C, r3D, r3E, St.forget, scr, scrC, -List.map_map]
  · simp [*, appendV, srcCells, St.forget, scr, scrC, setsV, -List.map_map]
    refine T002210 hr.out _ ?_
    simp [*, St3, arE, r3P, r3G, r3A, r3B, r3C, r3D, r3E, St.forget, scr, scrC, -List.map_map]
  · simp [*, appendV, srcCells, St.forget, scr, scrC, setsV, -List.map_map]
    refine T002120 hr.out _ ?_
    simp [*, St3, arE, r3P, r3G, r3A, r3B, r3C, r3D, r3E, St.forget, scr, scrC, -List.map_map]
theorem T012010 {r : R3} {K : St → Prop} (hr : R3ok r K) : ∀ t : St, St3 r 0 1 2 0 1 0 t → cAnyX noTab ops13 K 12 #[true, false, true, true, false, false, false, false, true, false, false, false, false, false, false, false] t := by
  rintro ⟨e, h⟩ q
  simp [St3, arE, r3P, r3G, r3A, r3B, r3C, r3D, r3E] at q
  obtain ⟨l0, l1, q0, q1, s0, s1, q7, q8, hK⟩ := id hr
  replace hr : Hid (_) := hr
  refine cany4 1 4 6 9 (by kernel_rfl) (by unfold ops13 getOps; exact rfl) (by unfold ops13 getOps; exact rfl) (by unfold ops13 getOps; exact rfl) (by unfold ops13 getOps; exact rfl) ?_ ?_ ?_ ?_
  · simp [*, appendV, srcCells, St.forget, scr, scrC, setsV, -List.map_map]
    refine T022010 hr.out _ ?_
    simp [*, St3, arE, r3P, r3G, r3A, r3B, r3C, r3D, r3E, St.forget, scr, scrC, -List.map_map]
  · simp [*, appendV, srcCells, St.forget, scr, scrC, setsV, -List.map_map]
    refine T013010 hr.out _ ?_
    simp [*, St3, arE, r3P, r3G, r3A, r3B, r3C, r3D, r3E, St.forget, scr, scrC, -List.map_map]
  · simp [*, appendV, srcCells, St.forget, scr, scrC, setsV, -List.map_map]
    refine T012110 hr.out _ ?_
    simp [*, St3, arE, r3P, r3G, r3A, r3B, r3C, r3D, r3E, St.forget, scr, scrC, -List.map_map]
  · simp [*, appendV, srcCells, St.forget, scr, scrC, setsV, -List.map_map]
    refine T012020 hr.out _ ?_
    simp [*, St3, arE, r3P, r3G, r3A, r3B, r3C, r3D, r3E, St.forget, scr, scrC, -List.map_map]
theorem T003100 {r : R3} {K : St → Prop} (hr : R3ok r K) : ∀ t : St, St3 r 0 0 3 1 0 0 t → cAnyX noTab ops13 K 12 #[false, false, true, true, true, false, true, false, false, false, false, false, false, false, false, false] t := by
  rintro ⟨e, h⟩ q
  simp [St3, arE, r3P, r3G, r3A, r3B, r3C, r3D, r3E] at q
  obtain ⟨l0, l1, q0, q1, s0, s1, q7, q8, hK⟩ := id hr
  replace hr : Hid (_) := hr
  refine cany3 0 7 8 (by kernel_rfl) (by unfold ops13 getOps; exact rfl) (by unfold ops13 getOps; exact rfl) (by unfold ops13 getOps; exact rfl) ?_ ?_ ?_
  · simp [*, appendV, srcCells, St.forget, scr, scrC, setsV, -List.map_map]
    refine T013100 hr.out _ ?_
    simp [*, St3, arE, r3P, r3G, r3A, r3B, r3C, r3D, r3E, St.forget, scr, scrC, -List.map_map]
  · simp [*, appendV, srcCells, St.forget, scr, scrC, setsV, -List.map_map]
    refine T003200 hr.out _ ?_
    simp [*, St3, arE, r3P, r3G, r3A, r3B, r3C, r3D, r3E, St.forget, scr, scrC, -List.map_map]
  · simp [*, appendV, srcCells, St.forget, scr, scrC, setsV, -List.map_map]
    refine T003110 hr.out _ ?_
    simp [*, St3, arE, r3P, r3G, r3A, r3B, r3C, r3D, r3E, St.forget, scr, scrC, -List.map_map]
theorem T012100 {r : R3} {K : St → Prop} (hr : R3ok r K) : ∀ t : St, St3 r 0 1 2 1 0 0 t → cAnyX noTab ops13 K 12 #[true, false, true, true, false, false, true, false, false, false, false, false, false, false, false, false] t := by
  rintro ⟨e, h⟩ q
  simp [St3, arE, r3P, r3G, r3A, r3B, r3C, r3D, r3E] at q
  obtain ⟨l0, l1, q0, q1, s0, s1, q7, q8, hK⟩ := id hr
  replace hr : Hid (_) := hr
  refine cany4 1 4 7 8 (by kernel_rfl) (by unfold ops13 getOps; exact rfl) (by unfold ops13 getOps; exact rfl) (by unfold ops13 getOps; exact rfl) (by unfold ops13 getOps; exact rfl) ?_ ?_ ?_ ?_
  · simp [*, appendV, srcCells, St.forget, scr, scrC, setsV, -List.map_map]
    refine T022100 hr.out _ ?_
    simp [*, St3, arE, r3P, r3G, r3A, r3B, r3C, r3D, r3E, St.forget, scr, scrC, -List.map_map]
  · simp [*, appendV, srcCells, St.forget, scr, scrC, setsV, -List.map_map]
    refine T013100 hr.out _ ?_
    simp [*, St3, arE, r3P, r3G, r3A, r3B, r3C, r3D, r3E, St.forget, scr, scrC, -List.map_map]
  · simp [*, appendV, srcCells, St.forget, scr, scrC, setsV, -List.map_map]
    refine T012200 hr.out _ ?_
    simp [*, St3, arE, r3P, r3G, r3A, r3B, r3C, r3D, r3E, St.forget, scr, scrC, -List.map_map]
  · simp [*, appendV, srcCells, St.forget, scr, scrC, setsV, -List.map_map]
    refine T012110 hr.out _ ?_
    simp [*, St3, arE, r3P, r3G, r3A, r3B, r3C, r3D, r3E, St.forget, scr, scrC, -List.map_map]
theorem T001200 {r : R3} {K : St → Prop} (hr : R3ok r K) : ∀ t : St, St3 r 0 0 1 2 0 0 t → cAnyX noTab ops13 K 13 #[false, false, true, false, false, false, true, true, false, false, false, false, false, false, false, false] t := by
  rintro ⟨e, h⟩ q
  simp [St3, arE, r3P, r3G, r3A, r3B, r3C, r3D, r3E] at q
  obtain ⟨l0, l1, q0, q1, s0, s1, q7, q8, hK⟩ := id hr
  replace hr : Hid (_) := hr
  refine cany3 0 3 8 (by kernel_rfl) (by unfold ops13 getOps; exact rfl) (by unfold ops13 getOps; exact rfl) (by unfold ops13 getOps; exact rfl) ?_ ?_ ?_
  · simp [*, appendV, srcCells, St.forget, scr, scrC, setsV, -List.map_map]
    refine T011200 hr.out _ ?_
    simp [*, St3, arE, r3P, r3G, r3A, r3B, r3C, r3D, r3E, St.forget, scr, scrC, -List.map_map]
  · simp [*, appendV, srcCells, St.forget, scr, scrC, setsV, -List.map_map]
    refine T002200 hr.out _ ?_
    simp [*, St3, arE, r3P, r3G, r3A, r3B, r3C, r3D, r3E, St.forget, scr, scrC, -List.map_map]
  · simp [*, appendV, srcCells, St.forget, scr, scrC, setsV, -List.map_map]
    refine T001210 hr.out _ ?_
    simp [*, St3, arE, r3P, r3G, r3A, r3B, r3C, r3D, r3E, St.forget, scr, scrC, -List.map_map]
theorem T010200 {r : R3} {K : St → Prop} (hr : R3ok r K) : ∀ t : St, St3 r 0 1 0 2 0 0 t → cAnyX noTab ops13 K 13 #[true, false, false, false, false, false, true, true, false, false, false, false, false, false, false, false] t := by
  rintro ⟨e, h⟩ q
  simp [St3, arE, r3P, r3G, r3A, r3B, r3C, r3D, r3E] at q
  obtain ⟨l0, l1, q0, q1, s0, s1, q7, q8, hK⟩ := id hr
  replace hr : Hid (_) := hr
  refine cany3 1 2 8 (by kernel_rfl) (by unfold ops13 getOps; exact rfl) (by unfold ops13 getOps; exact rfl) (by unfold ops13 getOps; exact rfl) ?_ ?_ ?_
  · simp [*, appendV, srcCells, St.forget, scr, scrC, setsV, -List.map_map]
    refine T020200 hr.out _ ?_
    simp [*, St3, arE, r3P, r3G, r3A, r3B, r3C, r3D, r3E, St.forget, scr, scrC, -List.map_map]
  · simp [*, appendV, srcCells, St.forget, scr, scrC, setsV, -List.map_map]
    refine T011200 hr.out _ ?_
    simp [*, St3, arE, r3P, r3G, r3A, r3B, r3C, r3D, r3E, St.forget, scr, scrC, -List.map_map]
  · simp [*, appendV, srcCells, St.forget, scr, scrC, setsV, -List.map_map]
    refine T010210 hr.out _ ?_
    simp [*, St3, arE, r3P, r3G, r3A, r3B, r3C, r3D, r3E, St.forget, scr, scrC, -List.map_map]
theorem T010020 {r : R3} {K : St → Prop} (hr : R3ok r K) : ∀ t : St, St3 r 0 1 0 0 2 0 t → cAnyX noTab ops13 K 13 #[true, false, false, false, false, false, false, false, true, true, false, false, false, false, false, false] t := by
  rintro ⟨e, h⟩ q
  simp [St3, arE, r3P, r3G, r3A, r3B, r3C, r3D, r3E] at q
  obtain ⟨l0, l1, q0, q1, s0, s1, q7, q8, hK⟩ := id hr
  replace hr : Hid (_) := hr
  refine cany4 1 2 6 10 (by kernel_rfl) (by unfold ops13 getOps; exact rfl) (by unfold ops13 getOps; exact rfl) (by unfold ops13 getOps; exact rfl) (by unfold ops13 getOps; exact rfl) ?_ ?_ ?_ ?_
  · simp [*, appendV, srcCells, St.forget, scr, scrC, setsV, -List.map_map]
    refine T020020 hr.out _ ?_
    simp [*, St3, arE, r3P, r3G, r3A, r3B, r3C, r3D, r3E, St.forget, scr, scrC, -List.map_map]
  · simp [*, appendV, srcCells, St.forget, scr, scrC, setsV, -List.map_map]
    refine T011020 hr.out _ ?_
    simp [*, St3, arE, r3P, r3G, r3A, r3B, r3C, r3D, r3E, St.forget, scr, scrC, -List.map_map]
  · simp [*, appendV, srcCells, St.forget, scr, scrC, setsV, -List.map_map]
    refine T010120 hr.out _ ?_
    simp [*, St3, arE, r3P, r3G, r3A, r3B, r3C, r3D, r3E, St.forget, scr, scrC, -List.map_map]
  · simp [*, appendV, srcCells, St.forget, scr, scrC, setsV, -List.map_map]
    refine T010030 hr.out _ ?_
    simp [*, St3, arE, r3P, r3G, r3A, r3B, r3C, r3D, r3E, St.forget, scr, scrC, -List.map_map]
theorem T011010 {r : R3} {K : St → Prop} (hr : R3ok r K) : ∀ t : St, St3 r 0 1 1 0 1 0 t → cAnyX noTab ops13 K 13 #[true, false, true, false, false, false, false, false, true, false, false, false, false, false, false, false] t := by
  rintro ⟨e, h⟩ q
  simp [St3, arE, r3P, r3G, r3A, r3B, r3C, r3D, r3E] at q
  obtain ⟨l0, l1, q0, q1, s0, s1, q7, q8, hK⟩ := id hr
  replace hr : Hid (_) := hr
  refine cany4 1 3 6 9 (by kernel_rfl) (by unfold ops13 getOps; exact rfl) (by unfold ops13 getOps; exact rfl) (by unfold ops13 getOps; exact rfl) (by unfold ops13 getOps; exact rfl) ?_ ?_ ?_ ?_
  · simp [*, appendV, srcCells, St.forget, scr, scrC, setsV, -List.map_map]
    refine T021010 hr.out _ ?_
    simp [*, St3, arE, r3P, r3G, r3A, r3B, r3C, r3D, r3E, St.forget, scr, scrC, -List.map_map]
  · simp [*, appendV, srcCells, St.forget, scr, scrC, setsV, -List.map_map]
    refine T012010 hr.out _ ?_
    simp [*, St3, arE, r3P, r3G, r3A, r3B, r3C, r3D, r3E, St.forget, scr, scrC, -List.map_map]
  · simp [*, appendV, srcCells, St.forget, scr, scrC, setsV, -List.map_map]
    refine T011110 hr.out _ ?_
    simp [*, St3, arE, r3P, r3G, r3A, r3B, r3C, r3D, r3E, St.forget, scr, scrC, -List.map_map]
  · simp [*, appendV, srcCells, St.forget, scr, scrC, setsV, -List.map_map]
    refine T011020 hr.out _ ?_
    simp [*, St3, arE, r3P, r3G, r3A, r3B, r3C, r3D, r3E, St.forget, scr, scrC, -List.map_map]
theorem T002100 {r : R3} {K : St → Prop} (hr : R3ok r K) : ∀ t : St, St3 r 0 0 2 1 0 0 t → cAnyX noTab ops13 K 13 #[false, false, true, true, false, false, true, false, false, false, false, false, false, false, false, false] t := by
  rintro ⟨e, h⟩ q
  simp [St3, arE, r3P, r3G, r3A, r3B, r3C, r3D, r3E] at q
  obtain ⟨l0, l1, q0, q1, s0, s1, q7, q8, hK⟩ := id hr
  replace hr : Hid (_) := hr
  refine cany4 0 4 7 8 (by kernel_rfl) (by unfold ops13 getOps; exact rfl) (by unfold ops13 getOps; exact rfl) (by unfold ops13 getOps; exact rfl) (by unfold ops13 getOps; exact rfl) ?_ ?_ ?_ ?_
  · simp [*, appendV, srcCells, St.forget, scr, scrC, setsV, -List.map_map]
    refine T012100 hr.out _ ?_
    simp [*, St3, arE, r3P, r3G, r3A, r3B, r3C, r3D, r3E, St.forget, scr, scrC, -List.map_map]
  · simp [*, appendV, srcCells, St.forget, scr, scrC, setsV, -List.map_map]
    refine T003100 hr.out _ ?_
    simp [*, St3, arE, r3P, r3G, r3A, r3B, r3C, r3D, r3E, St.forget, scr, scrC, -List.map_map]
  · simp [*, appendV, srcCells, St.forget, scr, scrC, setsV, -List.map_map]
    refine T002200 hr.out _ ?_
    simp [*, St3, arE, r3P, r3G, r3A, r3B, r3C, r3D, r3E, St.forget, scr, scrC, -List.map_map]
  · simp [*, appendV, srcCells, St.forget, scr, scrC, setsV, -List.map_map]
    refine T002110 hr.out _ ?_
    simp [*, St3, arE, r3P, r3G, r3A, r3B, r3C, r3D, r3E, St.forget, scr, scrC, -List.map_map]
theorem T000030 {r : R3} {K : St → Prop} (hr : R3ok r K) : ∀ t : St, St3 r 0 0 0 0 3 0 t → cAnyX noTab ops13 K 13 #[false, false, false, false, false, false, false, false, true, true, true, false, false, false, false, false] t := by
  rintro ⟨e, h⟩ q
  simp [St3, arE, r3P, r3G, r3A, r3B, r3C, r3D, r3E] at q
  obtain ⟨l0, l1, q0, q1, s0, s1, q7, q8, hK⟩ := id hr
  replace hr : Hid (_) := hr
  refine cany3 0 2 6 (by kernel_rfl) (by unfold ops13 getOps; exact rfl) (by unfold ops13 getOps; exact rfl) (by unfold ops13 getOps; exact rfl) ?_ ?_ ?_
  · simp [*, appendV, srcCells, St.forget, scr, scrC, setsV, -List.map_map]
    refine T010030 hr.out _ ?_
    simp [*, St3, arE, r3P, r3G, r3A, r3B, r3C, r3D, r3E, St.forget, scr, scrC, -List.map_map]
  · simp [*, appendV, srcCells, St.forget, scr, scrC, setsV, -List.map_map]
    refine T001030 hr.out _ ?_
    simp [*, St3, arE, r3P, r3G, r3A, r3B, r3C, r3D, r3E, St.forget, scr, scrC, -List.map_map]
  · simp [*, appendV, srcCells, St.forget, scr, scrC, setsV, -List.map_map]
    refine T000130 hr.out _ ?_
    simp [*, St3, arE, r3P, r3G, r3A, r3B, r3C, r3D, r3E, St.forget, scr, scrC, -List.map_map]
theorem T012000 {r : R3} {K : St → Prop} (hr : R3ok r K) : ∀ t : St, St3 r 0 1 2 0 0 0 t → cAnyX noTab ops13 K 13 #[true, false, true, true, false, false, false, false, false, false, false, false, false, false, false, false] t := by
  rintro ⟨e, h⟩ q
  simp [St3, arE, r3P, r3G, r3A, r3B, r3C, r3D, r3E] at q
  obtain ⟨l0, l1, q0, q1, s0, s1, q7, q8, hK⟩ := id hr
  replace hr : Hid (_) := hr
  refine cany4 1 4 6 8 (by kernel_rfl) (by unfold ops13 getOps; exact rfl) (by unfold ops13 getOps; exact rfl) (by unfold ops13 getOps; exact rfl) (by unfold ops13 getOps; exact rfl) ?_ ?_ ?_ ?_
  · simp [*, appendV, srcCells, St.forget, scr, scrC, setsV, -List.map_map]
    refine T022000 hr.out _ ?_
    simp [*, St3, arE, r3P, r3G, r3A, r3B, r3C, r3D, r3E, St.forget, scr, scrC, -List.map_map]
  · simp [*, appendV, srcCells, St.forget, scr, scrC, setsV, -List.map_map]
    refine T013000 hr.out _ ?_
    simp [*, St3, arE, r3P, r3G, r3A, r3B, r3C, r3D, r3E, St.forget, scr, scrC, -List.map_map]
  · simp [*, appendV, srcCells, St.forget, scr, scrC, setsV, -List.map_map]
    refine T012100 hr.out _ ?_
    simp [*, St3, arE, r3P, r3G, r3A, r3B, r3C, r3D, r3E, St.forget, scr, scrC, -List.map_map]
  · simp [*, appendV, srcCells, St.forget, scr, scrC, setsV, -List.map_map]
    refine T012010 hr.out _ ?_
    simp [*, St3, arE, r3P, r3G, r3A, r3B, r3C, r3D, r3E, St.forget, scr, scrC, -List.map_map]
theorem T020100 {r : R3} {K : St → Prop} (hr : R3ok r K) : ∀ t : St, St3 r 0 2 0 1 0 0 t → cAnyX noTab ops13 K 13 #[true, true, false, false, false, false, true, false, false, false, false, false, false, false, false, false] t := by
  rintro ⟨e, h⟩ q
  simp [St3, arE, r3P, r3G, r3A, r3B, r3C, r3D, r3E] at q
  obtain ⟨l0, l1, q0, q1, s0, s1, q7, q8, hK⟩ := id hr
  replace hr : Hid (_) := hr
  refine cany3 2 7 8 (by kernel_rfl) (by unfold ops13 getOps; exact rfl) (by unfold ops13 getOps; exact rfl) (by unfold ops13 getOps; exact rfl) ?_ ?_ ?_
  · simp [*, appendV, srcCells, St.forget, scr, scrC, setsV, -List.map_map]
    refine T021100 hr.out _ ?_
    simp [*, St3, arE, r3P, r3G, r3A, r3B, r3C, r3D, r3E, St.forget, scr, scrC, -List.map_map]
  · simp [*, appendV, srcCells, St.forget, scr, scrC, setsV, -List.map_map]
    refine T020200 hr.out _ ?_
    simp [*, St3, arE, r3P, r3G, r3A, r3B, r3C, r3D, r3E, St.forget, scr, scrC, -List.map_map]
  · simp [*, appendV, srcCells, St.forget, scr, scrC, setsV, -List.map_map]
    refine T020110 hr.out _ ?_
    simp [*, St3, arE, r3P, r3G, r3A, r3B, r3C, r3D, r3E, St.forget, scr, scrC, -List.map_map]
theorem T010110 {r : R3} {K : St → Prop} (hr : R3ok r K) : ∀ t : St, St3 r 0 1 0 1 1 0 t → cAnyX noTab ops13 K 13 #[true, false, false, false, false, false, true, false, true, false, false, false, false, false, false, false] t := by
  rintro ⟨e, h⟩ q
  simp [St3, arE, r3P, r3G, r3A, r3B, r3C, r3D, r3E] at q
  obtain ⟨l0, l1, q0, q1, s0, s1, q7, q8, hK⟩ := id hr
  replace hr : Hid (_) := hr
  refine cany4 1 2 7 9 (by kernel_rfl) (by unfold ops13 getOps; exact rfl) (by unfold ops13 getOps; exact rfl) (by unfold ops13 getOps; exact rfl) (by unfold ops13 getOps; exact rfl) ?_ ?_ ?_ ?_
  · simp [*, appendV, srcCells, St.forget, scr, scrC, setsV, -List.map_map]
    refine T020110 hr.out _ ?_
    simp [*, St3, arE, r3P, r3G, r3A, r3B, r3C, r3D, r3E, St.forget, scr, scrC, -List.map_map]
  · simp [*, appendV, srcCells, St.forget, scr, scrC, setsV, -List.map_map]
    refine T011110 hr.out _ ?_
    simp [*, St3, arE, r3P, r3G, r3A, r3B, r3C, r3D, r3E, St.forget, scr, scrC, -List.map_map]
  · simp [*, appendV, srcCells, St.forget, scr, scrC, setsV, -List.map_map]
    refine T010210 hr.out _ ?_
    simp [*, St3, arE, r3P, r3G, r3A, r3B, r3C, r3D, r3E, St.forget, scr, scrC, -List.map_map]
  · simp [*, appendV, srcCells, St.forget, scr, scrC, setsV, -List.map_map]
    refine T010120 hr.out _ ?_
    simp [*, St3, arE, r3P, r3G, r3A, r3B, r3C, r3D, r3E, St.forget, scr, scrC, -List.map_map]
theorem T001110 {r : R3} {K : St → Prop} (hr : R3ok r K) : ∀ t : St, St3 r 0 0 1 1 1 0 t → cAnyX noTab ops13 K 13 #[false, false, true, false, false, false, true, false, true, false, false, false, false, false, false, false] t := by
  rintro ⟨e, h⟩ q
  simp [St3, arE, r3P, r3G, r3A, r3B, r3C, r3D, r3E] at q
  obtain ⟨l0, l1, q0, q1, s0, s1, q7, q8, hK⟩ := id hr
  replace hr : Hid (_) := hr
  refine cany4 0 3 7 9 (by kernel_rfl) (by unfold ops13 getOps; exact rfl) (by unfold ops13 getOps; exact rfl) (by unfold ops13 getOps; exact rfl) (by unfold ops13 getOps; exact rfl) ?_ ?_ ?_ ?_
  · simp [*, appendV, srcCells, St.forget, scr, scrC, setsV, -List.map_map]
    refine T011110 hr.out _ ?_
    simp [*, St3, arE, r3P, r3G, r3A, r3B, r3C, r3D, r3E, St.forget, scr, scrC, -List.map_map]
  · simp [*, appendV, srcCells, St.forget, scr, scrC, setsV, -List.map_map]
    refine T002110 hr.out _ ?_
    simp [*, St3, arE, r3P, r3G, r3A, r3B, r3C, r3D, r3E, St.forget, scr, scrC, -List.map_map]
  · simp [*, appendV, srcCells, St.forget, scr, scrC, setsV, -List.map_map]
    refine T001210 hr.out _ ?_
    simp [*, St3, arE, r3P, r3G, r3A, r3B, r3C, r3D, r3E, St.forget, scr, scrC, -List.map_map]
  · simp [*, appendV, srcCells, St.forget, scr, scrC, setsV, -List.map_map]
    refine T001120 hr.out _ ?_
    simp [*, St3, arE, r3P, r3G, r3A, r3B, r3C, r3D, r3E, St.forget, scr, scrC, -List.map_map]
theorem T021000 {r : R3} {K : St → Prop} (hr : R3ok r K) : ∀ t : St, St3 r 0 2 1 0 0 0 t → cAnyX noTab ops13 K 13 #[true, true, true, false, false, false, false, false, false, false, false, false, false, false, false, false] t := by
  rintro ⟨e, h⟩ q
  simp [St3, arE, r3P, r3G, r3A, r3B, r3C, r3D, r3E] at q
  obtain ⟨l0, l1, q0, q1, s0, s1, q7, q8, hK⟩ := id hr
  replace hr : Hid (_) := hr
  refine cany3 3 6 8 (by kernel_rfl) (by unfold ops13 getOps; exact rfl) (by unfold ops13 getOps; exact rfl) (by unfold ops13 getOps; exact rfl) ?_ ?_ ?_
  · simp [*, appendV, srcCells, St.forget, scr, scrC, setsV, -List.map_map]
    refine T022000 hr.out _ ?_
    simp [*, St3, arE, r3P, r3G, r3A, r3B, r3C, r3D, r3E, St.forget, scr, scrC, -List.map_map]
  · simp [*, appendV, srcCells, St.forget, scr, scrC, setsV, -List.map_map]
    refine T021100 hr.out _ ?_
    simp [*, St3, arE, r3P, r3G, r3A, r3B, r3C, r3D, r3E, St.forget, scr, scrC, -List.map_map]
  · simp [*, appendV, srcCells, St.forget, scr, scrC, setsV, -List.map_map]
    refine T021010 hr.out _ ?_
    simp [*, St3, arE, r3P, r3G, r3A, r3B, r3C, r3D, r3E, St.forget, scr, scrC, -List.map_map]
theorem T000210 {r : R3} {K : St → Prop} (hr : R3ok r K) : ∀ t : St, St3 r 0 0 0 2 1 0 t → cAnyX noTab ops13 K 13 #[false, false, false, false, false, false, true, true, true, false, false, false, false, false, false, false] t := by
  rintro ⟨e, h⟩ q
  simp [St3, arE, r3P, r3G, r3A, r3B, r3C, r3D, r3E] at q
  obtain ⟨l0, l1, q0, q1, s0, s1, q7, q8, hK⟩ := id hr
  replace hr : Hid (_) := hr
  refine cany3 0 2 9 (by kernel_rfl) (by unfold ops13 getOps; exact rfl) (by unfold ops13 getOps; exact rfl) (by unfold ops13 getOps; exact rfl) ?_ ?_ ?_
  · simp [*, appendV, srcCells, St.forget, scr, scrC, setsV, -List.map_map]
    refine T010210 hr.out _ ?_
    simp [*, St3, arE, r3P, r3G, r3A, r3B, r3C, r3D, r3E, St.forget, scr, scrC, -List.map_map]
  · simp [*, appendV, srcCells, St.forget, scr, scrC, setsV, -List.map_map]
    refine T001210 hr.out _ ?_
    simp [*, St3, arE, r3P, r3G, r3A, r3B, r3C, r3D, r3E, St.forget, scr, scrC, -List.map_map]
  · simp [*, appendV, srcCells, St.forget, scr, scrC, setsV, -List.map_map]
    refine T000220 hr.out _ ?_
    simp [*, St3, arE, r3P, r3G, r3A, r3B, r3C, r3D, r3E, St.forget, scr, scrC, -List.map_map]
theorem T002010 {r : R3} {K : St → Prop} (hr : R3ok r K) : ∀ t : St, St3 r 0 0 2 0 1 0 t → cAnyX noTab ops13 K 13 #[false, false, true, true, false, false, false, false, true, false, false, false, false, false, false, false] t := by
  rintro ⟨e, h⟩ q
  simp [St3, arE, r3P, r3G, r3A, r3B, r3C, r3D, r3E] at q
  obtain ⟨l0, l1, q0, q1, s0, s1, q7, q8, hK⟩ := id hr
  replace hr : Hid (_) := hr
  refine cany4 0 4 6 9 (by kernel_rfl) (by unfold ops13 getOps; exact rfl) (by unfold ops13 getOps; exact rfl) (by unfold ops13 getOps; exact rfl) (by unfold ops13 getOps; exact rfl) ?_ ?_ ?_ ?_
  · simp [*, appendV, srcCells, St.forget, scr, scrC, setsV, -List.map_map]
    refine T012010 hr.out _ ?_
    simp [*, St3, arE, r3P, r3G, r3A, r3B, r3C, r3D, r3E, St.forget, scr, scrC, -List.map_map]
  · simp [*, appendV, srcCells, St.forget, scr, scrC, setsV, -List.map_map]
    refine T003010 hr.out _ ?_
    simp [*, St3, arE, r3P, r3G, r3A, r3B, r3C, r3D, r3E, St.forget, scr, scrC, -List.map_map]
  · simp [*, appendV, srcCells, St.forget, scr, scrC, setsV, -List.map_map]
    refine T002110 hr.out _ ?_
    simp [*, St3, arE, r3P, r3G, r3A, r3B, r3C, r3D, r3E, St.forget, scr, scrC, -List.map_map]
  · simp [*, appendV, srcCells, St.forget, scr, scrC, setsV, -List.map_map]
    refine T002020 hr.out _ ?_
    simp [*, St3, arE, r3P, r3G, r3A, r3B, r3C, r3D, r3E, St.forget, scr, scrC, -List.map_map]
theorem T001020 {r : R3} {K : St → Prop} (hr : R3ok r K) : ∀ t : St, St3 r 0 0 1 0 2 0 t → cAnyX noTab ops13 K 13 #[false, false, true, false, false, false, false, false, true, true, false, false, false, false, false, false] t := by
  rintro ⟨e, h⟩ q
  simp [St3, arE, r3P, r3G, r3A, r3B, r3C, r3D, r3E] at q
  obtain ⟨l0, l1, q0, q1, s0, s1, q7, q8, hK⟩ := id hr
  replace hr : Hid (_) := hr
  refine cany4 0 3 6 10 (by kernel_rfl) (by unfold ops13 getOps; exact rfl) (by unfold ops13 getOps; exact rfl) (by unfold ops13 getOps; exact rfl) (by unfold ops13 getOps; exact rfl) ?_ ?_ ?_ ?_
  · simp [*, appendV, srcCells, St.forget, scr, scrC, setsV, -List.map_map]
    refine T011020 hr.out _ ?_
    simp [*, St3, arE, r3P, r3G, r3A, r3B, r3C, r3D, r3E, St.forget, scr, scrC, -List.map_map]
  · simp [*, appendV, srcCells, St.forget, scr, scrC, setsV, -List.map_map]
    refine T002020 hr.out _ ?_
    simp [*, St3, arE, r3P, r3G, r3A, r3B, r3C, r3D, r3E, St.forget, scr, scrC, -List.map_map]
  · simp [*, appendV, srcCells, St.forget, scr, scrC, setsV, -List.map_map]
    refine T001120 hr.out _ ?_
    simp [*, St3, arE, r3P, r3G, r3A, r3B, r3C, r3D, r3E, St.forget, scr, scrC, -List.map_map]
  · simp [*, appendV, srcCells, St.forget, scr, scrC, setsV, -List.map_map]
    refine T001030 hr.out _ ?_
    simp [*, St3, arE, r3P, r3G, r3A, r3B, r3C, r3D, r3E, St.forget, scr, scrC, -List.map_map]
theorem T003000 {r : R3} {K : St → Prop} (hr : R3ok r K) : ∀ t : St, St3 r 0 0 3 0 0 0 t → cAnyX noTab ops13 K 13 #[false, false, true, true, true, false, false, false, false, false, false, false, false, false, false, false] t := by
  rintro ⟨e, h⟩ q
  simp [St3, arE, r3P, r3G, r3A, r3B, r3C, r3D, r3E] at q
  obtain ⟨l0, l1, q0, q1, s0, s1, q7, q8, hK⟩ := id hr
  replace hr : Hid (_) := hr
  refine cany3 0 6 8 (by kernel_rfl) (by unfold ops13 getOps; exact rfl) (by unfold ops13 getOps; exact rfl) (by unfold ops13 getOps; exact rfl) ?_ ?_ ?_
  · simp [*, appendV, srcCells, St.forget, scr, scrC, setsV, -List.map_map]
    refine T013000 hr.out _ ?_
    simp [*, St3, arE, r3P, r3G, r3A, r3B, r3C, r3D, r3E, St.forget, scr, scrC, -List.map_map]
  · simp [*, appendV, srcCells, St.forget, scr, scrC, setsV, -List.map_map]
    refine T003100 hr.out _ ?_
    simp [*, St3, arE, r3P, r3G, r3A, r3B, r3C, r3D, r3E, St.forget, scr, scrC, -List.map_map]
  · simp [*, appendV, srcCells, St.forget, scr, scrC, setsV, -List.map_map]
    refine T003010 hr.out _ ?_
    simp [*, St3, arE, r3P, r3G, r3A, r3B, r3C, r3D, r3E, St.forget, scr, scrC, -List.map_map]
theorem T020010 {r : R3} {K : St → Prop} (hr : R3ok r K) : ∀ t : St, St3 r 0 2 0 0 1 0 t → cAnyX noTab ops13 K 13 #[true, true, false, false, false, false, false, false, true, false, false, false, false, false, false, false] t := by
  rintro ⟨e, h⟩ q
  simp [St3, arE, r3P, r3G, r3A, r3B, r3C, r3D, r3E] at q
  obtain ⟨l0, l1, q0, q1, s0, s1, q7, q8, hK⟩ := id hr
  replace hr : Hid (_) := hr
  refine cany3 2 6 9 (by kernel_rfl) (by unfold ops13 getOps; exact rfl) (by unfold ops13 getOps; exact rfl) (by unfold ops13 getOps; exact rfl) ?_ ?_ ?_
  · simp [*, appendV, srcCells, St.forget, scr, scrC, setsV, -List.map_map]
    refine T021010 hr.out _ ?_
    simp [*, St3, arE, r3P, r3G, r3A, r3B, r3C, r3D, r3E, St.forget, scr, scrC, -List.map_map]
  · simp [*, appendV, srcCells, St.forget, scr, scrC, setsV, -List.map_map]
    refine T020110 hr.out _ ?_
    simp [*, St3, arE, r3P, r3G, r3A, r3B, r3C, r3D, r3E, St.forget, scr, scrC, -List.map_map]
  · simp [*, appendV, srcCells, St.forget, scr, scrC, setsV, -List.map_map]
    refine T020020 hr.out _ ?_
    simp [*, St3, arE, r3P, r3G, r3A, r3B, r3C, r3D, r3E, St.forget, scr, scrC, -List.map_map]
theorem T000120 {r : R3} {K : St → Prop} (hr : R3ok r K) : ∀ t : St, St3 r 0 0 0 1 2 0 t → cAnyX noTab ops13 K 13 #[false, false, false, false, false, false, true, false, true, true, false, false, false, false, false, false] t := by
  rintro ⟨e, h⟩ q
  simp [St3, arE, r3P, r3G, r3A, r3B, r3C, r3D, r3E] at q
  obtain ⟨l0, l1, q0, q1, s0, s1, q7, q8, hK⟩ := id hr
  replace hr : Hid (_) := hr
  refine cany4 0 2 7 10 (by kernel_rfl) (by unfold ops13 getOps; exact rfl) (by unfold ops13 getOps; exact rfl) (by unfold ops13 getOps; exact rfl) (by unfold ops13 getOps; exact rfl) ?_ ?_ ?_ ?_
  · simp [*, appendV, srcCells, St.forget, scr, scrC, setsV, -List.map_map]
    refine T010120 hr.out _ ?_
    simp [*, St3, arE, r3P, r3G, r3A, r3B, r3C, r3D, r3E, St.forget, scr, scrC, -List.map_map]
  · simp [*, appendV, srcCells, St.forget, scr, scrC, setsV, -List.map_map]
    refine T001120 hr.out _ ?_
    simp [*, St3, arE, r3P, r3G, r3A, r3B, r3C, r3D, r3E, St.forget, scr, scrC, -List.map_map]
  · simp [*, appendV, srcCells, St.forget, scr, scrC, setsV, -List.map_map]
    refine T000220 hr.out _ ?_
    simp [*, St3, arE, r3P, r3G, r3A, r3B, r3C, r3D, r3E, St.forget, scr, scrC, -List.map_map]
  · simp [*, appendV, srcCells, St.forget, scr, scrC, setsV, -List.map_map]
    refine T000130 hr.out _ ?_
    simp [*, St3, arE, r3P, r3G, r3A, r3B, r3C, r3D, r3E, St.forget, scr, scrC, -List.map_map]
theorem T011100 {r : R3} {K : St → Prop} (hr : R3ok r K) : ∀ t : St, St3 r 0 1 1 1 0 0 t → cAnyX noTab ops13 K 13 #[true, false, true, false, false, false, true, false, false, false, false, false, false, false, false, false] t := by
  rintro ⟨e, h⟩ q
  simp [St3, arE, r3P, r3G, r3A, r3B, r3C, r3D, r3E] at q
  obtain ⟨l0, l1, q0, q1, s0, s1, q7, q8, hK⟩ := id hr
  replace hr : Hid (_) := hr
  refine cany4 1 3 7 8 (by kernel_rfl) (by unfold ops13 getOps; exact rfl) (by unfold ops13 getOps; exact rfl) (by unfold ops13 getOps; exact rfl) (by unfold ops13 getOps; exact rfl) ?_ ?_ ?_ ?_
  · simp [*, appendV, srcCells, St.forget, scr, scrC, setsV, -List.map_map]
    refine T021100 hr.out _ ?_
    simp [*, St3, arE, r3P, r3G, r3A, r3B, r3C, r3D, r3E, St.forget, scr, scrC, -List.map_map]
  · simp [*, appendV, srcCells, St.forget, scr, scrC, setsV, -List.map_map]
    refine T012100 hr.out _ ?_
    simp [*, St3, arE, r3P, r3G, r3A, r3B, r3C, r3D, r3E, St.forget, scr, scrC, -List.map_map]
  · simp [*, appendV, srcCells, St.forget, scr, scrC, setsV, -List.map_map]
    refine T011200 hr.out _ ?_
    simp [*, St3, arE, r3P, r3G, r3A, r3B, r3C, r3D, r3E, St.forget, scr, scrC, -List.map_map]
  · simp [*, appendV, srcCells, St.forget, scr, scrC, setsV, -List.map_map]
    refine T011110 hr.out _ ?_
    simp [*, St3, arE, r3P, r3G, r3A, r3B, r3C, r3D, r3E, St.forget, scr, scrC, -List.map_map]
theorem T001100 {r : R3} {K : St → Prop} (hr : R3ok r K) : ∀ t : St, St3 r 0 0 1 1 0 0 t → cAnyX noTab ops13 K 14 #[false, false, true, false, false, false, true, false, false, false, false, false, false, false, false, false] t := by
  rintro ⟨e, h⟩ q
  simp [St3, arE, r3P, r3G, r3A, r3B, r3C, r3D, r3E] at q
  obtain ⟨l0, l1, q0, q1, s0, s1, q7, q8, hK⟩ := id hr
  replace hr : Hid (_) := hr
  refine cany4 0 3 7 8 (by kernel_rfl) (by unfold ops13 getOps; exact rfl) (by unfold ops13 getOps; exact rfl) (by unfold ops13 getOps; exact rfl) (by unfold ops13 getOps; exact rfl) ?_ ?_ ?_ ?_
  · simp [*, appendV, srcCells, St.forget, scr, scrC, setsV, -List.map_map]
    refine T011100 hr.out _ ?_
    simp [*, St3, arE, r3P, r3G, r3A, r3B, r3C, r3D, r3E, St.forget, scr, scrC, -List.map_map]
  · simp [*, appendV, srcCells, St.forget, scr, scrC, setsV, -List.map_map]
    refine T002100 hr.out _ ?_
    simp [*, St3, arE, r3P, r3G, r3A, r3B, r3C, r3D, r3E, St.forget, scr, scrC, -List.map_map]
  · simp [*, appendV, srcCells, St.forget, scr, scrC, setsV, -List.map_map]
    refine T001200 hr.out _ ?_
    simp [*, St3, arE, r3P, r3G, r3A, r3B, r3C, r3D, r3E, St.forget, scr, scrC, -List.map_map]
  · simp [*, appendV, srcCells, St.forget, scr, scrC, setsV, -List.map_map]
    refine T001110 hr.out _ ?_
    simp [*, St3, arE, r3P, r3G, r3A, r3B, r3C, r3D, r3E, St.forget, scr, scrC, -List.map_map]
theorem T000020 {r : R3} {K : St → Prop} (hr : R3ok r K) : ∀ t : St, St3 r 0 0 0 0 2 0 t → cAnyX noTab ops13 K 14 #[false, false, false, false, false, false, false, false, true, true, false, false, false, false, false, false] t := by
  rintro ⟨e, h⟩ q
  simp [St3, arE, r3P, r3G, r3A, r3B, r3C, r3D, r3E] at q
  obtain ⟨l0, l1, q0, q1, s0, s1, q7, q8, hK⟩ := id hr
  replace hr : Hid (_) := hr
  refine cany4 0 2 6 10 (by kernel_rfl) (by unfold ops13 getOps; exact rfl) (by unfold ops13 getOps; exact rfl) (by unfold ops13 getOps; exact rfl) (by unfold ops13 getOps; exact rfl) ?_ ?_ ?_ ?_
  · simp [*, appendV, srcCells, St.forget, scr, scrC, setsV, -List.map_map]
    refine T010020 hr.out _ ?_
    simp [*, St3, arE, r3P, r3G, r3A, r3B, r3C, r3D, r3E, St.forget, scr, scrC, -List.map_map]
  · simp [*, appendV, srcCells, St.forget, scr, scrC, setsV, -List.map_map]
    refine T001020 hr.out _ ?_
    simp [*, St3, arE, r3P, r3G, r3A, r3B, r3C, r3D, r3E, St.forget, scr, scrC, -List.map_map]
  · simp [*, appendV, srcCells, St.forget, scr, scrC, setsV, -List.map_map]
    refine T000120 hr.out _ ?_
    simp [*, St3, arE, r3P, r3G, r3A, r3B, r3C, r3D, r3E, St.forget, scr, scrC, -List.map_map]
  · simp [*, appendV, srcCells, St.forget, scr, scrC, setsV, -List.map_map]
    refine T000030 hr.out _ ?_
    simp [*, St3, arE, r3P, r3G, r3A, r3B, r3C, r3D, r3E, St.forget, scr, scrC, -List.map_map]
theorem T011000 {r : R3} {K : St → Prop} (hr : R3ok r K) : ∀ t : St, St3 r 0 1 1 0 0 0 t → cAnyX noTab ops13 K 14 #[true, false, true, false, false, false, false, false, false, false, false, false, false, false, false, false] t := by
  rintro ⟨e, h⟩ q
  simp [St3, arE, r3P, r3G, r3A, r3B, r3C, r3D, r3E] at q
  obtain ⟨l0, l1, q0, q1, s0, s1, q7, q8, hK⟩ := id hr
  replace hr : Hid (_) := hr
  refine cany4 1 3 6 8 (by kernel_rfl) (by unfold ops13 getOps; exact rfl) (by unfold ops13 getOps; exact rfl) (by unfold ops13 getOps; exact rfl) (by unfold ops13 getOps; exact rfl) ?_ ?_ ?_ ?_
  · simp [*, appendV, srcCells, St.forget, scr, scrC, setsV, -List.map_map]
    refine T021000 hr.out _ ?_
    simp [*, St3, arE, r3P, r3G, r3A, r3B, r3C, r3D, r3E, St.forget, scr, scrC, -List.map_map]
  · simp [*, appendV, srcCells, St.forget, scr, scrC, setsV, -List.map_map]
    refine T012000 hr.out _ ?_
    simp [*, St3, arE, r3P, r3G, r3A, r3B, r3C, r3D, r3E, St.forget, scr, scrC, -List.map_map]
  · simp [*, appendV, srcCells, St.forget, scr, scrC, setsV, -List.map_map]
    refine T011100 hr.out _ ?_
    simp [*, St3, arE, r3P, r3G, r3A, r3B, r3C, r3D, r3E, St.forget, scr, scrC, -List.map_map]
  · simp [*, appendV, srcCells, St.forget, scr, scrC, setsV, -List.map_map]
    refine T011010 hr.out _ ?_
    simp [*, St3, arE, r3P, r3G, r3A, r3B, r3C, r3D, r3E, St.forget, scr, scrC, -List.map_map]
theorem T001010 {r : R3} {K : St → Prop} (hr : R3ok r K) : ∀ t : St, St3 r 0 0 1 0 1 0 t → cAnyX noTab ops13 K 14 #[false, false, true, false, false, false, false, false, true, false, false, false, false, false, false, false] t := by
  rintro ⟨e, h⟩ q
  simp [St3, arE, r3P, r3G, r3A, r3B, r3C, r3D, r3E] at q
  obtain ⟨l0, l1, q0, q1, s0, s1, q7, q8, hK⟩ := id hr
  replace hr : Hid (_) := hr
  refine cany4 0 3 6 9 (by kernel_rfl) (by unfold ops13 getOps; exact rfl) (by unfold ops13 getOps; exact rfl) (by unfold ops13 getOps; exact rfl) (by unfold ops13 getOps; exact rfl) ?_ ?_ ?_ ?_
  · simp [*, appendV, srcCells, St.forget, scr, scrC, setsV, -List.map_map]
    refine T011010 hr.out _ ?_
    simp [*, St3, arE, r3P, r3G, r3A, r3B, r3C, r3D, r3E, St.forget, scr, scrC, -List.map_map]
  · simp [*, appendV, srcCells, St.forget, scr, scrC, setsV, -List.map_map]
    refine T002010 hr.out _ ?_
    simp [*, St3, arE, r3P, r3G, r3A, r3B, r3C, r3D, r3E, St.forget, scr, scrC, -List.map_map]
  · simp [*, appendV, srcCells, St.forget, scr, scrC, setsV, -List.map_map]
    refine T001110 hr.out _ ?_
    simp [*, St3, arE, r3P, r3G, r3A, r3B, r3C, r3D, r3E, St.forget, scr, scrC, -List.map_map]
  · simp [*, appendV, srcCells, St.forget, scr, scrC, setsV, -List.map_map]
    refine T001020 hr.out _ ?_
    simp [*, St3, arE, r3P, r3G, r3A, r3B, r3C, r3D, r3E, St.forget, scr, scrC, -List.map_map]
theorem T010100 {r : R3} {K : St → Prop} (hr : R3ok r K) : ∀ t : St, St3 r 0 1 0 1 0 0 t → cAnyX noTab ops13 K 14 #[true, false, false, false, false, false, true, false, false, false, false, false, false, false, false, false] t := by
  rintro ⟨e, h⟩ q
  simp [St3, arE, r3P, r3G, r3A, r3B, r3C, r3D, r3E] at q
  obtain ⟨l0, l1, q0, q1, s0, s1, q7, q8, hK⟩ := id hr
  replace hr : Hid (_) := hr
  refine cany4 1 2 7 8 (by kernel_rfl) (by unfold ops13 getOps; exact rfl) (by unfold ops13 getOps; exact rfl) (by unfold ops13 getOps; exact rfl) (by unfold ops13 getOps; exact rfl) ?_ ?_ ?_ ?_
  · simp [*, appendV, srcCells, St.forget, scr, scrC, setsV, -List.map_map]
    refine T020100 hr.out _ ?_
    simp [*, St3, arE, r3P, r3G, r3A, r3B, r3C, r3D, r3E, St.forget, scr, scrC, -List.map_map]
  · simp [*, appendV, srcCells, St.forget, scr, scrC, setsV, -List.map_map]
    refine T011100 hr.out _ ?_
    simp [*, St3, arE, r3P, r3G, r3A, r3B, r3C, r3D, r3E, St.forget, scr, scrC, -List.map_map]
  · simp [*, appendV, srcCells, St.forget, scr, scrC, setsV, -List.map_map]
    refine T010200 hr.out _ ?_
    simp [*, St3, arE, r3P, r3G, r3A, r3B, r3C, r3D, r3E, St.forget, scr, scrC, -List.map_map]
  · simp [*, appendV, srcCells, St.forget, scr, scrC, setsV, -List.map_map]
    refine T010110 hr.out _ ?_
    simp [*, St3, arE, r3P, r3G, r3A, r3B, r3C, r3D, r3E, St.forget, scr, scrC, -List.map_map]
theorem T020000 {r : R3} {K : St → Prop} (hr : R3ok r K) : ∀ t : St, St3 r 0 2 0 0 0 0 t → cAnyX noTab ops13 K 14 #[true, true, false, false, false, false, false, false, false, false, false, false, false, false, false, false] t := by
  rintro ⟨e, h⟩ q
  simp [St3, arE, r3P, r3G, r3A, r3B, r3C, r3D, r3E] at q
  obtain ⟨l0, l1, q0, q1, s0, s1, q7, q8, hK⟩ := id hr
  replace hr : Hid (_) := hr
  refine cany3 2 6 8 (by kernel_rfl) (by unfold ops13 getOps; exact rfl) (by unfold ops13 getOps; exact rfl) (by unfold ops13 getOps; exact rfl) ?_ ?_ ?_
  · simp [*, appendV, srcCells, St.forget, scr, scrC, setsV, -List.map_map]
    refine T021000 hr.out _ ?_
    simp [*, St3, arE, r3P, r3G, r3A, r3B, r3C, r3D, r3E, St.forget, scr, scrC, -List.map_map]
  · simp [*, appendV, srcCells, St.forget, scr, scrC, setsV, -List.map_map]
    refine T020100 hr.out _ ?_
    simp [*, St3, arE, r3P, r3G, r3A, r3B, r3C, r3D, r3E, St.forget, scr, scrC, -List.map_map]
  · simp [*, appendV, srcCells, St.forget, scr, scrC, setsV, -List.map_map]
    refine T020010 hr.out _ ?_
    simp [*, St3, arE, r3P, r3G, r3A, r3B, r3C, r3D, r3E, St.forget, scr, scrC, -List.map_map]
theorem T000200 {r : R3} {K : St → Prop} (hr : R3ok r K) : ∀ t : St, St3 r 0 0 0 2 0 0 t → cAnyX noTab ops13 K 14 #[false, false, false, false, false, false, true, true, false, false, false, false, false, false, false, false] t := by
  rintro ⟨e, h⟩ q
  simp [St3, arE, r3P, r3G, r3A, r3B, r3C, r3D, r3E] at q
  obtain ⟨l0, l1, q0, q1, s0, s1, q7, q8, hK⟩ := id hr
  replace hr : Hid (_) := hr
  refine cany3 0 2 8 (by kernel_rfl) (by unfold ops13 getOps; exact rfl) (by unfold ops13 getOps; exact rfl) (by unfold ops13 getOps; exact rfl) ?_ ?_ ?_
  · simp [*, appendV, srcCells, St.forget, scr, scrC, setsV, -List.map_map]
    refine T010200 hr.out _ ?_
    simp [*, St3, arE, r3P, r3G, r3A, r3B, r3C, r3D, r3E, St.forget, scr, scrC, -List.map_map]
  · simp [*, appendV, srcCells, St.forget, scr, scrC, setsV, -List.map_map]
    refine T001200 hr.out _ ?_
    simp [*, St3, arE, r3P, r3G, r3A, r3B, r3C, r3D, r3E, St.forget, scr, scrC, -List.map_map]
  · simp [*, appendV, srcCells, St.forget, scr, scrC, setsV, -List.map_map]
    refine T000210 hr.out _ ?_
    simp [*, St3, arE, r3P, r3G, r3A, r3B, r3C, r3D, r3E, St.forget, scr, scrC, -List.map_map]
theorem T010010 {r : R3} {K : St → Prop} (hr : R3ok r K) : ∀ t : St, St3 r 0 1 0 0 1 0 t → cAnyX noTab ops13 K 14 #[true, false, false, false, false, false, false, false, true, false, false, false, false, false, false, false] t := by
  rintro ⟨e, h⟩ q
  simp [St3, arE, r3P, r3G, r3A, r3B, r3C, r3D, r3E] at q
  obtain ⟨l0, l1, q0, q1, s0, s1, q7, q8, hK⟩ := id hr
  replace hr : Hid (_) := hr
  refine cany4 1 2 6 9 (by kernel_rfl) (by unfold ops13 getOps; exact rfl) (by unfold ops13 getOps; exact rfl) (by unfold ops13 getOps; exact rfl) (by unfold ops13 getOps; exact rfl) ?_ ?_ ?_ ?_
  · simp [*, appendV, srcCells, St.forget, scr, scrC, setsV, -List.map_map]
    refine T020010 hr.out _ ?_
    simp [*, St3, arE, r3P, r3G, r3A, r3B, r3C, r3D, r3E, St.forget, scr, scrC, -List.map_map]
  · simp [*, appendV, srcCells, St.forget, scr, scrC, setsV, -List.map_map]
    refine T011010 hr.out _ ?_
    simp [*, St3, arE, r3P, r3G, r3A, r3B, r3C, r3D, r3E, St.forget, scr, scrC, -List.map_map]
  · simp [*, appendV, srcCells, St.forget, scr, scrC, setsV, -List.map_map]
    refine T010110 hr.out _ ?_
    simp [*, St3, arE, r3P, r3G, r3A, r3B, r3C, r3D, r3E, St.forget, scr, scrC, -List.map_map]
  · simp [*, appendV, srcCells, St.forget, scr, scrC, setsV, -List.map_map]
    refine T010020 hr.out _ ?_
    simp [*, St3, arE, r3P, r3G, r3A, r3B, r3C, r3D, r3E, St.forget, scr, scrC, -List.map_map]
theorem T000110 {r : R3} {K : St → Prop} (hr : R3ok r K) : ∀ t : St, St3 r 0 0 0 1 1 0 t → cAnyX noTab ops13 K 14 #[false, false, false, false, false, false, true, false, true, false, false, false, false, false, false, false] t := by
  rintro ⟨e, h⟩ q
  simp [St3, arE, r3P, r3G, r3A, r3B, r3C, r3D, r3E] at q
  obtain ⟨l0, l1, q0, q1, s0, s1, q7, q8, hK⟩ := id hr
  replace hr : Hid (_) := hr
  refine cany4 0 2 7 9 (by kernel_rfl) (by unfold ops13 getOps; exact rfl) (by unfold ops13 getOps; exact rfl) (by unfold ops13 getOps; exact rfl) (by unfold ops13 getOps; exact rfl) ?_ ?_ ?_ ?_
  · simp [*, appendV, srcCells, St.forget, scr, scrC, setsV, -List.map_map]
    refine T010110 hr.out _ ?_
    simp [*, St3, arE, r3P, r3G, r3A, r3B, r3C, r3D, r3E, St.forget, scr, scrC, -List.map_map]
  · simp [*, appendV, srcCells, St.forget, scr, scrC, setsV, -List.map_map]
    refine T001110 hr.out _ ?_
    simp [*, St3, arE, r3P, r3G, r3A, r3B, r3C, r3D, r3E, St.forget, scr, scrC, -List.map_map]
  · simp [*, appendV, srcCells, St.forget, scr, scrC, setsV, -List.map_map]
    refine T000210 hr.out _ ?_
    simp [*, St3, arE, r3P, r3G, r3A, r3B, r3C, r3D, r3E, St.forget, scr, scrC, -List.map_map]
  · simp [*, appendV, srcCells, St.forget, scr, scrC, setsV, -List.map_map]
    refine T000120 hr.out _ ?_
    simp [*, St3, arE, r3P, r3G, r3A, r3B, r3C, r3D, r3E, St.forget, scr, scrC, -List.map_map]
theorem T002000 {r : R3} {K : St → Prop} (hr : R3ok r K) : ∀ t : St, St3 r 0 0 2 0 0 0 t → cAnyX noTab ops13 K 14 #[false, false, true, true, false, false, false, false, false, false, false, false, false, false, false, false] t := by
  rintro ⟨e, h⟩ q
  simp [St3, arE, r3P, r3G, r3A, r3B, r3C, r3D, r3E] at q
  obtain ⟨l0, l1, q0, q1, s0, s1, q7, q8, hK⟩ := id hr
  replace hr : Hid (_) := hr
  refine cany4 0 4 6 8 (by kernel_rfl) (by unfold ops13 getOps; exact rfl) (by unfold ops13 getOps; exact rfl) (by unfold ops13 getOps; exact rfl) (by unfold ops13 getOps; exact rfl) ?_ ?_ ?_ ?_
  · simp [*, appendV, srcCells, St.forget, scr, scrC, setsV, -List.map_map]
    refine T012000 hr.out _ ?_
    simp [*, St3, arE, r3P, r3G, r3A, r3B, r3C, r3D, r3E, St.forget, scr, scrC, -List.map_map]
  · simp [*, appendV, srcCells, St.forget, scr, scrC, setsV, -List.map_map]
    refine T003000 hr.out _ ?_
    simp [*, St3, arE, r3P, r3G, r3A, r3B, r3C, r3D, r3E, St.forget, scr, scrC, -List.map_map]
  · simp [*, appendV, srcCells, St.forget, scr, scrC, setsV, -List.map_map]
    refine T002100 hr.out _ ?_
    simp [*, St3, arE, r3P, r3G, r3A, r3B, r3C, r3D, r3E, St.forget, scr, scrC, -List.map_map]
  · simp [*, appendV, srcCells, St.forget, scr, scrC, setsV, -List.map_map]
    refine T002010 hr.out _ ?_
    simp [*, St3, arE, r3P, r3G, r3A, r3B, r3C, r3D, r3E, St.forget, scr, scrC, -List.map_map]
theorem T000100 {r : R3} {K : St → Prop} (hr : R3ok r K) : ∀ t : St, St3 r 0 0 0 1 0 0 t → cAnyX noTab ops13 K 15 #[false, false, false, false, false, false, true, false, false, false, false, false, false, false, false, false] t := by
  rintro ⟨e, h⟩ q
  simp [St3, arE, r3P, r3G, r3A, r3B, r3C, r3D, r3E] at q
  obtain ⟨l0, l1, q0, q1, s0, s1, q7, q8, hK⟩ := id hr
  replace hr : Hid (_) := hr
  refine cany4 0 2 7 8 (by kernel_rfl) (by unfold ops13 getOps; exact rfl) (by unfold ops13 getOps; exact rfl) (by unfold ops13 getOps; exact rfl) (by unfold ops13 getOps; exact rfl) ?_ ?_ ?_ ?_
  · simp [*, appendV, srcCells, St.forget, scr, scrC, setsV, -List.map_map]
    refine T010100 hr.out _ ?_
    simp [*, St3, arE, r3P, r3G, r3A, r3B, r3C, r3D, r3E, St.forget, scr, scrC, -List.map_map]
  · simp [*, appendV, srcCells, St.forget, scr, scrC, setsV, -List.map_map]
    refine T001100 hr.out _ ?_
    simp [*, St3, arE, r3P, r3G, r3A, r3B, r3C, r3D, r3E, St.forget, scr, scrC, -List.map_map]
  · simp [*, appendV, srcCells, St.forget, scr, scrC, setsV, -List.map_map]
    refine T000200 hr.out _ ?_
    simp [*, St3, arE, r3P, r3G, r3A, r3B, r3C, r3D, r3E, St.forget, scr, scrC, -List.map_map]
  · simp [*, appendV, srcCells, St.forget, scr, scrC, setsV, -List.map_map]
    refine T000110 hr.out _ ?_
    simp [*, St3, arE, r3P, r3G, r3A, r3B, r3C, r3D, r3E, St.forget, scr, scrC, -List.map_map]
theorem T010000 {r : R3} {K : St → Prop} (hr : R3ok r K) : ∀ t : St, St3 r 0 1 0 0 0 0 t → cAnyX noTab ops13 K 15 #[true, false, false, false, false, false, false, false, false, false, false, false, false, false, false, false] t := by
  rintro ⟨e, h⟩ q
  simp [St3, arE, r3P, r3G, r3A, r3B, r3C, r3D, r3E] at q
  obtain ⟨l0, l1, q0, q1, s0, s1, q7, q8, hK⟩ := id hr
  replace hr : Hid (_) := hr
  refine cany4 1 2 6 8 (by kernel_rfl) (by unfold ops13 getOps; exact rfl) (by unfold ops13 getOps; exact rfl) (by unfold ops13 getOps; exact rfl) (by unfold ops13 getOps; exact rfl) ?_ ?_ ?_ ?_
  · simp [*, appendV, srcCells, St.forget, scr, scrC, setsV, -List.map_map]
    refine T020000 hr.out _ ?_
    simp [*, St3, arE, r3P, r3G, r3A, r3B, r3C, r3D, r3E, St.forget, scr, scrC, -List.map_map]
  · simp [*, appendV, srcCells, St.forget, scr, scrC, setsV, -List.map_map]
    refine T011000 hr.out _ ?_
    simp [*, St3, arE, r3P, r3G, r3A, r3B, r3C, r3D, r3E, St.forget, scr, scrC, -List.map_map]
  · simp [*, appendV, srcCells, St.forget, scr, scrC, setsV, -List.map_map]
    refine T010100 hr.out _ ?_
    simp [*, St3, arE, r3P, r3G, r3A, r3B, r3C, r3D, r3E, St.forget, scr, scrC, -List.map_map]
  · simp [*, appendV, srcCells, St.forget, scr, scrC, setsV, -List.map_map]
    refine T010010 hr.out _ ?_
    simp [*, St3, arE, r3P, r3G, r3A, r3B, r3C, r3D, r3E, St.forget, scr, scrC, -List.map_map]
theorem T000010 {r : R3} {K : St → Prop} (hr : R3ok r K) : ∀ t : St, St3 r 0 0 0 0 1 0 t → cAnyX noTab ops13 K 15 #[false, false, false, false, false, false, false, false, true, false, false, false, false, false, false, false] t := by
  rintro ⟨e, h⟩ q
  simp [St3, arE, r3P, r3G, r3A, r3B, r3C, r3D, r3E] at q
  obtain ⟨l0, l1, q0, q1, s0, s1, q7, q8, hK⟩ := id hr
  replace hr : Hid (_) := hr
  refine cany4 0 2 6 9 (by kernel_rfl) (by unfold ops13 getOps; exact rfl) (by unfold ops13 getOps; exact rfl) (by unfold ops13 getOps; exact rfl) (by unfold ops13 getOps; exact rfl) ?_ ?_ ?_ ?_
  · simp [*, appendV, srcCells, St.forget, scr, scrC, setsV, -List.map_map]
    refine T010010 hr.out _ ?_
    simp [*, St3, arE, r3P, r3G, r3A, r3B, r3C, r3D, r3E, St.forget, scr, scrC, -List.map_map]
  · simp [*, appendV, srcCells, St.forget, scr, scrC, setsV, -List.map_map]
    refine T001010 hr.out _ ?_
    simp [*, St3, arE, r3P, r3G, r3A, r3B, r3C, r3D, r3E, St.forget, scr, scrC, -List.map_map]
  · simp [*, appendV, srcCells, St.forget, scr, scrC, setsV, -List.map_map]
    refine T000110 hr.out _ ?_
    simp [*, St3, arE, r3P, r3G, r3A, r3B, r3C, r3D, r3E, St.forget, scr, scrC, -List.map_map]
  · simp [*, appendV, srcCells, St.forget, scr, scrC, setsV, -List.map_map]
    refine T000020 hr.out _ ?_
    simp [*, St3, arE, r3P, r3G, r3A, r3B, r3C, r3D, r3E, St.forget, scr, scrC, -List.map_map]
theorem T001000 {r : R3} {K : St → Prop} (hr : R3ok r K) : ∀ t : St, St3 r 0 0 1 0 0 0 t → cAnyX noTab ops13 K 15 #[false, false, true, false, false, false, false, false, false, false, false, false, false, false, false, false] t := by
  rintro ⟨e, h⟩ q
  simp [St3, arE, r3P, r3G, r3A, r3B, r3C, r3D, r3E] at q
  obtain ⟨l0, l1, q0, q1, s0, s1, q7, q8, hK⟩ := id hr
  replace hr : Hid (_) := hr
  refine cany4 0 3 6 8 (by kernel_rfl) (by unfold ops13 getOps; exact rfl) (by unfold ops13 getOps; exact rfl) (by unfold ops13 getOps; exact rfl) (by unfold ops13 getOps; exact rfl) ?_ ?_ ?_ ?_
  · simp [*, appendV, srcCells, St.forget, scr, scrC, setsV, -List.map_map]
    refine T011000 hr.out _ ?_
    simp [*, St3, arE, r3P, r3G, r3A, r3B, r3C, r3D, r3E, St.forget, scr, scrC, -List.map_map]
  · simp [*, appendV, srcCells, St.forget, scr, scrC, setsV, -List.map_map]
    refine T002000 hr.out _ ?_
    simp [*, St3, arE, r3P, r3G, r3A, r3B, r3C, r3D, r3E, St.forget, scr, scrC, -List.map_map]
  · simp [*, appendV, srcCells, St.forget, scr, scrC, setsV, -List.map_map]
    refine T001100 hr.out _ ?_
    simp [*, St3, arE, r3P, r3G, r3A, r3B, r3C, r3D, r3E, St.forget, scr, scrC, -List.map_map]
  · simp [*, appendV, srcCells, St.forget, scr, scrC, setsV, -List.map_map]
    refine T001010 hr.out _ ?_
    simp [*, St3, arE, r3P, r3G, r3A, r3B, r3C, r3D, r3E, St.forget, scr, scrC, -List.map_map]
theorem T000000 {r : R3} {K : St → Prop} (hr : R3ok r K) : ∀ t : St, St3 r 0 0 0 0 0 0 t → cAnyX noTab ops13 K 16 #[false, false, false, false, false, false, false, false, false, false, false, false, false, false, false, false] t := by
  rintro ⟨e, h⟩ q
  simp [St3, arE, r3P, r3G, r3A, r3B, r3C, r3D, r3E] at q
  obtain ⟨l0, l1, q0, q1, s0, s1, q7, q8, hK⟩ := id hr
  replace hr : Hid (_) := hr
  refine cany4 0 2 6 8 (by kernel_rfl) (by unfold ops13 getOps; exact rfl) (by unfold ops13 getOps; exact rfl) (by unfold ops13 getOps; exact rfl) (by unfold ops13 getOps; exact rfl) ?_ ?_ ?_ ?_
  · simp [*, appendV, srcCells, St.forget, scr, scrC, setsV, -List.map_map]
    refine T010000 hr.out _ ?_
    simp [*, St3, arE, r3P, r3G, r3A, r3B, r3C, r3D, r3E, St.forget, scr, scrC, -List.map_map]
  · simp [*, appendV, srcCells, St.forget, scr, scrC, setsV, -List.map_map]
    refine T001000 hr.out _ ?_
    simp [*, St3, arE, r3P, r3G, r3A, r3B, r3C, r3D, r3E, St.forget, scr, scrC, -List.map_map]
  · simp [*, appendV, srcCells, St.forget, scr, scrC, setsV, -List.map_map]
    refine T000100 hr.out _ ?_
    simp [*, St3, arE, r3P, r3G, r3A, r3B, r3C, r3D, r3E, St.forget, scr, scrC, -List.map_map]
  · simp [*, appendV, srcCells, St.forget, scr, scrC, setsV, -List.map_map]
    refine T000010 hr.out _ ?_
    simp [*, St3, arE, r3P, r3G, r3A, r3B, r3C, r3D, r3E, St.forget, scr, scrC, -List.map_map]
theorem reg13 (FR CA CB : List (List V)) (n from_ to sq k : Int) (m : Nat) (L0 L1 : List V) (p0 p1 : List (List V)) (l0 : L0.length = m) (l1 : L1.length = m) (q0 : L0.any ownC = false) (q1 : L1.any ownC = false) (hm : m ≤ 1000)
    (st : St) (h0 : arE FR CA CB n from_ to sq k st ∧ r3P p0 p1 st ∧ r3G m L0 L1 p0 p1 0 st ∧ st.heap 79 = none ∧ st.heap 85 = none) :
    ∀ c : Code, (Try.f7.body).bind (findR 13) = some c → CW Try.prog 156 c (fun e s => e = .normal ∧ r3K FR CA CB n from_ to sq k m L0 L1 p0 p1 s) st := by
  intro c hc
  have hc2 : some c = some (.region 13 ops13 true) := hc.symm.trans (by kernel_rfl)
  cases hc2
  obtain ⟨hB, hP, hG, h79, h85⟩ := h0
  refine cw_anyX noTab_ok (by kernel_rfl) 16 (by kernel_rfl) ?_
  intro O K hO hK
  have hO' := hO.out
  subst hO'
  have hr : R3ok ⟨FR, CA, CB, n, from_, to, sq, k, m, L0, L1, p0, p1⟩ K := ⟨l0, l1, q0, q1, fun k => scrC_cells q0, fun k => scrC_cells q1, by show (m + 1) * 24 ≤ _; omega, by show m + 1 ≤ _; omega, fun s hs => hK.out s ⟨rfl, hs⟩⟩
  exact T000000 hr st ⟨hB, hP, hG, ⟨trivial, h79⟩, ⟨trivial, h85⟩, trivial⟩
end Go.Proofs.Ytongalkfcfkfiaa
end
section
namespace Go.Proofs.Ytongalkfcfkfiaa
open Go.Pv Go.RowKit
set_option linter.unusedSimpArgs false
set_option linter.unusedVariables false
set_option maxRecDepth 100000
set_option maxHeartbeats 4000000

theorem nx_n {n : Nat} {c : Code} {Q : Exit → St → Prop} {st : St} : Nx Try.prog n c Q .normal st ↔ CW Try.prog n c Q st := Iff.rfl
theorem nx_rr {n : Nat} {c : Code} {Q : Exit → St → Prop} {st : St} : Nx Try.prog n c Q .ret st ↔ Q .ret st := Iff.rfl
theorem nx_ee {n : Nat} {c : Code} {Q : Exit → St → Prop} {st : St} {id : Nat} : Nx Try.prog n c Q (.exit id) st ↔ Q (.exit id) st := Iff.rfl
attribute [simp] nx_n nx_rr nx_ee
def findB (k : Nat) : Code → Option Code
  | .seq a b => (findB k a).or (findB k b)
  | .block id c => if id = k then some (.block id c) else findB k c
  | .loop c => findB k c
  | .cond _ a b => (findB k a).or (findB k b)
  | _ => none
def frD (l : List Fr) (j : Nat) : Fr := l.getD j ⟨0, 0, 0, 0, 0⟩
theorem frD_at {l : List Fr} {j : Nat} {f : Fr} (h : l[j]? = some f) : frD l j = f := by simp [frD, h]
def cpL (q : Int) (l : List Fr) (src : Int) (k : Nat) : List V := (List.range k).map fun j => .list 1 (pk q (frD l j) src (sqN j))
theorem cpL_succ (q : Int) (l : List Fr) (src : Int) (k : Nat) : cpL q l src (k + 1) = cpL q l src k ++ [.list 1 (pk q (frD l k) src (sqN k))] := by simp [cpL, List.range_succ]
theorem cpL_len (q : Int) (l : List Fr) (src : Int) (k : Nat) : (cpL q l src k).length = k := by simp [cpL]
theorem cpL_pure (q : Int) (l : List Fr) (src : Int) (k : Nat) : (cpL q l src k).any ownC = false := by
  rw [List.any_eq_false]; intro v hv; simp only [cpL, List.mem_map] at hv; obtain ⟨b, _, rfl⟩ := hv; simp [ownC]
theorem sqN_b (k : Nat) : 0 ≤ sqN k ∧ sqN k < 65536 := by unfold sqN; omega
theorem sqN_next (k : Nat) : (sqN k + 1) % 65536 = sqN (k + 1) := by unfold sqN; omega
def ar0 (l : List Fr) (CA CB : List (List V)) (n src to : Int) (k : Nat) (t : St) : Prop :=
  arE (l.map Fr.cs) CA CB n src to (sqN k) k t ∧ r3G k (cpL 160 l src k) (cpL 161 l src k) [] [] 0 t ∧ t.heap 79 = none ∧ t.heap 85 = none ∧ t.heap 16 = none
theorem loop0 (l : List Fr) (CA CB : List (List V)) (n src to : Int) (N : Nat) (hN : l.length = N) (hN2 : N ≤ 11) (hok : ∀ f ∈ l, okFr f) (hs1 : 0 ≤ src) (hs2 : src < 65536) :
    ∀ c : Code, (Try.f7.body).bind (findB 0) = some c → ∀ st, ar0 l CA CB n src to 0 st → CW Try.prog 156 c (fun e s => e = .normal ∧ ar0 l CA CB n src to N s) st := by
  intro c hc st h0
  have key : ∀ {b : Code}, (Try.f7.body).bind (findB 0) = some b → CW Try.prog 156 b (fun e s => e = .normal ∧ ar0 l CA CB n src to N s) st → CW Try.prog 156 c (fun e s => e = .normal ∧ ar0 l CA CB n src to N s) st := fun h1 h2 => by
    rw [h1] at hc; cases hc; exact h2
  refine key rfl ?_
  clear key hc c
  refine cw_block (LH.cw (LH.inv (α := Nat) (fun k s => k ≤ N ∧ ar0 l CA CB n src to k s) (fun k => N - k) ?_ _ 0 _ rfl ⟨by omega, h0⟩))
  clear h0 st
  rintro k st ⟨hk, hst⟩
  by_cases hlt : k < N
  · obtain ⟨f, hf, hf'⟩ := at_ex (l := l) (i := k) (by omega)
    have hfo := hok f (List.mem_of_getElem? hf)
    have hfd := frD_at hf
    have f1 : ilt (k : Int) (N : Int) = true := ilt_t (by omega)
    have w1 : IntKind.i64.wrap ((k : Int) + 1) = ((k + 1 : Nat) : Int) := wrap_succ (by omega)
    have p7 : (k : Int) < N := by omega
    have p8 : k + 1 ≤ N := by omega
    have c1 := enc_ok f hfo
    have c2 := send_ok f src (sqN k) hs1 hs2 (sqN_b k).1 (sqN_b k).2
    rw [sqN_next] at c2
    obtain ⟨sq, hsq⟩ : ∃ sq, sqN k = sq := ⟨_, rfl⟩
    obtain ⟨sq', hsq'⟩ : ∃ sq, sqN (k + 1) = sq := ⟨_, rfl⟩
    have ha0 := cpL_succ 160 l src k
    have hb0 := cpL_succ 161 l src k
    rw [hfd, hsq] at ha0 hb0
    have hal := cpL_len 160 l src k
    have hbl := cpL_len 161 l src k
    have hap := cpL_pure 160 l src k
    have hbp := cpL_pure 161 l src k
    simp only [ar0] at hst
    rw [hsq] at hst c2
    rw [hsq'] at c2
    obtain ⟨p0, hp0⟩ : ∃ p, pk 160 f src sq = p := ⟨_, rfl⟩
    obtain ⟨p1, hp1⟩ : ∃ p, pk 161 f src sq = p := ⟨_, rfl⟩
    rw [hp0] at ha0 c2
    rw [hp1] at hb0 c2
    generalize cpL 160 l src k = A at hst ha0 hal hap
    generalize cpL 161 l src k = B at hst hb0 hbl hbp
    replace ha0 : Hid (_) := ha0
    replace hb0 : Hid (_) := hb0
    have hls : ∀ j : Nat, ((l.map Fr.cs)[j]?) = (l[j]?).map Fr.cs := fun j => List.getElem?_map
    have hfc : (l.map Fr.cs)[k]? = some f.cs := by rw [hls, hf]; rfl
    have hll : (l.map Fr.cs).length = N := by simp [hN]
    have c1' := H1_ok c1 (by kernel_rfl)
    have c2' := H1_ok c2 (by kernel_rfl)
    clear hls hf hf' hfo hok hN hfd hsq hp0 hp1 c1 c2
    replace hsq' : Hid (_) := hsq'
    obtain ⟨FR, hFR⟩ : ∃ FR, l.map Fr.cs = FR := ⟨_, rfl⟩
    rw [hFR] at hst hfc hll
    have hfc' : ∀ h : k < FR.length, FR[k] = f.cs := fun h => by rw [List.getElem?_eq_getElem h] at hfc; exact Option.some.inj hfc
    replace hFR : Hid (_) := hFR
    obtain ⟨eb, heb⟩ : ∃ b, encL f = b := ⟨_, rfl⟩
    rw [heb] at c1' c2'
    clear heb
    have hAs : ∀ k, A.map (scrC k) = A := fun k => scrC_cells hap
    have hBs : ∀ k, B.map (scrC k) = B := fun k => scrC_cells hbp
    -- the head
    refine cut (K := fun s => arE FR CA CB n src to sq k s ∧ r3G k A B [] [] 0 s ∧ s.heap 79 = none ∧ s.heap 85 = none ∧ s.heap 16 = none) ?_ ?_
    · obtain ⟨e, h⟩ := st
      simp only [arE, r3G] at hst
      refine CW.of_cx (D := (fun _ => none)) noTab_ok mixed _ _ _ (by kernel_rfl) ?_
      repeat' first
        | (with_reducible refine gw_bool (fun _ => ?_) (fun _ => ?_))
        | (with_reducible refine condw_bool (fun _ => ?_) (fun _ => ?_))
        | simp [*, arE, r3G]
    clear hst st
    intro st hst
    refine cut (K := fun s => arE FR CA CB n src to sq' k s ∧ r3G (k + 1) (A ++ [.list 1 p0]) (B ++ [.list 1 p1]) [] [] 0 s ∧ r3P p0 p1 s ∧ s.heap 79 = some ⟨52, [.list 1 p0]⟩ ∧ s.heap 85 = some ⟨52, [.list 1 p1]⟩) ?_ ?_
    · refine cw_block ?_
      refine cut (K := fun s => (arE FR CA CB n src to sq k s ∧ r3G k A B [] [] 0 s ∧ s.heap 79 = none ∧ s.heap 85 = none ∧ s.heap 16 = none) ∧ s.env 14 = .list 1 eb ∧ s.env 15 = .int .i64 0) ?_ ?_
      · obtain ⟨e, h⟩ := st
        simp only [arE, r3G] at hst
        refine CW.of_cx (D := fun _ => none) c1' mixed _ _ _ (by kernel_rfl) ?_
        repeat' first
          | (with_reducible refine gw_bool (fun _ => ?_) (fun _ => ?_))
          | (with_reducible refine condw_bool (fun _ => ?_) (fun _ => ?_))
          | simp [*, arE, r3G, Fr.cs, l3]
      clear hst st
      intro st hst
      refine cut (K := fun s => (arE FR CA CB n src to sq k s ∧ r3G k A B [] [] 0 s ∧ s.heap 79 = none ∧ s.heap 85 = none) ∧ r3P p0 p1 s ∧ s.env 15 = .int .i64 0 ∧ s.env 17 = .int .i64 sq' ∧ s.env 18 = .int .i64 0) ?_ ?_
      · obtain ⟨e, h⟩ := st
        simp only [arE, r3G] at hst
        refine CW.of_cx (D := fun _ => none) c2' mixed _ _ _ (by kernel_rfl) ?_
        repeat' first
          | (with_reducible refine gw_bool (fun _ => ?_) (fun _ => ?_))
          | (with_reducible refine condw_bool (fun _ => ?_) (fun _ => ?_))
          | simp [*, arE, r3G, r3P]
      clear hst st
      intro st hst
      refine cut (K := fun s => (arE FR CA CB n src to sq k s ∧ r3G k A B [] [] 0 s ∧ s.heap 79 = none ∧ s.heap 85 = none) ∧ r3P p0 p1 s ∧ s.env 17 = .int .i64 sq') ?_ ?_
      · obtain ⟨e, h⟩ := st
        simp only [arE, r3G, r3P] at hst
        refine CW.of_cx (D := (fun _ => none)) noTab_ok mixed _ _ _ (by kernel_rfl) ?_
        repeat' first
          | (with_reducible refine gw_bool (fun _ => ?_) (fun _ => ?_))
          | (with_reducible refine condw_bool (fun _ => ?_) (fun _ => ?_))
          | simp [*, arE, r3G, r3P]
      clear hst st
      intro st hst
      refine cut (K := fun s => arE FR CA CB n src to sq' k s ∧ r3P p0 p1 s ∧ r3G k A B p0 p1 0 s ∧ s.heap 79 = none ∧ s.heap 85 = none) ?_ ?_
      · obtain ⟨e, h⟩ := st
        simp only [arE, r3G, r3P] at hst
        refine CW.of_cx (D := (fun _ => none)) noTab_ok mixed _ _ _ (by kernel_rfl) ?_
        repeat' first
          | (with_reducible refine gw_bool (fun _ => ?_) (fun _ => ?_))
          | (with_reducible refine condw_bool (fun _ => ?_) (fun _ => ?_))
          | simp [*, arE, r3G, r3P]
      clear hst st
      intro st hst
      refine (reg13 FR CA CB n src to sq' k k A B p0 p1 hal hbl hap hbp (by omega) st hst _ (by kernel_rfl)).mono ?_
      rintro e s ⟨rfl, hs⟩
      simp only [r3K] at hs
      exact ⟨rfl, hs.1, ⟨hs.2.1, hs.2.2.1, hs.2.2.2.1⟩, hs.2.2.2.2⟩
    clear hst st
    rintro ⟨e, h⟩ hst
    simp only [arE, r3G, r3P] at hst
    refine CW.of_cx (D := (fun _ => none)) noTab_ok mixed _ _ _ (by kernel_rfl) ?_
    repeat' first
      | (with_reducible refine gw_bool (fun _ => ?_) (fun _ => ?_))
      | (with_reducible refine condw_bool (fun _ => ?_) (fun _ => ?_))
      | simp [*]
    refine ⟨k + 1, _, ((View.forget _ _ 16).trans ((View.forget _ _ 79).trans (View.forget _ _ 85))), ⟨by omega, ?_⟩, by show N - (k + 1) < N - k; omega⟩
    simp only [ar0]
    rw [ha0.out, hb0.out, hFR.out, hsq'.out]
    simp [*, arE, r3G, St.forget, scr, scrC, -List.map_map]
  · have f1 : ilt (k : Int) (N : Int) = false := ilt_f (by omega)
    have e1 : k = N := by omega
    subst e1
    have hll : (l.map Fr.cs).length = k := by simp [hN]
    refine cw_seq ?_
    obtain ⟨e, h⟩ := st
    have hst0 := hst
    simp only [ar0, arE, r3G] at hst
    refine CW.of_cx (D := (fun _ => none)) noTab_ok mixed _ _ _ (by kernel_rfl) ?_
    repeat' first
      | (with_reducible refine gw_bool (fun _ => ?_) (fun _ => ?_))
      | (with_reducible refine condw_bool (fun _ => ?_) (fun _ => ?_))
      | simp [*, ar0, arE, r3G]
end Go.Proofs.Ytongalkfcfkfiaa
end
section
namespace Go.Proofs.Ytongalkfcfkfiaa
open Go.Pv Go.RowKit
set_option linter.unusedSimpArgs false
set_option linter.unusedVariables false
set_option maxRecDepth 100000
set_option maxHeartbeats 4000000

def rwL (q : Int) (l : List Fr) (src : Int) (n : Nat) : List (List V) := (List.range n).map fun j => [.list 1 (pk q (frD l j) src (sqN j))]
theorem rwL_len (q : Int) (l : List Fr) (src : Int) (n : Nat) : (rwL q l src n).length = n := by simp [rwL]
theorem rwL_at (q : Int) (l : List Fr) (src : Int) {n k : Nat} (h : k < n) : (rwL q l src n)[k]? = some [.list 1 (pk q (frD l k) src (sqN k))] := by simp [rwL, h]
theorem chunks_one : ∀ (l : List V), chunks 1 l.length l = l.map fun v => [v]
  | [] => rfl
  | v :: l => by rw [List.length_cons, chunks, List.map_cons]; simp [chunks_one l]
theorem cpL_chunks (q : Int) (l : List Fr) (src : Int) (n : Nat) : chunks 1 n (cpL q l src n) = rwL q l src n := by
  have := chunks_one (cpL q l src n)
  rw [cpL_len] at this
  rw [this, cpL, rwL, List.map_map]; rfl
/-- The box after k copies. -/
def bxK (src : Int) (k : Nat) : List V := if k = 0 then [.nils] else [.list 3 [srcC src k]]
theorem bxK_pure (src : Int) (k : Nat) : (bxK src k).any ownC = false := by unfold bxK; split <;> rfl
theorem acc_net0 (src : Int) (k : Nat) (h1 : 0 ≤ src) (h2 : src < 65536) (hk : k ≤ 10) : PCall Try.prog 18 [.agg (bxK src k), .int .i64 src, .int .i64 (sqN k)] (.tup [.agg (bxK src (k + 1)), .bool true]) := by
  have hb := sqN_b k
  by_cases h : k = 0
  · subst h; exact acc_new src (sqN 0) h1 h2 hb.1 hb.2
  · have := Ttk_new src (k := k) (by omega) hk
    rw [bxK, if_neg h, bxK, if_neg (by omega)]
    exact acc_take _ _ _ _ _ _ _ h1 h2 hb.1 hb.2 this
theorem acc_net1 (src : Int) (k : Nat) (h1 : 0 ≤ src) (h2 : src < 65536) (hk : k ≤ 10) : PCall Try.prog 18 [.agg (bxK src 11), .int .i64 src, .int .i64 (sqN k)] (.tup [.agg (bxK src 11), .bool false]) := by
  have hb := sqN_b k
  exact acc_take _ _ _ _ _ _ _ h1 h2 hb.1 hb.2 (Ttk_old src hk)
def bxI (src : Int) (i k : Nat) : List V := bxK src (if i = 0 then k else 11)
def cnI (i k : Nat) : Nat := if i = 0 then k else 11
def ouM (l : List Fr) (m : Nat) : List V := ((l.take m).map Fr.cs).flatten
theorem ouM_len (l : List Fr) {m : Nat} (h : m ≤ l.length) : (ouM l m).length = m * 5 := by
  unfold ouM
  rw [length_flatten_rows (sz := 5) _ (fun c hc => by simp only [List.mem_map] at hc; obtain ⟨f, _, rfl⟩ := hc; rfl)]
  simp [Nat.min_eq_left h]
theorem ouM_pure (l : List Fr) (m : Nat) : (ouM l m).any ownC = false := by
  rw [List.any_eq_false]; intro v hv
  simp only [ouM, List.mem_flatten, List.mem_map] at hv
  obtain ⟨_, ⟨f, _, rfl⟩, hv⟩ := hv
  have : f.cs.any ownC = false := rfl
  exact List.any_eq_false.1 this v hv
theorem ouM_snoc {l : List Fr} {m : Nat} {f : Fr} (h : l[m]? = some f) : ouM l (m + 1) = ouM l m ++ f.cs := by
  simp [ouM, take_snoc h]
def ar2 (CA CB RA RB : List (List V)) (src to : Int) (i m : Nat) (OM bx : List V) (t : St) : Prop :=
  t.env 2 = .int .i64 2 ∧ t.env 8 = .int .i64 src ∧ t.env 9 = .rp [.list 1 CA, .list 1 CB] ∧ t.env 10 = .int .i64 to ∧ t.env 11 = .rp [.list 1 RA, .list 1 RB] ∧
  t.env 19 = .sl 154 0 m 5 ∧ t.env 20 = .ptr 20 0 ∧ t.env 21 = .int .i64 i ∧ t.heap 20 = some ⟨60, bx⟩ ∧ t.heap 154 = some ⟨42, OM⟩
def ar4 (t : St) : Prop := t.heap 24 = none ∧ t.heap 26 = none ∧ t.heap 28 = none ∧ t.heap 153 = none
def ar3 (l : List Fr) (CA CB : List (List V)) (src to : Int) (rr : List (List V)) (i k : Nat) (t : St) : Prop :=
  (ar2 CA CB (rwL 160 l src 11) (rwL 161 l src 11) src to i (cnI i k) (ouM l (cnI i k)) (bxI src i k) t ∧ ar4 t) ∧ t.env 22 = .list 1 rr ∧ t.env 23 = .int .i64 k
theorem loop4 (l : List Fr) (CA CB : List (List V)) (src to : Int) (rr : List (List V)) (i : Nat) (hi : i < 2) (hN : l.length = 11) (hok : ∀ f ∈ l, okFr f) (hs1 : 0 ≤ src) (hs2 : src < 65536) (ht0 : 0 ≤ to) (htl : to < rr.length) (htr : rr[to.toNat]? = some [.bool true]) :
    ∀ c : Code, (Try.f7.body).bind (findB 4) = some c → ∀ st, ar3 l CA CB src to rr i 0 st → CW Try.prog 156 c (fun e s => e = .normal ∧ ar3 l CA CB src to rr i 11 s) st := by
  intro c hc st h0
  have key : ∀ {b : Code}, (Try.f7.body).bind (findB 4) = some b → CW Try.prog 156 b (fun e s => e = .normal ∧ ar3 l CA CB src to rr i 11 s) st → CW Try.prog 156 c (fun e s => e = .normal ∧ ar3 l CA CB src to rr i 11 s) st := fun h1 h2 => by
    rw [h1] at hc; cases hc; exact h2
  refine key rfl ?_
  clear key hc c
  refine cw_block (LH.cw (LH.inv (α := Nat) (fun k s => k ≤ 11 ∧ ar3 l CA CB src to rr i k s) (fun k => 11 - k) ?_ _ 0 _ rfl ⟨by omega, h0⟩))
  clear h0 st
  rintro k st ⟨hk, hst⟩
  obtain ⟨tn, htn⟩ : ∃ tn : Nat, to = tn := ⟨to.toNat, by omega⟩
  subst htn
  simp only [Int.toNat_natCast] at htr
  have hra := rwL_len 160 l src 11
  have hrb := rwL_len 161 l src 11
  have hlt2 : ilt (tn : Int) (rr.length : Int) = true := ilt_t (by omega)
  have htr' : ∀ h : tn < rr.length, rr[tn] = [.bool true] := fun h => by rw [List.getElem?_eq_getElem h] at htr; exact Option.some.inj htr
  have htl' : tn < rr.length := by omega
  by_cases hlt : k < 11
  · obtain ⟨f, hf, hf'⟩ := at_ex (l := l) (i := k) (by omega)
    have hfo := hok f (List.mem_of_getElem? hf)
    have hfd := frD_at hf
    have f1 : ilt (k : Int) 11 = true := ilt_t (by omega)
    have w1 : IntKind.i64.wrap ((k : Int) + 1) = ((k + 1 : Nat) : Int) := wrap_succ (by omega)
    have p7 : (k : Int) < 11 := by omega
    have hr0 := rwL_at 160 l src hlt
    have hr1 := rwL_at 161 l src hlt
    rw [hfd] at hr0 hr1
    have c1 : PCall Try.prog 17 [.list 1 (pk (160 + i) f src (sqN k))] (.tup [.agg [.int .i64 src, .int .i64 (sqN k), .int .i64 i, .list 1 (encL f)], .int .i64 0]) := open_ok f src (sqN k) i (by omega) hs1 hs2 (sqN_b k).1 (sqN_b k).2
    have c2 : PCall Try.prog 18 [.agg (bxI src i k), .int .i64 src, .int .i64 (sqN k)] (.tup [.agg (bxI src i (k + 1)), .bool (decide (i = 0))]) := by
      obtain rfl | rfl : i = 0 ∨ i = 1 := by omega
      · exact acc_net0 src k hs1 hs2 (by omega)
      · exact acc_net1 src k hs1 hs2 (by omega)
    have c3 := dec_ok f hfo
    have hbx : ∃ bv, bxI src i k = [bv] ∧ (bv = .nils ∨ ∃ X, bv = .list 3 X) := by
      unfold bxI bxK
      by_cases h : (if i = 0 then k else 11) = 0
      · rw [if_pos h]; exact ⟨_, rfl, .inl rfl⟩
      · rw [if_neg h]; exact ⟨_, rfl, .inr ⟨_, rfl⟩⟩
    have hbx2 : ∃ Y, bxI src i (k + 1) = [.list 3 Y] := by
      unfold bxI bxK
      have h : ¬ (if i = 0 then k + 1 else 11) = 0 := by split <;> omega
      rw [if_neg h]; exact ⟨_, rfl⟩
    obtain ⟨bv, hbv, hbc⟩ := hbx
    obtain ⟨Y, hY⟩ := hbx2
    obtain ⟨m, hm⟩ : ∃ m, cnI i k = m := ⟨_, rfl⟩
    have hcb : m ≤ 11 := by rw [← hm]; unfold cnI; split <;> omega
    have hol := ouM_len l (m := m) (by omega)
    have hop := ouM_pure l m
    obtain ⟨OM, hOM⟩ : ∃ o, ouM l m = o := ⟨_, rfl⟩
    have hcn : cnI i (k + 1) = if i = 0 then m + 1 else m := by rw [← hm]; unfold cnI; split <;> rfl
    have hou : ouM l (cnI i (k + 1)) = if i = 0 then OM ++ f.cs else OM := by
      rw [hcn, ← hOM]
      obtain rfl | rfl : i = 0 ∨ i = 1 := by omega
      · have : m = k := by rw [← hm]; rfl
        subst this; exact ouM_snoc hf
      · rfl
    rw [hOM] at hol hop
    have hOs : ∀ k, OM.map (scrC k) = OM := fun k => scrC_cells hop
    have hbs : ∀ k, scrC k bv = bv := fun k => by rcases hbc with rfl | ⟨X, rfl⟩ <;> rfl
    rw [hbv, hY] at c2
    simp only [ar3] at hst
    rw [hm, hOM, hbv] at hst
    have c1' := H1_ok c1 (by kernel_rfl)
    have c2' := H1_ok c2 (by kernel_rfl)
    have c3' := H1_ok c3 (by kernel_rfl)
    obtain ⟨P, hP⟩ : ∃ P, pk (160 + i) f src (sqN k) = P := ⟨_, rfl⟩
    rw [hP] at c1'
    have hr0' : i = 0 → (rwL 160 l src 11)[k]? = some [.list 1 P] := fun h => by rw [hr0, ← hP, h]; rfl
    have hr1' : i = 1 → (rwL 161 l src 11)[k]? = some [.list 1 P] := fun h => by rw [hr1, ← hP, h]; rfl
    have hnx : ∀ s : St, ar3 l CA CB src tn rr i (k + 1) s ↔ (ar2 CA CB (rwL 160 l src 11) (rwL 161 l src 11) src tn i (if i = 0 then m + 1 else m) (if i = 0 then OM ++ f.cs else OM) [.list 3 Y] s ∧ ar4 s) ∧ s.env 22 = .list 1 rr ∧ s.env 23 = .int .i64 (k + 1 : Nat) := fun s => by
      unfold ar3; rw [hou, hcn, hY]
    obtain ⟨sq, hsq⟩ : ∃ sq, sqN k = sq := ⟨_, rfl⟩
    rw [hsq] at c1' c2'
    obtain ⟨eb, heb⟩ : ∃ b, encL f = b := ⟨_, rfl⟩
    rw [heb] at c1' c3'
    clear hcn hou hP hsq heb hY hbv hm hOM c1 c2 c3 hr0 hr1 hfd hfo hf hf' hok hN
    replace hnx : Hid (_) := hnx
    generalize rwL 160 l src 11 = RA at *
    generalize rwL 161 l src 11 = RB at *
    have q5 : (m + 1) * 72 ≤ 140737488355328 := by omega
    have q6 : m + 1 ≤ 9223372036854775807 := by omega
    refine cut (K := fun s => (ar2 CA CB RA RB src tn i m OM [bv] s ∧ ar4 s) ∧ s.env 22 = .list 1 rr ∧ s.env 23 = .int .i64 k) ?_ ?_
    · obtain ⟨e, h⟩ := st
      simp only [ar2, ar4] at hst
      obtain rfl | rfl : i = 0 ∨ i = 1 := by omega
      · refine CW.of_cx (D := (fun _ => none)) noTab_ok mixed _ _ _ (by kernel_rfl) ?_
        repeat' first
          | (with_reducible refine gw_bool (fun _ => ?_) (fun _ => ?_))
          | (with_reducible refine condw_bool (fun _ => ?_) (fun _ => ?_))
          | simp [*, ar2, ar4]
      · refine CW.of_cx (D := (fun _ => none)) noTab_ok mixed _ _ _ (by kernel_rfl) ?_
        repeat' first
          | (with_reducible refine gw_bool (fun _ => ?_) (fun _ => ?_))
          | (with_reducible refine condw_bool (fun _ => ?_) (fun _ => ?_))
          | simp [*, ar2, ar4]
    clear hst st
    intro st hst
    refine cut (K := fun s => ar2 CA CB RA RB src tn i (if i = 0 then m + 1 else m) (if i = 0 then OM ++ f.cs else OM) [.list 3 Y] s ∧ s.env 22 = .list 1 rr ∧ s.env 23 = .int .i64 k) ?_ ?_
    · refine cw_block ?_
      -- Open
      refine cut (K := fun s => (ar2 CA CB RA RB src tn i m OM [bv] s ∧ s.heap 26 = none ∧ s.heap 28 = none ∧ s.heap 153 = none) ∧ (s.env 22 = .list 1 rr ∧ s.env 23 = .int .i64 k) ∧ s.env 24 = .ptr 24 0 ∧ s.heap 24 = some ⟨63, [.int .i64 src, .int .i64 sq, .int .i64 i, .list 1 eb]⟩) ?_ ?_
      · obtain ⟨e, h⟩ := st
        simp only [ar2, ar4] at hst
        obtain rfl | rfl : i = 0 ∨ i = 1 := by omega
        · have hx := hr0' rfl
          have hx' : ∀ h : k < RA.length, RA[k] = [.list 1 P] := fun h => by rw [List.getElem?_eq_getElem h] at hx; exact Option.some.inj hx
          refine CW.of_cx (D := fun _ => none) c1' mixed _ _ _ (by kernel_rfl) ?_
          repeat' first
            | (with_reducible refine gw_bool (fun _ => ?_) (fun _ => ?_))
            | (with_reducible refine condw_bool (fun _ => ?_) (fun _ => ?_))
            | simp [*, ar2, ar4]
        · have hx := hr1' rfl
          have hx' : ∀ h : k < RB.length, RB[k] = [.list 1 P] := fun h => by rw [List.getElem?_eq_getElem h] at hx; exact Option.some.inj hx
          refine CW.of_cx (D := fun _ => none) c1' mixed _ _ _ (by kernel_rfl) ?_
          repeat' first
            | (with_reducible refine gw_bool (fun _ => ?_) (fun _ => ?_))
            | (with_reducible refine condw_bool (fun _ => ?_) (fun _ => ?_))
            | simp [*, ar2, ar4]
      clear hst st
      intro st hst
      -- Accept
      refine cut (K := fun s => (ar2 CA CB RA RB src tn i m OM [bv] s ∧ s.heap 28 = none ∧ s.heap 153 = none) ∧ (s.env 22 = .list 1 rr ∧ s.env 23 = .int .i64 k) ∧ (s.env 24 = .ptr 24 0 ∧ s.heap 24 = some ⟨63, [.int .i64 src, .int .i64 sq, .int .i64 i, .list 1 eb]⟩) ∧ s.env 26 = .ptr 26 0 ∧ s.heap 26 = some ⟨60, [.list 3 Y]⟩ ∧ s.env 27 = .bool (decide (i = 0))) ?_ ?_
      · obtain ⟨e, h⟩ := st
        simp only [ar2] at hst
        rcases hbc with rfl | ⟨X, rfl⟩
        · refine CW.of_cx (D := fun _ => none) c2' mixed _ _ _ (by kernel_rfl) ?_
          repeat' first
            | (with_reducible refine gw_bool (fun _ => ?_) (fun _ => ?_))
            | (with_reducible refine condw_bool (fun _ => ?_) (fun _ => ?_))
            | simp [*, ar2]
        · refine CW.of_cx (D := fun _ => none) c2' mixed _ _ _ (by kernel_rfl) ?_
          repeat' first
            | (with_reducible refine gw_bool (fun _ => ?_) (fun _ => ?_))
            | (with_reducible refine condw_bool (fun _ => ?_) (fun _ => ?_))
            | simp [*, ar2]
      clear hst st
      intro st hst
      refine cut (K := fun s => (ar2 CA CB RA RB src tn i m OM [.list 3 Y] s ∧ s.heap 28 = none ∧ s.heap 153 = none) ∧ (s.env 22 = .list 1 rr ∧ s.env 23 = .int .i64 k) ∧ (s.env 24 = .ptr 24 0 ∧ s.heap 24 = some ⟨63, [.int .i64 src, .int .i64 sq, .int .i64 i, .list 1 eb]⟩) ∧ s.env 27 = .bool (decide (i = 0))) ?_ ?_
      · obtain ⟨e, h⟩ := st
        simp only [ar2] at hst
        refine CW.of_cx (D := (fun _ => none)) noTab_ok mixed _ _ _ (by kernel_rfl) ?_
        repeat' first
          | (with_reducible refine gw_bool (fun _ => ?_) (fun _ => ?_))
          | (with_reducible refine condw_bool (fun _ => ?_) (fun _ => ?_))
          | simp [*, ar2, setsV]
      clear hst st
      rintro ⟨e, h⟩ hst
      simp only [ar2] at hst
      obtain rfl | rfl : i = 0 ∨ i = 1 := by omega
      · refine CW.of_cx (D := fun _ => none) c3' mixed _ _ _ (by kernel_rfl) ?_
        repeat' first
          | (with_reducible refine gw_bool (fun _ => ?_) (fun _ => ?_))
          | (with_reducible refine condw_bool (fun _ => ?_) (fun _ => ?_))
          | simp [*, ar2, appendV, srcCells, Fr.cs, l3, St.forget, scr, scrC]
      · refine CW.of_cx (D := (fun _ => none)) noTab_ok mixed _ _ _ (by kernel_rfl) ?_
        repeat' first
          | (with_reducible refine gw_bool (fun _ => ?_) (fun _ => ?_))
          | (with_reducible refine condw_bool (fun _ => ?_) (fun _ => ?_))
          | simp [*, ar2]
    clear hst st
    rintro ⟨e, h⟩ hst
    simp only [ar2] at hst
    refine CW.of_cx (D := (fun _ => none)) noTab_ok mixed _ _ _ (by kernel_rfl) ?_
    repeat' first
      | (with_reducible refine gw_bool (fun _ => ?_) (fun _ => ?_))
      | (with_reducible refine condw_bool (fun _ => ?_) (fun _ => ?_))
      | simp [*]
    refine ⟨k + 1, _, ((View.forget _ _ 24).trans ((View.forget _ _ 26).trans ((View.forget _ _ 28).trans (View.forget _ _ 153)))), ⟨by omega, ?_⟩, by show 11 - (k + 1) < 11 - k; omega⟩
    rw [hnx.out]
    have hfs : ∀ k, f.cs.map (scrC k) = f.cs := fun k => rfl
    obtain rfl | rfl : i = 0 ∨ i = 1 := by omega
    · simp [*, ar2, ar4, St.forget, scr, scrC, -List.map_map]
    · simp [*, ar2, ar4, St.forget, scr, scrC, -List.map_map]
  · have e1 : k = 11 := by omega
    subst e1
    refine cw_seq ?_
    obtain ⟨e, h⟩ := st
    simp only [ar3, ar2, ar4] at hst
    obtain rfl | rfl : i = 0 ∨ i = 1 := by omega
    · refine CW.of_cx (D := (fun _ => none)) noTab_ok mixed _ _ _ (by kernel_rfl) ?_
      repeat' first
        | (with_reducible refine gw_bool (fun _ => ?_) (fun _ => ?_))
        | (with_reducible refine condw_bool (fun _ => ?_) (fun _ => ?_))
        | simp [*, ar3, ar2, ar4]
    · refine CW.of_cx (D := (fun _ => none)) noTab_ok mixed _ _ _ (by kernel_rfl) ?_
      repeat' first
        | (with_reducible refine gw_bool (fun _ => ?_) (fun _ => ?_))
        | (with_reducible refine condw_bool (fun _ => ?_) (fun _ => ?_))
        | simp [*, ar3, ar2, ar4]
end Go.Proofs.Ytongalkfcfkfiaa
end
