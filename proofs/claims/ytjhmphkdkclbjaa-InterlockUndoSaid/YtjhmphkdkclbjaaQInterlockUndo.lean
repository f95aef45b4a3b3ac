/-
  The law of examples of interlocked switching.
  A sequence of operations of disconnectors without current is undone in reverse order: the plain law.
  Two positions that are equal.
  The law of undoing: the walk.
  How long the lists of a position are that a call is handed.
  The law of undoing, joined.
  InterlockUndo returns true for every input, and leaves the input as it was. No condition.
-/
import Derived.Test.YtjhmphkdkclbjaaJ9
import Derived.Test.YtjhmphkdkclbjaaJ5
import Derived.SizedLaws
import Derived.Test.YtjhmphkdkclbjaaRows
section
namespace Go.Proofs.Ytjhmphkdkclbjaa
open Go.Pv Go.RowKit
set_option linter.unusedSimpArgs false
set_option linter.unusedVariables false
set_option maxRecDepth 100000
set_option maxHeartbeats 4000000
attribute [-simp] Tclo_at Tgrp_at Tchk Tpchk TcI TcB Tclo Tgrp Tsid Tnod Tlook Tbnd Tres TSd TBd Tix Tcon Tgps Tsg Tmv Tck Tkn Tjo Ttr Tsw Tmg Tal Tbe Ten Tcp Tidx Tnms Tnmd Tobj Tlks Tbay Trck Trpc Trg Trf Trsd Trnd Tar Ttwo Tof Tnm Tat Ttw Tsq Tlk

def Tk36 : List V → Option V
  | [] => some (.bool true)
  | _ => none
theorem k36_tab : ∀ vs v, Tk36 vs = some v → PCall Try.prog 31 vs v := by
  intro vs v h; unfold Tk36 at h; split at h
  · cases h; exact known36_ok
  · cases h
def HE : Tab := add 31 Tk36 (HZ)
theorem HE_at (f : FuncId) (vs : List V) : HE.at' f vs = if f = 31 then Tk36 vs else HZ.at' f vs := rfl
theorem HE_fr (f : FuncId) : HE.fr f = if f = 31 then false else HZ.fr f := rfl
theorem HE_gb (f : FuncId) : HE.gb f = HZ.gb f := rfl
theorem HE_gv (f : FuncId) (vs : List V) : HE.gv f vs = HZ.gv f vs := rfl
attribute [simp] HE_at HE_fr HE_gb HE_gv Tk36
theorem HE_ok : TabOK Try.prog HE := by
  refine add_ok (HZ_ok) (by kernel_rfl) ?_
  · exact k36_tab
def oC : Op' := ⟨0, 0, false⟩
def qM : Pos := ⟨[true, true], [[1, 2], [1, 1]]⟩
def qN : Pos := ⟨[true, true], [[1, 1], [1, 1]]⟩
def qL : Pos := ⟨[true, true], [[0, 1], [1, 1]]⟩
theorem examples36_ok : PCall Try.prog 7 [] (.bool true) := by
  have hT0 : Ttw [] = some (.agg st3.cs) := rfl
  have hTn := Tnm_at st3_chk
  have hA := Tal_at (o := oC) ln0
  have hB := Tal_at (o := ⟨0, 0, true⟩) ln0
  have hC := Tal_at (o := ⟨1, 0, false⟩) ln0
  have hD := Tal_at (o := ⟨2, -1, false⟩) ln0
  have hE := Tbe_at (o := oA) ln0
  have hF := Tal_at (s := st3) (p := qM) (o := oC) (by kernel_rfl)
  have hG := Ten_at (s := st3) (p := qM) (o := oA) (by kernel_rfl)
  have hS := Tsq_at (l := [oA, oC]) ln0 sm0 (by simp)
  have hJ1 := Tjo_at (s := st3) (p := q0) (x := 0) (y := 1) (by kernel_rfl)
  have hJ2 := Tjo_at (s := st3) (p := q0) (x := 0) (y := 2) (by kernel_rfl)
  have hL1 : Tlk [.agg qM.cs, .int .i64 0, .int .i64 1] = some (.int .i64 2) := by kernel_rfl
  have hL2 : Tlk [.agg qN.cs, .int .i64 0, .int .i64 1] = some (.int .i64 1) := by kernel_rfl
  have hL3 : Tlk [.agg qL.cs, .int .i64 0, .int .i64 0] = some (.int .i64 0) := by kernel_rfl
  rw [show alwE st3 q0 oC = 40 by kernel_rfl] at hA
  rw [show alwE st3 q0 ⟨0, 0, true⟩ = 44 by kernel_rfl] at hB
  rw [show alwE st3 q0 ⟨1, 0, false⟩ = 10 by kernel_rfl] at hC
  rw [show alwE st3 q0 ⟨2, -1, false⟩ = 9 by kernel_rfl] at hD
  rw [show begV st3 q0 oA = .tup [.agg qM.cs, .int .i64 0] by kernel_rfl] at hE
  rw [show alwE st3 qM oC = 43 by kernel_rfl] at hF
  rw [show endV st3 qM oA = .tup [.agg qN.cs, .int .i64 0] by kernel_rfl] at hG
  rw [show seqV st3 q0 [oA, oC] = .tup [.agg qL.cs, .int .i64 0, .int .i64 0] by kernel_rfl] at hS
  rw [show joiF st3 q0 0 1 = true by kernel_rfl] at hJ1
  rw [show joiF st3 q0 0 2 = false by kernel_rfl] at hJ2
  rw [show normP st3 = q0 from rfl] at hTn
  generalize q0 = P at hTn hA hB hC hD hE hS hJ1 hJ2
  generalize st3 = X at hT0 hTn hA hB hC hD hE hF hG hS hJ1 hJ2
  generalize qM = M at hE hF hG hL1
  generalize qN = N at hG hL2
  generalize qL = L at hS hL3
  simp only [Stn.cs] at hT0
  simp only [Pos.cs] at hTn hE hG hS hL1 hL2 hL3
  simp only [oA, oC, List.map_cons, List.map_nil, Op'.cs] at hA hB hC hD hE hF hG hS
  refine pcall_of2 Try.func7 rfl Try.ntmps7 Try.results7 (by simp) ?_
  refine cw_cut (K := fun s => s.heap 1 = none ∧ s.heap 2 = none ∧ s.heap 7 = none ∧ s.heap 10 = none ∧ s.heap 12 = none ∧ s.heap 57 = none) ?_ ?_
  · refine CW.of_cx (D := (fun _ => none)) HE_ok mixed _ _ _ (by kernel_rfl) ?_
    repeat' first
      | (with_reducible refine gw_bool (fun _ => ?_) (fun _ => ?_))
      | (with_reducible refine condw_bool (fun _ => ?_) (fun _ => ?_))
      | simp [*]
  rintro ⟨e, h⟩ ⟨n1, n2, n7, n10, n12, n57⟩
  simp only at n1 n2 n7 n10 n12 n57
  refine cw_cut (K := fun s => s.env 1 = .ptr 1 0 ∧ s.heap 1 = some ⟨27, X.cs⟩ ∧ s.heap 2 = none ∧ s.heap 7 = none ∧ s.heap 10 = none ∧ s.heap 12 = none ∧ s.heap 57 = none) ?_ ?_
  · refine CW.of_cx (D := (fun _ => none)) HE_ok mixed _ _ _ (by kernel_rfl) ?_
    repeat' first
      | (with_reducible refine gw_bool (fun _ => ?_) (fun _ => ?_))
      | (with_reducible refine condw_bool (fun _ => ?_) (fun _ => ?_))
      | simp [*, setsV, Stn.cs, Pos.cs]
  clear n1 n2 n7 n10 n12 n57 e h
  rintro ⟨e, h⟩ ⟨e1, h1, n2, n7, n10, n12, n57⟩
  simp only at e1 h1 n2 n7 n10 n12 n57
  rw [Stn.cs] at h1
  refine cw_cut (K := fun s => s.env 1 = .ptr 1 0 ∧ s.env 2 = .ptr 2 0 ∧ s.heap 1 = some ⟨27, X.cs⟩ ∧ s.heap 2 = some ⟨31, P.cs⟩ ∧ s.heap 7 = none ∧ s.heap 10 = none ∧ s.heap 12 = none ∧ s.heap 57 = none) ?_ ?_
  · refine CW.of_cx (D := (fun _ => none)) HE_ok mixed _ _ _ (by kernel_rfl) ?_
    repeat' first
      | (with_reducible refine gw_bool (fun _ => ?_) (fun _ => ?_))
      | (with_reducible refine condw_bool (fun _ => ?_) (fun _ => ?_))
      | simp [*, setsV, Stn.cs, Pos.cs]
  clear e1 h1 n2 n7 n10 n12 n57 e h
  rintro ⟨e, h⟩ ⟨e1, e2, h1, h2, n7, n10, n12, n57⟩
  simp only at e1 e2 h1 h2 n7 n10 n12 n57
  rw [Stn.cs] at h1
  rw [Pos.cs] at h2
  refine cw_cut (K := fun s => s.env 1 = .ptr 1 0 ∧ s.env 2 = .ptr 2 0 ∧ s.env 3 = .int .i64 40 ∧ s.heap 1 = some ⟨27, X.cs⟩ ∧ s.heap 2 = some ⟨31, P.cs⟩ ∧ s.heap 7 = none ∧ s.heap 10 = none ∧ s.heap 12 = none ∧ s.heap 57 = none) ?_ ?_
  · refine CW.of_cx (D := (fun _ => none)) HE_ok mixed _ _ _ (by kernel_rfl) ?_
    repeat' first
      | (with_reducible refine gw_bool (fun _ => ?_) (fun _ => ?_))
      | (with_reducible refine condw_bool (fun _ => ?_) (fun _ => ?_))
      | simp [*, setsV, Stn.cs, Pos.cs]
  clear e1 e2 h1 h2 n7 n10 n12 n57 e h
  rintro ⟨e, h⟩ ⟨e1, e2, e3, h1, h2, n7, n10, n12, n57⟩
  simp only at e1 e2 e3 h1 h2 n7 n10 n12 n57
  rw [Stn.cs] at h1
  rw [Pos.cs] at h2
  refine cw_cut (K := fun s => s.env 1 = .ptr 1 0 ∧ s.env 2 = .ptr 2 0 ∧ s.env 3 = .int .i64 40 ∧ s.env 4 = .int .i64 44 ∧ s.heap 1 = some ⟨27, X.cs⟩ ∧ s.heap 2 = some ⟨31, P.cs⟩ ∧ s.heap 7 = none ∧ s.heap 10 = none ∧ s.heap 12 = none ∧ s.heap 57 = none) ?_ ?_
  · refine CW.of_cx (D := (fun _ => none)) HE_ok mixed _ _ _ (by kernel_rfl) ?_
    repeat' first
      | (with_reducible refine gw_bool (fun _ => ?_) (fun _ => ?_))
      | (with_reducible refine condw_bool (fun _ => ?_) (fun _ => ?_))
      | simp [*, setsV, Stn.cs, Pos.cs]
  clear e1 e2 e3 h1 h2 n7 n10 n12 n57 e h
  rintro ⟨e, h⟩ ⟨e1, e2, e3, e4, h1, h2, n7, n10, n12, n57⟩
  simp only at e1 e2 e3 e4 h1 h2 n7 n10 n12 n57
  rw [Stn.cs] at h1
  rw [Pos.cs] at h2
  refine cw_cut (K := fun s => s.env 1 = .ptr 1 0 ∧ s.env 2 = .ptr 2 0 ∧ s.env 3 = .int .i64 40 ∧ s.env 4 = .int .i64 44 ∧ s.env 5 = .int .i64 10 ∧ s.heap 1 = some ⟨27, X.cs⟩ ∧ s.heap 2 = some ⟨31, P.cs⟩ ∧ s.heap 7 = none ∧ s.heap 10 = none ∧ s.heap 12 = none ∧ s.heap 57 = none) ?_ ?_
  · refine CW.of_cx (D := (fun _ => none)) HE_ok mixed _ _ _ (by kernel_rfl) ?_
    repeat' first
      | (with_reducible refine gw_bool (fun _ => ?_) (fun _ => ?_))
      | (with_reducible refine condw_bool (fun _ => ?_) (fun _ => ?_))
      | simp [*, setsV, Stn.cs, Pos.cs]
  clear e1 e2 e3 e4 h1 h2 n7 n10 n12 n57 e h
  rintro ⟨e, h⟩ ⟨e1, e2, e3, e4, e5, h1, h2, n7, n10, n12, n57⟩
  simp only at e1 e2 e3 e4 e5 h1 h2 n7 n10 n12 n57
  rw [Stn.cs] at h1
  rw [Pos.cs] at h2
  refine cw_cut (K := fun s => s.env 1 = .ptr 1 0 ∧ s.env 2 = .ptr 2 0 ∧ s.env 3 = .int .i64 40 ∧ s.env 4 = .int .i64 44 ∧ s.env 5 = .int .i64 10 ∧ s.env 6 = .int .i64 9 ∧ s.heap 1 = some ⟨27, X.cs⟩ ∧ s.heap 2 = some ⟨31, P.cs⟩ ∧ s.heap 7 = none ∧ s.heap 10 = none ∧ s.heap 12 = none ∧ s.heap 57 = none) ?_ ?_
  · refine CW.of_cx (D := (fun _ => none)) HE_ok mixed _ _ _ (by kernel_rfl) ?_
    repeat' first
      | (with_reducible refine gw_bool (fun _ => ?_) (fun _ => ?_))
      | (with_reducible refine condw_bool (fun _ => ?_) (fun _ => ?_))
      | simp [*, setsV, Stn.cs, Pos.cs]
  clear e1 e2 e3 e4 e5 h1 h2 n7 n10 n12 n57 e h
  rintro ⟨e, h⟩ ⟨e1, e2, e3, e4, e5, e6, h1, h2, n7, n10, n12, n57⟩
  simp only at e1 e2 e3 e4 e5 e6 h1 h2 n7 n10 n12 n57
  rw [Stn.cs] at h1
  rw [Pos.cs] at h2
  refine cw_cut (K := fun s => s.env 1 = .ptr 1 0 ∧ s.env 2 = .ptr 2 0 ∧ s.env 3 = .int .i64 40 ∧ s.env 4 = .int .i64 44 ∧ s.env 5 = .int .i64 10 ∧ s.env 6 = .int .i64 9 ∧ s.env 7 = .ptr 7 0 ∧ s.env 8 = .int .i64 0 ∧ s.heap 1 = some ⟨27, X.cs⟩ ∧ s.heap 2 = some ⟨31, P.cs⟩ ∧ s.heap 7 = some ⟨31, M.cs⟩ ∧ s.heap 10 = none ∧ s.heap 12 = none ∧ s.heap 57 = none) ?_ ?_
  · refine CW.of_cx (D := (fun _ => none)) HE_ok mixed _ _ _ (by kernel_rfl) ?_
    repeat' first
      | (with_reducible refine gw_bool (fun _ => ?_) (fun _ => ?_))
      | (with_reducible refine condw_bool (fun _ => ?_) (fun _ => ?_))
      | simp [*, setsV, Stn.cs, Pos.cs]
  clear e1 e2 e3 e4 e5 e6 h1 h2 n7 n10 n12 n57 e h
  rintro ⟨e, h⟩ ⟨e1, e2, e3, e4, e5, e6, e7, e8, h1, h2, h7, n10, n12, n57⟩
  simp only at e1 e2 e3 e4 e5 e6 e7 e8 h1 h2 h7 n10 n12 n57
  rw [Stn.cs] at h1
  rw [Pos.cs] at h2
  rw [Pos.cs] at h7
  refine cw_cut (K := fun s => s.env 1 = .ptr 1 0 ∧ s.env 2 = .ptr 2 0 ∧ s.env 3 = .int .i64 40 ∧ s.env 4 = .int .i64 44 ∧ s.env 5 = .int .i64 10 ∧ s.env 6 = .int .i64 9 ∧ s.env 7 = .ptr 7 0 ∧ s.env 8 = .int .i64 0 ∧ s.env 9 = .int .i64 43 ∧ s.heap 1 = some ⟨27, X.cs⟩ ∧ s.heap 2 = some ⟨31, P.cs⟩ ∧ s.heap 7 = some ⟨31, M.cs⟩ ∧ s.heap 10 = none ∧ s.heap 12 = none ∧ s.heap 57 = none) ?_ ?_
  · refine CW.of_cx (D := (fun _ => none)) HE_ok mixed _ _ _ (by kernel_rfl) ?_
    repeat' first
      | (with_reducible refine gw_bool (fun _ => ?_) (fun _ => ?_))
      | (with_reducible refine condw_bool (fun _ => ?_) (fun _ => ?_))
      | simp [*, setsV, Stn.cs, Pos.cs]
  clear e1 e2 e3 e4 e5 e6 e7 e8 h1 h2 h7 n10 n12 n57 e h
  rintro ⟨e, h⟩ ⟨e1, e2, e3, e4, e5, e6, e7, e8, e9, h1, h2, h7, n10, n12, n57⟩
  simp only at e1 e2 e3 e4 e5 e6 e7 e8 e9 h1 h2 h7 n10 n12 n57
  rw [Stn.cs] at h1
  rw [Pos.cs] at h2
  rw [Pos.cs] at h7
  refine cw_cut (K := fun s => s.env 1 = .ptr 1 0 ∧ s.env 2 = .ptr 2 0 ∧ s.env 3 = .int .i64 40 ∧ s.env 4 = .int .i64 44 ∧ s.env 5 = .int .i64 10 ∧ s.env 6 = .int .i64 9 ∧ s.env 7 = .ptr 7 0 ∧ s.env 8 = .int .i64 0 ∧ s.env 9 = .int .i64 43 ∧ s.env 10 = .ptr 10 0 ∧ s.env 11 = .int .i64 0 ∧ s.heap 1 = some ⟨27, X.cs⟩ ∧ s.heap 2 = some ⟨31, P.cs⟩ ∧ s.heap 7 = some ⟨31, M.cs⟩ ∧ s.heap 10 = some ⟨31, N.cs⟩ ∧ s.heap 12 = none ∧ s.heap 57 = none) ?_ ?_
  · refine CW.of_cx (D := (fun _ => none)) HE_ok mixed _ _ _ (by kernel_rfl) ?_
    repeat' first
      | (with_reducible refine gw_bool (fun _ => ?_) (fun _ => ?_))
      | (with_reducible refine condw_bool (fun _ => ?_) (fun _ => ?_))
      | simp [*, setsV, Stn.cs, Pos.cs]
  clear e1 e2 e3 e4 e5 e6 e7 e8 e9 h1 h2 h7 n10 n12 n57 e h
  rintro ⟨e, h⟩ ⟨e1, e2, e3, e4, e5, e6, e7, e8, e9, e10, e11, h1, h2, h7, h10, n12, n57⟩
  simp only at e1 e2 e3 e4 e5 e6 e7 e8 e9 e10 e11 h1 h2 h7 h10 n12 n57
  rw [Stn.cs] at h1
  rw [Pos.cs] at h2
  rw [Pos.cs] at h7
  rw [Pos.cs] at h10
  refine cw_cut (K := fun s => s.env 1 = .ptr 1 0 ∧ s.env 2 = .ptr 2 0 ∧ s.env 3 = .int .i64 40 ∧ s.env 4 = .int .i64 44 ∧ s.env 5 = .int .i64 10 ∧ s.env 6 = .int .i64 9 ∧ s.env 7 = .ptr 7 0 ∧ s.env 8 = .int .i64 0 ∧ s.env 9 = .int .i64 43 ∧ s.env 10 = .ptr 10 0 ∧ s.env 11 = .int .i64 0 ∧ s.env 12 = .ptr 12 0 ∧ s.env 14 = .int .i64 0 ∧ s.heap 1 = some ⟨27, X.cs⟩ ∧ s.heap 2 = some ⟨31, P.cs⟩ ∧ s.heap 7 = some ⟨31, M.cs⟩ ∧ s.heap 10 = some ⟨31, N.cs⟩ ∧ s.heap 12 = some ⟨31, L.cs⟩) ?_ ?_
  · refine cw_split HE_ok 5 (fun s => s.env 1 = .ptr 1 0 ∧ s.env 2 = .ptr 2 0 ∧ s.env 3 = .int .i64 40 ∧ s.env 4 = .int .i64 44 ∧ s.env 5 = .int .i64 10 ∧ s.env 6 = .int .i64 9 ∧ s.env 7 = .ptr 7 0 ∧ s.env 8 = .int .i64 0 ∧ s.env 9 = .int .i64 43 ∧ s.env 10 = .ptr 10 0 ∧ s.env 11 = .int .i64 0 ∧ s.env 53 = .agg X.cs ∧ s.env 54 = .agg P.cs ∧ s.env 57 = .sl 57 0 2 3 ∧ s.heap 1 = some ⟨27, X.cs⟩ ∧ s.heap 2 = some ⟨31, P.cs⟩ ∧ s.heap 7 = some ⟨31, M.cs⟩ ∧ s.heap 10 = some ⟨31, N.cs⟩ ∧ s.heap 57 = some ⟨66, [.int .i64 0, .int .i64 1, .bool true, .int .i64 0, .int .i64 0, .bool false]⟩ ∧ s.heap 12 = none) (by kernel_rfl) ?_ ?_
    · skip
      repeat' first
        | (with_reducible refine gw_bool (fun _ => ?_) (fun _ => ?_))
        | (with_reducible refine condw_bool (fun _ => ?_) (fun _ => ?_))
        | simp [*, setsV, Stn.cs, Pos.cs]
    clear e1 e2 e3 e4 e5 e6 e7 e8 e9 e10 e11 h1 h2 h7 h10 n12 n57 e h
    rintro ⟨e, h⟩ ⟨e1, e2, e3, e4, e5, e6, e7, e8, e9, e10, e11, e53, e54, e57, h1, h2, h7, h10, h57, n12⟩
    simp only at e1 e2 e3 e4 e5 e6 e7 e8 e9 e10 e11 e53 e54 e57 h1 h2 h7 h10 h57 n12
    refine ⟨_, View.pub _ (key := 57) (blk := ⟨66, [.int .i64 0, .int .i64 1, .bool true, .int .i64 0, .int .i64 0, .bool false]⟩) h57 rfl, ?_⟩
    repeat' first
      | (with_reducible refine gw_bool (fun _ => ?_) (fun _ => ?_))
      | (with_reducible refine condw_bool (fun _ => ?_) (fun _ => ?_))
      | simp [*, setsV, Stn.cs, Pos.cs, St.pub, pubC, pubA, pubT, chunks]
  clear e1 e2 e3 e4 e5 e6 e7 e8 e9 e10 e11 h1 h2 h7 h10 n12 n57 e h
  rintro ⟨e, h⟩ ⟨e1, e2, e3, e4, e5, e6, e7, e8, e9, e10, e11, e12, e14, h1, h2, h7, h10, h12⟩
  simp only at e1 e2 e3 e4 e5 e6 e7 e8 e9 e10 e11 e12 e14 h1 h2 h7 h10 h12
  rw [Stn.cs] at h1
  rw [Pos.cs] at h2
  rw [Pos.cs] at h7
  rw [Pos.cs] at h10
  rw [Pos.cs] at h12
  refine CW.of_cx (D := (fun _ => none)) HE_ok mixed _ _ _ (by kernel_rfl) ?_
  repeat' first
    | (with_reducible refine gw_bool (fun _ => ?_) (fun _ => ?_))
    | (with_reducible refine condw_bool (fun _ => ?_) (fun _ => ?_))
    | simp [*, Stn.cs, Pos.cs]
end Go.Proofs.Ytjhmphkdkclbjaa
end
section
namespace Go.Proofs.Ytjhmphkdkclbjaa
open Go.Pv Go.RowKit
set_option linter.unusedSimpArgs false
set_option linter.unusedVariables false
set_option maxRecDepth 100000

theorem setRself {p : Pos} {b : Nat} {l : List Int} (h : p.lk[b]? = some l) : setR p b l = p := by
  unfold setR; rw [set_same h]
theorem setRtwo {p : Pos} {b : Nat} {l m : List Int} : setR (setR p b l) b m = setR p b m := by simp [setR]
theorem setRat {p : Pos} {b : Nat} {l : List Int} (h : b < p.lk.length) : (setR p b l).lk[b]? = some l := by simp [setR, h]
def neg (o : Op') : Op' := ⟨o.bay, o.link, !o.cl⟩
theorem othL_set {l : List Int} {k : Nat} {y : Int} : othL (l.set k y) k = othL l k := by
  match l, k with
  | [], _ => rfl
  | [_], 0 => rfl
  | [_], 1 => rfl
  | [_], k + 2 => rfl
  | [_, _], 0 => rfl
  | [_, _], 1 => rfl
  | [_, _], k + 2 => rfl
  | _ :: _ :: _ :: _, 0 => rfl
  | _ :: _ :: _ :: _, 1 => rfl
  | _ :: _ :: _ :: _, 2 => rfl
  | _ :: _ :: _ :: _, k + 3 => rfl
/-- One operation, and back. -/
theorem undo_one {s : Stn} {p : Pos} {o : Op'} (h : alwE s p o = 0) (hl0 : 0 ≤ o.link) (hcl : p.cl[o.bay.toNat]? = some false) :
    alwE s (endP (begP p o) o) (neg o) = 0 ∧ endP (begP (endP (begP p o) o) (neg o)) (neg o) = p ∧ (endP (begP p o) o).cl = p.cl := by
  obtain ⟨b, x, l, hA⟩ := alw_zero h
  obtain ⟨k, hk⟩ : ∃ k : Nat, o.link = k := Int.eq_ofNat_of_zero_le hl0
  have hP := pfine_of (okP_iff hA.ok).2
  have hbl := (List.getElem?_eq_some_iff.1 hA.lb).1
  have hkn := knw_of h
  rcases hA.lnk with ⟨hh, _⟩ | ⟨k', hk', hkl, k3, hid, hmv⟩
  · omega
  have hkk : k' = k := by omega
  subst hkk
  have kk : ieq o.link (-1) = false := by rw [ieq_iff']; omega
  have hq : begP p o = setR p b (l.set k' 2) := by
    simp only [begP, kk, hA.bay, hA.lb, Int.toNat_natCast, Bool.false_eq_true, if_false]
    rw [hk, Int.toNat_natCast]
  have hr : endP (begP p o) o = setR p b (l.set k' (tgt o.cl)) := by
    rw [hq, endP, hA.bay, Int.toNat_natCast, setRat hbl]
    simp [hk, hkl, setRtwo, List.set_set]
  have okr := endP_ok (begP_ok h) hkn
  rw [hr] at okr ⊢
  obtain ⟨y, hy, _⟩ := at_ex (l := l) (i := k') hkl
  have hy2 : y ≠ 2 := fun e => hA.nom (by rw [← e]; exact List.mem_of_getElem? hy)
  rw [hy] at hid
  have hyt : y ≠ tgt o.cl := fun e => hid (by rw [e])
  have hyl : y = 0 ∨ y = 1 := by
    have := (hP.row b x l hA.qb hA.lb).2 y (List.mem_of_getElem? hy)
    simp only [okL, Bool.or_eq_true, Bool.and_eq_true, ieq_iff] at this
    omega
  have hyn : y = tgt (!o.cl) := by
    cases hc : o.cl <;> rw [hc] at hyt <;> simp [tgt] at hyt ⊢ <;> omega
  have hbl2 : b < (setR p b (l.set k' (tgt o.cl))).lk.length := by simpa [setR] using hbl
  have hrow : (setR p b (l.set k' (tgt o.cl))).lk[b]? = some (l.set k' (tgt o.cl)) := setRat hbl
  have ht2 : tgt o.cl ≠ 2 := by cases o.cl <;> simp [tgt]
  have hnm : ¬ ((2 : Int) ∈ l.set k' (tgt o.cl)) := by
    intro hm
    rcases List.mem_or_eq_of_mem_set hm with hm | hm
    · exact hA.nom hm
    · exact ht2 hm.symm
  have hcl' : p.cl[b]? = some false := by rw [hA.bay, Int.toNat_natCast] at hcl; exact hcl
  -- the undoing operation is allowed
  have hal : alwE s (setR p b (l.set k' (tgt o.cl))) (neg o) = 0 := by
    have e0 : ieq (chkE s (setR p b (l.set k' (tgt o.cl)))) 0 = true := by rw [chkE_ok]; exact okr
    have e1 : knwF s (neg o) = true := hkn
    have e2 : isCp s (neg o).bay.toNat = false := by simp [neg, hA.bay, isCp, hA.qb, k3]
    have e3 : mvgR (setR p b (l.set k' (tgt o.cl))) (neg o).bay.toNat = false := by
      simp only [neg, hA.bay, Int.toNat_natCast, mvgR, hrow]
      simpa using hnm
    have e4 : ieq (neg o).link (-1) = false := kk
    have e5 : idlR (setR p b (l.set k' (tgt o.cl))) (neg o).bay.toNat (neg o).link.toNat (neg o).cl = false := by
      simp only [neg, hA.bay, hk, Int.toNat_natCast, idlR, hrow, List.getElem?_set]
      simp only [if_true, hkl]
      cases o.cl <;> rfl
    have e6 : movE s (setR p b (l.set k' (tgt o.cl))) b k' (!o.cl) = 0 := by
      unfold movE at hmv ⊢
      have hzz : (setR p b (l.set k' (tgt o.cl))).cl[b]? = some false := hcl'
      simp only [hA.qb, hA.lb, hcl'] at hmv
      simp only [hA.qb, hrow, hzz, othL_set]
      have hmp : movP (setR p b (l.set k' (tgt o.cl))) b k' (l.set k' (tgt o.cl)) (!o.cl) = movP p b k' l o.cl := by
        cases hc : o.cl
        · have t0 : tgt false = 0 := rfl
          simp only [movP, Bool.not_false, if_true, t0, Bool.false_eq_true, if_false]
        · have hy0 : y = 0 := by rw [hyn, hc]; rfl
          simp only [movP, Bool.not_true, Bool.false_eq_true, if_false, if_true, setRtwo, List.set_set]
          have : l.set k' 0 = l := set_same (by rw [hy, hy0])
          rw [this, setRself hA.lb]
      rw [hmp]
      exact hmv
    unfold alwE
    simp only [e0, e1, e2, e3, e4, e5, Bool.true_eq_false, if_false, Bool.false_and, Bool.false_eq_true]
    simp only [neg, hA.bay, hk, Int.toNat_natCast]
    exact e6
  refine ⟨hal, ?_, rfl⟩
  have hq2 : begP (setR p b (l.set k' (tgt o.cl))) (neg o) = setR p b (l.set k' 2) := by
    have kk2 : ieq (neg o).link (-1) = false := kk
    simp only [begP, kk2, Bool.false_eq_true, if_false]
    simp only [neg, hA.bay, hk, Int.toNat_natCast, hrow, setRtwo, List.set_set]
  rw [hq2, endP]
  simp only [neg, hA.bay, hk, Int.toNat_natCast, setRat hbl]
  rw [if_pos ⟨by omega, by simp [hkl]⟩, setRtwo, List.set_set, ← hyn, set_same hy, setRself hA.lb]
theorem seqR_app {s : Stn} : ∀ (a b : List Op') (q r : Pos) (j at' : Nat), seqR s a q j = (r, at', 0) → seqR s (a ++ b) q j = seqR s b r (j + a.length)
  | [], b, q, r, j, at', h => by simp only [seqR, Prod.mk.injEq] at h; rw [h.1]; rfl
  | o :: a, b, q, r, j, at', h => by
    simp only [seqR] at h
    simp only [List.cons_append, seqR]
    split at h
    · rename_i h0
      simp only [Prod.mk.injEq] at h
      rw [h.2.2] at h0; cases h0
    · rename_i h0
      rw [if_neg h0]
      split at h
      · rename_i h1
        simp only [Prod.mk.injEq] at h
        rw [h.2.2] at h1; cases h1
      · rename_i h1
        rw [if_neg h1, seqR_app a b _ r (j + 1) at' h]
        congr 1
        simp; omega
theorem seqR_ok {s : Stn} : ∀ (l : List Op') (p q : Pos) (j at' : Nat), seqR s l p j = (q, at', 0) → at' = 0 ∧ (l = [] → q = p) ∧ (l ≠ [] → okP s q = true) ∧ ∀ o t, l = o :: t → alwE s p o = 0 ∧ seqR s t (endP (begP p o) o) (j + 1) = (q, at', 0)
  | [], p, q, j, at', h => by
    simp only [seqR, Prod.mk.injEq] at h
    exact ⟨h.2.1.symm, fun _ => h.1.symm, fun hh => absurd rfl hh, by intro o t hh; cases hh⟩
  | o :: l, p, q, j, at', h => by
    simp only [seqR] at h
    split at h
    · rename_i h0
      simp only [Prod.mk.injEq] at h
      rw [h.2.2] at h0; cases h0
    · rename_i h0
      split at h
      · rename_i h1
        simp only [Prod.mk.injEq] at h
        rw [h.2.2] at h1; cases h1
      · have ha : alwE s p o = 0 := ieq_iff.1 (by simpa using h0)
        obtain ⟨i1, i2, i3, _⟩ := seqR_ok l _ q (j + 1) at' h
        refine ⟨i1, (fun hh => by cases hh), (fun _ => ?_), ?_⟩
        · by_cases hl : l = []
          · rw [i2 hl]; exact endP_ok (begP_ok ha) (knw_of ha)
          · exact i3 hl
        · intro o' t hh
          cases hh
          exact ⟨ha, h⟩
/-- What the law asks of each operation. -/
def opB (p : Pos) (o : Op') : Bool := !ilt o.link 0 && (!ilt o.bay 0 && (ilt o.bay p.cl.length && match p.cl[o.bay.toNat]? with
  | some z => !z
  | none => false))
theorem opB_at {p : Pos} {o : Op'} (h : opB p o = true) : 0 ≤ o.link ∧ p.cl[o.bay.toNat]? = some false := by
  simp only [opB, Bool.and_eq_true, Bool.not_eq_true'] at h
  obtain ⟨h1, h2, h3, h4⟩ := h
  refine ⟨ilt_iff'.1 h1, ?_⟩
  split at h4
  · rename_i z hz; rw [hz]; simp at h4; rw [h4]
  · cases h4
theorem undo_seq {s : Stn} : ∀ (l : List Op') (p q : Pos) (j at' : Nat), (∀ o ∈ l, opB p o = true) → seqR s l p j = (q, at', 0) → ∀ i, seqR s (l.reverse.map neg) q i = (p, 0, 0)
  | [], p, q, j, at', _, h, i => by
    simp only [seqR, Prod.mk.injEq] at h
    simp [seqR, h.1]
  | o :: l, p, q, j, at', ho, h, i => by
    obtain ⟨_, _, _, hc⟩ := seqR_ok _ _ _ _ _ h
    obtain ⟨ha, hs⟩ := hc o l rfl
    obtain ⟨hlk, hcl⟩ := opB_at (ho o (by simp))
    obtain ⟨u1, u2, u3⟩ := undo_one ha hlk hcl
    have ih := undo_seq l _ q _ at' (fun o' ho' => by
      have := ho o' (by simp [ho'])
      simpa [opB, u3] using this) hs i
    rw [List.reverse_cons, List.map_append]
    rw [seqR_app _ _ _ _ _ _ ih]
    have e1 : ieq (alwE s (endP (begP p o) o) (neg o)) 0 = true := by rw [u1]; rfl
    have e2 := endE_zero u1
    simp only [List.map_cons, List.map_nil, seqR, e1, e2, u2]
    simp [ieq]
end Go.Proofs.Ytjhmphkdkclbjaa
end
section
namespace Go.Proofs.Ytjhmphkdkclbjaa
open Go.Pv Go.RowKit
set_option linter.unusedSimpArgs false
set_option linter.unusedVariables false
set_option maxRecDepth 100000
set_option maxHeartbeats 4000000

theorem sameP_ok (p : Pos) (h1 : p.cl.length ≤ 9223372036854775807) (h2 : p.lk.length ≤ 9223372036854775807) (h3 : ∀ l ∈ p.lk, l.length ≤ 9223372036854775807) : PCall Try.prog 37 [.agg p.cs, .agg p.cs] (.bool true) := by
  obtain ⟨nc, hnc⟩ : ∃ n, p.cl.length = n := ⟨_, rfl⟩
  obtain ⟨n, hn⟩ : ∃ n, p.lk.length = n := ⟨_, rfl⟩
  rw [hnc] at h1
  rw [hn] at h2
  have c0 : ieq (nc : Int) (nc : Int) = true := by simp [ieq]
  have c1 : ieq (n : Int) (n : Int) = true := by simp [ieq]
  refine pcall_cx noTab_ok mixed (fun _ => none) Try.func37 rfl Try.ntmps37 Try.results37 (by simp) (by kernel_rfl) ?_
  repeat' first
    | (with_reducible refine gw_bool (fun _ => ?_) (fun _ => ?_))
    | (with_reducible refine condw_bool (fun _ => ?_) (fun _ => ?_))
    | simp [*, Pos.cs]
  refine lp_go (D := (fun _ => none)) noTab_ok mixed (by kernel_rfl) [2, 3, 26] [2, 3] (α := Nat) (fun i e h => i ≤ nc ∧ e 27 = .int .i64 i) (fun i => nc - i) 0 ?_ ?_
  · exact ⟨by omega, by simp⟩
  rintro i e h hk hkh ⟨hi, g27⟩
  simp [Keep] at hk
  simp [KeepH] at hkh
  by_cases hlt : i < nc
  · obtain ⟨z, hz, hz'⟩ := at_ex (l := p.cl) (i := i) (by omega)
    have f1 : ilt (i : Int) (nc : Int) = true := ilt_t (by omega)
    have w1 : IntKind.i64.wrap ((i : Int) + 1) = ((i + 1 : Nat) : Int) := wrap_succ (by omega)
    cases z
    · skip
      repeat' first
        | (with_reducible refine gw_bool (fun _ => ?_) (fun _ => ?_))
        | (with_reducible refine condw_bool (fun _ => ?_) (fun _ => ?_))
        | simp [*, b1]
      refine nxt_go (i + 1) (View.refl _ _) (by omega) (by simp [*, Keep, St.forget, scr, scrC]) (by simp [*, KeepH, St.forget, scr, scrC]) ?_
      exact ⟨by omega, by simp [*]⟩
    · skip
      repeat' first
        | (with_reducible refine gw_bool (fun _ => ?_) (fun _ => ?_))
        | (with_reducible refine condw_bool (fun _ => ?_) (fun _ => ?_))
        | simp [*, b1]
      refine nxt_go (i + 1) (View.refl _ _) (by omega) (by simp [*, Keep, St.forget, scr, scrC]) (by simp [*, KeepH, St.forget, scr, scrC]) ?_
      exact ⟨by omega, by simp [*]⟩
  · have f1 : ilt (i : Int) (nc : Int) = false := ilt_f (by omega)
    repeat' first
      | (with_reducible refine gw_bool (fun _ => ?_) (fun _ => ?_))
      | (with_reducible refine condw_bool (fun _ => ?_) (fun _ => ?_))
      | simp [*]
    refine lp_go (D := (fun _ => none)) noTab_ok mixed (by kernel_rfl) [2, 3, 44] [2, 3] (α := Nat) (fun i e h => i ≤ n ∧ e 45 = .int .i64 i) (fun i => n - i) 0 ?_ ?_
    · exact ⟨by omega, by simp⟩
    have hk0 := hk
    have hkh0 := hkh
    clear hk hkh g27 f1 hlt hi
    rintro j e h hk hkh ⟨hj, g45⟩
    simp [Keep, hk0, hkh0] at hk
    simp [KeepH, hk0, hkh0] at hkh
    by_cases hlt : j < n
    · obtain ⟨l, hl, hl'⟩ := at_ex (l := p.lk) (i := j) (by omega)
      obtain ⟨m, hm⟩ : ∃ m, l.length = m := ⟨_, rfl⟩
      have hml := h3 l (List.mem_of_getElem? hl)
      rw [hm] at hml
      have c2 : ieq (m : Int) (m : Int) = true := by simp [ieq]
      have f1 : ilt (j : Int) (n : Int) = true := ilt_t (by omega)
      have w1 : IntKind.i64.wrap ((j : Int) + 1) = ((j + 1 : Nat) : Int) := wrap_succ (by omega)
      repeat' first
        | (with_reducible refine gw_bool (fun _ => ?_) (fun _ => ?_))
        | (with_reducible refine condw_bool (fun _ => ?_) (fun _ => ?_))
        | simp [*, r1]
      refine lp_go (D := (fun _ => none)) noTab_ok mixed (by kernel_rfl) [2, 3, 6, 44, 45, 46, 47, 48, 49, 50, 51, 52, 53, 54, 55, 56, 57, 58, 59, 60, 61, 62, 63, 64, 65, 66] [2, 3] (α := Nat) (fun k e h => k ≤ m ∧ e 67 = .int .i64 k) (fun k => m - k) 0 ?_ ?_
      · exact ⟨by omega, by simp⟩
      have hk1 := hk
      have hkh1 := hkh
      have g450 := g45
      clear hk hkh g45
      rintro k e h hk hkh ⟨hkm, g67⟩
      simp [Keep, hk0, hkh0, hk1, hkh1, g450] at hk
      simp [KeepH, hk0, hkh0, hk1, hkh1] at hkh
      by_cases hlk : k < m
      · obtain ⟨y, hy, hy'⟩ := at_ex (l := l) (i := k) (by omega)
        have f2 : ilt (k : Int) (m : Int) = true := ilt_t (by omega)
        have w2 : IntKind.i64.wrap ((k : Int) + 1) = ((k + 1 : Nat) : Int) := wrap_succ (by omega)
        have hyy : ieq y y = true := by simp [ieq]
        repeat' first
          | (with_reducible refine gw_bool (fun _ => ?_) (fun _ => ?_))
          | (with_reducible refine condw_bool (fun _ => ?_) (fun _ => ?_))
          | simp [*, r1, i1]
        refine nxt_go (k + 1) (View.refl _ _) (by omega) (by simp [*, Keep, St.forget, scr, scrC]) (by simp [*, KeepH, St.forget, scr, scrC]) ?_
        exact ⟨by omega, by simp [*]⟩
      · have f2 : ilt (k : Int) (m : Int) = false := ilt_f (by omega)
        repeat' first
          | (with_reducible refine gw_bool (fun _ => ?_) (fun _ => ?_))
          | (with_reducible refine condw_bool (fun _ => ?_) (fun _ => ?_))
          | simp [*]
        refine nxt_go (j + 1) (View.refl _ _) (by omega) (by simp [*, Keep, St.forget, scr, scrC]) (by simp [*, KeepH, St.forget, scr, scrC]) ?_
        exact ⟨by omega, by simp [*]⟩
    · have f1 : ilt (j : Int) (n : Int) = false := ilt_f (by omega)
      repeat' first
        | (with_reducible refine gw_bool (fun _ => ?_) (fun _ => ?_))
        | (with_reducible refine condw_bool (fun _ => ?_) (fun _ => ?_))
        | simp [*]
end Go.Proofs.Ytjhmphkdkclbjaa
end
section
namespace Go.Proofs.Ytjhmphkdkclbjaa
open Go.Pv Go.RowKit
set_option linter.unusedSimpArgs false
set_option linter.unusedVariables false
set_option maxRecDepth 100000
set_option maxHeartbeats 4000000
attribute [-simp] Tclo_at Tgrp_at Tchk Tpchk TcI TcB Tclo Tgrp Tsid Tnod Tlook Tbnd Tres TSd TBd Tix Tcon Tgps Tsg Tmv Tck Tkn Tjo Ttr Tsw Tmg Tal Tbe Ten Tcp Tidx Tnms Tnmd Tobj Tlks Tbay Trck Trpc Trg Trf Trsd Trnd Tar Ttwo Tof Tnm Tat Ttw Tsq Tlk

theorem nx_n {n : Nat} {c : Code} {Q : Exit → St → Prop} {st : St} : Nx Try.prog n c Q .normal st ↔ CW Try.prog n c Q st := Iff.rfl
theorem nx_rr {n : Nat} {c : Code} {Q : Exit → St → Prop} {st : St} : Nx Try.prog n c Q .ret st ↔ Q .ret st := Iff.rfl
theorem nx_ee {n : Nat} {c : Code} {Q : Exit → St → Prop} {st : St} {id : Nat} : Nx Try.prog n c Q (.exit id) st ↔ Q (.exit id) st := Iff.rfl
attribute [simp] nx_n nx_rr nx_ee
def Tsu : List V → Option V
  | [.agg a, .agg b] => (match unStn a, unPos b with
    | some s, some p => some (.bool (smallF s p))
    | _, _ => none)
  | _ => none
theorem Tsu_at {s : Stn} {p : Pos} : Tsu [.agg [.str s.nm, .list 1 (s.bs.map s1), .list 5 (s.ls.map Ln.cs), .list 6 (s.ss.map Sr.cs), .list 12 (s.qs.map By.cs)], .agg [.list 1 (p.cl.map b1), .list 1 (p.lk.map r1)]] = some (.bool (smallF s p)) := by
  have e1 := unStn_cs s
  have e2 := unPos_cs p
  unfold Stn.cs at e1
  unfold Pos.cs at e2
  simp [Tsu, e1, e2]
theorem su_tab : ∀ vs v, Tsu vs = some v → PCall Try.prog 34 vs v := by
  intro vs v h; unfold Tsu at h; split at h
  · split at h
    · rename_i h1 h2; cases h; rw [unStn_inv _ _ h1, unPos_inv _ _ h2]; exact small36_ok _ _
    · cases h
  · cases h
def szP (p : Pos) : Bool := decide (p.cl.length ≤ 9223372036854775807) && (decide (p.lk.length ≤ 9223372036854775807) && p.lk.all (fun l => decide (l.length ≤ 9223372036854775807)))
def Tsp : List V → Option V
  | [.agg a, .agg b] => (match unPos a, unPos b with
    | some p, some q => if p.cl = q.cl ∧ p.lk = q.lk ∧ szP p = true then some (.bool true) else none
    | _, _ => none)
  | _ => none
theorem Tsp_at {p : Pos} (h : szP p = true) : Tsp [.agg [.list 1 (p.cl.map b1), .list 1 (p.lk.map r1)], .agg [.list 1 (p.cl.map b1), .list 1 (p.lk.map r1)]] = some (.bool true) := by
  have e2 := unPos_cs p
  unfold Pos.cs at e2
  simp [Tsp, e2, h]
theorem sp_tab : ∀ vs v, Tsp vs = some v → PCall Try.prog 37 vs v := by
  intro vs v h; unfold Tsp at h; split at h
  · split at h
    · rename_i p q h1 h2
      split at h
      · rename_i hl
        obtain ⟨l1, l2, l3⟩ := hl
        cases h; rw [unPos_inv _ _ h1, unPos_inv _ _ h2]
        have : q = p := by cases p; cases q; simp at l1 l2; subst l1; subst l2; rfl
        subst this
        simp only [szP, Bool.and_eq_true, decide_eq_true_eq, List.all_eq_true] at l3
        exact sameP_ok _ l3.1 l3.2.1 l3.2.2
      · cases h
    · cases h
  · cases h
def HB : Tab := add 34 Tsu (add 37 Tsp (HE))
theorem HB_at (f : FuncId) (vs : List V) : HB.at' f vs = if f = 34 then Tsu vs else if f = 37 then Tsp vs else HE.at' f vs := rfl
theorem HB_fr (f : FuncId) : HB.fr f = if f = 34 then false else if f = 37 then false else HE.fr f := rfl
theorem HB_gb (f : FuncId) : HB.gb f = HE.gb f := rfl
theorem HB_gv (f : FuncId) (vs : List V) : HB.gv f vs = HE.gv f vs := rfl
attribute [simp] HB_at HB_fr HB_gb HB_gv Tsp Tsu
theorem HB_ok : TabOK Try.prog HB := by
  refine add_ok (add_ok (HE_ok) (by kernel_rfl) ?_) (by kernel_rfl) ?_
  · exact sp_tab
  · exact su_tab
attribute [-simp] Tsu Tsp
theorem undo_bad {s : Stn} {p : Pos} {l : List Op'} (h : ¬ (smallF s p = true ∧ l.length ≤ 10)) : PCall Try.prog 9 [.agg s.cs, .agg p.cs, .list 3 (l.map Op'.cs)] (.bool true) := by
  have t1 := @Tsu_at s p
  have t3 : Tk36 [] = some (.bool true) := rfl
  obtain ⟨n, hn⟩ : ∃ n, l.length = n := ⟨_, rfl⟩
  rw [hn] at h
  cases e0 : smallF s p
  · rw [e0] at t1
    clear h
    refine pcall_cx HB_ok mixed (fun _ => none) Try.func9 rfl Try.ntmps9 Try.results9 (by simp) (by kernel_rfl) ?_
    repeat' first
      | (with_reducible refine gw_bool (fun _ => ?_) (fun _ => ?_))
      | (with_reducible refine condw_bool (fun _ => ?_) (fun _ => ?_))
      | simp [*, Stn.cs, Pos.cs]
  · rw [e0] at t1
    have e1 : ilt 10 (n : Int) = true := ilt_t (by
      have : ¬ n ≤ 10 := fun hh => h ⟨e0, hh⟩
      omega)
    clear h
    refine pcall_cx HB_ok mixed (fun _ => none) Try.func9 rfl Try.ntmps9 Try.results9 (by simp) (by kernel_rfl) ?_
    repeat' first
      | (with_reducible refine gw_bool (fun _ => ?_) (fun _ => ?_))
      | (with_reducible refine condw_bool (fun _ => ?_) (fun _ => ?_))
      | simp [*, Stn.cs, Pos.cs]
def bkL (l : List Op') (j : Nat) : List Op' := (l.reverse.take j).map neg
theorem undo_good {s : Stn} {p : Pos} {l : List Op'} (h1 : smallF s p = true) (h2 : l.length ≤ 10) (hl : lenB s p = true) (hsm : smC p = true) (hz : szP p = true) : PCall Try.prog 9 [.agg s.cs, .agg p.cs, .list 3 (l.map Op'.cs)] (.bool true) := by
  have t1 := @Tsu_at s p
  rw [h1] at t1
  have t3 : Tk36 [] = some (.bool true) := rfl
  have t4 := Tsq_at (l := l) hl hsm (by omega)
  have t5 := Tsp_at hz
  obtain ⟨n, hn⟩ : ∃ n, l.length = n := ⟨_, rfl⟩
  rw [hn] at h2
  have e1 : ilt 10 (n : Int) = false := ilt_f (by omega)
  have hnc : p.cl.length ≤ 9223372036854775807 := by simp only [szP, Bool.and_eq_true, decide_eq_true_eq] at hz; exact hz.1
  obtain ⟨nc, hncc⟩ : ∃ n, p.cl.length = n := ⟨_, rfl⟩
  rw [hncc] at hnc
  refine pcall_of2 Try.func9 rfl Try.ntmps9 Try.results9 (by simp) ?_
  refine cw_seq (CW.of_cx (D := (fun _ => none)) HB_ok mixed _ _ _ (by kernel_rfl) ?_)
  repeat' first
    | (with_reducible refine gw_bool (fun _ => ?_) (fun _ => ?_))
    | (with_reducible refine condw_bool (fun _ => ?_) (fun _ => ?_))
    | simp [*, Stn.cs, Pos.cs]
  refine cw_seq (CW.of_cx (D := (fun _ => none)) HB_ok mixed _ _ _ (by kernel_rfl) ?_)
  repeat' first
    | (with_reducible refine gw_bool (fun _ => ?_) (fun _ => ?_))
    | (with_reducible refine condw_bool (fun _ => ?_) (fun _ => ?_))
    | simp [*, Stn.cs, Pos.cs]
  clear t1 e1
  refine cw_seq (CW.of_cx (D := (fun _ => none)) HB_ok mixed _ _ _ (by kernel_rfl) ?_)
  repeat' first
    | (with_reducible refine gw_bool (fun _ => ?_) (fun _ => ?_))
    | (with_reducible refine condw_bool (fun _ => ?_) (fun _ => ?_))
    | simp [*]
  refine lp_go (D := (fun _ => none)) HB_ok mixed (by kernel_rfl) [2, 3, 4, 27, 28] [3, 4, 8, 9, 14, 95, 96] (α := Nat) (fun i e h => i ≤ n ∧ e 29 = .int .i64 i ∧ ∀ j, j < i → ∀ o, l[j]? = some o → opB p o = true) (fun i => n - i) 0 ?_ ?_
  · exact ⟨by omega, by simp, fun j hj => by omega⟩
  rintro i e h hk hkh ⟨hi, g29, hold⟩
  replace hold : Hid (_) := hold
  simp [Keep] at hk
  simp [KeepH] at hkh
  by_cases hlt : i < n
  · obtain ⟨o, ho, ho'⟩ := at_ex (l := l) (i := i) (by omega)
    have f1 : ilt (i : Int) (n : Int) = true := ilt_t (by omega)
    have w1 : IntKind.i64.wrap ((i : Int) + 1) = ((i + 1 : Nat) : Int) := wrap_succ (by omega)
    have hstep : Hid (opB p o = true → ∀ j, j < i + 1 → ∀ o, l[j]? = some o → opB p o = true) := show _ from fun hh j hj o2 ho2 => by
      by_cases e : j = i
      · subst e; rw [ho] at ho2; cases ho2; exact hh
      · exact hold.out j (by omega) o2 ho2
    clear hold t4 t5 hz hl hsm
    cases q1 : ilt o.link 0
    · cases q2 : ilt o.bay 0
      · cases q3 : ilt o.bay (nc : Int)
        · skip
          repeat' first
            | (with_reducible refine gw_bool (fun _ => ?_) (fun _ => ?_))
            | (with_reducible refine condw_bool (fun _ => ?_) (fun _ => ?_))
            | simp [*, Op'.cs]
        · have p1 := ilt_iff'.1 q2
          have p2 : o.bay < nc := by simpa [ilt] using q3
          obtain ⟨b, hb⟩ := Int.eq_ofNat_of_zero_le p1
          obtain ⟨z, hz, hz'⟩ := at_ex (l := p.cl) (i := b) (by omega)
          have b1' : (b : Int) < nc := by omega
          have b2 : b + 1 ≤ nc := by omega
          cases z
          · rw [hb] at q2 q3
            have hnx : Hid (_) := hstep.out (by simp [opB, q1, q2, q3, hncc, hb, hz])
            clear hstep
            repeat' first
              | (with_reducible refine gw_bool (fun _ => ?_) (fun _ => ?_))
              | (with_reducible refine condw_bool (fun _ => ?_) (fun _ => ?_))
              | simp [*, Op'.cs, b1]
            refine nxt_go (i + 1) ((View.forget _ _ 8)) (by omega) (by simp [*, Keep, St.forget, scr, scrC, usesC, usesA]) (by simp [*, KeepH, St.forget, scr, scrC]) ?_
            exact ⟨by omega, by simp [*, St.forget, scr, scrC], hnx.out⟩
          · clear hstep
            rw [hb] at q2 q3
            repeat' first
              | (with_reducible refine gw_bool (fun _ => ?_) (fun _ => ?_))
              | (with_reducible refine condw_bool (fun _ => ?_) (fun _ => ?_))
              | simp [*, Op'.cs, b1]
      · skip
        repeat' first
          | (with_reducible refine gw_bool (fun _ => ?_) (fun _ => ?_))
          | (with_reducible refine condw_bool (fun _ => ?_) (fun _ => ?_))
          | simp [*, Op'.cs]
    · skip
      repeat' first
        | (with_reducible refine gw_bool (fun _ => ?_) (fun _ => ?_))
        | (with_reducible refine condw_bool (fun _ => ?_) (fun _ => ?_))
        | simp [*, Op'.cs]
  · have f1 : ilt (i : Int) (n : Int) = false := ilt_f (by omega)
    have e1 : i = n := by omega
    have hall : Hid (∀ o ∈ l, opB p o = true) := show _ from fun o ho => by
      obtain ⟨j, hj⟩ := List.mem_iff_getElem?.1 ho
      exact hold.out j (by have := (List.getElem?_eq_some_iff.1 hj).1; omega) o hj
    clear hold
    repeat' first
      | (with_reducible refine gw_bool (fun _ => ?_) (fun _ => ?_))
      | (with_reducible refine condw_bool (fun _ => ?_) (fun _ => ?_))
      | simp [*]
    clear f1 g29 hi hlt
    obtain ⟨R, hR⟩ : ∃ R, seqR s l p 0 = R := ⟨_, rfl⟩
    obtain ⟨q, at', E⟩ := R
    have hv : seqV s p l = .tup [.agg q.cs, .int .i64 (at' : Nat), .int .i64 E] := by rw [seqV, hR]
    rw [hv, Pos.cs] at t4
    cases hE : ieq E 0
    · clear hall hR hv
      refine CW.of_cx (D := (fun _ => none)) HB_ok mixed _ _ _ (by kernel_rfl) ?_
      repeat' first
        | (with_reducible refine gw_bool (fun _ => ?_) (fun _ => ?_))
        | (with_reducible refine condw_bool (fun _ => ?_) (fun _ => ?_))
        | simp [*, setsV]
    · have hE0 := ieq_iff.1 hE
      subst hE0
      obtain ⟨_, k1, k2, _⟩ := seqR_ok _ _ _ _ _ hR
      have hq1 : lenB s q = true ∧ smC q = true := by
        by_cases hn0 : l = []
        · rw [k1 hn0]; exact ⟨hl, hsm⟩
        · exact ⟨lenB_ok (k2 hn0), smC_of (k2 hn0)⟩
      have hback := undo_seq l p q 0 at' hall.out hR 0
      have hbl : (bkL l n).length = n := by simp [bkL, hn]
      have hb0 : bkL l n = l.reverse.map neg := by rw [bkL, List.take_of_length_le (by simp [hn])]
      have t6 := Tsq_at (l := bkL l n) hq1.1 hq1.2 (by omega)
      have hv2 : seqV s q (bkL l n) = .tup [.agg p.cs, .int .i64 ((0 : Nat) : Int), .int .i64 0] := by rw [seqV, hb0, hback]
      rw [hv2, Pos.cs] at t6
      have hfc := flat_chunks (sz := 3) (enc := Op'.cs) (fun _ => rfl) (bkL l n)
      have hfp := flat_pure (enc := Op'.cs) (fun _ => rfl) (bkL l n)
      rw [hbl] at hfc
      have hst : Hid (∀ j o, j < n → l[n - 1 - j]? = some o → bkL l (j + 1) = bkL l j ++ [neg o]) := show _ from fun j o hj ho => by
        have hr : l.reverse[j]? = some o := by rw [List.getElem?_reverse (by omega), hn]; exact ho
        rw [bkL, take_snoc hr, List.map_append]; rfl
      have hblj : Hid (∀ j, j ≤ n → (bkL l j).length = j) := show _ from fun j hj => by simp [bkL, hn]; omega
      clear hv hv2 hback hb0 hall hR hq1 k1 k2
      refine cw_seq (CW.of_cx (D := (fun _ => none)) HB_ok mixed _ _ _ (by kernel_rfl) ?_)
      repeat' first
        | (with_reducible refine gw_bool (fun _ => ?_) (fun _ => ?_))
        | (with_reducible refine condw_bool (fun _ => ?_) (fun _ => ?_))
        | simp [*, setsV]
      refine cw_seq (CW.of_cx (D := (fun _ => none)) HB_ok mixed _ _ _ (by kernel_rfl) ?_)
      repeat' first
        | (with_reducible refine gw_bool (fun _ => ?_) (fun _ => ?_))
        | (with_reducible refine condw_bool (fun _ => ?_) (fun _ => ?_))
        | simp [*]
      refine cw_seq (CW.of_cx (D := (fun _ => none)) HB_ok mixed _ _ _ (by kernel_rfl) ?_)
      repeat' first
        | (with_reducible refine gw_bool (fun _ => ?_) (fun _ => ?_))
        | (with_reducible refine condw_bool (fun _ => ?_) (fun _ => ?_))
        | simp [*]
      have w0 : IntKind.i64.wrap ((n : Int) - 1) = (n : Int) - 1 := wrap_id (by omega) (by omega)
      refine cw_seq (CW.of_cx (D := (fun _ => none)) HB_ok mixed _ _ _ (by kernel_rfl) ?_)
      repeat' first
        | (with_reducible refine gw_bool (fun _ => ?_) (fun _ => ?_))
        | (with_reducible refine condw_bool (fun _ => ?_) (fun _ => ?_))
        | simp [*]
      refine lp_view (View.nilOwn _ (t := 12) (key := 96) 3 66 (by simp) (by simp [*])) ?_
      refine lp_go (D := (fun _ => none)) HB_ok mixed (by kernel_rfl) [2, 3, 4, 9] [3, 4, 8, 9, 14, 95] (α := Nat) (fun j e h => j ≤ n ∧ e 13 = .int .i64 ((n : Int) - 1 - j) ∧ e 12 = .sl 96 0 j 3 ∧ h 96 = some ⟨66, ((bkL l j).map Op'.cs).flatten⟩) (fun j => n - j) 0 ?_ ?_
      · exact ⟨by omega, by simp, by simp, by simp [bkL]⟩
      have hk0 := hk
      have hkh0 := hkh
      clear hk hkh
      rintro j e h hk hkh ⟨hj, g13, g12, g96⟩
      simp [Keep, hk0, hkh0] at hk
      simp [KeepH, hk0, hkh0] at hkh
      by_cases hlt : j < n
      · obtain ⟨k, hkk⟩ : ∃ k : Nat, n - 1 - j = k := ⟨_, rfl⟩
        obtain ⟨o, ho, ho'⟩ := at_ex (l := l) (i := k) (by omega)
        have hstj := hst.out j o hlt (by rw [hkk]; exact ho)
        have hlj := hblj.out j (by omega)
        have g13' : e 13 = .int .i64 (k : Int) := by rw [g13]; congr 1; omega
        have f1 : ilt (k : Int) 0 = false := ilt_f (by omega)
        have w1 : IntKind.i64.wrap ((k : Int) - 1) = (n : Int) - 1 - ((j + 1 : Nat) : Int) := by rw [wrap_id (by omega) (by omega)]; omega
        have k1 : (k : Int) < n := by omega
        have k2 : k + 1 ≤ n := by omega
        have hfl : ((bkL l (j + 1)).map Op'.cs).flatten = ((bkL l j).map Op'.cs).flatten ++ [.int .i64 o.bay, .int .i64 o.link, .bool (!o.cl)] := by rw [hstj]; simp [neg, Op'.cs]
        have hfp2 := flat_pure (enc := Op'.cs) (fun _ => rfl) (bkL l j)
        have hflen : ((bkL l j).map Op'.cs).flatten.length = j * 3 := by
          rw [length_flatten_uniform (sz := 3) _ (by intro c hc; obtain ⟨x, _, rfl⟩ := List.mem_map.1 hc; rfl), List.length_map, hlj]
        replace hfl : Hid (_ = _) := hfl
        generalize ((bkL l j).map Op'.cs).flatten = C at g96 hfl hfp2 hflen
        have hCs : ∀ k, C.map (scrC k) = C := fun k => scrC_cells hfp2
        have f5 : (j + 1) * 24 ≤ 140737488355328 := by omega
        have f6 : j + 1 ≤ 9223372036854775807 := by omega
        clear hstj hlj hst hblj g13 t5 t6 hfc hfp
        repeat' first
          | (with_reducible refine gw_bool (fun _ => ?_) (fun _ => ?_))
          | (with_reducible refine condw_bool (fun _ => ?_) (fun _ => ?_))
          | simp [*, Op'.cs, appendV, srcCells, St.forget, scr, scrC]
        refine nxt_go (j + 1) ((View.forget _ _ 95)) (by omega) (by simp [*, Keep, St.forget, scr, scrC, usesC, usesA]) (by simp [*, KeepH, St.forget, scr, scrC]) ?_
        refine ⟨by omega, by simp [*, St.forget, scr, scrC], by simp [*, St.forget, scr, scrC], ?_⟩
        rw [hfl.out]; simp [*, St.forget, scr, scrC]
      · have e2 : j = n := by omega
        have f1 : ilt ((n : Int) - 1 - n) 0 = true := ilt_t (by omega)
        have hflen : ((bkL l n).map Op'.cs).flatten.length = n * 3 := by
          rw [length_flatten_uniform (sz := 3) _ (by intro c hc; obtain ⟨x, _, rfl⟩ := List.mem_map.1 hc; rfl), List.length_map, hbl]
        rw [e2] at g12 g96 g13
        clear hst hblj
        generalize hBN : bkL l n = BN at t6 hfc hfp hbl g96
        rw [hBN] at hflen
        generalize hCC : (BN.map Op'.cs).flatten = C at g96 hfc hfp hflen
        clear hBN hCC
        repeat' first
          | (with_reducible refine gw_bool (fun _ => ?_) (fun _ => ?_))
          | (with_reducible refine condw_bool (fun _ => ?_) (fun _ => ?_))
          | simp [*]
        refine cw_view (View.pub _ (key := 96) (blk := ⟨66, C⟩) (by simp [*]) hfp) ?_
        refine CW.of_cx (D := (fun _ => none)) HB_ok mixed _ _ _ (by kernel_rfl) ?_
        repeat' first
          | (with_reducible refine gw_bool (fun _ => ?_) (fun _ => ?_))
          | (with_reducible refine condw_bool (fun _ => ?_) (fun _ => ?_))
          | simp [*, St.pub, pubT, pubA, pubC, setsV]
end Go.Proofs.Ytjhmphkdkclbjaa
end
section
namespace Go.Pv
open Go.RowKit Go.ChangeShapes Go.WideShapes Go.ChangeAt
set_option maxRecDepth 100000
set_option linter.unusedSimpArgs false
set_option linter.unusedVariables false
section
variable {P : Program} {W : World} {H : Type} {enc : TypeId × Value → H} {sp : Nat → Bool} {ro : Nat → Prop}
theorem trod_slice2 {fuel : Nat} {t e : TypeId} {X : Value} {d : DataW H} {pl : List MemPlace} (hu : P.underlying t = some (.slice e)) (h : DataW.trod enc P W 0 sp true (fuel + 1) t [X] = some (d, pl)) :
    (X = .slice none 0 0 ∧ d = .nil) ∨ ∃ a len cap elems rest, X = .slice (some a) len cap ∧ (List.range len).mapM (fun i => (W.cells? 0 (a.add (i * P.cellsOf e)) (P.cellsOf e)).bind (DataW.trod enc P W 0 sp true fuel e)) = some elems ∧ d = .slice (elems.map (·.1)) rest := by
  cases X with
  | slice a len cap =>
    cases a with
    | none =>
      cases len with
      | zero => cases cap with
        | zero =>
          left
          simp only [DataW.trod, hu, Option.some.injEq, Prod.mk.injEq] at h
          exact ⟨rfl, h.1.symm⟩
        | succ cap => simp [DataW.trod, hu] at h
      | succ len => simp [DataW.trod, hu] at h
    | some a =>
      right
      simp only [DataW.trod, hu] at h
      split at h
      · simp only [Option.bind_eq_some_iff] at h
        obtain ⟨elems, hel, h⟩ := h
        simp only [Option.map_eq_some_iff, Prod.mk.injEq] at h
        obtain ⟨rest, _, h1, _⟩ := h
        exact ⟨a, len, cap, elems, _, rfl, hel, h1.symm⟩
      · cases h
  | _ => simp [DataW.trod, hu] at h
theorem list_at {sz : Nat} {xs : List (List V)} {X : Value} (h : R0 W ro (.list sz xs) X) : xs = [] ∨ ∃ ad cap, X = .slice (some ad) xs.length cap ∧ ∀ (i j : Nat) (c : List V) (y : V), xs[i]? = some c → c[j]? = some y → ∃ z, W.cell? (ad.add (i * sz + j)) = some z ∧ R0 W ro y z := by
  cases h with
  | list0 => exact .inl rfl
  | list _ _ ad cap g hro huni hcap hg hr => exact .inr ⟨ad, cap, rfl, fun i j c y hi hj => ⟨g i j, hg i j c y hi hj, hr i j c y hi hj⟩⟩
theorem mapM_len {α β : Type} {f : α → Option β} : ∀ {l : List α} {r : List β}, l.mapM f = some r → r.length = l.length
  | [], r, h => by simp at h; subst h; rfl
  | a :: l, r, h => by
    simp only [List.mapM_cons, Option.bind_eq_bind, Option.bind_eq_some_iff, Option.pure_def, Option.some.injEq] at h
    obtain ⟨b, _, bs, hbs, rfl⟩ := h
    simp [mapM_len hbs]
theorem weightsAll_mem {e : TypeId} : ∀ {l : List (DataW H)} {d : DataW H}, d ∈ l → ∀ n ∈ d.weights P e, n ∈ DataW.weightsAll P e l
  | [], d, h, n, hn => by simp at h
  | a :: l, d, h, n, hn => by
    simp only [DataW.weightsAll, List.mem_append]
    rcases List.mem_cons.1 h with rfl | h
    · exact .inl hn
    · exact .inr (weightsAll_mem h n hn)
/-- The first level. -/
theorem size_one {fuel : Nat} {t e : TypeId} {X : Value} {d : DataW H} {pl : List MemPlace} {B sz : Nat} {xs : List (List V)} (hu : P.underlying t = some (.slice e)) (h : DataW.trod enc P W 0 sp true (fuel + 1) t [X] = some (d, pl)) (hr : R0 W ro (.list sz xs) X) (hw : ∀ n ∈ d.weights P t, n ≤ B) : xs.length * P.bytesOf e ≤ B := by
  rcases list_at hr with rfl | ⟨ad, cap, rfl, _⟩
  · simp
  · rcases trod_slice2 hu h with ⟨hx, _⟩ | ⟨a, len, cap', elems, rest, hx, hel, rfl⟩
    · cases hx
    · cases hx
      have hl := mapM_len hel
      have hm := hw ((elems.map (·.1)).length * P.bytesOf e + rest.length * P.bytesOf e) (by
        have : (elems.map (·.1)).length * P.bytesOf e + rest.length * P.bytesOf e = ((elems.map (·.1)).length + rest.length) * P.bytesOf e := by rw [Nat.add_mul]
        rw [this]
        simp [DataW.weights, hu])
      simp only [List.length_map, hl, List.length_range] at hm
      omega
/-- The rows. -/
theorem size_two {fuel : Nat} {t e e2 : TypeId} {X : Value} {d : DataW H} {pl : List MemPlace} {B : Nat} {xs : List (List V)} (hu : P.underlying t = some (.slice e)) (hu2 : P.underlying e = some (.slice e2)) (hc : P.cellsOf e = 1) (h : DataW.trod enc P W 0 sp true (fuel + 1) t [X] = some (d, pl)) (hr : R0 W ro (.list 1 xs) X) (hw : ∀ n ∈ d.weights P t, n ≤ B)
    {c : List V} {sz : Nat} {ys : List (List V)} (hx : c ∈ xs) (hcy : c = [.list sz ys]) : ys.length * P.bytesOf e2 ≤ B := by
  subst hcy
  obtain ⟨i, hi⟩ := List.mem_iff_getElem?.1 hx
  rcases list_at hr with rfl | ⟨ad, cap, rfl, hcell⟩
  · simp at hx
  · rcases trod_slice2 hu h with ⟨hx, _⟩ | ⟨a, len, cap', elems, rest, hx, hel, rfl⟩
    · cases hx
    · cases hx
      obtain ⟨z, hz, hrz⟩ := hcell i 0 _ _ hi rfl
      have hil := (List.getElem?_eq_some_iff.1 hi).1
      obtain ⟨hl1, hl2⟩ := mapM_at hel
      have hlen := mapM_len hel
      obtain ⟨x, hx, _⟩ : ∃ x, elems[i]? = some x ∧ True := ⟨elems[i]'(by rw [hlen]; simpa using hil), List.getElem?_eq_getElem _, trivial⟩
      have he := hl2 i i x (List.getElem?_range (by simpa using hil)) hx
      simp only [Option.bind_eq_some_iff, hc] at he
      obtain ⟨cl, hcl, htr⟩ := he
      have hcl' : cl = [z] := by
        simp only [World.cells?, Nat.zero_le, if_true, List.range_succ, List.range_zero, List.nil_append, List.mapM_cons, List.mapM_nil] at hcl
        rw [show (ad.add (i * 1)).add 0 = ad.add (i * 1 + 0) from Addr.add_add _ _ _, hz] at hcl
        simpa using hcl.symm
      subst hcl'
      obtain ⟨d2, pl2⟩ := x
      cases fuel with
      | zero => simp [DataW.trod] at htr
      | succ fuel =>
      refine size_one hu2 htr hrz fun n hn => hw n ?_
      have hm : d2 ∈ elems.map (·.1) := List.mem_map.2 ⟨(d2, pl2), List.mem_of_getElem? hx, rfl⟩
      simp only [DataW.weights, hu, List.mem_cons, List.mem_append]
      exact .inr (.inl (weightsAll_mem hm n hn))
/-- From a law's contract to what a row asks of the call; the arguments are no larger than the form's reach. -/
theorem lift2 {H : Type} {enc : TypeId × Value → H} {C : Checked} {os : Os} {f : FuncId} {fn : Func} {s : ChangeSpec} {ps : Array TypeId} {tb : TypeId} {m : Nat} {tys : List Ty}
    (own : ownKnob C.prog.godebug = none) (laidOut : laidOutB C.prog = true) (started : os.Started) (noInit : C.prog.inits.idxOf? f = none) (hfn : C.prog.funcs[f]? = some fn)
    (witness : ∃ (w : World) (tape : Tape) (i : Input), w.os = os ∧ (w.forCall tape i).Shaped C.prog ∧ i.vars = [] ∧ Input.okWide C.prog (w.forCall tape i) .any w.heap.size f i ∧
      s.pre6 enc C.prog fn [] false (w.forCall tape i).memory i.args ∧ ({} : Assume).holds C.prog (lone (Frame.enter C.prog f i.args .normal) [] (w.forCall tape i)))
    (hps : fn.params = ps) (hrs : fn.resultTypes = #[tb]) (htb : C.prog.underlying tb = some .bool) (hvars : s.vars = []) (htys : tysOf C.prog m ps.toList = some tys) (hread : readB C.prog ps.toList = true)
    (hs : ∀ ds : List (DataW H), ds.length = ps.size → s.fn H ds = { results := [.lit (.bool true)], args := ds })
    {Sz : List V → Prop} (hSz : ∀ (W : World) (args : List Value) (ds : List (DataW H)) (pl : List MemPlace) (us : List V), DataW.TrodAll enc C.prog W 0 (fun _ => true) true ps.toList args ds pl → RL W (fun b => b < W.heap.size) us args →
      (DataW.weightsEach C.prog ps.toList ds).all (· ≤ reachBytes) = true → Sz us)
    (law : ∀ us, HasAll tys us → Sz us → PCall C.prog f us (.bool true)) :
    ReturnsInHanded {} C os f .any (s.pre6 enc C.prog fn [] false) (s.post enc C.prog fn false true false false) := by
  refine returnsInHanded_of_change_sized own started noInit hfn witness ?_
  intro W base args ds gs before hval hW _ hwt _
  subst hps
  have hW' := hW
  obtain ⟨p, q, hA, hV, rfl, hfz, hnd⟩ := hW
  rw [hvars] at hV
  obtain ⟨rfl, rfl⟩ := trodVars_none hV
  obtain ⟨us, hus, hrl⟩ := open_all htys (fun j t v h h' => hval j t v (by simpa using h) (by simpa using h')) hA
  have hlen := trodAll_len hA
  have hwt' : (DataW.weightsEach C.prog fn.params.toList ds).all (· ≤ reachBytes) = true := by
    have hv0 : s.plain.varTypes C.prog = [] := by
      simp [ChangeSpec.plain, DataSpec.varTypes, hvars]
    rw [hv0] at hwt
    simpa using hwt
  refine (law us hus (hSz W _ ds p us hA hrl hwt') W (fun b => b < W.heap.size) args (fun _ h => h) (by simpa using hrl.1.symm) (fun j c x hc hx => hrl.2 j c x hc (by simpa using hx))).mono fun e W' hh => ?_
  obtain ⟨rv, ro', rfl, bel, _, _, _, hr⟩ := hh
  have hrv : rv = .bool true := by cases hr; rfl
  subst hrv
  have hsd := hs ds (by simpa using hlen)
  refine ⟨_, rfl, ds, [], _, [], p, [], hW', ?_, ?_, ?_, bel.frame _, fun h => by cases h⟩
  · rw [List.append_nil, hsd, hrs]
    exact trodAll_mk1 (shut_bool htb _)
  · rw [List.append_nil, hsd]
    exact carry_all laidOut bel hread hA
  · rw [List.append_nil, hsd, hvars]
    rfl
end
end Go.Pv
namespace Go.Proofs.Ytjhmphkdkclbjaa
open Go.Pv Go.RowKit
set_option maxRecDepth 100000
set_option linter.unusedSimpArgs false
theorem size_pos {W : World} {H : Type} {enc : TypeId × Value → H} {sp : Nat → Bool} {ro : Nat → Prop} {fuel : Nat} {v : Value} {d : DataW H} {pl : List MemPlace} {B : Nat} {p : Pos} (h : DataW.trod enc Try.prog W 0 sp true fuel 31 v.cells.toList = some (d, pl)) (hr : R0 W ro (.agg p.cs) v) (hw : ∀ n ∈ d.weights Try.prog 31, n ≤ B) : p.cl.length ≤ B ∧ 24 * p.lk.length ≤ B ∧ ∀ l ∈ p.lk, 8 * l.length ≤ B := by
  obtain ⟨f0, f1, hu, t0, o0, t1, o1⟩ : ∃ f0 f1 : Field, Try.prog.underlying 31 = some (.struct #[f0, f1]) ∧ f0.type = 28 ∧ f0.offset = 0 ∧ f1.type = 29 ∧ f1.offset = 1 := ⟨_, _, rfl, rfl, rfl, rfl, rfl⟩
  have c0 : Try.prog.cellsOf 28 = 1 := by kernel_rfl
  have c1 : Try.prog.cellsOf 29 = 1 := by kernel_rfl
  have c2 : Try.prog.cellsOf 42 = 1 := by kernel_rfl
  have u0 : Try.prog.underlying 28 = some (.slice 4) := rfl
  have u1 : Try.prog.underlying 29 = some (.slice 42) := rfl
  have u2 : Try.prog.underlying 42 = some (.slice 3) := rfl
  have b0 : Try.prog.bytesOf 4 = 1 := by kernel_rfl
  have b1 : Try.prog.bytesOf 42 = 24 := by kernel_rfl
  have b2 : Try.prog.bytesOf 3 = 8 := by kernel_rfl
  cases fuel with
  | zero => simp [DataW.trod] at h
  | succ fuel =>
    cases hr with
    | agg _ arr hsz hcell =>
      simp only [Pos.cs, List.length_cons, List.length_nil] at hsz
      obtain ⟨x, y, hxy⟩ : ∃ x y, arr.toList = [x, y] := by
        match harr : arr.toList, (show arr.toList.length = 2 by simpa using hsz) with
        | [x, y], _ => exact ⟨x, y, rfl⟩
      have r0' : R0 W ro (.list 1 (p.cl.map Go.Proofs.Ytjhmphkdkclbjaa.b1)) x := hcell 0 _ x rfl (by rw [← Array.getElem?_toList, hxy]; rfl)
      have r1'' : R0 W ro (.list 1 (p.lk.map r1)) y := hcell 1 _ y rfl (by rw [← Array.getElem?_toList, hxy]; rfl)
      have hcs : (Value.agg arr).cells.toList = [x, y] := hxy
      rw [hcs] at h
      simp only [DataW.trod, hu] at h
      split at h
      · simp only [List.mapM_cons, List.mapM_nil, t0, t1, o0, o1, c0, c1, List.drop_zero, List.take_succ_cons, List.take_zero, List.drop_succ_cons, Option.bind_eq_bind, Option.pure_def, Option.map_eq_some_iff, Option.bind_eq_some_iff, Option.some.injEq, Prod.mk.injEq] at h
        obtain ⟨xs, ⟨⟨d0, p0⟩, h0, ys, ⟨⟨d1, p1⟩, h1, zs, rfl, rfl⟩, rfl⟩, rfl, _⟩ := h
        cases fuel with
        | zero => simp [DataW.trod] at h0
        | succ fuel =>
          have w0 : ∀ n ∈ d0.weights Try.prog 28, n ≤ B := fun n hn => hw n (by simp [DataW.weights, hu, DataW.weightsEach, t0, hn])
          have w1 : ∀ n ∈ d1.weights Try.prog 29, n ≤ B := fun n hn => hw n (by simp [DataW.weights, hu, DataW.weightsEach, t1, hn])
          have s0 := size_one u0 h0 r0' w0
          have s1 := size_one u1 h1 r1'' w1
          rw [b0, List.length_map] at s0
          rw [b1, List.length_map] at s1
          refine ⟨by omega, by omega, fun l hl => ?_⟩
          have s2 := size_two u1 u2 c2 h1 r1'' w1 (c := r1 l) (List.mem_map.2 ⟨l, hl, rfl⟩) rfl
          rw [b2, List.length_map] at s2
          omega
      · cases h
end Go.Proofs.Ytjhmphkdkclbjaa
end
section
namespace Go.Proofs.Ytjhmphkdkclbjaa
open Go.Pv Go.RowKit Go.ChangeShapes Go.WideShapes Go.ChangeAt
set_option maxRecDepth 100000
set_option linter.unusedSimpArgs false
theorem has_op2 {u : V} (h : HasV (.struct [.int .i64, .int .i64, .bool]) u) : ∃ o : Op', u = .agg o.cs := by
  obtain ⟨cs, rfl, h⟩ := h
  simp only [HasL, HasC] at h
  obtain ⟨_, _, rfl, ⟨a, rfl, _⟩, _, _, rfl, ⟨b, rfl, _⟩, _, _, rfl, ⟨c, rfl⟩, rfl⟩ := h
  exact ⟨⟨a, b, c⟩, rfl⟩
theorem hasC_op {c : List V} (h : HasC (.struct [.int .i64, .int .i64, .bool]) c) : ∃ o : Op', c = o.cs := by
  simp only [HasL, HasC] at h
  obtain ⟨_, _, rfl, ⟨a, rfl, _⟩, _, _, rfl, ⟨b, rfl, _⟩, _, _, rfl, ⟨c, rfl⟩, rfl⟩ := h
  exact ⟨⟨a, b, c⟩, rfl⟩
/-- The position's lists are no longer than the form's reach. -/
def szU (us : List V) : Prop := ∀ p : Pos, us[1]? = some (.agg p.cs) → smC p = true
theorem szU_of {H : Type} {enc : TypeId × Value → H} {W : World} {args : List Value} {ds : List (DataW H)} {pl : List MemPlace} {us : List V} (h : DataW.TrodAll enc Try.prog W 0 (fun _ => true) true [27, 31, 71] args ds pl) (hr : RL W (fun b => b < W.heap.size) us args)
    (hw : (DataW.weightsEach Try.prog [27, 31, 71] ds).all (· ≤ reachBytes) = true) : szU us := by
  intro p hp
  obtain ⟨v0, vs0, d0, ds0, _, _, rfl, rfl, _, _, h⟩ := trodAll_cons h
  obtain ⟨v1, vs1, d1, ds1, pp, _, rfl, rfl, _, ht, _⟩ := trodAll_cons h
  obtain ⟨fuel, ht⟩ := ht
  have hv : R0 W (fun b => b < W.heap.size) (.agg p.cs) v1 := hr.2 1 _ _ hp rfl
  have hwt : ∀ n ∈ d1.weights Try.prog 31, n ≤ reachBytes := fun n hn => by
    have := List.all_eq_true.1 hw n (by simp [DataW.weightsEach, hn])
    simpa using this
  obtain ⟨s1', s2, s3⟩ := size_pos ht hv hwt
  have hrb : reachBytes < 140737488355328 := by decide
  simp only [smC, Bool.and_eq_true, decide_eq_true_eq, List.all_eq_true]
  refine ⟨by omega, by omega, fun l hl => ?_⟩
  have := s3 l hl
  omega
theorem szP_of {p : Pos} (h : smC p = true) : szP p = true := by
  simp only [smC, szP, Bool.and_eq_true, decide_eq_true_eq, List.all_eq_true] at h ⊢
  refine ⟨by omega, by omega, fun l hl => ?_⟩
  have := h.2.2 l hl
  omega
theorem undo_ok {s : Stn} {p : Pos} {l : List Op'} (hl : lenB s p = true) (hsm : smC p = true) : PCall Try.prog 9 [.agg s.cs, .agg p.cs, .list 3 (l.map Op'.cs)] (.bool true) := by
  by_cases h : smallF s p = true ∧ l.length ≤ 10
  · exact undo_good h.1 h.2 hl hsm (szP_of hsm)
  · exact undo_bad h
end Go.Proofs.Ytjhmphkdkclbjaa
end
section
namespace Go.Proofs.Ytjhmphkdkclbjaa.interlockUndoDone
open Go.Pv Go.ChangeShapes Go.WideShapes Go.ChangeAt Go.RowKit
set_option linter.unusedVariables false

theorem law : ∀ us, HasAll [.struct [.str, .slice .str, .slice (.struct [.str, .struct [.int .i64, .int .i64], .struct [.int .i64, .int .i64]]), .slice (.struct [.str, .int .i64, .struct [.int .i64, .int .i64], .struct [.int .i64, .int .i64]]), .slice (.struct [.str, .int .i64, .int .i64, .int .i64, .struct [.int .i64, .int .i64], .slice (.struct [.int .i64, .int .i64]), .bool, .int .i64, .int .i64, .int .i64, .int .i64])], .struct [.slice .bool, .slice (.slice (.int .i64))], .slice (.struct [.int .i64, .int .i64, .bool])] us → szU us → PCall Try.prog 9 us (.bool true) := by
  rintro us ⟨a, _, rfl, ha, b, _, rfl, hb, c, _, rfl, hc, rfl⟩ hz
  obtain ⟨s, rfl, h1, _, hlk⟩ := has_stnL ha
  obtain ⟨p, rfl, h2, _⟩ := has_pos hb
  obtain ⟨xs, rfl, hl, hx⟩ := has_slice hc
  obtain ⟨f, rfl⟩ := rows_of (enc := Op'.cs) fun x hx2 => hasC_op (hx x hx2)
  have hm : maxLen = 9223372036854775807 := by decide
  rw [hm] at h1 h2
  have hlb : lenB s p = true := by
    simp only [lenB, Bool.and_eq_true, decide_eq_true_eq, List.all_eq_true]
    exact ⟨h1, h2⟩
  exact undo_ok hlb (hz p rfl)

theorem own : ownKnob Try.prog.godebug = none := by kernel_rfl
theorem laidOut : laidOutB Try.prog = true := by kernel_rfl
theorem spec_at (H : Type) : ∀ ds : List (DataW H), ds.length = 3 → Rows.interlockUndoSpec.fn H ds = { results := [.lit (.bool true)], args := ds } := by
  intro ds h
  rcases ds with _ | ⟨d0, _ | ⟨d1, _ | ⟨d2, _ | ⟨e, r⟩⟩⟩⟩
  all_goals first | rfl | (simp at h; done) | (simp at h; omega)

set_option maxRecDepth 100000 in
theorem lifted (os : Os) (started : os.Started) (H : Type) (enc : TypeId × Value → H) :
    ReturnsInHanded {} Try.checked os 9 .any (Rows.interlockUndoSpec.pre6 enc Try.prog Try.f9 Rows.interlockUndoRow.domain false) (Rows.interlockUndoSpec.post enc Try.prog Try.f9 false true false false) :=
  lift2 (C := Try.checked) (m := 9) own laidOut started (by kernel_rfl) Try.func9
    (ChangeSpec.witness6 (enc := enc) (C := Try.checked) false ⟨#[], #[.agg #[.string ⟨#[]⟩, .slice none 0 0, .slice none 0 0, .slice none 0 0, .slice none 0 0], .agg #[.slice none 0 0, .slice none 0 0], .slice none 0 0], []⟩ 8 (by kernel_rfl) (by kernel_rfl) (by kernel_rfl) (by kernel_rfl))
    Try.params9 (by kernel_rfl) Try.underlying4 rfl (by kernel_rfl) (by kernel_rfl) (spec_at H) (fun W args ds pl us h1 h2 h3 => szU_of h1 h2 h3) law

theorem over : Rows.interlockUndoRow.holds Try.pinned (OpenSpec.ofChange Rows.interlockUndoSpec) :=
  OpenClaim.holds_of_wide 9 Try.f9 rfl rfl rfl rfl rfl rfl rfl ⟨rfl, rfl, rfl, rfl, rfl⟩ rfl rfl rfl rfl rfl (by kernel_rfl) Try.func9 (by kernel_rfl)
    (of_decide_eq_true (by kernel_rfl)) (by unfold Func.isWrapper; first | (rw [if_pos (by decide +kernel)]; kernel_rfl) | (rw [if_neg (by decide +kernel)]; exact ⟨rfl, rfl⟩))
    (fun os started H enc _ => lifted os started H enc)

theorem proved : Rows.InterlockUndoSaid := over
end Go.Proofs.Ytjhmphkdkclbjaa.interlockUndoDone
end
