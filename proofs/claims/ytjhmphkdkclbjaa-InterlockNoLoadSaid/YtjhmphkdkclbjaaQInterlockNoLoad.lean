/-
  The law of examples of interlocked switching.
  Buses that are connected through groups and closed couplers: what the labels say.
  Buses that are connected through groups and closed couplers: positions that connect the same.
  An allowed operation of a disconnector changes nothing of what is connected: the plain law.
  Buses that are connected through groups and closed couplers: the walk.
  An allowed operation of a disconnector changes nothing of what is connected: the sides of the bays.
  The law of operations without load: the walk.
  The law of operations without load, joined; operations as arguments.
  InterlockNoLoad returns true for every input, and leaves the input as it was. No condition.
-/
import Derived.Test.YtjhmphkdkclbjaaJ9
import Derived.Test.YtjhmphkdkclbjaaJ6
import Derived.Test.YtjhmphkdkclbjaaJ5
import Derived.Test.YtjhmphkdkclbjaaRows
section
namespace Go.Proofs.Ytjhmphkdkclbjaa
open Go.Pv Go.RowKit
set_option linter.unusedSimpArgs false
set_option linter.unusedVariables false
set_option maxRecDepth 100000
set_option maxHeartbeats 4000000
attribute [-simp] Tclo_at Tgrp_at Tchk Tpchk TcI TcB Tclo Tgrp Tsid Tnod Tlook Tbnd Tres TSd TBd Tix Tcon Tgps Tsg Tmv Tck Tkn Tjo Ttr Tsw Tmg Tal Tbe Ten Tcp Tidx Tnms Tnmd Tobj Tlks Tbay Trck Trpc Trg Trf Trsd Trnd Tar Ttwo Tof Tnm Tat Ttw Tsq Tlk

def Tk36 : List V → Option V
  | [] => some (.bool true)
  | _ => none
theorem k36_tab : ∀ vs v, Tk36 vs = some v → PCall Try.prog 31 vs v := by
  intro vs v h; unfold Tk36 at h; split at h
  · cases h; exact known36_ok
  · cases h
def HE : Tab := add 31 Tk36 (HZ)
theorem HE_at (f : FuncId) (vs : List V) : HE.at' f vs = if f = 31 then Tk36 vs else HZ.at' f vs := rfl
theorem HE_fr (f : FuncId) : HE.fr f = if f = 31 then false else HZ.fr f := rfl
theorem HE_gb (f : FuncId) : HE.gb f = HZ.gb f := rfl
theorem HE_gv (f : FuncId) (vs : List V) : HE.gv f vs = HZ.gv f vs := rfl
attribute [simp] HE_at HE_fr HE_gb HE_gv Tk36
theorem HE_ok : TabOK Try.prog HE := by
  refine add_ok (HZ_ok) (by kernel_rfl) ?_
  · exact k36_tab
def oC : Op' := ⟨0, 0, false⟩
def qM : Pos := ⟨[true, true], [[1, 2], [1, 1]]⟩
def qN : Pos := ⟨[true, true], [[1, 1], [1, 1]]⟩
def qL : Pos := ⟨[true, true], [[0, 1], [1, 1]]⟩
theorem examples36_ok : PCall Try.prog 7 [] (.bool true) := by
  have hT0 : Ttw [] = some (.agg st3.cs) := rfl
  have hTn := Tnm_at st3_chk
  have hA := Tal_at (o := oC) ln0
  have hB := Tal_at (o := ⟨0, 0, true⟩) ln0
  have hC := Tal_at (o := ⟨1, 0, false⟩) ln0
  have hD := Tal_at (o := ⟨2, -1, false⟩) ln0
  have hE := Tbe_at (o := oA) ln0
  have hF := Tal_at (s := st3) (p := qM) (o := oC) (by kernel_rfl)
  have hG := Ten_at (s := st3) (p := qM) (o := oA) (by kernel_rfl)
  have hS := Tsq_at (l := [oA, oC]) ln0 sm0 (by simp)
  have hJ1 := Tjo_at (s := st3) (p := q0) (x := 0) (y := 1) (by kernel_rfl)
  have hJ2 := Tjo_at (s := st3) (p := q0) (x := 0) (y := 2) (by kernel_rfl)
  have hL1 : Tlk [.agg qM.cs, .int .i64 0, .int .i64 1] = some (.int .i64 2) := by kernel_rfl
  have hL2 : Tlk [.agg qN.cs, .int .i64 0, .int .i64 1] = some (.int .i64 1) := by kernel_rfl
  have hL3 : Tlk [.agg qL.cs, .int .i64 0, .int .i64 0] = some (.int .i64 0) := by kernel_rfl
  rw [show alwE st3 q0 oC = 40 by kernel_rfl] at hA
  rw [show alwE st3 q0 ⟨0, 0, true⟩ = 44 by kernel_rfl] at hB
  rw [show alwE st3 q0 ⟨1, 0, false⟩ = 10 by kernel_rfl] at hC
  rw [show alwE st3 q0 ⟨2, -1, false⟩ = 9 by kernel_rfl] at hD
  rw [show begV st3 q0 oA = .tup [.agg qM.cs, .int .i64 0] by kernel_rfl] at hE
  rw [show alwE st3 qM oC = 43 by kernel_rfl] at hF
  rw [show endV st3 qM oA = .tup [.agg qN.cs, .int .i64 0] by kernel_rfl] at hG
  rw [show seqV st3 q0 [oA, oC] = .tup [.agg qL.cs, .int .i64 0, .int .i64 0] by kernel_rfl] at hS
  rw [show joiF st3 q0 0 1 = true by kernel_rfl] at hJ1
  rw [show joiF st3 q0 0 2 = false by kernel_rfl] at hJ2
  rw [show normP st3 = q0 from rfl] at hTn
  generalize q0 = P at hTn hA hB hC hD hE hS hJ1 hJ2
  generalize st3 = X at hT0 hTn hA hB hC hD hE hF hG hS hJ1 hJ2
  generalize qM = M at hE hF hG hL1
  generalize qN = N at hG hL2
  generalize qL = L at hS hL3
  simp only [Stn.cs] at hT0
  simp only [Pos.cs] at hTn hE hG hS hL1 hL2 hL3
  simp only [oA, oC, List.map_cons, List.map_nil, Op'.cs] at hA hB hC hD hE hF hG hS
  refine pcall_of2 Try.func7 rfl Try.ntmps7 Try.results7 (by simp) ?_
  refine cw_cut (K := fun s => s.heap 1 = none ∧ s.heap 2 = none ∧ s.heap 7 = none ∧ s.heap 10 = none ∧ s.heap 12 = none ∧ s.heap 57 = none) ?_ ?_
  · refine CW.of_cx (D := (fun _ => none)) HE_ok mixed _ _ _ (by kernel_rfl) ?_
    repeat' first
      | (with_reducible refine gw_bool (fun _ => ?_) (fun _ => ?_))
      | (with_reducible refine condw_bool (fun _ => ?_) (fun _ => ?_))
      | simp [*]
  rintro ⟨e, h⟩ ⟨n1, n2, n7, n10, n12, n57⟩
  simp only at n1 n2 n7 n10 n12 n57
  refine cw_cut (K := fun s => s.env 1 = .ptr 1 0 ∧ s.heap 1 = some ⟨27, X.cs⟩ ∧ s.heap 2 = none ∧ s.heap 7 = none ∧ s.heap 10 = none ∧ s.heap 12 = none ∧ s.heap 57 = none) ?_ ?_
  · refine CW.of_cx (D := (fun _ => none)) HE_ok mixed _ _ _ (by kernel_rfl) ?_
    repeat' first
      | (with_reducible refine gw_bool (fun _ => ?_) (fun _ => ?_))
      | (with_reducible refine condw_bool (fun _ => ?_) (fun _ => ?_))
      | simp [*, setsV, Stn.cs, Pos.cs]
  clear n1 n2 n7 n10 n12 n57 e h
  rintro ⟨e, h⟩ ⟨e1, h1, n2, n7, n10, n12, n57⟩
  simp only at e1 h1 n2 n7 n10 n12 n57
  rw [Stn.cs] at h1
  refine cw_cut (K := fun s => s.env 1 = .ptr 1 0 ∧ s.env 2 = .ptr 2 0 ∧ s.heap 1 = some ⟨27, X.cs⟩ ∧ s.heap 2 = some ⟨31, P.cs⟩ ∧ s.heap 7 = none ∧ s.heap 10 = none ∧ s.heap 12 = none ∧ s.heap 57 = none) ?_ ?_
  · refine CW.of_cx (D := (fun _ => none)) HE_ok mixed _ _ _ (by kernel_rfl) ?_
    repeat' first
      | (with_reducible refine gw_bool (fun _ => ?_) (fun _ => ?_))
      | (with_reducible refine condw_bool (fun _ => ?_) (fun _ => ?_))
      | simp [*, setsV, Stn.cs, Pos.cs]
  clear e1 h1 n2 n7 n10 n12 n57 e h
  rintro ⟨e, h⟩ ⟨e1, e2, h1, h2, n7, n10, n12, n57⟩
  simp only at e1 e2 h1 h2 n7 n10 n12 n57
  rw [Stn.cs] at h1
  rw [Pos.cs] at h2
  refine cw_cut (K := fun s => s.env 1 = .ptr 1 0 ∧ s.env 2 = .ptr 2 0 ∧ s.env 3 = .int .i64 40 ∧ s.heap 1 = some ⟨27, X.cs⟩ ∧ s.heap 2 = some ⟨31, P.cs⟩ ∧ s.heap 7 = none ∧ s.heap 10 = none ∧ s.heap 12 = none ∧ s.heap 57 = none) ?_ ?_
  · refine CW.of_cx (D := (fun _ => none)) HE_ok mixed _ _ _ (by kernel_rfl) ?_
    repeat' first
      | (with_reducible refine gw_bool (fun _ => ?_) (fun _ => ?_))
      | (with_reducible refine condw_bool (fun _ => ?_) (fun _ => ?_))
      | simp [*, setsV, Stn.cs, Pos.cs]
  clear e1 e2 h1 h2 n7 n10 n12 n57 e h
  rintro ⟨e, h⟩ ⟨e1, e2, e3, h1, h2, n7, n10, n12, n57⟩
  simp only at e1 e2 e3 h1 h2 n7 n10 n12 n57
  rw [Stn.cs] at h1
  rw [Pos.cs] at h2
  refine cw_cut (K := fun s => s.env 1 = .ptr 1 0 ∧ s.env 2 = .ptr 2 0 ∧ s.env 3 = .int .i64 40 ∧ s.env 4 = .int .i64 44 ∧ s.heap 1 = some ⟨27, X.cs⟩ ∧ s.heap 2 = some ⟨31, P.cs⟩ ∧ s.heap 7 = none ∧ s.heap 10 = none ∧ s.heap 12 = none ∧ s.heap 57 = none) ?_ ?_
  · refine CW.of_cx (D := (fun _ => none)) HE_ok mixed _ _ _ (by kernel_rfl) ?_
    repeat' first
      | (with_reducible refine gw_bool (fun _ => ?_) (fun _ => ?_))
      | (with_reducible refine condw_bool (fun _ => ?_) (fun _ => ?_))
      | simp [*, setsV, Stn.cs, Pos.cs]
  clear e1 e2 e3 h1 h2 n7 n10 n12 n57 e h
  rintro ⟨e, h⟩ ⟨e1, e2, e3, e4, h1, h2, n7, n10, n12, n57⟩
  simp only at e1 e2 e3 e4 h1 h2 n7 n10 n12 n57
  rw [Stn.cs] at h1
  rw [Pos.cs] at h2
  refine cw_cut (K := fun s => s.env 1 = .ptr 1 0 ∧ s.env 2 = .ptr 2 0 ∧ s.env 3 = .int .i64 40 ∧ s.env 4 = .int .i64 44 ∧ s.env 5 = .int .i64 10 ∧ s.heap 1 = some ⟨27, X.cs⟩ ∧ s.heap 2 = some ⟨31, P.cs⟩ ∧ s.heap 7 = none ∧ s.heap 10 = none ∧ s.heap 12 = none ∧ s.heap 57 = none) ?_ ?_
  · refine CW.of_cx (D := (fun _ => none)) HE_ok mixed _ _ _ (by kernel_rfl) ?_
    repeat' first
      | (with_reducible refine gw_bool (fun _ => ?_) (fun _ => ?_))
      | (with_reducible refine condw_bool (fun _ => ?_) (fun _ => ?_))
      | simp [*, setsV, Stn.cs, Pos.cs]
  clear e1 e2 e3 e4 h1 h2 n7 n10 n12 n57 e h
  rintro ⟨e, h⟩ ⟨e1, e2, e3, e4, e5, h1, h2, n7, n10, n12, n57⟩
  simp only at e1 e2 e3 e4 e5 h1 h2 n7 n10 n12 n57
  rw [Stn.cs] at h1
  rw [Pos.cs] at h2
  refine cw_cut (K := fun s => s.env 1 = .ptr 1 0 ∧ s.env 2 = .ptr 2 0 ∧ s.env 3 = .int .i64 40 ∧ s.env 4 = .int .i64 44 ∧ s.env 5 = .int .i64 10 ∧ s.env 6 = .int .i64 9 ∧ s.heap 1 = some ⟨27, X.cs⟩ ∧ s.heap 2 = some ⟨31, P.cs⟩ ∧ s.heap 7 = none ∧ s.heap 10 = none ∧ s.heap 12 = none ∧ s.heap 57 = none) ?_ ?_
  · refine CW.of_cx (D := (fun _ => none)) HE_ok mixed _ _ _ (by kernel_rfl) ?_
    repeat' first
      | (with_reducible refine gw_bool (fun _ => ?_) (fun _ => ?_))
      | (with_reducible refine condw_bool (fun _ => ?_) (fun _ => ?_))
      | simp [*, setsV, Stn.cs, Pos.cs]
  clear e1 e2 e3 e4 e5 h1 h2 n7 n10 n12 n57 e h
  rintro ⟨e, h⟩ ⟨e1, e2, e3, e4, e5, e6, h1, h2, n7, n10, n12, n57⟩
  simp only at e1 e2 e3 e4 e5 e6 h1 h2 n7 n10 n12 n57
  rw [Stn.cs] at h1
  rw [Pos.cs] at h2
  refine cw_cut (K := fun s => s.env 1 = .ptr 1 0 ∧ s.env 2 = .ptr 2 0 ∧ s.env 3 = .int .i64 40 ∧ s.env 4 = .int .i64 44 ∧ s.env 5 = .int .i64 10 ∧ s.env 6 = .int .i64 9 ∧ s.env 7 = .ptr 7 0 ∧ s.env 8 = .int .i64 0 ∧ s.heap 1 = some ⟨27, X.cs⟩ ∧ s.heap 2 = some ⟨31, P.cs⟩ ∧ s.heap 7 = some ⟨31, M.cs⟩ ∧ s.heap 10 = none ∧ s.heap 12 = none ∧ s.heap 57 = none) ?_ ?_
  · refine CW.of_cx (D := (fun _ => none)) HE_ok mixed _ _ _ (by kernel_rfl) ?_
    repeat' first
      | (with_reducible refine gw_bool (fun _ => ?_) (fun _ => ?_))
      | (with_reducible refine condw_bool (fun _ => ?_) (fun _ => ?_))
      | simp [*, setsV, Stn.cs, Pos.cs]
  clear e1 e2 e3 e4 e5 e6 h1 h2 n7 n10 n12 n57 e h
  rintro ⟨e, h⟩ ⟨e1, e2, e3, e4, e5, e6, e7, e8, h1, h2, h7, n10, n12, n57⟩
  simp only at e1 e2 e3 e4 e5 e6 e7 e8 h1 h2 h7 n10 n12 n57
  rw [Stn.cs] at h1
  rw [Pos.cs] at h2
  rw [Pos.cs] at h7
  refine cw_cut (K := fun s => s.env 1 = .ptr 1 0 ∧ s.env 2 = .ptr 2 0 ∧ s.env 3 = .int .i64 40 ∧ s.env 4 = .int .i64 44 ∧ s.env 5 = .int .i64 10 ∧ s.env 6 = .int .i64 9 ∧ s.env 7 = .ptr 7 0 ∧ s.env 8 = .int .i64 0 ∧ s.env 9 = .int .i64 43 ∧ s.heap 1 = some ⟨27, X.cs⟩ ∧ s.heap 2 = some ⟨31, P.cs⟩ ∧ s.heap 7 = some ⟨31, M.cs⟩ ∧ s.heap 10 = none ∧ s.heap 12 = none ∧ s.heap 57 = none) ?_ ?_
  · refine CW.of_cx (D := (fun _ => none)) HE_ok mixed _ _ _ (by kernel_rfl) ?_
    repeat' first
      | (with_reducible refine gw_bool (fun _ => ?_) (fun _ => ?_))
      | (with_reducible refine condw_bool (fun _ => ?_) (fun _ => ?_))
      | simp [*, setsV, Stn.cs, Pos.cs]
  clear e1 e2 e3 e4 e5 e6 e7 e8 h1 h2 h7 n10 n12 n57 e h
  rintro ⟨e, h⟩ ⟨e1, e2, e3, e4, e5, e6, e7, e8, e9, h1, h2, h7, n10, n12, n57⟩
  simp only at e1 e2 e3 e4 e5 e6 e7 e8 e9 h1 h2 h7 n10 n12 n57
  rw [Stn.cs] at h1
  rw [Pos.cs] at h2
  rw [Pos.cs] at h7
  refine cw_cut (K := fun s => s.env 1 = .ptr 1 0 ∧ s.env 2 = .ptr 2 0 ∧ s.env 3 = .int .i64 40 ∧ s.env 4 = .int .i64 44 ∧ s.env 5 = .int .i64 10 ∧ s.env 6 = .int .i64 9 ∧ s.env 7 = .ptr 7 0 ∧ s.env 8 = .int .i64 0 ∧ s.env 9 = .int .i64 43 ∧ s.env 10 = .ptr 10 0 ∧ s.env 11 = .int .i64 0 ∧ s.heap 1 = some ⟨27, X.cs⟩ ∧ s.heap 2 = some ⟨31, P.cs⟩ ∧ s.heap 7 = some ⟨31, M.cs⟩ ∧ s.heap 10 = some ⟨31, N.cs⟩ ∧ s.heap 12 = none ∧ s.heap 57 = none) ?_ ?_
  · refine CW.of_cx (D := (fun _ => none)) HE_ok mixed _ _ _ (by kernel_rfl) ?_
    repeat' first
      | (with_reducible refine gw_bool (fun _ => ?_) (fun _ => ?_))
      | (with_reducible refine condw_bool (fun _ => ?_) (fun _ => ?_))
      | simp [*, setsV, Stn.cs, Pos.cs]
  clear e1 e2 e3 e4 e5 e6 e7 e8 e9 h1 h2 h7 n10 n12 n57 e h
  rintro ⟨e, h⟩ ⟨e1, e2, e3, e4, e5, e6, e7, e8, e9, e10, e11, h1, h2, h7, h10, n12, n57⟩
  simp only at e1 e2 e3 e4 e5 e6 e7 e8 e9 e10 e11 h1 h2 h7 h10 n12 n57
  rw [Stn.cs] at h1
  rw [Pos.cs] at h2
  rw [Pos.cs] at h7
  rw [Pos.cs] at h10
  refine cw_cut (K := fun s => s.env 1 = .ptr 1 0 ∧ s.env 2 = .ptr 2 0 ∧ s.env 3 = .int .i64 40 ∧ s.env 4 = .int .i64 44 ∧ s.env 5 = .int .i64 10 ∧ s.env 6 = .int .i64 9 ∧ s.env 7 = .ptr 7 0 ∧ s.env 8 = .int .i64 0 ∧ s.env 9 = .int .i64 43 ∧ s.env 10 = .ptr 10 0 ∧ s.env 11 = .int .i64 0 ∧ s.env 12 = .ptr 12 0 ∧ s.env 14 = .int .i64 0 ∧ s.heap 1 = some ⟨27, X.cs⟩ ∧ s.heap 2 = some ⟨31, P.cs⟩ ∧ s.heap 7 = some ⟨31, M.cs⟩ ∧ s.heap 10 = some ⟨31, N.cs⟩ ∧ s.heap 12 = some ⟨31, L.cs⟩) ?_ ?_
  · refine cw_split HE_ok 5 (fun s => s.env 1 = .ptr 1 0 ∧ s.env 2 = .ptr 2 0 ∧ s.env 3 = .int .i64 40 ∧ s.env 4 = .int .i64 44 ∧ s.env 5 = .int .i64 10 ∧ s.env 6 = .int .i64 9 ∧ s.env 7 = .ptr 7 0 ∧ s.env 8 = .int .i64 0 ∧ s.env 9 = .int .i64 43 ∧ s.env 10 = .ptr 10 0 ∧ s.env 11 = .int .i64 0 ∧ s.env 53 = .agg X.cs ∧ s.env 54 = .agg P.cs ∧ s.env 57 = .sl 57 0 2 3 ∧ s.heap 1 = some ⟨27, X.cs⟩ ∧ s.heap 2 = some ⟨31, P.cs⟩ ∧ s.heap 7 = some ⟨31, M.cs⟩ ∧ s.heap 10 = some ⟨31, N.cs⟩ ∧ s.heap 57 = some ⟨66, [.int .i64 0, .int .i64 1, .bool true, .int .i64 0, .int .i64 0, .bool false]⟩ ∧ s.heap 12 = none) (by kernel_rfl) ?_ ?_
    · skip
      repeat' first
        | (with_reducible refine gw_bool (fun _ => ?_) (fun _ => ?_))
        | (with_reducible refine condw_bool (fun _ => ?_) (fun _ => ?_))
        | simp [*, setsV, Stn.cs, Pos.cs]
    clear e1 e2 e3 e4 e5 e6 e7 e8 e9 e10 e11 h1 h2 h7 h10 n12 n57 e h
    rintro ⟨e, h⟩ ⟨e1, e2, e3, e4, e5, e6, e7, e8, e9, e10, e11, e53, e54, e57, h1, h2, h7, h10, h57, n12⟩
    simp only at e1 e2 e3 e4 e5 e6 e7 e8 e9 e10 e11 e53 e54 e57 h1 h2 h7 h10 h57 n12
    refine ⟨_, View.pub _ (key := 57) (blk := ⟨66, [.int .i64 0, .int .i64 1, .bool true, .int .i64 0, .int .i64 0, .bool false]⟩) h57 rfl, ?_⟩
    repeat' first
      | (with_reducible refine gw_bool (fun _ => ?_) (fun _ => ?_))
      | (with_reducible refine condw_bool (fun _ => ?_) (fun _ => ?_))
      | simp [*, setsV, Stn.cs, Pos.cs, St.pub, pubC, pubA, pubT, chunks]
  clear e1 e2 e3 e4 e5 e6 e7 e8 e9 e10 e11 h1 h2 h7 h10 n12 n57 e h
  rintro ⟨e, h⟩ ⟨e1, e2, e3, e4, e5, e6, e7, e8, e9, e10, e11, e12, e14, h1, h2, h7, h10, h12⟩
  simp only at e1 e2 e3 e4 e5 e6 e7 e8 e9 e10 e11 e12 e14 h1 h2 h7 h10 h12
  rw [Stn.cs] at h1
  rw [Pos.cs] at h2
  rw [Pos.cs] at h7
  rw [Pos.cs] at h10
  rw [Pos.cs] at h12
  refine CW.of_cx (D := (fun _ => none)) HE_ok mixed _ _ _ (by kernel_rfl) ?_
  repeat' first
    | (with_reducible refine gw_bool (fun _ => ?_) (fun _ => ?_))
    | (with_reducible refine condw_bool (fun _ => ?_) (fun _ => ?_))
    | simp [*, Stn.cs, Pos.cs]
end Go.Proofs.Ytjhmphkdkclbjaa
end
section
namespace Go.Proofs.Ytjhmphkdkclbjaa
open Go.Pv Go.RowKit
set_option linter.unusedSimpArgs false
set_option linter.unusedVariables false
set_option maxRecDepth 100000

theorem g0_mp {G : List Int} {f : Int → Int} {b : Int} (h : 0 ≤ b ∧ b < G.length) : g0 (G.map f) b = f (g0 G b) := by
  obtain ⟨u, rfl, hu, hG⟩ := g0_at h
  simp [g0, gAt, hu]
/-- Two buses are joined, if any. -/
def jS (l : List Int) : Option (Int × Int) → List Int
  | some (a, c) => merge l (g0 l a) (g0 l c)
  | none => l
def jL (l : List Int) (os : List (Option (Int × Int))) : List Int := os.foldl jS l
def bayO (b : By) (l : List Int) : Option (Int × Int) := if ieq b.kind 3 = true then none else match b.lks, l with
  | [a, c], [x, y] => if (ieq x 1 && ieq y 1) = true then some (a.bus, c.bus) else none
  | _, _ => none
def cupO (b : By) (c : Bool) : Option (Int × Int) := if (ieq b.kind 3 && c) = true then (match b.lks with
  | a :: d :: _ => some (a.bus, d.bus)
  | _ => none) else none
theorem stG_jS (g : List Int) (b : By) (l : List Int) : stG g b l = jS g (bayO b l) := by
  unfold stG bayO
  split
  · rfl
  · generalize b.lks = L
    match L, l with
    | [a, c], [x, y] => simp only []; split <;> rfl
    | [], _ => rfl
    | [_], _ => rfl
    | _ :: _ :: _ :: _, _ => rfl
    | [_, _], [] => rfl
    | [_, _], [_] => rfl
    | [_, _], _ :: _ :: _ :: _ => rfl
def cupS (s : Stn) (p : Pos) : List (Option (Int × Int)) := (s.qs.zip p.cl).map fun x => cupO x.1 x.2
def couR (s : Stn) (p : Pos) : Nat → List Int
  | 0 => grp s p
  | r + 1 => jL (couR s p r) (cupS s p)
def couF (s : Stn) (p : Pos) : List Int := couR s p s.bs.length
theorem merge_len (l : List Int) (x y : Int) : (merge l x y).length = l.length := by simp [merge]
theorem jS_len (l : List Int) (o : Option (Int × Int)) : (jS l o).length = l.length := by
  unfold jS; split
  · exact merge_len _ _ _
  · rfl
theorem jL_len (os : List (Option (Int × Int))) : ∀ l : List Int, (jL l os).length = l.length := by
  induction os with
  | nil => intro l; rfl
  | cons o os ih => intro l; show (jL (jS l o) os).length = _; rw [ih, jS_len]
theorem couR_len (s : Stn) (p : Pos) : ∀ r, (couR s p r).length = s.bs.length
  | 0 => grpN_len _ _ _
  | r + 1 => by rw [couR, jL_len, couR_len]
/-- The pair lies among the buses. -/
def InB (n : Nat) : Option (Int × Int) → Prop
  | some (a, c) => (0 ≤ a ∧ a < n) ∧ (0 ≤ c ∧ c < n)
  | none => True
/-- The pair is joined. -/
def Jn (F : List Int) : Option (Int × Int) → Prop
  | some (a, c) => g0 F a = g0 F c
  | none => True
theorem jS_can {l : List Int} {o : Option (Int × Int)} (h : Can l) (ho : InB l.length o) : Can (jS l o) := by
  unfold jS; split
  · obtain ⟨h1, h2⟩ := ho
    obtain ⟨u, hu, _, hGu⟩ := g0_at h1
    obtain ⟨v, hv, _, hGv⟩ := g0_at h2
    exact can_map h hGu hGv
  · exact h
theorem fin_left {A F : List Int} (h : Fin2 A F) {p q : Nat} {x y : Int} (hp : A[p]? = some x) (hq : A[q]? = some y) (hF : F[p]? = F[q]?) : Fin2 (A.map (mgF (min x y) (max x y))) F := by
  obtain ⟨u, hu, hFu⟩ := h p x hp
  obtain ⟨v, hv, hFv⟩ := h q y hq
  intro i z hz
  simp only [List.getElem?_map, Option.map_eq_some_iff] at hz
  obtain ⟨z0, hz0, rfl⟩ := hz
  obtain ⟨t, ht, hFt⟩ := h i z0 hz0
  cases hh : (ieq z0 x || ieq z0 y)
  · rw [mgMiss hh]; exact ⟨t, ht, hFt⟩
  · rw [mgHit hh]
    simp only [Bool.or_eq_true, ieq_iff] at hh
    have hFi : F[i]? = F[p]? := by
      rcases hh with hh | hh
      · have : t = u := by omega
        rw [← hFt, this, hFu]
      · have : t = v := by omega
        rw [← hFt, this, hFv, hF]
    rcases Int.le_total x y with hxy | hxy
    · exact ⟨u, by omega, by rw [hFu, hFi]⟩
    · exact ⟨v, by omega, by rw [hFv, hFi, hF]⟩
theorem g0_nat {F : List Int} {u : Nat} {x : Int} (h : F[u]? = some x) : g0 F (u : Int) = x := by simp [g0, gAt, h]
theorem jS_fin {l F : List Int} {o : Option (Int × Int)} (h : Fin2 l F) (hl : l.length = F.length) (ho : InB l.length o) (hj : Jn F o) : Fin2 (jS l o) F := by
  unfold jS; split
  · obtain ⟨h1, h2⟩ := ho
    rename_i a c
    obtain ⟨u, hu, hul, hGu⟩ := g0_at h1
    obtain ⟨v, hv, hvl, hGv⟩ := g0_at h2
    refine fin_left h hGu hGv ?_
    subst hu; subst hv
    obtain ⟨u', hu', _, hFu⟩ := g0_at (G := F) (b := (u : Int)) (by omega)
    obtain ⟨v', hv', _, hFv⟩ := g0_at (G := F) (b := (v : Int)) (by omega)
    have e1 : u' = u := by omega
    have e2 : v' = v := by omega
    subst e1; subst e2
    rw [hFu, hFv]
    exact congrArg some hj
  · exact h
theorem jL_can (os : List (Option (Int × Int))) : ∀ {l : List Int}, Can l → (∀ o ∈ os, InB l.length o) → Can (jL l os) := by
  induction os with
  | nil => intro l h _; exact h
  | cons o os ih =>
    intro l h ho
    refine ih (jS_can h (ho o (by simp))) fun o' ho' => ?_
    rw [jS_len]; exact ho o' (by simp [ho'])
theorem jL_fin {F : List Int} (os : List (Option (Int × Int))) : ∀ {l : List Int}, Fin2 l F → l.length = F.length → (∀ o ∈ os, InB l.length o) → (∀ o ∈ os, Jn F o) → Fin2 (jL l os) F := by
  induction os with
  | nil => intro l h _ _ _; exact h
  | cons o os ih =>
    intro l h hl ho hj
    refine ih (jS_fin h hl (ho o (by simp)) (hj o (by simp))) (by rw [jS_len]; exact hl) (fun o' ho' => ?_) (fun o' ho' => hj o' (by simp [ho']))
    rw [jS_len]; exact ho o' (by simp [ho'])
theorem jS_keep {l : List Int} {o o' : Option (Int × Int)} (hb : InB l.length o) (h : Jn l o) : Jn (jS l o') o := by
  unfold jS; split
  · cases o with
    | none => trivial
    | some q =>
      obtain ⟨a, c⟩ := q
      obtain ⟨h1, h2⟩ := hb
      show g0 (merge l _ _) a = g0 (merge l _ _) c
      rw [merge, g0_mp h1, g0_mp h2]
      exact congrArg _ h
  · exact h
theorem jL_keep (os : List (Option (Int × Int))) : ∀ {l : List Int} {o : Option (Int × Int)}, InB l.length o → Jn l o → Jn (jL l os) o := by
  induction os with
  | nil => intro l o _ h; exact h
  | cons o' os ih => intro l o hb h; exact ih (by rw [jS_len]; exact hb) (jS_keep hb h)
theorem jS_has {l : List Int} {o : Option (Int × Int)} (hb : InB l.length o) : Jn (jS l o) o := by
  cases o with
  | none => trivial
  | some q =>
    obtain ⟨a, c⟩ := q
    obtain ⟨h1, h2⟩ := hb
    show g0 (merge l _ _) a = g0 (merge l _ _) c
    rw [merge, g0_mp h1, g0_mp h2, mgHit (by simp [ieq]), mgHit (by simp [ieq])]
theorem jL_has (os : List (Option (Int × Int))) : ∀ {l : List Int}, (∀ o ∈ os, InB l.length o) → ∀ o ∈ os, Jn (jL l os) o := by
  induction os with
  | nil => intro l _ o ho; simp at ho
  | cons o' os ih =>
    intro l hb o ho
    rcases List.mem_cons.1 ho with rfl | ho
    · exact jL_keep os (by rw [jS_len]; exact hb o (by simp)) (jS_has (hb o (by simp)))
    · exact ih (fun o'' h'' => by rw [jS_len]; exact hb o'' (by simp [h''])) o ho
/-- What is joined in the first is joined in the second. -/
theorem fin_jn {A F : List Int} (h : Fin2 A F) {a c : Int} (ha : 0 ≤ a ∧ a < A.length) (hc : 0 ≤ c ∧ c < A.length) (hl : A.length = F.length) (hj : g0 A a = g0 A c) : g0 F a = g0 F c := by
  obtain ⟨u, rfl, hul, hGu⟩ := g0_at ha
  obtain ⟨v, rfl, hvl, hGv⟩ := g0_at hc
  obtain ⟨u', hu', hFu⟩ := h u _ hGu
  obtain ⟨v', hv', hFv⟩ := h v _ hGv
  have : u' = v' := by omega
  subst this
  rw [g0, g0, gAt, gAt]
  simp only [Int.toNat_natCast, ← hFu, ← hFv, ha.1, hc.1]
theorem fin_lab {A F : List Int} (h : Fin2 A F) {a : Int} (ha : 0 ≤ a ∧ a < A.length) : g0 F (g0 A a) = g0 F a := by
  obtain ⟨u, rfl, hul, hGu⟩ := g0_at ha
  obtain ⟨v, hv, hF⟩ := h u _ hGu
  rw [hv]
  simp [g0, gAt, hF]
theorem can_eq {A B : List Int} (hl : A.length = B.length) (cA : Can A) (cB : Can B) (h1 : Fin2 A B) (h2 : Fin2 B A) : A = B := by
  apply List.ext_getElem?
  intro i
  cases hx : A[i]? with
  | none =>
    rw [List.getElem?_eq_none_iff] at hx
    exact (List.getElem?_eq_none_iff.2 (by omega)).symm
  | some x =>
    obtain ⟨y, hy, _⟩ := at_ex (l := B) (i := i) (by have := (List.getElem?_eq_some_iff.1 hx).1; omega)
    obtain ⟨u, hu, hB⟩ := h1 i x hx
    obtain ⟨v, hv, hA⟩ := h2 i y hy
    rw [hy] at hB
    rw [hx] at hA
    obtain ⟨t, ht, htu, _⟩ := cB u y hB
    obtain ⟨t', ht', htv, _⟩ := cA v x hA
    rw [hy]; congr 1; omega
end Go.Proofs.Ytjhmphkdkclbjaa
end
section
namespace Go.Proofs.Ytjhmphkdkclbjaa
open Go.Pv Go.RowKit
set_option linter.unusedSimpArgs false
set_option linter.unusedVariables false
set_option maxRecDepth 100000

theorem bayO_in {s : Stn} (hF : Fine s) {b : By} {l : List Int} (hb : b ∈ s.qs) : InB s.bs.length (bayO b l) := by
  have hbus := (hF.lk b hb).1
  unfold bayO
  split
  · trivial
  · generalize hL : b.lks = L at hbus
    match L, l with
    | [a, c], [x, y] =>
      simp only []
      split
      · exact ⟨hbus a (by simp), hbus c (by simp)⟩
      · trivial
    | [], _ => trivial
    | [_], _ => trivial
    | _ :: _ :: _ :: _, _ => trivial
    | [_, _], [] => trivial
    | [_, _], [_] => trivial
    | [_, _], _ :: _ :: _ :: _ => trivial
theorem cupS_in {s : Stn} {p : Pos} (hF : Fine s) : ∀ o ∈ cupS s p, InB s.bs.length o := by
  intro o ho
  simp only [cupS, List.mem_map] at ho
  obtain ⟨⟨b, c⟩, hx, rfl⟩ := ho
  have hb : b ∈ s.qs := (List.of_mem_zip hx).1
  have hbus := (hF.lk b hb).1
  unfold cupO
  split
  · simp only []
    generalize hL : b.lks = L at hbus
    match L with
    | a :: d :: _ => exact ⟨hbus a (by simp), hbus d (by simp)⟩
    | [] => trivial
    | [_] => trivial
  · trivial
theorem grp_len' (s : Stn) (p : Pos) : (grp s p).length = s.bs.length := grpN_len _ _ _
theorem fin_ini {n : Nat} {F : List Int} (hF : F.length = n) : Fin2 (ini0 n) F := by
  intro i x hx
  have hi : i < n := by have := (List.getElem?_eq_some_iff.1 hx).1; simpa [ini0] using this
  have : (ini0 n)[i]? = some (i : Int) := by simp [ini0, hi]
  rw [this] at hx
  exact ⟨i, (Option.some.inj hx).symm, rfl⟩
theorem grpN_finF {s : Stn} {p : Pos} (hF : Fine s) (hk : p.lk.length = s.qs.length) {F : List Int} (hl : F.length = s.bs.length) (hj : ∀ (i : Nat) (b : By) (l : List Int), s.qs[i]? = some b → p.lk[i]? = some l → Jn F (bayO b l)) : ∀ k, k ≤ s.qs.length → Fin2 (grpN s p k) F
  | 0, _ => by simpa [grpN] using fin_ini hl
  | k + 1, hle => by
    obtain ⟨b, hb, _⟩ := at_ex (l := s.qs) (i := k) (by omega)
    obtain ⟨l, hlk, _⟩ := at_ex (l := p.lk) (i := k) (by omega)
    rw [grpN_step hb hlk, stG_jS]
    have hlen : (grpN s p k).length = s.bs.length := grpN_len s p k
    exact jS_fin (grpN_finF hF hk hl hj k (by omega)) (by omega) (by rw [hlen]; exact bayO_in hF (List.mem_of_getElem? hb)) (hj k b l hb hlk)
theorem grpN_has {s : Stn} {p : Pos} (hF : Fine s) (hk : p.lk.length = s.qs.length) : ∀ k, k ≤ s.qs.length → ∀ (i : Nat) (b : By) (l : List Int), i < k → s.qs[i]? = some b → p.lk[i]? = some l → Jn (grpN s p k) (bayO b l)
  | 0, _ => by intro i b l h; omega
  | k + 1, hle => by
    intro i b l hi hb hl
    obtain ⟨b', hb', _⟩ := at_ex (l := s.qs) (i := k) (by omega)
    obtain ⟨l', hl', _⟩ := at_ex (l := p.lk) (i := k) (by omega)
    rw [grpN_step hb' hl', stG_jS]
    have hlen : (grpN s p k).length = s.bs.length := grpN_len s p k
    by_cases e : i = k
    · subst e
      rw [hb] at hb'; cases hb'
      rw [hl] at hl'; cases hl'
      exact jS_has (by rw [hlen]; exact bayO_in hF (List.mem_of_getElem? hb))
    · exact jS_keep (by rw [hlen]; exact bayO_in hF (List.mem_of_getElem? hb)) (grpN_has hF hk k (by omega) i b l (by omega) hb hl)
theorem couR_can {s : Stn} {p : Pos} (hF : Fine s) (hk : p.lk.length = s.qs.length) : ∀ r, Can (couR s p r)
  | 0 => grpN_can hF hk _ (Nat.le_refl _)
  | r + 1 => jL_can _ (couR_can hF hk r) fun o ho => by rw [couR_len]; exact cupS_in hF o ho
theorem couR_fin {s : Stn} {p : Pos} (hF : Fine s) (hk : p.lk.length = s.qs.length) {F : List Int} (hl : F.length = s.bs.length) (hj : ∀ (i : Nat) (b : By) (l : List Int), s.qs[i]? = some b → p.lk[i]? = some l → Jn F (bayO b l)) (hc : ∀ o ∈ cupS s p, Jn F o) : ∀ r, Fin2 (couR s p r) F
  | 0 => grpN_finF hF hk hl hj _ (Nat.le_refl _)
  | r + 1 => jL_fin _ (couR_fin hF hk hl hj hc r) (by rw [couR_len, hl]) (fun o ho => by rw [couR_len]; exact cupS_in hF o ho) hc
theorem couR_bay {s : Stn} {p : Pos} (hF : Fine s) (hk : p.lk.length = s.qs.length) {i : Nat} {b : By} {l : List Int} (hb : s.qs[i]? = some b) (hl : p.lk[i]? = some l) : ∀ r, Jn (couR s p r) (bayO b l)
  | 0 => grpN_has hF hk _ (Nat.le_refl _) i b l (List.getElem?_eq_some_iff.1 hb).1 hb hl
  | r + 1 => jL_keep _ (by rw [couR_len]; exact bayO_in hF (List.mem_of_getElem? hb)) (couR_bay hF hk hb hl r)
theorem couR_cup {s : Stn} {p : Pos} (hF : Fine s) {o : Option (Int × Int)} (ho : o ∈ cupS s p) (r : Nat) : Jn (couR s p (r + 1)) o :=
  jL_has _ (fun o ho => by rw [couR_len]; exact cupS_in hF o ho) o ho
theorem cou_len (s : Stn) (p : Pos) : (couF s p).length = s.bs.length := couR_len _ _ _
theorem cou_cup {s : Stn} {p : Pos} (hF : Fine s) {o : Option (Int × Int)} (ho : o ∈ cupS s p) : Jn (couF s p) o := by
  obtain ⟨r, hr⟩ : ∃ r, s.bs.length = r + 1 := ⟨s.bs.length - 1, by have := hF.nb0; omega⟩
  rw [couF, hr]
  exact couR_cup hF ho r
theorem cou_bay {s : Stn} {p : Pos} (hF : Fine s) (hk : p.lk.length = s.qs.length) {i : Nat} {b : By} {l : List Int} (hb : s.qs[i]? = some b) (hl : p.lk[i]? = some l) : Jn (couF s p) (bayO b l) := couR_bay hF hk hb hl _
theorem grp_cou {s : Stn} {p : Pos} (hF : Fine s) (hk : p.lk.length = s.qs.length) : Fin2 (grp s p) (couF s p) := grpN_finF hF hk (cou_len s p) (fun i b l hb hl => cou_bay hF hk hb hl) _ (Nat.le_refl _)
/-- Two positions of which each has joined what the other one joins. -/
theorem cou_eq {s : Stn} {p q : Pos} (hF : Fine s) (hk : p.lk.length = s.qs.length) (hk' : q.lk.length = s.qs.length) (hc : q.cl = p.cl)
    (h1 : ∀ (i : Nat) (b : By) (l : List Int), s.qs[i]? = some b → p.lk[i]? = some l → Jn (couF s q) (bayO b l)) (h2 : ∀ (i : Nat) (b : By) (l : List Int), s.qs[i]? = some b → q.lk[i]? = some l → Jn (couF s p) (bayO b l)) : couF s p = couF s q := by
  have hcs : cupS s q = cupS s p := by simp [cupS, hc]
  refine can_eq (by rw [cou_len, cou_len]) (couR_can hF hk _) (couR_can hF hk' _) ?_ ?_
  · exact couR_fin hF hk (cou_len s q) h1 (fun o ho => cou_cup hF (by rw [hcs]; exact ho)) _
  · exact couR_fin hF hk' (cou_len s p) h2 (fun o ho => cou_cup hF (by rw [← hcs]; exact ho)) _
/-- What Joined says is so of what is connected. -/
theorem joi_cou {s : Stn} {p : Pos} (hok : okP s p = true) {a c : Int} (h : joiF s p a c = true) : g0 (couF s p) a = g0 (couF s p) c := by
  have hF := fine_of (okP_iff hok).1
  have hk := (pfine_of (okP_iff hok).2).nk
  have hfin := grp_cou hF hk
  have hgl := grp_len' s p
  have hcl := cou_len s p
  simp only [joiF, Bool.and_eq_true, Bool.or_eq_true, Bool.not_eq_true'] at h
  obtain ⟨⟨⟨a1, a2⟩, c1, c2⟩, h⟩ := h
  have a1' := ilt_iff'.1 a1
  have c1' := ilt_iff'.1 c1
  simp only [ilt, decide_eq_true_eq] at a2 c2
  rcases h with h | h
  · exact fin_jn hfin ⟨a1', by omega⟩ ⟨c1', by omega⟩ (by omega) (ieq_iff.1 h)
  · rw [cupA, List.any_eq_true] at h
    obtain ⟨i, hi, h⟩ := h
    unfold cupB at h
    split at h
    · rename_i b z hb hz
      simp only [Bool.and_eq_true] at h
      obtain ⟨⟨h3, hzt⟩, h⟩ := h
      have hbus := (hF.lk b (List.mem_of_getElem? hb)).1
      obtain ⟨u, v, huv⟩ := two_of ((hF.lk b (List.mem_of_getElem? hb)).2.1 h3)
      rw [huv] at h hbus
      simp only [] at h
      have hcup : Jn (couF s p) (some (u.bus, v.bus)) := by
        refine cou_cup hF ?_
        simp only [cupS, List.mem_map]
        refine ⟨(b, z), ?_, by simp [cupO, h3, hzt, huv]⟩
        exact List.mem_of_getElem? (i := i) (by simp [List.getElem?_zip_eq_some, hb, hz])
      have hcup' : g0 (couF s p) u.bus = g0 (couF s p) v.bus := hcup
      have hu := hbus u (by simp)
      have hv := hbus v (by simp)
      have key : ∀ x y : Int, (0 ≤ x ∧ x < s.bs.length) → (0 ≤ y ∧ y < s.bs.length) → g0 (grp s p) x = g0 (grp s p) y → g0 (couF s p) x = g0 (couF s p) y := fun x y hx hy e => fin_jn hfin (by omega) (by omega) (by omega) e
      simp only [prF, Bool.or_eq_true, Bool.and_eq_true, ieq_iff] at h
      rcases h with ⟨e1, e2⟩ | ⟨e1, e2⟩
      · rw [← key u.bus a hu ⟨a1', a2⟩ e1, ← key v.bus c hv ⟨c1', c2⟩ e2]; exact hcup'
      · rw [← key v.bus a hv ⟨a1', a2⟩ e2, ← key u.bus c hu ⟨c1', c2⟩ e1]; exact hcup'.symm
    · cases h
end Go.Proofs.Ytjhmphkdkclbjaa
end
section
namespace Go.Proofs.Ytjhmphkdkclbjaa
open Go.Pv Go.RowKit
set_option linter.unusedSimpArgs false
set_option linter.unusedVariables false
set_option maxRecDepth 100000

theorem setR_self {p : Pos} {b : Nat} {l : List Int} (h : p.lk[b]? = some l) : setR p b l = p := by
  unfold setR; rw [set_same h]
theorem setR_setR {p : Pos} {b : Nat} {l m : List Int} : setR (setR p b l) b m = setR p b m := by simp [setR]
theorem setR_at {p : Pos} {b : Nat} {l : List Int} (h : b < p.lk.length) : (setR p b l).lk[b]? = some l := by simp [setR, h]
theorem bayO_none {x : By} {l : List Int} {k : Nat} {y : Int} (h : l[k]? = some y) (hy : y ≠ 1) : bayO x l = none := by
  unfold bayO
  split
  · rfl
  · split
    · rename_i a c u v _
      rw [if_neg]
      intro hc
      simp only [Bool.and_eq_true, ieq_iff] at hc
      match k, h with
      | 0, h => simp at h; omega
      | 1, h => simp at h; omega
    · rfl
theorem cou_row {s : Stn} {p : Pos} (hF : Fine s) (hk : p.lk.length = s.qs.length) {b : Nat} {x : By} (hb : s.qs[b]? = some x) (l1 l2 : List Int) (h1 : Jn (couF s (setR p b l2)) (bayO x l1)) (h2 : Jn (couF s (setR p b l1)) (bayO x l2)) : couF s (setR p b l1) = couF s (setR p b l2) := by
  have hbl := (List.getElem?_eq_some_iff.1 hb).1
  have k1 : (setR p b l1).lk.length = s.qs.length := by simp [setR, hk]
  have k2 : (setR p b l2).lk.length = s.qs.length := by simp [setR, hk]
  refine cou_eq hF k1 k2 rfl (fun i c l hc hl => ?_) (fun i c l hc hl => ?_)
  · by_cases e : i = b
    · subst e
      rw [setR_at (by omega)] at hl; cases hl
      rw [hb] at hc; cases hc
      exact h1
    · have : (setR p b l2).lk[i]? = some l := by
        simp only [setR, List.getElem?_set] at hl ⊢
        rw [if_neg (Ne.symm e)] at hl ⊢; exact hl
      exact cou_bay hF k2 hc this
  · by_cases e : i = b
    · subst e
      rw [setR_at (by omega)] at hl; cases hl
      rw [hb] at hc; cases hc
      exact h2
    · have : (setR p b l1).lk[i]? = some l := by
        simp only [setR, List.getElem?_set] at hl ⊢
        rw [if_neg (Ne.symm e)] at hl ⊢; exact hl
      exact cou_bay hF k1 hc this
/-- The two links of a bay, if the other one is closed. -/
theorem oth_at {l : List Int} {k j : Nat} (h : othL l k = some j) : l.length = 2 ∧ j < 2 ∧ k < 2 ∧ j ≠ k ∧ l[j]? = some 1 := by
  unfold othL at h
  split at h
  · split at h
    · rename_i hv; cases h; exact ⟨rfl, by omega, by omega, by omega, by simp [ieq_iff.1 hv]⟩
    · cases h
  · split at h
    · rename_i hv; cases h; exact ⟨rfl, by omega, by omega, by omega, by simp [ieq_iff.1 hv]⟩
    · cases h
  · cases h
theorem oth_none {x : By} {l : List Int} {k : Nat} (h : othL l k = none) (hk : k < l.length) (y : Int) : bayO x (l.set k y) = none := by
  match l, k, hk, h with
  | [u], 0, _, _ =>
    unfold bayO; split
    · rfl
    · split
      · rename_i hh; simp at hh
      · rfl
  | [u, v], 0, _, h =>
    refine bayO_none (k := 1) (y := v) (by simp) ?_
    intro e; subst e; simp [othL, ieq] at h
  | [u, v], 1, _, h =>
    refine bayO_none (k := 0) (y := u) (by simp) ?_
    intro e; subst e; simp [othL, ieq] at h
  | u :: v :: w :: t, k, _, _ =>
    unfold bayO; split
    · rfl
    · split
      · rename_i hh
        exfalso
        have := congrArg List.length hh
        simp at this
      · rfl
theorem mov_zero {s : Stn} {p : Pos} {b k : Nat} {c : Bool} {x : By} {l : List Int} {z : Bool} (hb : s.qs[b]? = some x) (hl : p.lk[b]? = some l) (hz : p.cl[b]? = some z) (hll : l.length = x.lks.length) (h : movE s p b k c = 0) :
    (∃ j a d, othL l k = some j ∧ x.lks[k]? = some a ∧ x.lks[j]? = some d ∧ joiF s (movP p b k l c) a.bus d.bus = true) ∨ (othL l k = none ∧ z = false) := by
  unfold movE at h
  simp only [hb, hl, hz] at h
  cases ho : othL l k with
  | none =>
    rw [ho] at h
    refine .inr ⟨rfl, ?_⟩
    cases z
    · rfl
    · simp at h
  | some j =>
    rw [ho] at h
    obtain ⟨h2, hj, hk, _, _⟩ := oth_at ho
    obtain ⟨a, ha, _⟩ := at_ex (l := x.lks) (i := k) (by omega)
    obtain ⟨d, hd, _⟩ := at_ex (l := x.lks) (i := j) (by omega)
    simp only [ha, hd] at h
    refine .inl ⟨j, a, d, rfl, ha, hd, ?_⟩
    by_cases hq : joiF s (movP p b k l c) a.bus d.bus = true
    · exact hq
    · rw [if_neg hq] at h; cases h
theorem bay_two {x : By} {l : List Int} {k j : Nat} {a d : Lk} (hk : k < 2) (hj : j < 2) (hne : j ≠ k) (ha : x.lks[k]? = some a) (hd : x.lks[j]? = some d) {F : List Int} (h : g0 F a.bus = g0 F d.bus) : Jn F (bayO x l) := by
  unfold bayO
  split
  · trivial
  · generalize x.lks = L at ha hd
    match L, l with
    | [u, v], [y, z] =>
      simp only []
      split
      · show g0 F u.bus = g0 F v.bus
        have : (k = 0 ∧ j = 1) ∨ (k = 1 ∧ j = 0) := by omega
        rcases this with ⟨rfl, rfl⟩ | ⟨rfl, rfl⟩
        · simp at ha hd; subst ha; subst hd; exact h
        · simp at ha hd; subst ha; subst hd; exact h.symm
      · trivial
    | [], _ => trivial
    | [_], _ => trivial
    | _ :: _ :: _ :: _, _ => trivial
    | [_, _], [] => trivial
    | [_, _], [_] => trivial
    | [_, _], _ :: _ :: _ :: _ => trivial
/-- What is connected stays, and the two links of the bay, if the other one is closed, are connected. -/
theorem noload_cou {s : Stn} {p : Pos} {o : Op'} {b : Nat} {x : By} {l : List Int} {z : Bool} (hA : Alw s p o b x l) {k : Nat} (hk : o.link = k) (hz : p.cl[b]? = some z) :
    couF s (setR p b (l.set k 2)) = couF s p ∧ couF s (setR p b (l.set k (tgt o.cl))) = couF s p ∧ k < l.length ∧ ieq x.kind 3 = false ∧
    ((∃ j a d, othL l k = some j ∧ x.lks[k]? = some a ∧ x.lks[j]? = some d ∧ g0 (couF s p) a.bus = g0 (couF s p) d.bus) ∨ (othL l k = none ∧ z = false)) := by
  have hF := fine_of (okP_iff hA.ok).1
  have hP := pfine_of (okP_iff hA.ok).2
  have hkn := hP.nk
  rcases hA.lnk with ⟨hh, _⟩ | ⟨k', hk', hkl, k3, hid, hmv⟩
  · omega
  · have hkk : k' = k := by omega
    subst hkk
    have hbl := (List.getElem?_eq_some_iff.1 hA.lb).1
    have hp0 := setR_self hA.lb
    obtain ⟨y, hy, _⟩ := at_ex (l := l) (i := k') hkl
    have hset : ∀ t, (l.set k' t)[k']? = some t := fun t => by simp [hkl]
    have n2 : bayO x (l.set k' 2) = none := bayO_none (hset 2) (by omega)
    have hy2 : y ≠ 2 := fun e => hA.nom (by rw [← e]; exact List.mem_of_getElem? hy)
    rw [hy] at hid
    have hyt : y ≠ tgt o.cl := fun e => hid (by rw [e])
    have hyl : y = 0 ∨ y = 1 := by
      have := (hP.row b x l hA.qb hA.lb).2 y (List.mem_of_getElem? hy)
      simp only [okL, Bool.or_eq_true, Bool.and_eq_true, ieq_iff] at this
      omega
    have hrow : ∀ l1 l2, Jn (couF s (setR p b l2)) (bayO x l1) → Jn (couF s (setR p b l1)) (bayO x l2) → couF s (setR p b l1) = couF s (setR p b l2) := fun l1 l2 => cou_row hF hkn hA.qb l1 l2
    rcases mov_zero hA.qb hA.lb hz hA.len hmv with ⟨j, a, d, ho, ha, hd, hj⟩ | ⟨ho, hzf⟩
    · obtain ⟨h2, hj2, hk2, hne, hl1⟩ := oth_at ho
      have hbt : ∀ (F : List Int) (row : List Int), g0 F a.bus = g0 F d.bus → Jn F (bayO x row) := fun F row h => bay_two hk2 hj2 hne ha hd h
      cases hc : o.cl
      · rw [hc] at hj hyt
        have hy1 : y = 1 := by simp [tgt] at hyt; omega
        have hm : movP p b k' l false = setR p b (l.set k' 0) := by simp [movP]
        rw [hm] at hj
        have n0 : bayO x (l.set k' 0) = none := bayO_none (hset 0) (by omega)
        have okr : okP s (setR p b (l.set k' 0)) = true := okP_set hA.ok hA.qb (by simp [hA.len]) fun t ht => by
          rcases List.mem_or_eq_of_mem_set ht with hm | rfl
          · exact (hP.row b x l hA.qb hA.lb).2 t hm
          · simp [okL, k3]
        have hjr := joi_cou okr hj
        have e1 : couF s (setR p b l) = couF s (setR p b (l.set k' 0)) := hrow _ _ (hbt _ _ hjr) (by rw [n0]; trivial)
        have e2 : couF s (setR p b (l.set k' 2)) = couF s (setR p b (l.set k' 0)) := hrow _ _ (by rw [n2]; trivial) (by rw [n0]; trivial)
        rw [hp0] at e1
        have ht : tgt false = 0 := rfl
        rw [ht]
        exact ⟨e2.trans e1.symm, e1.symm, hkl, k3, .inl ⟨j, a, d, ho, ha, hd, by rw [e1]; exact hjr⟩⟩
      · rw [hc] at hj hyt
        have hy0 : y = 0 := by simp [tgt] at hyt; omega
        have hm : movP p b k' l true = p := by simp [movP]
        rw [hm] at hj
        have nl : bayO x l = none := bayO_none hy (by omega)
        have hjp := joi_cou hA.ok hj
        have e1 : couF s (setR p b (l.set k' 2)) = couF s (setR p b l) := hrow _ _ (by rw [n2]; trivial) (by rw [nl]; trivial)
        have e2 : couF s (setR p b (l.set k' 1)) = couF s (setR p b l) := hrow _ _ (by rw [hp0]; exact hbt _ _ hjp) (by rw [nl]; trivial)
        rw [hp0] at e1 e2
        have ht : tgt true = 1 := rfl
        rw [ht]
        exact ⟨e1, e2, hkl, k3, .inl ⟨j, a, d, ho, ha, hd, hjp⟩⟩
    · have n0 : ∀ t, bayO x (l.set k' t) = none := fun t => oth_none ho hkl t
      have nl : bayO x l = none := by have := n0 y; rwa [set_same hy] at this
      have e : ∀ t, couF s (setR p b (l.set k' t)) = couF s (setR p b l) := fun t => hrow _ _ (by rw [n0]; trivial) (by rw [nl]; trivial)
      rw [hp0] at e
      exact ⟨e 2, e _, hkl, k3, .inr ⟨ho, hzf⟩⟩
end Go.Proofs.Ytjhmphkdkclbjaa
end
section
namespace Go.Proofs.Ytjhmphkdkclbjaa
open Go.Pv Go.RowKit
set_option linter.unusedSimpArgs false
set_option linter.unusedVariables false
set_option maxRecDepth 100000
set_option maxHeartbeats 4000000
attribute [-simp] Tclo_at Tgrp_at Tchk Tpchk TcI TcB Tclo Tgrp Tsid Tnod Tlook Tbnd Tres TSd TBd Tix Tcon Tgps Tsg Tmv Tck Tkn Tjo Ttr Tsw Tmg Tal Tbe Ten Tcp Tidx Tnms Tnmd Tobj Tlks Tbay Trck Trpc Trg Trf Trsd Trnd Tar

def HG : Tab := add 20 Tgps (noTab)
theorem HG_at (f : FuncId) (vs : List V) : HG.at' f vs = if f = 20 then Tgps vs else noTab.at' f vs := rfl
theorem HG_fr (f : FuncId) : HG.fr f = if f = 20 then false else noTab.fr f := rfl
theorem HG_gb (f : FuncId) : HG.gb f = noTab.gb f := rfl
theorem HG_gv (f : FuncId) (vs : List V) : HG.gv f vs = noTab.gv f vs := rfl
attribute [simp] HG_at HG_fr HG_gb HG_gv Tgps
theorem HG_ok : TabOK Try.prog HG := by
  refine add_ok (noTab_ok) (by kernel_rfl) ?_
  · exact rgps_tab
attribute [-simp] Tgps
theorem jL_step {l : List Int} {os : List (Option (Int × Int))} {i : Nat} {o : Option (Int × Int)} (h : os[i]? = some o) : jL l (os.take (i + 1)) = jS (jL l (os.take i)) o := by
  rw [take_snoc h, jL, List.foldl_append]; rfl
theorem coupled_ok {s : Stn} {p : Pos} (hok : okP s p = true) : PCall Try.prog 36 [.agg s.cs, .agg p.cs] (.list 1 ((couF s p).map i1)) := by
  have hF := fine_of (okP_iff hok).1
  have hP := pfine_of (okP_iff hok).2
  have hq := hF.nq
  have hnc := hP.nc
  have hG := Tgps_at hok
  have hfg := flat_i1 (grp s p)
  have hog : ((grp s p).map (V.int .i64)).all oneV = true := by simp [oneV]
  have hgl : (grp s p).length = s.bs.length := grpN_len _ _ _
  have hch := chunks_i1 (couF s p)
  have hcp := pure_i1 (couF s p)
  have hcl := cou_len s p
  have hlen : Hid (∀ r, (couR s p r).length = s.bs.length) := show _ from fun r => couR_len s p r
  have hlen2 : Hid (∀ (l : List Int) (i : Nat), l.length = s.bs.length → (jL l ((cupS s p).take i)).length = s.bs.length) := show _ from fun l i h => by rw [jL_len, h]
  have hco : Hid (∀ (i : Nat) (b : By) (c : Bool), s.qs[i]? = some b → p.cl[i]? = some c → (cupS s p)[i]? = some (cupO b c)) := show _ from fun i b c h1 h2 => by
    have hz : (s.qs.zip p.cl)[i]? = some (b, c) := by simp [List.getElem?_zip_eq_some, h1, h2]
    simp only [cupS, List.getElem?_map, hz, Option.map_some]
  have hcsl : (cupS s p).length = s.qs.length := by simp [cupS, hnc]
  have hlk : Hid (∀ c ∈ s.qs, ieq c.kind 3 = true → ∃ u v, c.lks = [u, v] ∧ (0 ≤ u.bus ∧ u.bus < s.bs.length) ∧ (0 ≤ v.bus ∧ v.bus < s.bs.length)) := show _ from fun c hc h3 => by
    obtain ⟨u, v, huv⟩ := two_of ((hF.lk c hc).2.1 h3)
    have hbus := (hF.lk c hc).1
    exact ⟨u, v, huv, hbus u (by simp [huv]), hbus v (by simp [huv])⟩
  have hnb4 := hF.nb
  obtain ⟨nb, hnb⟩ : ∃ n, s.bs.length = n := ⟨_, rfl⟩
  obtain ⟨n, hn⟩ : ∃ n, s.qs.length = n := ⟨_, rfl⟩
  have hR0 : Hid (couR s p 0 = grp s p) := show _ = _ from rfl
  have hRs : Hid (∀ r, couR s p (r + 1) = jL (couR s p r) (cupS s p)) := show _ from fun r => rfl
  have hRe : Hid (couR s p nb = couF s p) := show _ = _ by rw [couF, hnb]
  rw [hnb] at hnb4 hgl hcl hlen hlen2 hlk
  rw [hn] at hq hnc hcsl
  rw [hcl] at hch
  replace hch : Hid (chunks 1 nb ((couF s p).map (V.int .i64)) = (couF s p).map i1) := hch
  generalize couF s p = CF at hch hcp hcl hRe ⊢
  generalize cupS s p = OS at hlen2 hco hcsl hRs
  generalize hG1 : grp s p = G at hG hfg hog hgl hR0
  replace hR0 := hR0.out
  generalize couR s p = CR at hlen hR0 hRs hRe
  replace hR0 : Hid (CR 0 = G) := hR0
  have f5 : nb * 8 ≤ 140737488355328 := by omega
  have f6 : nb ≤ 9223372036854775807 := by omega
  refine pcall_cx HG_ok mixed (fun _ => none) Try.func36 rfl Try.ntmps36 Try.results36 (by simp) (by kernel_rfl) ?_
  repeat' first
    | (with_reducible refine gw_bool (fun _ => ?_) (fun _ => ?_))
    | (with_reducible refine condw_bool (fun _ => ?_) (fun _ => ?_))
    | simp [*, Stn.cs, Pos.cs, appendV, srcCells, St.forget, scr, scrC, scrI_comp]
  refine lp_go (D := (fun _ => none)) HG_ok mixed (by kernel_rfl) [2, 3, 5] [2, 3, 8, 16] (α := Nat) (fun r e h => r ≤ nb ∧ e 6 = .int .i64 r ∧ h 12 = some ⟨3, (CR r).map (V.int .i64)⟩) (fun r => nb - r) 0 ?_ ?_
  · exact ⟨by omega, by simp, by rw [hR0.out]; simp [scrI_comp]⟩
  clear hG hfg hog hgl
  rintro r e h hk hkh ⟨hr, g6, g12⟩
  simp [Keep, St.forget, scr, scrC] at hk
  simp [KeepH, St.forget, scr, scrC] at hkh
  by_cases hlt : r < nb
  · have f1 : ilt (r : Int) (nb : Int) = true := ilt_t (by omega)
    have w1 : IntKind.i64.wrap ((r : Int) + 1) = ((r + 1 : Nat) : Int) := wrap_succ (by omega)
    have hCl := hlen.out r
    have hRs' : Hid (CR (r + 1) = jL (CR r) OS) := hRs.out r
    generalize CR r = C at g12 hCl hRs'
    repeat' first
      | (with_reducible refine gw_bool (fun _ => ?_) (fun _ => ?_))
      | (with_reducible refine condw_bool (fun _ => ?_) (fun _ => ?_))
      | simp [*]
    refine lp_go (D := (fun _ => none)) HG_ok mixed (by kernel_rfl) [2, 3, 5, 6, 17, 18, 19, 20, 21, 24, 25, 26] [2, 3, 8, 16] (α := Nat) (fun i e h => i ≤ n ∧ e 27 = .int .i64 i ∧ h 12 = some ⟨3, (jL C (OS.take i)).map (V.int .i64)⟩) (fun i => n - i) 0 ?_ ?_
    · exact ⟨by omega, by simp, by simp [jL, *]⟩
    have hk0 := hk
    have hkh0 := hkh
    have g60 := g6
    clear hk hkh g6 g12
    rintro i e h hk hkh ⟨hi, g27, g12⟩
    simp [Keep, hk0, hkh0, g60] at hk
    simp [KeepH, hk0, hkh0] at hkh
    by_cases hil : i < n
    · obtain ⟨b, hb, hb'⟩ := at_ex (l := s.qs) (i := i) (by omega)
      obtain ⟨c, hc, hc'⟩ := at_ex (l := p.cl) (i := i) (by omega)
      have f2 : ilt (i : Int) (n : Int) = true := ilt_t (by omega)
      have w2 : IntKind.i64.wrap ((i : Int) + 1) = ((i + 1 : Nat) : Int) := wrap_succ (by omega)
      have hst : Hid (jL C (OS.take (i + 1)) = jS (jL C (OS.take i)) (cupO b c)) := show _ = _ from jL_step (hco.out i b c hb hc)
      have hLl := hlen2.out C i hCl
      generalize jL C (OS.take i) = L at g12 hst hLl
      cases k3 : ieq b.kind 3
      · have hst' : Hid (jL C (OS.take (i + 1)) = L) := show _ = _ by rw [hst.out]; simp [cupO, k3, jS]
        clear hst hlk hco hlen2 hlen hRs hRs' hRe hch hR0
        repeat' first
          | (with_reducible refine gw_bool (fun _ => ?_) (fun _ => ?_))
          | (with_reducible refine condw_bool (fun _ => ?_) (fun _ => ?_))
          | simp [*, By.cs, b1]
        refine nxt_go (i + 1) ((View.forget _ _ 8)) (by omega) (by simp [*, Keep, St.forget, scr, scrC, usesC, usesA]) (by simp [*, KeepH, St.forget, scr, scrC]) ?_
        refine ⟨by omega, by simp [*, St.forget, scr, scrC], ?_⟩
        rw [hst'.out]; simp [*, St.forget, scr, scrC, scrI_comp]
      · cases c
        · have hst' : Hid (jL C (OS.take (i + 1)) = L) := show _ = _ by rw [hst.out]; simp [cupO, k3, jS]
          clear hst hlk hco hlen2 hlen hRs hRs' hRe hch hR0
          repeat' first
            | (with_reducible refine gw_bool (fun _ => ?_) (fun _ => ?_))
            | (with_reducible refine condw_bool (fun _ => ?_) (fun _ => ?_))
            | simp [*, By.cs, b1]
          refine nxt_go (i + 1) ((View.forget _ _ 8)) (by omega) (by simp [*, Keep, St.forget, scr, scrC, usesC, usesA]) (by simp [*, KeepH, St.forget, scr, scrC]) ?_
          refine ⟨by omega, by simp [*, St.forget, scr, scrC], ?_⟩
          rw [hst'.out]; simp [*, St.forget, scr, scrC, scrI_comp]
        · obtain ⟨u, v, huv, hu, hv⟩ := hlk.out b (List.mem_of_getElem? hb) k3
          obtain ⟨ub, hub, hubl, hgu⟩ := g0_at (G := L) (b := u.bus) (by omega)
          obtain ⟨vb, hvb, hvbl, hgv⟩ := g0_at (G := L) (b := v.bus) (by omega)
          have hst' : Hid (jL C (OS.take (i + 1)) = merge L (g0 L u.bus) (g0 L v.bus)) := show _ = _ by rw [hst.out]; simp [cupO, k3, jS, huv]
          generalize g0 L u.bus = x at hgu hst'
          generalize g0 L v.bus = y at hgv hst'
          have hgu' := (List.getElem?_eq_some_iff.1 hgu).2
          have hgv' := (List.getElem?_eq_some_iff.1 hgv).2
          have u1 : (ub : Int) < nb := by omega
          have u2 : ub + 1 ≤ nb := by omega
          have v1 : (vb : Int) < nb := by omega
          have v2 : vb + 1 ≤ nb := by omega
          clear hst hlk hco hlen2 hlen hRs hRs' hRe hch hR0 hu hv
          repeat' first
            | (with_reducible refine gw_bool (fun _ => ?_) (fun _ => ?_))
            | (with_reducible refine condw_bool (fun _ => ?_) (fun _ => ?_))
            | simp [*, By.cs, b1, Lk.cs]
          refine lp_go (D := (fun _ => none)) HG_ok mixed (by kernel_rfl) [2, 3, 5, 6, 7, 8, 9, 10, 17, 18, 19, 20, 21, 24, 25, 26, 27, 28, 29, 30, 31, 32, 33, 34, 35, 36, 37, 38, 39, 40, 41, 42, 43, 44, 45, 46, 47, 48, 49, 50, 51, 52, 53, 54, 55, 56, 57, 58, 59] [2, 3, 8, 16] (α := Nat) (fun k e h => k ≤ nb ∧ e 60 = .int .i64 k ∧ h 12 = some ⟨3, (hG (mgF (min x y) (max x y)) L k).map (V.int .i64)⟩) (fun k => nb - k) 0 ?_ ?_
          · exact ⟨by omega, by simp, by simp [hG, *]⟩
          have hk1 := hk
          have hkh1 := hkh
          have g270 := g27
          clear hk hkh g27 g12
          rintro k e h hk hkh ⟨hkn, g60', g12⟩
          simp [Keep, hk1, hkh1, g270] at hk
          simp [KeepH, hk1, hkh1] at hkh
          by_cases hkl : k < nb
          · obtain ⟨z, hz, -⟩ := at_ex (l := L) (i := k) (by omega)
            have f3 : ilt (k : Int) (nb : Int) = true := ilt_t (by omega)
            have w3 : IntKind.i64.wrap ((k : Int) + 1) = ((k + 1 : Nat) : Int) := wrap_succ (by omega)
            have hHl : (hG (mgF (min x y) (max x y)) L k).length = nb := by rw [hG_len _ _ _ (by omega)]; exact hLl
            have hHa := hG_at (f := mgF (min x y) (max x y)) hz
            have hsp := @hG_step (mgF (min x y) (max x y)) _ _ _ hz
            have hsm := @hG_same (mgF (min x y) (max x y)) _ _ _ hz
            have m1 : Hid (_) := fun h => @mgHit x y z h
            have m2 : Hid (_) := fun h => @mgMiss x y z h
            replace hsp : Hid (_ = _) := hsp
            replace hsm : Hid (_ → _ = _) := hsm
            generalize hGk : hG (mgF (min x y) (max x y)) L k = H at g12 hHl hHa hsp hsm
            have hHa' : ∀ h : k < H.length, H[k] = z := fun h => by rw [List.getElem?_eq_getElem h] at hHa; exact Option.some.inj hHa
            have k1 : (k : Int) < nb := by omega
            have k2 : k + 1 ≤ nb := by omega
            clear hGk hz hgu hgv hgu' hgv' hb hb' hc hc' huv
            cases qx : ieq z x
            · cases qy : ieq z y
              · have hfz := m2.out (by simp [qx, qy])
                have hnx : Hid (_ = H) := hsm.out hfz
                clear m1 m2 hsp hsm hfz hst'
                repeat' first
                  | (with_reducible refine gw_bool (fun _ => ?_) (fun _ => ?_))
                  | (with_reducible refine condw_bool (fun _ => ?_) (fun _ => ?_))
                  | simp [*]
                refine nxt_go (k + 1) (View.refl _ _) (by omega) (by simp [*, Keep, St.forget, scr, scrC]) (by simp [*, KeepH, St.forget, scr, scrC]) ?_
                exact ⟨by omega, by simp [*], by rw [hnx.out]; simp [*]⟩
              · have hfz := m1.out (by simp [qx, qy])
                have hnx := hsp.out
                rw [hfz] at hnx
                replace hnx : Hid (_ = H.set k (min x y)) := hnx
                clear m1 m2 hsp hsm hfz hst'
                repeat' first
                  | (with_reducible refine gw_bool (fun _ => ?_) (fun _ => ?_))
                  | (with_reducible refine condw_bool (fun _ => ?_) (fun _ => ?_))
                  | simp [*, setsV]
                refine nxt_go (k + 1) (View.refl _ _) (by omega) (by simp [*, Keep, St.forget, scr, scrC]) (by simp [*, KeepH, St.forget, scr, scrC]) ?_
                exact ⟨by omega, by simp [*], by rw [hnx.out]; simp [*, List.map_set]⟩
            · have hfz := m1.out (by simp [qx])
              have hnx := hsp.out
              rw [hfz] at hnx
              replace hnx : Hid (_ = H.set k (min x y)) := hnx
              clear m1 m2 hsp hsm hfz hst'
              repeat' first
                | (with_reducible refine gw_bool (fun _ => ?_) (fun _ => ?_))
                | (with_reducible refine condw_bool (fun _ => ?_) (fun _ => ?_))
                | simp [*, setsV]
              refine nxt_go (k + 1) (View.refl _ _) (by omega) (by simp [*, Keep, St.forget, scr, scrC]) (by simp [*, KeepH, St.forget, scr, scrC]) ?_
              exact ⟨by omega, by simp [*], by rw [hnx.out]; simp [*, List.map_set]⟩
          · have f3 : ilt (k : Int) (nb : Int) = false := ilt_f (by omega)
            have e3 : k = L.length := by omega
            rw [e3, hG_end] at g12
            have g12' : h 12 = some ⟨3, (merge L x y).map (V.int .i64)⟩ := g12
            have hml := merge_len L x y
            clear g12 e3
            generalize merge L x y = M at g12' hst' hml
            repeat' first
              | (with_reducible refine gw_bool (fun _ => ?_) (fun _ => ?_))
              | (with_reducible refine condw_bool (fun _ => ?_) (fun _ => ?_))
              | simp [*]
            refine nxt_go (i + 1) ((View.forget _ _ 8)) (by omega) (by simp [*, Keep, St.forget, scr, scrC, usesC, usesA]) (by simp [*, KeepH, St.forget, scr, scrC]) ?_
            refine ⟨by omega, by simp [*, St.forget, scr, scrC], ?_⟩
            rw [hst'.out]; simp [*, St.forget, scr, scrC, scrI_comp]
    · have f2 : ilt (i : Int) (n : Int) = false := ilt_f (by omega)
      have e2 : OS.take i = OS := List.take_of_length_le (by omega)
      rw [e2] at g12
      have hRs'' := hRs'.out
      clear hlk hco hlen2 hlen hRs hRs' hRe hch hR0
      generalize jL C OS = L at g12 hRs''
      replace hRs'' : Hid (CR (r + 1) = L) := hRs''
      repeat' first
        | (with_reducible refine gw_bool (fun _ => ?_) (fun _ => ?_))
        | (with_reducible refine condw_bool (fun _ => ?_) (fun _ => ?_))
        | simp [*]
      refine nxt_go (r + 1) (View.refl _ _) (by omega) (by simp [*, Keep, St.forget, scr, scrC]) (by simp [*, KeepH, St.forget, scr, scrC]) ?_
      exact ⟨by omega, by simp [*], by rw [hRs''.out]; simp [*]⟩
  · have f1 : ilt (r : Int) (nb : Int) = false := ilt_f (by omega)
    have e1 : r = nb := by omega
    rw [e1, hRe.out] at g12
    replace hch := hch.out
    clear hlk hco hlen2 hlen hRs hRe hR0
    repeat' first
      | (with_reducible refine gw_bool (fun _ => ?_) (fun _ => ?_))
      | (with_reducible refine condw_bool (fun _ => ?_) (fun _ => ?_))
      | simp [*]
end Go.Proofs.Ytjhmphkdkclbjaa
end
section
namespace Go.Proofs.Ytjhmphkdkclbjaa
open Go.Pv Go.RowKit
set_option linter.unusedSimpArgs false
set_option linter.unusedVariables false
set_option maxRecDepth 100000

theorem lab_at {s : Stn} {Q : Pos} {A : List Int} (hok : okP s Q = true) (hA : couF s Q = A) {y : Int} (hy : 0 ≤ y ∧ y < s.bs.length) : ∃ u : Nat, g0 (grp s Q) y = u ∧ u < s.bs.length ∧ A[u]? = some (g0 A y) := by
  have hF := fine_of (okP_iff hok).1
  have hk := (pfine_of (okP_iff hok).2).nk
  have hfin := grp_cou hF hk
  rw [hA] at hfin
  have hgl := grp_len' s Q
  have hal : A.length = s.bs.length := by rw [← hA]; exact cou_len s Q
  have hlab := fin_lab hfin (a := y) (by omega)
  obtain ⟨t, ht, htl, hG⟩ := g0_at (G := grp s Q) (b := y) (by omega)
  obtain ⟨u, hu, hut, _⟩ := (show Can (grp s Q) from grpN_can hF hk _ (Nat.le_refl _)) t _ hG
  refine ⟨u, hu, by omega, ?_⟩
  rw [hu] at hlab
  obtain ⟨u', hu', hul', hA'⟩ := g0_at (G := A) (b := (u : Int)) (by omega)
  have : u' = u := by omega
  subst this
  rw [hA', hlab]
theorem find_mem {c : By} {row : List Int} {y : Lk × Int} (h : (c.lks.zip row).find? hit = some y) : y.1 ∈ c.lks := (List.of_mem_zip (List.mem_of_find?_eq_some h)).1
theorem find_ex {c : By} {row : List Int} {j : Nat} {d : Lk} (hd : c.lks[j]? = some d) (hr : row[j]? = some 1) : ∃ y, (c.lks.zip row).find? hit = some y := by
  cases h : (c.lks.zip row).find? hit with
  | some y => exact ⟨y, rfl⟩
  | none =>
    have := List.find?_eq_none.1 h (d, 1) (List.mem_of_getElem? (i := j) (by simp [List.getElem?_zip_eq_some, hd, hr]))
    simp [hit, ieq] at this
/-- The nodes of a bay on its first side, before, while the link moves, and afterwards. -/
structure Sid3 (s : Stn) (A : List Int) (F0 F1 F2 : Option (Lk × Int)) (c : By) : Prop where
  r : (F0 = none ∧ F1 = none ∧ F2 = none) ∨ ∃ y0 y1 y2, F0 = some y0 ∧ F1 = some y1 ∧ F2 = some y2 ∧ y0.1 ∈ c.lks ∧ y1.1 ∈ c.lks ∧ y2.1 ∈ c.lks ∧ g0 A y0.1.bus = g0 A y1.1.bus ∧ g0 A y0.1.bus = g0 A y2.1.bus
theorem sid_rel {s : Stn} {p : Pos} {o : Op'} {b : Nat} {x : By} {l : List Int} {z : Bool} (hA : Alw s p o b x l) {k : Nat} (hk : o.link = k) (hz : p.cl[b]? = some z) {i : Nat} {c : By} {ro r1' r2 : List Int} (hc : s.qs[i]? = some c) (hz2 : p.cl[i]? = some true)
    (h0 : p.lk[i]? = some ro) (h1 : (setR p b (l.set k 2)).lk[i]? = some r1') (h2 : (setR p b (l.set k (tgt o.cl))).lk[i]? = some r2) : Sid3 s (couF s p) ((c.lks.zip ro).find? hit) ((c.lks.zip r1').find? hit) ((c.lks.zip r2).find? hit) c := by
  obtain ⟨_, _, hkl, _, hcase⟩ := noload_cou hA hk hz
  have hbl := (List.getElem?_eq_some_iff.1 hA.lb).1
  by_cases e : i = b
  · subst e
    rw [setR_at hbl] at h1 h2
    cases h1; cases h2
    rw [hA.lb] at h0; cases h0
    rw [hA.qb] at hc; cases hc
    rcases hcase with ⟨j, a, d, ho, ha, hd, hj⟩ | ⟨_, hzf⟩
    · obtain ⟨hl2, hj2, hk2, hne, hl1⟩ := oth_at ho
      have hs : ∀ t, (l.set k t)[j]? = some 1 := fun t => by rw [List.getElem?_set, if_neg (Ne.symm hne)]; exact hl1
      obtain ⟨y0, hy0⟩ := find_ex hd hl1
      obtain ⟨y1, hy1⟩ := find_ex hd (hs 2)
      obtain ⟨y2, hy2⟩ := find_ex hd (hs (tgt o.cl))
      have hlks : x.lks.length = 2 := by rw [← hA.len]; exact hl2
      have hall : ∀ y ∈ x.lks, g0 (couF s p) y.bus = g0 (couF s p) a.bus := by
        intro y hy
        obtain ⟨m, hm⟩ := List.mem_iff_getElem?.1 hy
        have hml := (List.getElem?_eq_some_iff.1 hm).1
        by_cases e : m = k
        · subst e; rw [ha] at hm; cases hm; rfl
        · have : m = j := by omega
          subst this; rw [hd] at hm; cases hm; exact hj.symm
      refine ⟨.inr ⟨y0, y1, y2, hy0, hy1, hy2, find_mem hy0, find_mem hy1, find_mem hy2, ?_, ?_⟩⟩
      · rw [hall _ (find_mem hy0), hall _ (find_mem hy1)]
      · rw [hall _ (find_mem hy0), hall _ (find_mem hy2)]
    · rw [hz] at hz2; subst hzf; cases hz2
  · have g : ∀ m, (setR p b m).lk[i]? = p.lk[i]? := fun m => by simp only [setR, List.getElem?_set]; rw [if_neg (Ne.symm e)]
    rw [g, h0] at h1 h2
    cases h1; cases h2
    cases hf : (c.lks.zip ro).find? hit with
    | none => exact ⟨.inl ⟨rfl, rfl, rfl⟩⟩
    | some y => exact ⟨.inr ⟨y, y, y, rfl, rfl, rfl, find_mem hf, find_mem hf, find_mem hf, rfl, rfl⟩⟩
theorem noload_side {s : Stn} {p : Pos} {o : Op'} {b : Nat} {x : By} {l : List Int} {z : Bool} (hA : Alw s p o b x l) {k : Nat} (hk : o.link = k) (hz : p.cl[b]? = some z) {q r : Pos} (hq : q = setR p b (l.set k 2)) (hr : r = setR p b (l.set k (tgt o.cl))) (okq : okP s q = true) (okr : okP s r = true)
    {i : Nat} {c : By} (hc : s.qs[i]? = some c) (k3 : ieq c.kind 3 = false) (hz2 : p.cl[i]? = some true) : ∃ ku ou ov ow m : Int, sidF s p (grp s p) i = some [ku, ou, m, c.ob] ∧ sidF s q (grp s q) i = some [ku, ov, m, c.ob] ∧ sidF s r (grp s r) i = some [ku, ow, m, c.ob] ∧
      ((ku = 0) ∨ (ku = 1 ∧ ∃ (u v w : Nat) (zz : Int), ou = u ∧ ov = v ∧ ow = w ∧ u < s.bs.length ∧ v < s.bs.length ∧ w < s.bs.length ∧ (couF s p)[u]? = some zz ∧ (couF s p)[v]? = some zz ∧ (couF s p)[w]? = some zz)) := by
  have hF := fine_of (okP_iff hA.ok).1
  have hP := pfine_of (okP_iff hA.ok).2
  have hPq := pfine_of (okP_iff okq).2
  have hPr := pfine_of (okP_iff okr).2
  have hil := (List.getElem?_eq_some_iff.1 hc).1
  have hk0 := hP.nk
  have hk1 := hPq.nk
  have hk2 := hPr.nk
  obtain ⟨ro, h0, _⟩ := at_ex (l := p.lk) (i := i) (by omega)
  obtain ⟨r1', h1, _⟩ := at_ex (l := q.lk) (i := i) (by omega)
  obtain ⟨r2, h2, _⟩ := at_ex (l := r.lk) (i := i) (by omega)
  have hS := sid_rel hA hk hz hc hz2 h0 (by rw [← hq]; exact h1) (by rw [← hr]; exact h2)
  obtain ⟨cq, cr, _, _, _⟩ := noload_cou hA hk hz
  rw [← hq] at cq
  rw [← hr] at cr
  have s0 := sidF_at hF hP hc h0
  have s1' := sidF_at hF hPq hc h1
  have s2 := sidF_at hF hPr hc h2
  have hbus := (hF.lk c (List.mem_of_getElem? hc)).1
  rcases hS.r with ⟨f0, f1, f2⟩ | ⟨y0, y1, y2, f0, f1, f2, m0, m1, m2, e1, e2⟩
  · refine ⟨0, 0, 0, 0, if ieq c.kind 1 = true then 2 else 3, ?_, ?_, ?_, .inl rfl⟩
    · rw [s0]; simp [sid, k3, f0, fstN]
    · rw [s1']; simp [sid, k3, f1, fstN]
    · rw [s2]; simp [sid, k3, f2, fstN]
  · obtain ⟨u, hu, hul, hAu⟩ := lab_at hA.ok rfl (hbus _ m0)
    obtain ⟨v, hv, hvl, hAv⟩ := lab_at okq cq (hbus _ m1)
    obtain ⟨w, hw, hwl, hAw⟩ := lab_at okr cr (hbus _ m2)
    refine ⟨1, u, v, w, if ieq c.kind 1 = true then 2 else 3, ?_, ?_, ?_, .inr ⟨rfl, u, v, w, _, rfl, rfl, rfl, hul, hvl, hwl, hAu, by rw [hAv, e1], by rw [hAw, e2]⟩⟩
    · rw [s0]; simp [sid, k3, f0, fstN, hu]
    · rw [s1']; simp [sid, k3, f1, fstN, hv]
    · rw [s2]; simp [sid, k3, f2, fstN, hw]
end Go.Proofs.Ytjhmphkdkclbjaa
end
section
namespace Go.Proofs.Ytjhmphkdkclbjaa
open Go.Pv Go.RowKit
set_option linter.unusedSimpArgs false
set_option linter.unusedVariables false
set_option maxRecDepth 100000
set_option maxHeartbeats 4000000
attribute [-simp] Tclo_at Tgrp_at Tchk Tpchk TcI TcB Tclo Tgrp Tsid Tnod Tlook Tbnd Tres TSd TBd Tix Tcon Tgps Tsg Tmv Tck Tkn Tjo Ttr Tsw Tmg Tal Tbe Ten Tcp Tidx Tnms Tnmd Tobj Tlks Tbay Trck Trpc Trg Trf Trsd Trnd Tar Ttwo Tof Tnm Tat Ttw Tsq Tlk

theorem sd36_tab : ∀ vs v, TSd vs = some v → PCall Try.prog 21 vs v := by
  intro vs v h; unfold TSd at h; split at h
  · split at h
    · rename_i h1 h2
      split at h
      · rename_i hl
        split at h
        · rename_i S hS
          cases h
          rw [unStn_inv _ _ h1, unPos_inv _ _ h2]
          exact rSides_ok hl _ _ hS
        · cases h
      · cases h
    · cases h
  · cases h
def Tcu : List V → Option V
  | [.agg a, .agg b] => (match unStn a, unPos b with
    | some s, some p => if okP s p = true then some (.list 1 ((couF s p).map i1)) else none
    | _, _ => none)
  | _ => none
theorem Tcu_at {s : Stn} {p : Pos} (h : okP s p = true) : Tcu [.agg [.str s.nm, .list 1 (s.bs.map s1), .list 5 (s.ls.map Ln.cs), .list 6 (s.ss.map Sr.cs), .list 12 (s.qs.map By.cs)], .agg [.list 1 (p.cl.map b1), .list 1 (p.lk.map r1)]] = some (.list 1 ((couF s p).map i1)) := by
  have e1 := unStn_cs s
  have e2 := unPos_cs p
  unfold Stn.cs at e1
  unfold Pos.cs at e2
  simp [Tcu, e1, e2, h]
theorem cu_tab : ∀ vs v, Tcu vs = some v → PCall Try.prog 36 vs v := by
  intro vs v h; unfold Tcu at h; split at h
  · split at h
    · rename_i h1 h2
      split at h
      · rename_i hl; cases h; rw [unStn_inv _ _ h1, unPos_inv _ _ h2]; exact coupled_ok hl
      · cases h
    · cases h
  · cases h
def Ts36 : List V → Option V
  | [.agg a, .agg b] => (match unStn a, unPos b with
    | some s, some p => some (.bool (smallF s p))
    | _, _ => none)
  | _ => none
theorem Ts36_at {s : Stn} {p : Pos} : Ts36 [.agg [.str s.nm, .list 1 (s.bs.map s1), .list 5 (s.ls.map Ln.cs), .list 6 (s.ss.map Sr.cs), .list 12 (s.qs.map By.cs)], .agg [.list 1 (p.cl.map b1), .list 1 (p.lk.map r1)]] = some (.bool (smallF s p)) := by
  have e1 := unStn_cs s
  have e2 := unPos_cs p
  unfold Stn.cs at e1
  unfold Pos.cs at e2
  simp [Ts36, e1, e2]
theorem s36_tab : ∀ vs v, Ts36 vs = some v → PCall Try.prog 34 vs v := by
  intro vs v h; unfold Ts36 at h; split at h
  · split at h
    · rename_i h1 h2; cases h; rw [unStn_inv _ _ h1, unPos_inv _ _ h2]; exact small36_ok _ _
    · cases h
  · cases h
def HO : Tab := add 34 Ts36 (add 35 Trpc (add 36 Tcu (add 21 TSd (HE))))
theorem HO_at (f : FuncId) (vs : List V) : HO.at' f vs = if f = 34 then Ts36 vs else if f = 35 then Trpc vs else if f = 36 then Tcu vs else if f = 21 then TSd vs else HE.at' f vs := rfl
theorem HO_fr (f : FuncId) : HO.fr f = if f = 34 then false else if f = 35 then false else if f = 36 then false else if f = 21 then false else HE.fr f := rfl
theorem HO_gb (f : FuncId) : HO.gb f = HE.gb f := rfl
theorem HO_gv (f : FuncId) (vs : List V) : HO.gv f vs = HE.gv f vs := rfl
attribute [simp] HO_at HO_fr HO_gb HO_gv TSd Tcu Trpc Ts36
theorem HO_ok : TabOK Try.prog HO := by
  refine add_ok (add_ok (add_ok (add_ok (HE_ok) (by kernel_rfl) ?_) (by kernel_rfl) ?_) (by kernel_rfl) ?_) (by kernel_rfl) ?_
  · exact sd36_tab
  · exact cu_tab
  · exact rpc_tab
  · exact s36_tab
attribute [-simp] Ts36 Trpc Tcu TSd
theorem noload_bad {s : Stn} {p : Pos} {o : Op'} (hl : lenB s p = true) (h : ¬ (smallF s p = true ∧ 0 ≤ o.link ∧ alwE s p o = 0)) : PCall Try.prog 8 [.agg s.cs, .agg p.cs, .agg o.cs] (.bool true) := by
  have t1 := @Ts36_at s p
  have t2 := Tal_at (o := o) hl
  have t3 : Tk36 [] = some (.bool true) := rfl
  clear hl
  obtain ⟨bay, lnk, c⟩ := o
  simp only at t2 h
  cases e0 : smallF s p
  · rw [e0] at t1
    refine pcall_cx HO_ok mixed (fun id => if id = 18 then some ⟨[(18, 17), (19, 18), (20, 19)], [5, 6, 8, 10, 11, 13]⟩ else none) Try.func8 rfl Try.ntmps8 Try.results8 (by simp) (by kernel_rfl) ?_
    repeat' first
      | (with_reducible refine gw_bool (fun _ => ?_) (fun _ => ?_))
      | (with_reducible refine condw_bool (fun _ => ?_) (fun _ => ?_))
      | simp [*, Stn.cs, Pos.cs, Op'.cs]
  · rw [e0] at t1
    cases e1 : ilt lnk 0
    · have e2 : ieq (alwE s p ⟨bay, lnk, c⟩) 0 = false := by
        rw [ieq_iff']
        intro e
        exact h ⟨e0, ilt_iff'.1 e1, e⟩
      clear h
      refine pcall_cx HO_ok mixed (fun id => if id = 18 then some ⟨[(18, 17), (19, 18), (20, 19)], [5, 6, 8, 10, 11, 13]⟩ else none) Try.func8 rfl Try.ntmps8 Try.results8 (by simp) (by kernel_rfl) ?_
      repeat' first
        | (with_reducible refine gw_bool (fun _ => ?_) (fun _ => ?_))
        | (with_reducible refine condw_bool (fun _ => ?_) (fun _ => ?_))
        | simp [*, Stn.cs, Pos.cs, Op'.cs]
    · clear h
      refine pcall_cx HO_ok mixed (fun id => if id = 18 then some ⟨[(18, 17), (19, 18), (20, 19)], [5, 6, 8, 10, 11, 13]⟩ else none) Try.func8 rfl Try.ntmps8 Try.results8 (by simp) (by kernel_rfl) ?_
      repeat' first
        | (with_reducible refine gw_bool (fun _ => ?_) (fun _ => ?_))
        | (with_reducible refine condw_bool (fun _ => ?_) (fun _ => ?_))
        | simp [*, Stn.cs, Pos.cs, Op'.cs]
theorem noload_good {s : Stn} {p : Pos} {o : Op'} (h1 : smallF s p = true) (h2 : 0 ≤ o.link) (h3 : alwE s p o = 0) : PCall Try.prog 8 [.agg s.cs, .agg p.cs, .agg o.cs] (.bool true) := by
  obtain ⟨b, x, l, hA⟩ := alw_zero h3
  obtain ⟨k, hk⟩ : ∃ k : Nat, o.link = k := Int.eq_ofNat_of_zero_le h2
  have hok := hA.ok
  have hF := fine_of (okP_iff hok).1
  have hP := pfine_of (okP_iff hok).2
  have hbl := (List.getElem?_eq_some_iff.1 hA.lb).1
  have hkn0 := hP.nk
  have hnc0 := hP.nc
  obtain ⟨z, hz, _⟩ := at_ex (l := p.cl) (i := b) (by omega)
  obtain ⟨cq, cr, hkl, k3, _⟩ := noload_cou hA hk hz
  have kk : ieq o.link (-1) = false := by rw [ieq_iff']; omega
  have hq : begP p o = setR p b (l.set k 2) := by
    simp only [begP, kk, hA.bay, hA.lb, Int.toNat_natCast, Bool.false_eq_true, if_false]
    rw [hk, Int.toNat_natCast]
  have okq := begP_ok h3
  have hr : endP (begP p o) o = setR p b (l.set k (tgt o.cl)) := by
    rw [hq, endP, hA.bay, Int.toNat_natCast, setR_at hbl]
    simp [hk, hkl, setR_setR, List.set_set]
  have okr := endP_ok okq (knw_of h3)
  have hsd : Hid (∀ (i : Nat) (c : By), s.qs[i]? = some c → ieq c.kind 3 = false → p.cl[i]? = some true → _) := show _ from fun i c a1 a2 a3 => noload_side hA hk hz hq hr okq okr a1 a2 a3
  have t1 := @Ts36_at s p
  rw [h1] at t1
  have t2 := Tal_at (o := o) (lenB_ok hok)
  rw [h3] at t2
  have t3 : Tk36 [] = some (.bool true) := rfl
  have t4 := Tbe_at (o := o) (lenB_ok hok)
  rw [show begV s p o = .tup [.agg (begP p o).cs, .int .i64 0] by simp [begV, h3]] at t4
  have he0 := endE_zero h3
  have t5 := Ten_at (p := begP p o) (o := o) (lenB_ok okq)
  rw [show endV s (begP p o) o = .tup [.agg (endP (begP p o) o).cs, .int .i64 0] by simp [endV, he0]] at t5
  have t6 := Trpc_at (lenB_ok okq)
  rw [(okP_iff okq).2] at t6
  have t7 := Trpc_at (lenB_ok okr)
  rw [(okP_iff okr).2] at t7
  have t8 := Tcu_at hok
  have t9 := Tcu_at okq
  have t10 := Tcu_at okr
  rw [hq, cq] at t9
  rw [hr, cr] at t10
  rw [← hq] at t9
  rw [← hr] at t10
  have hal := cou_len s p
  have hS0 : Hid (∀ (i : Nat) (S : List Int), sidF s p (grp s p) i = some S → TSd [.agg [.str s.nm, .list 1 (s.bs.map s1), .list 5 (s.ls.map Ln.cs), .list 6 (s.ss.map Sr.cs), .list 12 (s.qs.map By.cs)], .agg [.list 1 (p.cl.map b1), .list 1 (p.lk.map r1)], .int .i64 i] = some (.agg (S.map (V.int .i64)))) := show _ from fun i S h => TSd_at hok h
  have hS1 : Hid (∀ (i : Nat) (S : List Int), sidF s (begP p o) (grp s (begP p o)) i = some S → TSd [.agg [.str s.nm, .list 1 (s.bs.map s1), .list 5 (s.ls.map Ln.cs), .list 6 (s.ss.map Sr.cs), .list 12 (s.qs.map By.cs)], .agg [.list 1 ((begP p o).cl.map b1), .list 1 ((begP p o).lk.map r1)], .int .i64 i] = some (.agg (S.map (V.int .i64)))) := show _ from fun i S h => TSd_at okq h
  have hS2 : Hid (∀ (i : Nat) (S : List Int), sidF s (endP (begP p o) o) (grp s (endP (begP p o) o)) i = some S → TSd [.agg [.str s.nm, .list 1 (s.bs.map s1), .list 5 (s.ls.map Ln.cs), .list 6 (s.ss.map Sr.cs), .list 12 (s.qs.map By.cs)], .agg [.list 1 ((endP (begP p o) o).cl.map b1), .list 1 ((endP (begP p o) o).lk.map r1)], .int .i64 i] = some (.agg (S.map (V.int .i64)))) := show _ from fun i S h => TSd_at okr h
  have hqn := hF.nq
  have hnb4 := hF.nb
  obtain ⟨nb, hnb⟩ : ∃ n, s.bs.length = n := ⟨_, rfl⟩
  obtain ⟨n, hn⟩ : ∃ n, s.qs.length = n := ⟨_, rfl⟩
  rw [hnb] at hnb4 hal hsd
  rw [hn] at hqn hnc0
  simp only [Pos.cs] at t4 t5
  generalize couF s p = A at hal hsd t8 t9 t10
  generalize endP (begP p o) o = r at hsd t5 t7 t10 hS2
  generalize begP p o = q at hsd t4 t5 t6 t9 hS1
  clear hq hr okq okr cq cr he0 h1 h3 kk hA hkl k3 hk
  obtain ⟨bay, lnk, c⟩ := o
  simp only at h2 t2 t4 t5
  have f0 : ilt lnk 0 = false := ilt_f h2
  refine pcall_cx HO_ok mixed (fun id => if id = 18 then some ⟨[(18, 17), (19, 18), (20, 19)], [5, 6, 8, 10, 11, 13]⟩ else none) Try.func8 rfl Try.ntmps8 Try.results8 (by simp) (by kernel_rfl) ?_
  repeat' first
    | (with_reducible refine gw_bool (fun _ => ?_) (fun _ => ?_))
    | (with_reducible refine condw_bool (fun _ => ?_) (fun _ => ?_))
    | simp [*, Stn.cs, Pos.cs, Op'.cs, setsV]
  clear t1 t2 t4 t5 t6 t7 t8 t9 t10 f0
  refine lp_go (D := (fun id => if id = 18 then some ⟨[(18, 17), (19, 18), (20, 19)], [5, 6, 8, 10, 11, 13]⟩ else none)) HO_ok mixed (by kernel_rfl) [3, 4, 7, 9, 11, 12, 13, 79] [3, 4, 5, 7, 9, 16, 17, 18, 19] (α := Nat) (fun i e h => i ≤ nb ∧ e 80 = .int .i64 i) (fun i => nb - i) 0 ?_ ?_
  · exact ⟨by omega, by simp⟩
  rintro i e h hk hkh ⟨hi, g80⟩
  simp [Keep] at hk
  simp [KeepH] at hkh
  by_cases hlt : i < nb
  · obtain ⟨y, hy, hy'⟩ := at_ex (l := A) (i := i) (by omega)
    have f1 : ilt (i : Int) (nb : Int) = true := ilt_t (by omega)
    have w1 : IntKind.i64.wrap ((i : Int) + 1) = ((i + 1 : Nat) : Int) := wrap_succ (by omega)
    have hyy : ieq y y = true := by simp [ieq]
    clear hsd hS0 hS1 hS2
    repeat' first
      | (with_reducible refine gw_bool (fun _ => ?_) (fun _ => ?_))
      | (with_reducible refine condw_bool (fun _ => ?_) (fun _ => ?_))
      | simp [*, i1]
    refine nxt_go (i + 1) (View.refl _ _) (by omega) (by simp [*, Keep, St.forget, scr, scrC]) (by simp [*, KeepH, St.forget, scr, scrC]) ?_
    exact ⟨by omega, by simp [*]⟩
  · have f1 : ilt (i : Int) (nb : Int) = false := ilt_f (by omega)
    repeat' first
      | (with_reducible refine gw_bool (fun _ => ?_) (fun _ => ?_))
      | (with_reducible refine condw_bool (fun _ => ?_) (fun _ => ?_))
      | simp [*]
    refine lp_go (D := (fun id => if id = 18 then some ⟨[(18, 17), (19, 18), (20, 19)], [5, 6, 8, 10, 11, 13]⟩ else none)) HO_ok mixed (by kernel_rfl) [3, 4, 7, 9, 11, 105, 106] [3, 4, 5, 7, 9, 16, 17, 18, 19] (α := Nat) (fun i e h => i ≤ n ∧ e 107 = .int .i64 i) (fun i => n - i) 0 ?_ ?_
    · exact ⟨by omega, by simp⟩
    have hk0 := hk
    have hkh0 := hkh
    clear hk hkh g80 f1 hlt hi
    rintro j e h hk hkh ⟨hj, g107⟩
    simp [Keep, hk0, hkh0] at hk
    simp [KeepH, hk0, hkh0] at hkh
    by_cases hlt : j < n
    · obtain ⟨c, hc, hc'⟩ := at_ex (l := s.qs) (i := j) (by omega)
      obtain ⟨z, hz, hz'⟩ := at_ex (l := p.cl) (i := j) (by omega)
      have f1 : ilt (j : Int) (n : Int) = true := ilt_t (by omega)
      have w1 : IntKind.i64.wrap ((j : Int) + 1) = ((j + 1 : Nat) : Int) := wrap_succ (by omega)
      cases k3 : ieq c.kind 3
      · cases z
        · clear hsd hS0 hS1 hS2
          repeat' first
            | (with_reducible refine gw_bool (fun _ => ?_) (fun _ => ?_))
            | (with_reducible refine condw_bool (fun _ => ?_) (fun _ => ?_))
            | simp [*, By.cs, b1]
          refine nxt_go (j + 1) ((View.forget _ _ 16)) (by omega) (by simp [*, Keep, St.forget, scr, scrC, usesC, usesA]) (by simp [*, KeepH, St.forget, scr, scrC]) ?_
          exact ⟨by omega, by simp [*, St.forget, scr, scrC]⟩
        · obtain ⟨ku, ou, ov, ow, m, d0, d1, d2, hcase⟩ := hsd.out j c hc k3 hz
          have T0 := hS0.out j _ d0
          have T1 := hS1.out j _ d1
          have T2 := hS2.out j _ d2
          simp only [List.map_cons, List.map_nil] at T0 T1 T2
          clear hsd hS0 hS1 hS2 d0 d1 d2
          rcases hcase with rfl | ⟨rfl, u, v, w, zz, rfl, rfl, rfl, hu, hv, hw, gu, gv, gw⟩
          · skip
            repeat' first
              | (with_reducible refine gw_bool (fun _ => ?_) (fun _ => ?_))
              | (with_reducible refine condw_bool (fun _ => ?_) (fun _ => ?_))
              | simp [*, By.cs, b1]
            refine nxt_go (j + 1) ((View.forget _ _ 16).trans ((View.forget _ _ 17).trans ((View.forget _ _ 18).trans ((View.forget _ _ 19))))) (by omega) (by simp [*, Keep, St.forget, scr, scrC, usesC, usesA]) (by simp [*, KeepH, St.forget, scr, scrC]) ?_
            exact ⟨by omega, by simp [*, St.forget, scr, scrC]⟩
          · have gu' := (List.getElem?_eq_some_iff.1 gu).2
            have gv' := (List.getElem?_eq_some_iff.1 gv).2
            have gw' := (List.getElem?_eq_some_iff.1 gw).2
            have hzz : ieq zz zz = true := by simp [ieq]
            have u1 : (u : Int) < nb := by omega
            have v1 : (v : Int) < nb := by omega
            have w1' : (w : Int) < nb := by omega
            repeat' first
              | (with_reducible refine gw_bool (fun _ => ?_) (fun _ => ?_))
              | (with_reducible refine condw_bool (fun _ => ?_) (fun _ => ?_))
              | simp [*, By.cs, b1, i1]
            refine nxt_go (j + 1) ((View.forget _ _ 16).trans ((View.forget _ _ 17).trans ((View.forget _ _ 18).trans ((View.forget _ _ 19))))) (by omega) (by simp [*, Keep, St.forget, scr, scrC, usesC, usesA]) (by simp [*, KeepH, St.forget, scr, scrC]) ?_
            exact ⟨by omega, by simp [*, St.forget, scr, scrC]⟩
      · clear hsd hS0 hS1 hS2
        repeat' first
          | (with_reducible refine gw_bool (fun _ => ?_) (fun _ => ?_))
          | (with_reducible refine condw_bool (fun _ => ?_) (fun _ => ?_))
          | simp [*, By.cs, b1]
        refine nxt_go (j + 1) ((View.forget _ _ 16)) (by omega) (by simp [*, Keep, St.forget, scr, scrC, usesC, usesA]) (by simp [*, KeepH, St.forget, scr, scrC]) ?_
        exact ⟨by omega, by simp [*, St.forget, scr, scrC]⟩
    · have f1 : ilt (j : Int) (n : Int) = false := ilt_f (by omega)
      clear hsd hS0 hS1 hS2
      repeat' first
        | (with_reducible refine gw_bool (fun _ => ?_) (fun _ => ?_))
        | (with_reducible refine condw_bool (fun _ => ?_) (fun _ => ?_))
        | simp [*]
end Go.Proofs.Ytjhmphkdkclbjaa
end
section
namespace Go.Proofs.Ytjhmphkdkclbjaa
open Go.Pv Go.RowKit
theorem has_op {u : V} (h : HasV (.struct [.int .i64, .int .i64, .bool]) u) : ∃ o : Op', u = .agg o.cs := by
  obtain ⟨cs, rfl, h⟩ := h
  simp only [HasL, HasC] at h
  obtain ⟨_, _, rfl, ⟨a, rfl, _⟩, _, _, rfl, ⟨b, rfl, _⟩, _, _, rfl, ⟨c, rfl⟩, rfl⟩ := h
  exact ⟨⟨a, b, c⟩, rfl⟩
theorem noload_ok {s : Stn} {p : Pos} {o : Op'} (hl : lenB s p = true) : PCall Try.prog 8 [.agg s.cs, .agg p.cs, .agg o.cs] (.bool true) := by
  by_cases h : smallF s p = true ∧ 0 ≤ o.link ∧ alwE s p o = 0
  · exact noload_good h.1 h.2.1 h.2.2
  · exact noload_bad hl h
end Go.Proofs.Ytjhmphkdkclbjaa
end
section
namespace Go.Proofs.Ytjhmphkdkclbjaa.interlockNoLoadDone
open Go.Pv Go.ChangeShapes Go.WideShapes Go.ChangeAt Go.RowKit
set_option linter.unusedVariables false

theorem law : ∀ us, HasAll [.struct [.str, .slice .str, .slice (.struct [.str, .struct [.int .i64, .int .i64], .struct [.int .i64, .int .i64]]), .slice (.struct [.str, .int .i64, .struct [.int .i64, .int .i64], .struct [.int .i64, .int .i64]]), .slice (.struct [.str, .int .i64, .int .i64, .int .i64, .struct [.int .i64, .int .i64], .slice (.struct [.int .i64, .int .i64]), .bool, .int .i64, .int .i64, .int .i64, .int .i64])], .struct [.slice .bool, .slice (.slice (.int .i64))], .struct [.int .i64, .int .i64, .bool]] us → PCall Try.prog 8 us (.bool true) := by
  rintro us ⟨a, _, rfl, ha, b, _, rfl, hb, c, _, rfl, hc, rfl⟩
  obtain ⟨s, rfl, h1, _, hlk⟩ := has_stnL ha
  obtain ⟨p, rfl, h2, _⟩ := has_pos hb
  obtain ⟨o, rfl⟩ := has_op hc
  have hm : maxLen = 9223372036854775807 := by decide
  rw [hm] at h1 h2
  have hlb : lenB s p = true := by
    simp only [lenB, Bool.and_eq_true, decide_eq_true_eq, List.all_eq_true]
    exact ⟨h1, h2⟩
  exact noload_ok hlb

theorem own : ownKnob Try.prog.godebug = none := by kernel_rfl
theorem laidOut : laidOutB Try.prog = true := by kernel_rfl
theorem spec_at (H : Type) : ∀ ds : List (DataW H), ds.length = 3 → Rows.interlockNoLoadSpec.fn H ds = { results := [.lit (.bool true)], args := ds } := by
  intro ds h
  rcases ds with _ | ⟨d0, _ | ⟨d1, _ | ⟨d2, _ | ⟨e, r⟩⟩⟩⟩
  all_goals first | rfl | (simp at h; done) | (simp at h; omega)

set_option maxRecDepth 100000 in
theorem lifted (os : Os) (started : os.Started) (H : Type) (enc : TypeId × Value → H) :
    ReturnsInHanded {} Try.checked os 8 .any (Rows.interlockNoLoadSpec.pre6 enc Try.prog Try.f8 Rows.interlockNoLoadRow.domain false) (Rows.interlockNoLoadSpec.post enc Try.prog Try.f8 false true false false) :=
  lift (C := Try.checked) (m := 9) own laidOut started (by kernel_rfl) Try.func8
    (ChangeSpec.witness6 (enc := enc) (C := Try.checked) false ⟨#[], #[.agg #[.string ⟨#[]⟩, .slice none 0 0, .slice none 0 0, .slice none 0 0, .slice none 0 0], .agg #[.slice none 0 0, .slice none 0 0], .agg #[.int .i64 0, .int .i64 0, .bool false]], []⟩ 8 (by kernel_rfl) (by kernel_rfl) (by kernel_rfl) (by kernel_rfl))
    Try.params8 (by kernel_rfl) Try.underlying4 rfl (by kernel_rfl) (by kernel_rfl) (spec_at H) law

theorem over : Rows.interlockNoLoadRow.holds Try.pinned (OpenSpec.ofChange Rows.interlockNoLoadSpec) :=
  OpenClaim.holds_of_wide 8 Try.f8 rfl rfl rfl rfl rfl rfl rfl ⟨rfl, rfl, rfl, rfl, rfl⟩ rfl rfl rfl rfl rfl (by kernel_rfl) Try.func8 (by kernel_rfl)
    (of_decide_eq_true (by kernel_rfl)) (by unfold Func.isWrapper; first | (rw [if_pos (by decide +kernel)]; kernel_rfl) | (rw [if_neg (by decide +kernel)]; exact ⟨rfl, rfl⟩))
    (fun os started H enc _ => lifted os started H enc)

theorem proved : Rows.InterlockNoLoadSaid := over
end Go.Proofs.Ytjhmphkdkclbjaa.interlockNoLoadDone
end
