/-
  The law of examples of interlocked switching.
  InterlockExamples returns true for every input, and leaves the input as it was. No condition.
-/
import Derived.Test.YtjhmphkdkclbjaaJ9
import Derived.Test.YtjhmphkdkclbjaaRows
section
namespace Go.Proofs.Ytjhmphkdkclbjaa
open Go.Pv Go.RowKit
set_option linter.unusedSimpArgs false
set_option linter.unusedVariables false
set_option maxRecDepth 100000
set_option maxHeartbeats 4000000
attribute [-simp] Tclo_at Tgrp_at Tchk Tpchk TcI TcB Tclo Tgrp Tsid Tnod Tlook Tbnd Tres TSd TBd Tix Tcon Tgps Tsg Tmv Tck Tkn Tjo Ttr Tsw Tmg Tal Tbe Ten Tcp Tidx Tnms Tnmd Tobj Tlks Tbay Trck Trpc Trg Trf Trsd Trnd Tar Ttwo Tof Tnm Tat Ttw Tsq Tlk

def Tk36 : List V → Option V
  | [] => some (.bool true)
  | _ => none
theorem k36_tab : ∀ vs v, Tk36 vs = some v → PCall Try.prog 31 vs v := by
  intro vs v h; unfold Tk36 at h; split at h
  · cases h; exact known36_ok
  · cases h
def HE : Tab := add 31 Tk36 (HZ)
theorem HE_at (f : FuncId) (vs : List V) : HE.at' f vs = if f = 31 then Tk36 vs else HZ.at' f vs := rfl
theorem HE_fr (f : FuncId) : HE.fr f = if f = 31 then false else HZ.fr f := rfl
theorem HE_gb (f : FuncId) : HE.gb f = HZ.gb f := rfl
theorem HE_gv (f : FuncId) (vs : List V) : HE.gv f vs = HZ.gv f vs := rfl
attribute [simp] HE_at HE_fr HE_gb HE_gv Tk36
theorem HE_ok : TabOK Try.prog HE := by
  refine add_ok (HZ_ok) (by kernel_rfl) ?_
  · exact k36_tab
def oC : Op' := ⟨0, 0, false⟩
def qM : Pos := ⟨[true, true], [[1, 2], [1, 1]]⟩
def qN : Pos := ⟨[true, true], [[1, 1], [1, 1]]⟩
def qL : Pos := ⟨[true, true], [[0, 1], [1, 1]]⟩
theorem examples36_ok : PCall Try.prog 7 [] (.bool true) := by
  have hT0 : Ttw [] = some (.agg st3.cs) := rfl
  have hTn := Tnm_at st3_chk
  have hA := Tal_at (o := oC) ln0
  have hB := Tal_at (o := ⟨0, 0, true⟩) ln0
  have hC := Tal_at (o := ⟨1, 0, false⟩) ln0
  have hD := Tal_at (o := ⟨2, -1, false⟩) ln0
  have hE := Tbe_at (o := oA) ln0
  have hF := Tal_at (s := st3) (p := qM) (o := oC) (by kernel_rfl)
  have hG := Ten_at (s := st3) (p := qM) (o := oA) (by kernel_rfl)
  have hS := Tsq_at (l := [oA, oC]) ln0 sm0 (by simp)
  have hJ1 := Tjo_at (s := st3) (p := q0) (x := 0) (y := 1) (by kernel_rfl)
  have hJ2 := Tjo_at (s := st3) (p := q0) (x := 0) (y := 2) (by kernel_rfl)
  have hL1 : Tlk [.agg qM.cs, .int .i64 0, .int .i64 1] = some (.int .i64 2) := by kernel_rfl
  have hL2 : Tlk [.agg qN.cs, .int .i64 0, .int .i64 1] = some (.int .i64 1) := by kernel_rfl
  have hL3 : Tlk [.agg qL.cs, .int .i64 0, .int .i64 0] = some (.int .i64 0) := by kernel_rfl
  rw [show alwE st3 q0 oC = 40 by kernel_rfl] at hA
  rw [show alwE st3 q0 ⟨0, 0, true⟩ = 44 by kernel_rfl] at hB
  rw [show alwE st3 q0 ⟨1, 0, false⟩ = 10 by kernel_rfl] at hC
  rw [show alwE st3 q0 ⟨2, -1, false⟩ = 9 by kernel_rfl] at hD
  rw [show begV st3 q0 oA = .tup [.agg qM.cs, .int .i64 0] by kernel_rfl] at hE
  rw [show alwE st3 qM oC = 43 by kernel_rfl] at hF
  rw [show endV st3 qM oA = .tup [.agg qN.cs, .int .i64 0] by kernel_rfl] at hG
  rw [show seqV st3 q0 [oA, oC] = .tup [.agg qL.cs, .int .i64 0, .int .i64 0] by kernel_rfl] at hS
  rw [show joiF st3 q0 0 1 = true by kernel_rfl] at hJ1
  rw [show joiF st3 q0 0 2 = false by kernel_rfl] at hJ2
  rw [show normP st3 = q0 from rfl] at hTn
  generalize q0 = P at hTn hA hB hC hD hE hS hJ1 hJ2
  generalize st3 = X at hT0 hTn hA hB hC hD hE hF hG hS hJ1 hJ2
  generalize qM = M at hE hF hG hL1
  generalize qN = N at hG hL2
  generalize qL = L at hS hL3
  simp only [Stn.cs] at hT0
  simp only [Pos.cs] at hTn hE hG hS hL1 hL2 hL3
  simp only [oA, oC, List.map_cons, List.map_nil, Op'.cs] at hA hB hC hD hE hF hG hS
  refine pcall_of2 Try.func7 rfl Try.ntmps7 Try.results7 (by simp) ?_
  refine cw_cut (K := fun s => s.heap 1 = none ∧ s.heap 2 = none ∧ s.heap 7 = none ∧ s.heap 10 = none ∧ s.heap 12 = none ∧ s.heap 57 = none) ?_ ?_
  · refine CW.of_cx (D := (fun _ => none)) HE_ok mixed _ _ _ (by kernel_rfl) ?_
    repeat' first
      | (with_reducible refine gw_bool (fun _ => ?_) (fun _ => ?_))
      | (with_reducible refine condw_bool (fun _ => ?_) (fun _ => ?_))
      | simp [*]
  rintro ⟨e, h⟩ ⟨n1, n2, n7, n10, n12, n57⟩
  simp only at n1 n2 n7 n10 n12 n57
  refine cw_cut (K := fun s => s.env 1 = .ptr 1 0 ∧ s.heap 1 = some ⟨27, X.cs⟩ ∧ s.heap 2 = none ∧ s.heap 7 = none ∧ s.heap 10 = none ∧ s.heap 12 = none ∧ s.heap 57 = none) ?_ ?_
  · refine CW.of_cx (D := (fun _ => none)) HE_ok mixed _ _ _ (by kernel_rfl) ?_
    repeat' first
      | (with_reducible refine gw_bool (fun _ => ?_) (fun _ => ?_))
      | (with_reducible refine condw_bool (fun _ => ?_) (fun _ => ?_))
      | simp [*, setsV, Stn.cs, Pos.cs]
  clear n1 n2 n7 n10 n12 n57 e h
  rintro ⟨e, h⟩ ⟨e1, h1, n2, n7, n10, n12, n57⟩
  simp only at e1 h1 n2 n7 n10 n12 n57
  rw [Stn.cs] at h1
  refine cw_cut (K := fun s => s.env 1 = .ptr 1 0 ∧ s.env 2 = .ptr 2 0 ∧ s.heap 1 = some ⟨27, X.cs⟩ ∧ s.heap 2 = some ⟨31, P.cs⟩ ∧ s.heap 7 = none ∧ s.heap 10 = none ∧ s.heap 12 = none ∧ s.heap 57 = none) ?_ ?_
  · refine CW.of_cx (D := (fun _ => none)) HE_ok mixed _ _ _ (by kernel_rfl) ?_
    repeat' first
      | (with_reducible refine gw_bool (fun _ => ?_) (fun _ => ?_))
      | (with_reducible refine condw_bool (fun _ => ?_) (fun _ => ?_))
      | simp [*, setsV, Stn.cs, Pos.cs]
  clear e1 h1 n2 n7 n10 n12 n57 e h
  rintro ⟨e, h⟩ ⟨e1, e2, h1, h2, n7, n10, n12, n57⟩
  simp only at e1 e2 h1 h2 n7 n10 n12 n57
  rw [Stn.cs] at h1
  rw [Pos.cs] at h2
  refine cw_cut (K := fun s => s.env 1 = .ptr 1 0 ∧ s.env 2 = .ptr 2 0 ∧ s.env 3 = .int .i64 40 ∧ s.heap 1 = some ⟨27, X.cs⟩ ∧ s.heap 2 = some ⟨31, P.cs⟩ ∧ s.heap 7 = none ∧ s.heap 10 = none ∧ s.heap 12 = none ∧ s.heap 57 = none) ?_ ?_
  · refine CW.of_cx (D := (fun _ => none)) HE_ok mixed _ _ _ (by kernel_rfl) ?_
    repeat' first
      | (with_reducible refine gw_bool (fun _ => ?_) (fun _ => ?_))
      | (with_reducible refine condw_bool (fun _ => ?_) (fun _ => ?_))
      | simp [*, setsV, Stn.cs, Pos.cs]
  clear e1 e2 h1 h2 n7 n10 n12 n57 e h
  rintro ⟨e, h⟩ ⟨e1, e2, e3, h1, h2, n7, n10, n12, n57⟩
  simp only at e1 e2 e3 h1 h2 n7 n10 n12 n57
  rw [Stn.cs] at h1
  rw [Pos.cs] at h2
  refine cw_cut (K := fun s => s.env 1 = .ptr 1 0 ∧ s.env 2 = .ptr 2 0 ∧ s.env 3 = .int .i64 40 ∧ s.env 4 = .int .i64 44 ∧ s.heap 1 = some ⟨27, X.cs⟩ ∧ s.heap 2 = some ⟨31, P.cs⟩ ∧ s.heap 7 = none ∧ s.heap 10 = none ∧ s.heap 12 = none ∧ s.heap 57 = none) ?_ ?_
  · refine CW.of_cx (D := (fun _ => none)) HE_ok mixed _ _ _ (by kernel_rfl) ?_
    repeat' first
      | (with_reducible refine gw_bool (fun _ => ?_) (fun _ => ?_))
      | (with_reducible refine condw_bool (fun _ => ?_) (fun _ => ?_))
      | simp [*, setsV, Stn.cs, Pos.cs]
  clear e1 e2 e3 h1 h2 n7 n10 n12 n57 e h
  rintro ⟨e, h⟩ ⟨e1, e2, e3, e4, h1, h2, n7, n10, n12, n57⟩
  simp only at e1 e2 e3 e4 h1 h2 n7 n10 n12 n57
  rw [Stn.cs] at h1
  rw [Pos.cs] at h2
  refine cw_cut (K := fun s => s.env 1 = .ptr 1 0 ∧ s.env 2 = .ptr 2 0 ∧ s.env 3 = .int .i64 40 ∧ s.env 4 = .int .i64 44 ∧ s.env 5 = .int .i64 10 ∧ s.heap 1 = some ⟨27, X.cs⟩ ∧ s.heap 2 = some ⟨31, P.cs⟩ ∧ s.heap 7 = none ∧ s.heap 10 = none ∧ s.heap 12 = none ∧ s.heap 57 = none) ?_ ?_
  · refine CW.of_cx (D := (fun _ => none)) HE_ok mixed _ _ _ (by kernel_rfl) ?_
    repeat' first
      | (with_reducible refine gw_bool (fun _ => ?_) (fun _ => ?_))
      | (with_reducible refine condw_bool (fun _ => ?_) (fun _ => ?_))
      | simp [*, setsV, Stn.cs, Pos.cs]
  clear e1 e2 e3 e4 h1 h2 n7 n10 n12 n57 e h
  rintro ⟨e, h⟩ ⟨e1, e2, e3, e4, e5, h1, h2, n7, n10, n12, n57⟩
  simp only at e1 e2 e3 e4 e5 h1 h2 n7 n10 n12 n57
  rw [Stn.cs] at h1
  rw [Pos.cs] at h2
  refine cw_cut (K := fun s => s.env 1 = .ptr 1 0 ∧ s.env 2 = .ptr 2 0 ∧ s.env 3 = .int .i64 40 ∧ s.env 4 = .int .i64 44 ∧ s.env 5 = .int .i64 10 ∧ s.env 6 = .int .i64 9 ∧ s.heap 1 = some ⟨27, X.cs⟩ ∧ s.heap 2 = some ⟨31, P.cs⟩ ∧ s.heap 7 = none ∧ s.heap 10 = none ∧ s.heap 12 = none ∧ s.heap 57 = none) ?_ ?_
  · refine CW.of_cx (D := (fun _ => none)) HE_ok mixed _ _ _ (by kernel_rfl) ?_
    repeat' first
      | (with_reducible refine gw_bool (fun _ => ?_) (fun _ => ?_))
      | (with_reducible refine condw_bool (fun _ => ?_) (fun _ => ?_))
      | simp [*, setsV, Stn.cs, Pos.cs]
  clear e1 e2 e3 e4 e5 h1 h2 n7 n10 n12 n57 e h
  rintro ⟨e, h⟩ ⟨e1, e2, e3, e4, e5, e6, h1, h2, n7, n10, n12, n57⟩
  simp only at e1 e2 e3 e4 e5 e6 h1 h2 n7 n10 n12 n57
  rw [Stn.cs] at h1
  rw [Pos.cs] at h2
  refine cw_cut (K := fun s => s.env 1 = .ptr 1 0 ∧ s.env 2 = .ptr 2 0 ∧ s.env 3 = .int .i64 40 ∧ s.env 4 = .int .i64 44 ∧ s.env 5 = .int .i64 10 ∧ s.env 6 = .int .i64 9 ∧ s.env 7 = .ptr 7 0 ∧ s.env 8 = .int .i64 0 ∧ s.heap 1 = some ⟨27, X.cs⟩ ∧ s.heap 2 = some ⟨31, P.cs⟩ ∧ s.heap 7 = some ⟨31, M.cs⟩ ∧ s.heap 10 = none ∧ s.heap 12 = none ∧ s.heap 57 = none) ?_ ?_
  · refine CW.of_cx (D := (fun _ => none)) HE_ok mixed _ _ _ (by kernel_rfl) ?_
    repeat' first
      | (with_reducible refine gw_bool (fun _ => ?_) (fun _ => ?_))
      | (with_reducible refine condw_bool (fun _ => ?_) (fun _ => ?_))
      | simp [*, setsV, Stn.cs, Pos.cs]
  clear e1 e2 e3 e4 e5 e6 h1 h2 n7 n10 n12 n57 e h
  rintro ⟨e, h⟩ ⟨e1, e2, e3, e4, e5, e6, e7, e8, h1, h2, h7, n10, n12, n57⟩
  simp only at e1 e2 e3 e4 e5 e6 e7 e8 h1 h2 h7 n10 n12 n57
  rw [Stn.cs] at h1
  rw [Pos.cs] at h2
  rw [Pos.cs] at h7
  refine cw_cut (K := fun s => s.env 1 = .ptr 1 0 ∧ s.env 2 = .ptr 2 0 ∧ s.env 3 = .int .i64 40 ∧ s.env 4 = .int .i64 44 ∧ s.env 5 = .int .i64 10 ∧ s.env 6 = .int .i64 9 ∧ s.env 7 = .ptr 7 0 ∧ s.env 8 = .int .i64 0 ∧ s.env 9 = .int .i64 43 ∧ s.heap 1 = some ⟨27, X.cs⟩ ∧ s.heap 2 = some ⟨31, P.cs⟩ ∧ s.heap 7 = some ⟨31, M.cs⟩ ∧ s.heap 10 = none ∧ s.heap 12 = none ∧ s.heap 57 = none) ?_ ?_
  · refine CW.of_cx (D := (fun _ => none)) HE_ok mixed _ _ _ (by kernel_rfl) ?_
    repeat' first
      | (with_reducible refine gw_bool (fun _ => ?_) (fun _ => ?_))
      | (with_reducible refine condw_bool (fun _ => ?_) (fun _ => ?_))
      | simp [*, setsV, Stn.cs, Pos.cs]
  clear e1 e2 e3 e4 e5 e6 e7 e8 h1 h2 h7 n10 n12 n57 e h
  rintro ⟨e, h⟩ ⟨e1, e2, e3, e4, e5, e6, e7, e8, e9, h1, h2, h7, n10, n12, n57⟩
  simp only at e1 e2 e3 e4 e5 e6 e7 e8 e9 h1 h2 h7 n10 n12 n57
  rw [Stn.cs] at h1
  rw [Pos.cs] at h2
  rw [Pos.cs] at h7
  refine cw_cut (K := fun s => s.env 1 = .ptr 1 0 ∧ s.env 2 = .ptr 2 0 ∧ s.env 3 = .int .i64 40 ∧ s.env 4 = .int .i64 44 ∧ s.env 5 = .int .i64 10 ∧ s.env 6 = .int .i64 9 ∧ s.env 7 = .ptr 7 0 ∧ s.env 8 = .int .i64 0 ∧ s.env 9 = .int .i64 43 ∧ s.env 10 = .ptr 10 0 ∧ s.env 11 = .int .i64 0 ∧ s.heap 1 = some ⟨27, X.cs⟩ ∧ s.heap 2 = some ⟨31, P.cs⟩ ∧ s.heap 7 = some ⟨31, M.cs⟩ ∧ s.heap 10 = some ⟨31, N.cs⟩ ∧ s.heap 12 = none ∧ s.heap 57 = none) ?_ ?_
  · refine CW.of_cx (D := (fun _ => none)) HE_ok mixed _ _ _ (by kernel_rfl) ?_
    repeat' first
      | (with_reducible refine gw_bool (fun _ => ?_) (fun _ => ?_))
      | (with_reducible refine condw_bool (fun _ => ?_) (fun _ => ?_))
      | simp [*, setsV, Stn.cs, Pos.cs]
  clear e1 e2 e3 e4 e5 e6 e7 e8 e9 h1 h2 h7 n10 n12 n57 e h
  rintro ⟨e, h⟩ ⟨e1, e2, e3, e4, e5, e6, e7, e8, e9, e10, e11, h1, h2, h7, h10, n12, n57⟩
  simp only at e1 e2 e3 e4 e5 e6 e7 e8 e9 e10 e11 h1 h2 h7 h10 n12 n57
  rw [Stn.cs] at h1
  rw [Pos.cs] at h2
  rw [Pos.cs] at h7
  rw [Pos.cs] at h10
  refine cw_cut (K := fun s => s.env 1 = .ptr 1 0 ∧ s.env 2 = .ptr 2 0 ∧ s.env 3 = .int .i64 40 ∧ s.env 4 = .int .i64 44 ∧ s.env 5 = .int .i64 10 ∧ s.env 6 = .int .i64 9 ∧ s.env 7 = .ptr 7 0 ∧ s.env 8 = .int .i64 0 ∧ s.env 9 = .int .i64 43 ∧ s.env 10 = .ptr 10 0 ∧ s.env 11 = .int .i64 0 ∧ s.env 12 = .ptr 12 0 ∧ s.env 14 = .int .i64 0 ∧ s.heap 1 = some ⟨27, X.cs⟩ ∧ s.heap 2 = some ⟨31, P.cs⟩ ∧ s.heap 7 = some ⟨31, M.cs⟩ ∧ s.heap 10 = some ⟨31, N.cs⟩ ∧ s.heap 12 = some ⟨31, L.cs⟩) ?_ ?_
  · refine cw_split HE_ok 5 (fun s => s.env 1 = .ptr 1 0 ∧ s.env 2 = .ptr 2 0 ∧ s.env 3 = .int .i64 40 ∧ s.env 4 = .int .i64 44 ∧ s.env 5 = .int .i64 10 ∧ s.env 6 = .int .i64 9 ∧ s.env 7 = .ptr 7 0 ∧ s.env 8 = .int .i64 0 ∧ s.env 9 = .int .i64 43 ∧ s.env 10 = .ptr 10 0 ∧ s.env 11 = .int .i64 0 ∧ s.env 53 = .agg X.cs ∧ s.env 54 = .agg P.cs ∧ s.env 57 = .sl 57 0 2 3 ∧ s.heap 1 = some ⟨27, X.cs⟩ ∧ s.heap 2 = some ⟨31, P.cs⟩ ∧ s.heap 7 = some ⟨31, M.cs⟩ ∧ s.heap 10 = some ⟨31, N.cs⟩ ∧ s.heap 57 = some ⟨66, [.int .i64 0, .int .i64 1, .bool true, .int .i64 0, .int .i64 0, .bool false]⟩ ∧ s.heap 12 = none) (by kernel_rfl) ?_ ?_
    · skip
      repeat' first
        | (with_reducible refine gw_bool (fun _ => ?_) (fun _ => ?_))
        | (with_reducible refine condw_bool (fun _ => ?_) (fun _ => ?_))
        | simp [*, setsV, Stn.cs, Pos.cs]
    clear e1 e2 e3 e4 e5 e6 e7 e8 e9 e10 e11 h1 h2 h7 h10 n12 n57 e h
    rintro ⟨e, h⟩ ⟨e1, e2, e3, e4, e5, e6, e7, e8, e9, e10, e11, e53, e54, e57, h1, h2, h7, h10, h57, n12⟩
    simp only at e1 e2 e3 e4 e5 e6 e7 e8 e9 e10 e11 e53 e54 e57 h1 h2 h7 h10 h57 n12
    refine ⟨_, View.pub _ (key := 57) (blk := ⟨66, [.int .i64 0, .int .i64 1, .bool true, .int .i64 0, .int .i64 0, .bool false]⟩) h57 rfl, ?_⟩
    repeat' first
      | (with_reducible refine gw_bool (fun _ => ?_) (fun _ => ?_))
      | (with_reducible refine condw_bool (fun _ => ?_) (fun _ => ?_))
      | simp [*, setsV, Stn.cs, Pos.cs, St.pub, pubC, pubA, pubT, chunks]
  clear e1 e2 e3 e4 e5 e6 e7 e8 e9 e10 e11 h1 h2 h7 h10 n12 n57 e h
  rintro ⟨e, h⟩ ⟨e1, e2, e3, e4, e5, e6, e7, e8, e9, e10, e11, e12, e14, h1, h2, h7, h10, h12⟩
  simp only at e1 e2 e3 e4 e5 e6 e7 e8 e9 e10 e11 e12 e14 h1 h2 h7 h10 h12
  rw [Stn.cs] at h1
  rw [Pos.cs] at h2
  rw [Pos.cs] at h7
  rw [Pos.cs] at h10
  rw [Pos.cs] at h12
  refine CW.of_cx (D := (fun _ => none)) HE_ok mixed _ _ _ (by kernel_rfl) ?_
  repeat' first
    | (with_reducible refine gw_bool (fun _ => ?_) (fun _ => ?_))
    | (with_reducible refine condw_bool (fun _ => ?_) (fun _ => ?_))
    | simp [*, Stn.cs, Pos.cs]
end Go.Proofs.Ytjhmphkdkclbjaa
end
section
namespace Go.Proofs.Ytjhmphkdkclbjaa.interlockExamplesDone
open Go.Pv Go.ChangeShapes Go.WideShapes Go.ChangeAt Go.RowKit
set_option linter.unusedVariables false

theorem law : ∀ us, HasAll [] us → PCall Try.prog 7 us (.bool true) := by
  rintro us rfl
  exact examples36_ok

theorem own : ownKnob Try.prog.godebug = none := by kernel_rfl
theorem laidOut : laidOutB Try.prog = true := by kernel_rfl
theorem spec_at (H : Type) : ∀ ds : List (DataW H), ds.length = 0 → Rows.interlockExamplesSpec.fn H ds = { results := [.lit (.bool true)], args := ds } := by
  intro ds h
  cases ds with
  | nil => rfl
  | cons _ _ => simp at h

set_option maxRecDepth 100000 in
theorem lifted (os : Os) (started : os.Started) (H : Type) (enc : TypeId × Value → H) :
    ReturnsInHanded {} Try.checked os 7 .any (Rows.interlockExamplesSpec.pre6 enc Try.prog Try.f7 Rows.interlockExamplesRow.domain false) (Rows.interlockExamplesSpec.post enc Try.prog Try.f7 false true false false) :=
  lift (C := Try.checked) (m := 9) own laidOut started (by kernel_rfl) Try.func7
    (ChangeSpec.witness6 (enc := enc) (C := Try.checked) false ⟨#[], #[], []⟩ 8 (by kernel_rfl) (by kernel_rfl) (by kernel_rfl) (by kernel_rfl))
    Try.params7 (by kernel_rfl) Try.underlying4 rfl (by kernel_rfl) (by kernel_rfl) (spec_at H) law

theorem over : Rows.interlockExamplesRow.holds Try.pinned (OpenSpec.ofChange Rows.interlockExamplesSpec) :=
  OpenClaim.holds_of_wide 7 Try.f7 rfl rfl rfl rfl rfl rfl rfl ⟨rfl, rfl, rfl, rfl, rfl⟩ rfl rfl rfl rfl rfl (by kernel_rfl) Try.func7 (by kernel_rfl)
    (of_decide_eq_true (by kernel_rfl)) (by unfold Func.isWrapper; first | (rw [if_pos (by decide +kernel)]; kernel_rfl) | (rw [if_neg (by decide +kernel)]; exact ⟨rfl, rfl⟩))
    (fun os started H enc _ => lifted os started H enc)

theorem proved : Rows.InterlockExamplesSaid := over
end Go.Proofs.Ytjhmphkdkclbjaa.interlockExamplesDone
end
