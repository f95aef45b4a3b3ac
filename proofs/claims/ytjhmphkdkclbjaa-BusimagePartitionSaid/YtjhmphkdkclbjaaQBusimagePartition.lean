/-
  The bus image: the bays around a section, and their signs.
  The examples of the bus image.
  Groups of buses grow as links close; the sums of a section.
  A copy of a position with all its rows, given: what the rows are like; regions in any order.
  A copy of a position with all its rows, given: the walk.
  Every bus belongs to one section, whichever position the moving links have: the plain law.
  The law of the partition: the walk.
  The law of the partition, both cases joined.
  BusimagePartition returns true for every input, and leaves the input as it was. No condition.
-/
import Derived.Test.YtjhmphkdkclbjaaJ7
import Derived.Test.YtjhmphkdkclbjaaJ8
import Derived.Test.YtjhmphkdkclbjaaJ5
import Derived.Test.YtjhmphkdkclbjaaRows
section
namespace Go.Proofs.Ytjhmphkdkclbjaa
open Go.Pv Go.RowKit
set_option linter.unusedSimpArgs false
set_option linter.unusedVariables false
set_option maxRecDepth 100000
set_option maxHeartbeats 4000000
attribute [-simp] Tclo_at Tgrp_at Tchk Tpchk TcI TcB Tclo Tgrp Tsid Tnod Tlook Tbnd Tres TSd TBd Tix Tcon Tgps Tsg Tmv Tidx Tnms Tnmd Tobj Tlks Tbay Trck Trpc Trg Trf Trsd Trnd Tar Ttwo Tof Tnm Tat Trof Tsm Tsl Tk33

def sgnS (n : Nat) (S : List Int × List Bool) (m : Int × Int) : List Int × List Bool :=
  if (ilt m.1 0 || !ilt m.1 (n : Int)) || (S.2[m.1.toNat]?).getD false then S else (S.1.set m.1.toNat m.2, S.2.set m.1.toNat true)
def sgnR (n : Nat) (me : List (Int × Int)) : List Int × List Bool := me.foldl (sgnS n) (List.replicate n 0, List.replicate 16 false)
def sgnF (L : List Sc) (k n : Nat) : List Int := match L[k]? with
  | some x => (sgnR n x.me).1
  | none => []
theorem sgnS_len (n : Nat) (S : List Int × List Bool) (m : Int × Int) : (sgnS n S m).1.length = S.1.length ∧ (sgnS n S m).2.length = S.2.length := by
  unfold sgnS; split <;> simp
theorem sgnR_len (n : Nat) (me : List (Int × Int)) : (sgnR n me).1.length = n ∧ (sgnR n me).2.length = 16 := by
  have h : ∀ (me : List (Int × Int)) (S : List Int × List Bool), (me.foldl (sgnS n) S).1.length = S.1.length ∧ (me.foldl (sgnS n) S).2.length = S.2.length := by
    intro me
    induction me with
    | nil => intro S; simp
    | cons m t ih => intro S; rw [List.foldl_cons]; have := ih (sgnS n S m); have h2 := sgnS_len n S m; omega
  have := h me (List.replicate n 0, List.replicate 16 false)
  simpa [sgnR] using this
theorem repl_i (n : Nat) : (List.replicate n [V.int .i64 0]).flatten = (List.replicate n (0 : Int)).map (V.int .i64) := by
  induction n with
  | zero => rfl
  | succ n ih => rw [List.replicate_succ, List.flatten_cons, ih]; simp [List.replicate_succ]
def arF (L : List Sc) (k : Int) : List Int := if 0 ≤ k then (match L[k.toNat]? with | some x => x.me.map Prod.fst | none => []) else []
theorem arF_neg (L : List Sc) {k : Int} (h : k < 0) : arF L k = [] := if_neg (by omega)
theorem arF_none {L : List Sc} {j : Nat} (h : L[j]? = none) : arF L j = [] := by simp [arF, h]
theorem arF_some {L : List Sc} {j : Nat} {x : Sc} (h : L[j]? = some x) : arF L j = x.me.map Prod.fst := by simp [arF, h]
theorem around_ok (L : List Sc) (k : Int) (hL : L.length ≤ 1000) (hx : ∀ x ∈ L, x.me.length ≤ 1000) : PCall Try.prog 25 [.list 3 (L.map Sc.cs), .int .i64 k] (.list 1 ((arF L k).map i1)) := by
  by_cases h0 : k < 0
  · rw [arF_neg L h0]
    refine PCall.weaken ?_ (WkL.refl _) (Wk.nils 1)
    have f0 : ilt k 0 = true := ilt_t h0
    refine pcall_cx noTab_ok mixed (fun _ => none) Try.func25 rfl Try.ntmps25 Try.results25 (by simp) (by kernel_rfl) ?_
    repeat' first
      | (with_reducible refine gw_bool (fun _ => ?_) (fun _ => ?_))
      | (with_reducible refine condw_bool (fun _ => ?_) (fun _ => ?_))
      | simp [*]
  obtain ⟨j, rfl⟩ : ∃ j : Nat, k = j := ⟨k.toNat, by omega⟩
  have f0 : ilt (j : Int) 0 = false := ilt_f (by omega)
  obtain ⟨n, hn⟩ : ∃ n, L.length = n := ⟨_, rfl⟩
  by_cases h1 : j < n
  · obtain ⟨x, hx1, hx2⟩ := at_ex (l := L) (i := j) (by omega)
    have hxl := hx x (List.mem_of_getElem? hx1)
    have f1 : ilt (j : Int) (n : Int) = true := ilt_t (by omega)
    obtain ⟨m, hm⟩ : ∃ m, x.me.length = m := ⟨_, rfl⟩
    have hrow : ∀ i (y : Int × Int), x.me[i]? = some y → (((x.me.map Prod.fst).take i ++ List.replicate (m - i) 0).map (V.int .i64)).set i (V.int .i64 y.1) = ((x.me.map Prod.fst).take (i + 1) ++ List.replicate (m - (i + 1)) 0).map (V.int .i64) := fun i y hy => by
      have hi : i < x.me.length := (List.getElem?_eq_some_iff.1 hy).1
      have e1 : m - i = m - (i + 1) + 1 := by omega
      have e2 : (x.me.map Prod.fst).take (i + 1) = (x.me.map Prod.fst).take i ++ [y.1] := by rw [List.take_add_one]; simp [hy]
      rw [e1, e2, List.replicate_succ]
      rw [show V.int .i64 y.1 = (V.int .i64) y.1 from rfl, ← List.map_set]
      congr 1
      rw [List.set_append, if_neg (by simp [List.length_take]; omega)]
      simp [List.length_take, Nat.min_eq_left (Nat.le_of_lt hi)]
    have hlen : ∀ i, i ≤ m → (((x.me.map Prod.fst).take i ++ List.replicate (m - i) 0).map (V.int .i64)).length = m := fun i hi => by simp [List.length_take]; omega
    have hsc : ∀ i, (((x.me.map Prod.fst).take i ++ List.replicate (m - i) 0).map (V.int .i64)).map (scrC 7) = (((x.me.map Prod.fst).take i ++ List.replicate (m - i) 0).map (V.int .i64)) := fun i => scr_i1 _ 7
    have hst : (List.replicate m (0 : Int)).map (V.int .i64) = ((x.me.map Prod.fst).take 0 ++ List.replicate (m - 0) 0).map (V.int .i64) := by simp
    have hen : ((x.me.map Prod.fst).take m ++ List.replicate (m - m) 0).map (V.int .i64) = (x.me.map Prod.fst).map (V.int .i64) := by simp [← hm, List.take_of_length_le]
    have hch := chunks_i1 (x.me.map Prod.fst)
    have hmm : (x.me.map Prod.fst).length = m := by simp [hm]
    rw [arF_some hx1]
    have hpu := pure_i1 (x.me.map Prod.fst)
    generalize hR : x.me.map Prod.fst = R at hst hen hrow hlen hch hmm hpu hsc ⊢
    clear hR
    rw [hmm] at hch
    generalize hF : (fun i : Nat => ((R.take i ++ List.replicate (m - i) 0).map (V.int .i64))) = F
    have hFi : ∀ i, ((R.take i ++ List.replicate (m - i) 0).map (V.int .i64)) = F i := fun i => by rw [← hF]
    simp only [hFi] at hst hen hrow hlen hsc
    clear hF hFi hx
    have hri := repl_i m
    have f5 : 8 * (m : Int) ≤ 281474976710656 := by omega
    have f6 : (m : Int) ≤ 9223372036854775807 := by omega
    rw [List.map_replicate] at hst
    replace hrow : Hid (_) := hrow
    replace hlen : Hid (_) := hlen
    replace hsc : Hid (_) := hsc
    replace hen : Hid (_) := hen
    replace hst : Hid (_) := hst
    refine pcall_cx noTab_ok mixed (fun _ => none) Try.func25 rfl Try.ntmps25 Try.results25 (by simp) (by kernel_rfl) ?_
    repeat' first
      | (with_reducible refine gw_bool (fun _ => ?_) (fun _ => ?_))
      | (with_reducible refine condw_bool (fun _ => ?_) (fun _ => ?_))
      | simp [*, Sc.cs]
    refine lp_go (D := (fun _ => none)) noTab_ok mixed (by kernel_rfl) [5, 27, 28] [7] (α := Nat) (fun i e h => i ≤ m ∧ e 29 = .int .i64 i ∧ h 22 = some ⟨3, F i⟩) (fun i => m - i) 0 ?_ ?_
    · exact ⟨by omega, by simp, by rw [← hst.out]; simp [*]⟩
    rintro i e h hk hkh ⟨hi, g7, g22⟩
    simp [Keep] at hk
    simp [KeepH] at hkh
    by_cases hlt : i < m
    · obtain ⟨y, hy, hy'⟩ := at_ex (l := x.me) (i := i) (by omega)
      have f2 : ilt (i : Int) (m : Int) = true := ilt_t (by omega)
      have w1 : IntKind.i64.wrap ((i : Int) + 1) = ((i + 1 : Nat) : Int) := wrap_succ (by omega)
      have hr := hrow.out i y hy
      have hl := hlen.out i (by omega)
      have hc := hsc.out i
      generalize F i = C at g22 hr hl hc
      replace hr : Hid (_) := hr
      clear hst hen hrow hlen hch hri hsc
      have f7 : i + 1 ≤ m := by omega
      repeat' first
        | (with_reducible refine gw_bool (fun _ => ?_) (fun _ => ?_))
        | (with_reducible refine condw_bool (fun _ => ?_) (fun _ => ?_))
        | simp [*, p2, setsV]
      refine nxt_go (i + 1) ((View.forget _ _ 7)) (by omega) (by simp [*, Keep, St.forget, scr, scrC, usesC, usesA]) (by simp [*, KeepH, St.forget, scr, scrC]) ?_
      refine ⟨by omega, by simp [*, St.forget, scr, scrC], ?_⟩
      rw [← hr.out]; simp [*, St.forget, scr, scrC, scrI_comp]
    · have f2 : ilt (i : Int) (m : Int) = false := ilt_f (by omega)
      have e2 : i = m := by omega
      rw [e2, hen.out] at g22
      clear hst hen hrow hlen hri hsc
      repeat' first
        | (with_reducible refine gw_bool (fun _ => ?_) (fun _ => ?_))
        | (with_reducible refine condw_bool (fun _ => ?_) (fun _ => ?_))
        | simp [*]
  · have f1 : ilt (j : Int) (n : Int) = false := ilt_f (by omega)
    have hnone : L[j]? = none := by rw [List.getElem?_eq_none_iff]; omega
    rw [arF_none hnone]
    refine PCall.weaken ?_ (WkL.refl _) (Wk.nils 1)
    clear hnone
    refine pcall_cx noTab_ok mixed (fun _ => none) Try.func25 rfl Try.ntmps25 Try.results25 (by simp) (by kernel_rfl) ?_
    repeat' first
      | (with_reducible refine gw_bool (fun _ => ?_) (fun _ => ?_))
      | (with_reducible refine condw_bool (fun _ => ?_) (fun _ => ?_))
      | simp [*]
theorem sgnR_step {n : Nat} {me : List (Int × Int)} {i : Nat} {y : Int × Int} (h : me[i]? = some y) : sgnR n (me.take (i + 1)) = sgnS n (sgnR n (me.take i)) y := by
  rw [take_snoc h, sgnR, List.foldl_append]; rfl
theorem signs_ok (L : List Sc) (k n : Int) (hL : L.length ≤ 1000) (hx : ∀ x ∈ L, x.me.length ≤ 1000) : PCall Try.prog 22 [.list 3 (L.map Sc.cs), .int .i64 k, .int .i64 n] (.list 1 ((if k < 0 ∨ n < 0 ∨ 16 < n then [] else sgnF L k.toNat n.toNat).map i1)) := by
  obtain ⟨nl, hn⟩ : ∃ n, L.length = n := ⟨_, rfl⟩
  by_cases h0 : k < 0
  · rw [if_pos (.inl h0)]
    refine PCall.weaken ?_ (WkL.refl _) (Wk.nils 1)
    have f0 : ilt k 0 = true := ilt_t h0
    refine pcall_cx noTab_ok mixed (fun id => if id = 9 then some ⟨[(8, 28), (10, 8)], [4]⟩ else none) Try.func22 rfl Try.ntmps22 Try.results22 (by simp) (by kernel_rfl) ?_
    repeat' first
      | (with_reducible refine gw_bool (fun _ => ?_) (fun _ => ?_))
      | (with_reducible refine condw_bool (fun _ => ?_) (fun _ => ?_))
      | simp [*]
  obtain ⟨j, rfl⟩ : ∃ j : Nat, k = j := ⟨k.toNat, by omega⟩
  have f0 : ilt (j : Int) 0 = false := ilt_f (by omega)
  by_cases h1 : j < nl
  · have f1 : ilt (j : Int) (nl : Int) = true := ilt_t (by omega)
    by_cases h2 : n < 0
    · rw [if_pos (.inr (.inl h2))]
      refine PCall.weaken ?_ (WkL.refl _) (Wk.nils 1)
      have f2 : ilt n 0 = true := ilt_t h2
      refine pcall_cx noTab_ok mixed (fun id => if id = 9 then some ⟨[(8, 28), (10, 8)], [4]⟩ else none) Try.func22 rfl Try.ntmps22 Try.results22 (by simp) (by kernel_rfl) ?_
      repeat' first
        | (with_reducible refine gw_bool (fun _ => ?_) (fun _ => ?_))
        | (with_reducible refine condw_bool (fun _ => ?_) (fun _ => ?_))
        | simp [*]
    have f2 : ilt n 0 = false := ilt_f (by omega)
    by_cases h3 : 16 < n
    · rw [if_pos (.inr (.inr h3))]
      refine PCall.weaken ?_ (WkL.refl _) (Wk.nils 1)
      have f3 : ilt 16 n = true := ilt_t h3
      refine pcall_cx noTab_ok mixed (fun id => if id = 9 then some ⟨[(8, 28), (10, 8)], [4]⟩ else none) Try.func22 rfl Try.ntmps22 Try.results22 (by simp) (by kernel_rfl) ?_
      repeat' first
        | (with_reducible refine gw_bool (fun _ => ?_) (fun _ => ?_))
        | (with_reducible refine condw_bool (fun _ => ?_) (fun _ => ?_))
        | simp [*]
    have f3 : ilt 16 n = false := ilt_f (by omega)
    rw [if_neg (by omega)]
    obtain ⟨b, rfl⟩ : ∃ b : Nat, n = b := ⟨n.toNat, by omega⟩
    obtain ⟨x, hx1, hx2⟩ := at_ex (l := L) (i := j) (by omega)
    have hxl := hx x (List.mem_of_getElem? hx1)
    obtain ⟨m, hm⟩ : ∃ m, x.me.length = m := ⟨_, rfl⟩
    have hv : sgnF L (j : Int).toNat (b : Int).toNat = (sgnR b x.me).1 := by simp [sgnF, hx1]
    rw [hv]
    clear hv hx
    have f5 : 8 * (b : Int) ≤ 281474976710656 := by omega
    have f6 : (b : Int) ≤ 9223372036854775807 := by omega
    have hS0 : sgnR b (x.me.take 0) = (List.replicate b 0, List.replicate 16 false) := rfl
    have hSe : sgnR b (x.me.take m) = sgnR b x.me := by rw [← hm, List.take_length]
    have hSs : ∀ i y, x.me[i]? = some y → sgnR b (x.me.take (i + 1)) = sgnS b (sgnR b (x.me.take i)) y := fun i y h => sgnR_step h
    have hSl : ∀ i, (sgnR b (x.me.take i)).1.length = b ∧ (sgnR b (x.me.take i)).2.length = 16 := fun i => sgnR_len b _
    generalize hF : (fun i : Nat => sgnR b (x.me.take i)) = F
    have hFi : ∀ i, sgnR b (x.me.take i) = F i := fun i => by rw [← hF]
    simp only [hFi] at hS0 hSe hSs hSl
    rw [← hSe]
    clear hF hFi hSe
    have hri := repl_i b
    have hz : ((F 0).1.map (V.int .i64)) = List.replicate b (V.int .i64 0) := by rw [hS0]; simp
    have hz2 : ((F 0).2.map V.bool) = List.replicate 16 (V.bool false) := by rw [hS0]; simp
    replace hSs : Hid (_) := hSs
    replace hSl : Hid (_) := hSl
    replace hz : Hid (_) := hz
    replace hz2 : Hid (_) := hz2
    refine pcall_cx noTab_ok mixed (fun id => if id = 9 then some ⟨[(8, 28), (10, 8)], [4]⟩ else none) Try.func22 rfl Try.ntmps22 Try.results22 (by simp) (by kernel_rfl) ?_
    repeat' first
      | (with_reducible refine gw_bool (fun _ => ?_) (fun _ => ?_))
      | (with_reducible refine condw_bool (fun _ => ?_) (fun _ => ?_))
      | simp [*, Sc.cs]
    refine lp_go (D := (fun id => if id = 9 then some ⟨[(8, 28), (10, 8)], [4]⟩ else none)) noTab_ok mixed (by kernel_rfl) [2, 7, 8, 33, 34] [10] (α := Nat) (fun i e h => i ≤ m ∧ e 35 = .int .i64 i ∧ h 28 = some ⟨3, (F i).1.map (V.int .i64)⟩ ∧ h 8 = some ⟨107, (F i).2.map V.bool⟩) (fun i => m - i) 0 ?_ ?_
    · exact ⟨by omega, by simp, by rw [hz.out]; simp [*], by rw [hz2.out]; simp [*]⟩
    rintro i e h hk hkh ⟨hi, g7, g28, g8⟩
    simp [Keep] at hk
    simp [KeepH] at hkh
    by_cases hlt : i < m
    · obtain ⟨⟨y1, y2⟩, hy, hy'⟩ := at_ex (l := x.me) (i := i) (by omega)
      have f2 : ilt (i : Int) (m : Int) = true := ilt_t (by omega)
      have w1 : IntKind.i64.wrap ((i : Int) + 1) = ((i + 1 : Nat) : Int) := wrap_succ (by omega)
      have hr := hSs.out i _ hy
      have hl := hSl.out i
      obtain ⟨Fi, hFi⟩ : ∃ Fi, F i = Fi := ⟨_, rfl⟩
      rw [hFi] at g28 g8 hr hl
      obtain ⟨C, T⟩ := Fi
      simp only at g28 g8 hr hl
      obtain ⟨hlC, hlT⟩ := hl
      have hsC := scr_i1 C 10
      have hsT := scr_b1 T 10
      clear hSs hSl hz hz2 hFi hri
      cases q1 : ilt y1 0
      · cases q2 : ilt y1 (b : Int)
        · have hr' : F (i + 1) = (C, T) := by rw [hr]; simp [sgnS, q1, q2]
          replace hr' : Hid (_) := hr'
          clear hr
          repeat' first
            | (with_reducible refine gw_bool (fun _ => ?_) (fun _ => ?_))
            | (with_reducible refine condw_bool (fun _ => ?_) (fun _ => ?_))
            | simp [*, p2, setsV]
          refine nxt_go (i + 1) ((View.forget _ _ 10)) (by omega) (by simp [*, Keep, St.forget, scr, scrC, usesC, usesA]) (by simp [*, KeepH, St.forget, scr, scrC]) ?_
          refine ⟨by omega, by simp [*, St.forget, scr, scrC], ?_, ?_⟩
          · rw [hr'.out]; simp [*, St.forget, scr, scrC]
          · rw [hr'.out]; simp [*, St.forget, scr, scrC]
        · have hy1 : 0 ≤ y1 := by have := ilt_iff'.1 q1; omega
          have hy2 := ilt_iff.1 q2
          obtain ⟨u, rfl⟩ : ∃ u : Nat, y1 = u := ⟨y1.toNat, by omega⟩
          obtain ⟨t, ht, ht'⟩ := at_ex (l := T) (i := u) (by omega)
          have f8 : u < b := by omega
          have f9 : u < 16 := by omega
          have f12 : (u : Int) < 16 := by omega
          have f10 : u + 1 ≤ b := by omega
          have f11 : u + 1 ≤ 16 := by omega
          cases t
          · have hr' : F (i + 1) = (C.set u y2, T.set u true) := by rw [hr]; simp [sgnS, q1, q2, ht]
            replace hr' : Hid (_) := hr'
            clear hr
            repeat' first
              | (with_reducible refine gw_bool (fun _ => ?_) (fun _ => ?_))
              | (with_reducible refine condw_bool (fun _ => ?_) (fun _ => ?_))
              | simp [*, p2, setsV]
            refine nxt_go (i + 1) ((View.forget _ _ 10)) (by omega) (by simp [*, Keep, St.forget, scr, scrC, usesC, usesA]) (by simp [*, KeepH, St.forget, scr, scrC]) ?_
            refine ⟨by omega, by simp [*, St.forget, scr, scrC], ?_, ?_⟩
            · rw [hr'.out]; simp [*, St.forget, scr, scrC, List.map_set]
            · rw [hr'.out]; simp [*, St.forget, scr, scrC, List.map_set]
          · have hr' : F (i + 1) = (C, T) := by rw [hr]; simp [sgnS, q1, q2, ht]
            replace hr' : Hid (_) := hr'
            clear hr
            repeat' first
              | (with_reducible refine gw_bool (fun _ => ?_) (fun _ => ?_))
              | (with_reducible refine condw_bool (fun _ => ?_) (fun _ => ?_))
              | simp [*, p2, setsV]
            refine nxt_go (i + 1) ((View.forget _ _ 10)) (by omega) (by simp [*, Keep, St.forget, scr, scrC, usesC, usesA]) (by simp [*, KeepH, St.forget, scr, scrC]) ?_
            refine ⟨by omega, by simp [*, St.forget, scr, scrC], ?_, ?_⟩
            · rw [hr'.out]; simp [*, St.forget, scr, scrC]
            · rw [hr'.out]; simp [*, St.forget, scr, scrC]
      · have hr' : F (i + 1) = (C, T) := by rw [hr]; simp [sgnS, q1]
        replace hr' : Hid (_) := hr'
        clear hr
        repeat' first
          | (with_reducible refine gw_bool (fun _ => ?_) (fun _ => ?_))
          | (with_reducible refine condw_bool (fun _ => ?_) (fun _ => ?_))
          | simp [*, p2, setsV]
        refine nxt_go (i + 1) ((View.forget _ _ 10)) (by omega) (by simp [*, Keep, St.forget, scr, scrC, usesC, usesA]) (by simp [*, KeepH, St.forget, scr, scrC]) ?_
        refine ⟨by omega, by simp [*, St.forget, scr, scrC], ?_, ?_⟩
        · rw [hr'.out]; simp [*, St.forget, scr, scrC]
        · rw [hr'.out]; simp [*, St.forget, scr, scrC]
    · have f2 : ilt (i : Int) (m : Int) = false := ilt_f (by omega)
      have e2 : i = m := by omega
      rw [e2] at g28
      have hl := (hSl.out m).1
      generalize (F m).1 = R at g28 hl
      have hch := chunks_i1 R
      have hpu := pure_i1 R
      rw [hl] at hch
      clear hSs hSl hz hz2 hri
      repeat' first
        | (with_reducible refine gw_bool (fun _ => ?_) (fun _ => ?_))
        | (with_reducible refine condw_bool (fun _ => ?_) (fun _ => ?_))
        | simp [*]
  · have f1 : ilt (j : Int) (nl : Int) = false := ilt_f (by omega)
    have hnone : L[j]? = none := by rw [List.getElem?_eq_none_iff]; omega
    have hv : (if (j : Int) < 0 ∨ n < 0 ∨ 16 < n then [] else sgnF L (j : Int).toNat n.toNat) = [] := by
      split
      · rfl
      · simp [sgnF, hnone]
    rw [hv]
    refine PCall.weaken ?_ (WkL.refl _) (Wk.nils 1)
    clear hnone hv
    refine pcall_cx noTab_ok mixed (fun id => if id = 9 then some ⟨[(8, 28), (10, 8)], [4]⟩ else none) Try.func22 rfl Try.ntmps22 Try.results22 (by simp) (by kernel_rfl) ?_
    repeat' first
      | (with_reducible refine gw_bool (fun _ => ?_) (fun _ => ?_))
      | (with_reducible refine condw_bool (fun _ => ?_) (fun _ => ?_))
      | simp [*]
end Go.Proofs.Ytjhmphkdkclbjaa
end
section
namespace Go.Proofs.Ytjhmphkdkclbjaa
open Go.Pv Go.RowKit
set_option linter.unusedSimpArgs false
set_option linter.unusedVariables false
set_option maxRecDepth 100000
set_option maxHeartbeats 4000000
attribute [-simp] Tclo_at Tgrp_at Tchk Tpchk TcI TcB Tclo Tgrp Tsid Tnod Tlook Tbnd Tres TSd TBd Tix Tcon Tgps Tsg Tmv Tidx Tnms Tnmd Tobj Tlks Tbay Trck Trpc Trg Trf Trsd Trnd Tar Ttwo Tof Tnm Tat Trof Tsm Tsl Tk33
noncomputable section
def sgn2 (L : List Sc) (k n : Int) : List Int := if k < 0 ∨ n < 0 ∨ 16 < n then [] else sgnF L k.toNat n.toNat
def Tard : List V → Option V
  | [.list 3 xs, .int .i64 b] => (match decL unSc xs with
    | some L => if smallSc L = true then some (.list 1 ((arF L b).map i1)) else none
    | _ => none)
  | _ => none
theorem Tard_at {L : List Sc} {b : Int} (h : smallSc L = true) : Tard [.list 3 (L.map Sc.cs), .int .i64 b] = some (.list 1 ((arF L b).map i1)) := by simp [Tard, decL_map unSc_cs, h]
theorem smallSc_me {L : List Sc} (h : smallSc L = true) : L.length ≤ 1000 ∧ ∀ x ∈ L, x.me.length ≤ 1000 := by
  simp only [smallSc, Bool.and_eq_true, decide_eq_true_eq, List.all_eq_true] at h
  exact ⟨h.1, fun x hx => (h.2 x hx).2⟩
theorem ard_tab : ∀ vs v, Tard vs = some v → PCall Try.prog 25 vs v := by
  intro vs v h; unfold Tard at h; split at h
  · split at h
    · rename_i h1
      split at h
      · rename_i hl; cases h; rw [decL_inv unSc_inv _ _ h1]; exact around_ok _ _ (smallSc_me hl).1 (smallSc_me hl).2
      · cases h
    · cases h
  · cases h
def Tsgs : List V → Option V
  | [.list 3 xs, .int .i64 b, .int .i64 n] => (match decL unSc xs with
    | some L => if smallSc L = true then some (.list 1 ((sgn2 L b n).map i1)) else none
    | _ => none)
  | _ => none
theorem Tsgs_at {L : List Sc} {b n : Int} (h : smallSc L = true) : Tsgs [.list 3 (L.map Sc.cs), .int .i64 b, .int .i64 n] = some (.list 1 ((sgn2 L b n).map i1)) := by simp [Tsgs, decL_map unSc_cs, h]
theorem sgs_tab : ∀ vs v, Tsgs vs = some v → PCall Try.prog 22 vs v := by
  intro vs v h; unfold Tsgs at h; split at h
  · split at h
    · rename_i h1
      split at h
      · rename_i hl; cases h; rw [decL_inv unSc_inv _ _ h1]; exact signs_ok _ _ _ (smallSc_me hl).1 (smallSc_me hl).2
      · cases h
    · cases h
  · cases h
def HM : Tab := add 25 Tard (add 22 Tsgs (HL))
theorem HM_at (f : FuncId) (vs : List V) : HM.at' f vs = if f = 25 then Tard vs else if f = 22 then Tsgs vs else HL.at' f vs := rfl
theorem HM_fr (f : FuncId) : HM.fr f = if f = 25 then false else if f = 22 then false else HL.fr f := rfl
theorem HM_gb (f : FuncId) : HM.gb f = HL.gb f := rfl
theorem HM_gv (f : FuncId) (vs : List V) : HM.gv f vs = HL.gv f vs := rfl
attribute [simp] HM_at HM_fr HM_gb HM_gv Tard Tsgs
theorem HM_ok : TabOK Try.prog HM := by
  refine add_ok (add_ok (HL_ok) (by kernel_rfl) ?_) (by kernel_rfl) ?_
  · exact sgs_tab
  · exact ard_tab
attribute [-simp] Tard Tsgs
def st0 : Stn := ⟨⟨#[]⟩, [], [], [], []⟩
def po0 : Pos := ⟨[], []⟩
theorem of3 : ofW st2 po0 = .tup [.list 3 [], .int .i64 3] := by kernel_rfl
theorem of4 : ofW st0 po0 = .tup [.list 3 [], .int .i64 7] := by kernel_rfl
theorem Tof_nil1 : Tof [.agg st2.cs, .agg [.nils, .nils]] = some (ofW st2 po0) := by
  have e1 := unStn_cs st2
  unfold Stn.cs at e1
  simp [Tof, Stn.cs, nzS, nzP, nz, e1, unPos, decL, lenB, po0]
  show (1 : Nat) ≤ _
  omega
theorem Tof_nil2 : Tof [.agg [.str ⟨#[]⟩, .nils, .nils, .nils, .nils], .agg [.nils, .nils]] = some (ofW st0 po0) := by
  simp [Tof, nzS, nzP, nz, unStn, unPos, decL, lenB, po0, st0]
theorem Examples_ok : PCall Try.prog 6 [] (.bool true) := by
  have hT0 : Ttwo [] = some (.agg st2.cs) := rfl
  have hT1 := Tof_nil1
  have hT2 := Tof_at (s := st2) (p := po2) (by kernel_rfl)
  have hT3 := Tof_nil2
  have hTn := Tnm_at st2_chk
  have hTa := Tat_at (L := sx2) (b := 2) (by kernel_rfl)
  have hA0 := Tard_at (L := sx2) (b := 0) (by kernel_rfl)
  have hA1 := Tard_at (L := sx2) (b := 1) (by kernel_rfl)
  have hA2 := Tard_at (L := sx2) (b := 2) (by kernel_rfl)
  have hS1 := Tsgs_at (L := sx2) (b := 0) (n := 1) (by kernel_rfl)
  have hS2 := Tsgs_at (L := sx2) (b := 0) (n := 17) (by kernel_rfl)
  have hK : Tk33 [] = some (.bool true) := rfl
  rw [of3] at hT1
  rw [of2] at hT2
  rw [of4] at hT3
  rw [show atF sx2 2 = -1 by kernel_rfl] at hTa
  rw [show arF sx2 0 = [0] by kernel_rfl] at hA0
  rw [show arF sx2 1 = [] by kernel_rfl] at hA1
  rw [show arF sx2 2 = [] by kernel_rfl] at hA2
  rw [show sgn2 sx2 0 1 = [1] by kernel_rfl] at hS1
  rw [show sgn2 sx2 0 17 = [] by kernel_rfl] at hS2
  rw [show normP st2 = po2 from rfl] at hTn
  generalize hSX : sx2.map Sc.cs = SX at hT2 hTa hA0 hA1 hA2 hS1 hS2
  generalize po2 = P2 at hT2 hTn
  generalize st2 = X at hT0 hT1 hT2 hTn
  simp only [Stn.cs] at hT0 hT1
  simp only [Pos.cs] at hTn
  simp only [List.map_cons, List.map_nil, i1] at hA0 hA1 hA2 hS1 hS2
  clear hSX
  refine pcall_cx HM_ok mixed (fun _ => none) Try.func6 rfl Try.ntmps6 Try.results6 (by simp) (by kernel_rfl) ?_
  repeat' first
    | (with_reducible refine gw_bool (fun _ => ?_) (fun _ => ?_))
    | (with_reducible refine condw_bool (fun _ => ?_) (fun _ => ?_))
    | simp [*]
end
end Go.Proofs.Ytjhmphkdkclbjaa
end
section
namespace Go.Proofs.Ytjhmphkdkclbjaa
open Go.Pv Go.RowKit
set_option linter.unusedSimpArgs false
set_option linter.unusedVariables false
set_option maxRecDepth 100000

/-- What is closed in the first position is closed in the second one. -/
def Sub2 (p q : Pos) : Prop := ∀ (i : Nat) (l l' : List Int), p.lk[i]? = some l → q.lk[i]? = some l' → l.length = l'.length ∧ ∀ (j : Nat) (x y : Int), l[j]? = some x → l'[j]? = some y → ieq x 1 = true → ieq y 1 = true
theorem grpN_fin2 {s : Stn} {p q : Pos} (hF : Fine s) (hk : p.lk.length = s.qs.length) (hk' : q.lk.length = s.qs.length) (hs : Sub2 p q) : ∀ k, k ≤ s.qs.length → Fin2 (grpN s p k) (grpN s q k)
  | 0, _ => by
    intro i x hx
    obtain ⟨u, hu, hui, hGu⟩ := can_ini s.bs.length i x (by simpa [grpN] using hx)
    have hx' : (ini0 s.bs.length)[i]? = some x := by simpa [grpN] using hx
    exact ⟨u, hu, by simp only [grpN, List.take_zero, List.foldl_nil]; rw [hGu, hx']⟩
  | k + 1, hle => by
    obtain ⟨b, hb, _⟩ := at_ex (l := s.qs) (i := k) (by omega)
    obtain ⟨l, hl, _⟩ := at_ex (l := p.lk) (i := k) (by omega)
    obtain ⟨l', hl', _⟩ := at_ex (l := q.lk) (i := k) (by omega)
    have ih := grpN_fin2 hF hk hk' hs k (by omega)
    obtain ⟨hll, hcl⟩ := hs k l l' hl hl'
    rw [grpN_step hb hl, grpN_step hb hl']
    have hA : (grpN s p k).length = s.bs.length := grpN_len _ _ _
    have hB : (grpN s q k).length = s.bs.length := grpN_len _ _ _
    have hbus := (hF.lk b (List.mem_of_getElem? hb)).1
    rcases stG_cases (grpN s q k) b l' with ⟨h1, hno⟩ | ⟨h3, a, c, x, y, hlk, hl2, hx, hy, h1⟩
    · rw [h1]
      rcases stG_cases (grpN s p k) b l with ⟨h0, _⟩ | ⟨h3, a, c, x, y, hlk, hl2, hx, hy, h0⟩
      · rw [h0]; exact ih
      · exfalso
        apply hno
        subst hl2
        match l', hll, hcl with
        | [x', y'], _, hcl =>
          exact ⟨h3, a, c, _, _, hlk, rfl, hcl 0 x x' rfl rfl hx, hcl 1 y y' rfl rfl hy⟩
    · rw [h1]
      obtain ⟨u, hu0, _, hu⟩ := g0_at (G := grpN s q k) (b := a.bus) (by rw [hB]; exact hbus a (by simp [hlk]))
      obtain ⟨v, hv0, _, hv⟩ := g0_at (G := grpN s q k) (b := c.bus) (by rw [hB]; exact hbus c (by simp [hlk]))
      rcases stG_cases (grpN s p k) b l with ⟨h0, _⟩ | ⟨_, a', c', x', y', hlk', hll', hx', hy', h0⟩
      · rw [h0]; exact fin_right ih _
      · rw [h0]
        rw [hlk] at hlk'
        simp at hlk'
        obtain ⟨rfl, rfl⟩ := hlk'
        obtain ⟨u', hu0', _, hu'⟩ := g0_at (G := grpN s p k) (b := a.bus) (by rw [hA]; exact hbus a (by simp [hlk]))
        obtain ⟨v', hv0', _, hv'⟩ := g0_at (G := grpN s p k) (b := c.bus) (by rw [hA]; exact hbus c (by simp [hlk]))
        have eu : u' = u := by omega
        have ev : v' = v := by omega
        subst eu; subst ev
        exact fin_both ih hu' hv' hu hv
theorem sub_res (p : Pos) : Sub2 p (resP p true) := by
  intro i l l' h1 h2
  simp only [resP, List.getElem?_map, h1, Option.map_some, Option.some.injEq] at h2
  subst h2
  refine ⟨by simp, fun j x y hx hy hc => ?_⟩
  simp only [List.getElem?_map, hx, Option.map_some, Option.some.injEq] at hy
  subst hy
  have := ieq_iff.1 hc
  subst this
  simp [resF, resZ, ieq]
theorem g0_map {G : List Int} {f : Int → Int} {b : Int} (h : 0 ≤ b ∧ b < G.length) : g0 (G.map f) b = f (g0 G b) := by
  obtain ⟨u, rfl, hu, hG⟩ := g0_at h
  simp [g0, gAt, hu]
theorem grpN_join {s : Stn} {p : Pos} (hF : Fine s) (hk : p.lk.length = s.qs.length) {i : Nat} {b : By} {l : List Int} (hb : s.qs[i]? = some b) (hl : p.lk[i]? = some l) (h3 : ieq b.kind 3 = false) {a c : Lk} {x y : Int} (hlk : b.lks = [a, c]) (hll : l = [x, y]) (hx : ieq x 1 = true) (hy : ieq y 1 = true) : ∀ k, i < k → k ≤ s.qs.length → g0 (grpN s p k) a.bus = g0 (grpN s p k) c.bus
  | 0, h, _ => absurd h (by omega)
  | k + 1, hik, hle => by
    have hlen : (grpN s p k).length = s.bs.length := grpN_len s p k
    have hbus := (hF.lk b (List.mem_of_getElem? hb)).1
    have ha := hbus a (by simp [hlk])
    have hc := hbus c (by simp [hlk])
    by_cases hi : i = k
    · subst hi
      rw [grpN_step hb hl]
      rcases stG_cases (grpN s p i) b l with ⟨_, hno⟩ | ⟨_, a', c', x', y', hlk', hll', _, _, h⟩
      · exact absurd ⟨h3, a, c, x, y, hlk, hll, hx, hy⟩ hno
      · rw [hlk] at hlk'
        simp at hlk'
        obtain ⟨rfl, rfl⟩ := hlk'
        rw [h, merge, g0_map (by rw [hlen]; exact ha), g0_map (by rw [hlen]; exact hc), mgHit (by simp [ieq]), mgHit (by simp [ieq])]
    · have ih := grpN_join hF hk hb hl h3 hlk hll hx hy k (by omega) (by omega)
      obtain ⟨b2, hb2, _⟩ := at_ex (l := s.qs) (i := k) (by omega)
      obtain ⟨l2, hl2, _⟩ := at_ex (l := p.lk) (i := k) (by omega)
      rw [grpN_step hb2 hl2]
      rcases stG_cases (grpN s p k) b2 l2 with ⟨h, _⟩ | ⟨_, a', c', x', y', _, _, _, _, h⟩
      · rw [h]; exact ih
      · rw [h, merge, g0_map (by rw [hlen]; exact ha), g0_map (by rw [hlen]; exact hc), ih]
/-- The groups of a position and those with more links closed. -/
structure GG (G H : List Int) (n : Nat) : Prop where
  lG : G.length = n
  lH : H.length = n
  own : ∀ b : Int, 0 ≤ b → b < n → 0 ≤ g0 G b ∧ g0 G b < n ∧ g0 G (g0 G b) = g0 G b
  fin : ∀ b : Int, 0 ≤ b → b < n → g0 H (g0 G b) = g0 H b
theorem gg_of {s : Stn} {p q : Pos} (hF : Fine s) (hk : p.lk.length = s.qs.length) (hk' : q.lk.length = s.qs.length) (hs : Sub2 p q) : GG (grp s p) (grp s q) s.bs.length := by
  have cA : Can (grp s p) := grpN_can hF hk _ (Nat.le_refl _)
  have fAB : Fin2 (grp s p) (grp s q) := grpN_fin2 hF hk hk' hs _ (Nat.le_refl _)
  have hA : (grp s p).length = s.bs.length := grpN_len _ _ _
  have hB : (grp s q).length = s.bs.length := grpN_len _ _ _
  refine ⟨hA, hB, fun b h1 h2 => ?_, fun b h1 h2 => ?_⟩
  · obtain ⟨u, rfl, hu, hG⟩ := g0_at (G := grp s p) (b := b) (by rw [hA]; exact ⟨h1, h2⟩)
    obtain ⟨v, hv, hvu, hGv⟩ := cA u _ hG
    rw [hv] at hGv ⊢
    refine ⟨by omega, by omega, ?_⟩
    simp [g0, gAt, hGv]
  · obtain ⟨u, rfl, hu, hG⟩ := g0_at (G := grp s p) (b := b) (by rw [hA]; exact ⟨h1, h2⟩)
    obtain ⟨v, hv, hE⟩ := fAB u _ hG
    rw [hv]
    simp [g0, gAt, hE]
end Go.Proofs.Ytjhmphkdkclbjaa
end
section
namespace Go.Proofs.Ytjhmphkdkclbjaa
open Go.Pv Go.RowKit
set_option linter.unusedSimpArgs false
set_option linter.unusedVariables false
set_option maxRecDepth 100000
set_option maxHeartbeats 4000000

/-! ### a region in any order, with gifts -/
def cOpX (Γ : Tab) (ops : Array Oper) (i : Nat) (K : St → Prop) (st : St) : Prop := match ops[i]? with
  | none => K st
  | some o => egX Try.prog Γ ops [o] K st
def cAnyX (Γ : Tab) (ops : Array Oper) (K : St → Prop) : Nat → Array Bool → St → Prop
  | 0, listed, st => Region.ready .any ops listed = [] ∧ K st
  | fuel + 1, listed, st => (Region.ready .any ops listed = [] → K st) ∧ ∀ i ∈ Region.ready .any ops listed, cOpX Γ ops i (cAnyX Γ ops K fuel (listed.setIfInBounds i true)) st
theorem wpAny_of_cAnyX {Γ : Tab} (hΓ : TabOK Try.prog Γ) {n : Nat} {w0 : Base} {ops : Array Oper} (hf : ops.toList.all (fun o => fits n o.dst) = true) {K : St → Prop} {Q : Exit → Act → World → Prop} {ro0 : Nat → Prop} (hQ : ∀ a' ro' lam' w' st', Ext w0 ro0 ro' → Sim w0 n ro' lam' st' a' w' → K st' → Q .normal a' w') :
    ∀ (fuel : Nat) (listed : Array Bool) (st : St) (ro : Nat → Prop) (lam : Lam) (a : Act) (w : World), Ext w0 ro0 ro → Sim w0 n ro lam st a w → cAnyX Γ ops K fuel listed st → wpAny Try.prog .any ops Q fuel listed a w
  | 0, listed, st, ro, lam, a, w, hext, hs, h => ⟨h.1, hQ _ _ _ _ _ hext hs h.2⟩
  | fuel + 1, listed, st, ro, lam, a, w, hext, hs, h => by
    refine ⟨fun h0 => hQ _ _ _ _ _ hext hs (h.1 h0), fun i hi => ?_⟩
    have h1 := h.2 i hi
    unfold cOpX at h1
    unfold wpOp
    split
    · rename_i ho
      simp only [ho] at h1
      exact wpAny_of_cAnyX hΓ hf hQ fuel _ st ro lam a w hext hs h1
    · rename_i o ho
      simp only [ho] at h1
      have hfo : fits n o.dst = true := List.all_eq_true.1 hf o (List.mem_of_getElem? (i := i) (by simpa using ho))
      unfold egX gw at h1
      cases hw : wantV ops st o.guard with
      | none => rw [hw] at h1; exact h1.elim
      | some b =>
        rw [hw] at h1
        rw [wantV_sound hs hw]
        cases b with
        | true =>
          rw [if_pos rfl]
          exact .inl (swX_sound hΓ hs hfo h1 fun st' a' ro' lam' w' k hx hs' => wpAny_of_cAnyX hΓ hf hQ fuel _ st' ro' lam' a' w' (hext.trans hx) hs' k)
        | false =>
          rw [if_neg (by simp)]
          exact wpAny_of_cAnyX hΓ hf hQ fuel _ _ ro lam _ w hext (hs.put hfo (.pure _ _ .undef)) h1
theorem cw_anyX {Γ : Tab} (hΓ : TabOK Try.prog Γ) {n id : Nat} {ops : Array Oper} {Q : Exit → St → Prop} {st : St} (hf : ops.toList.all (fun o => fits n o.dst) = true) (m : Nat) (hm : ops.size = m) (h : ∀ (O : Array Oper) (K : St → Prop), Hid (O = ops) → Hid (∀ s, Q .normal s → K s) → cAnyX Γ O K m (Array.replicate m false) st) : CW Try.prog n (.region id ops true) Q st := by
  subst hm
  intro w0 ro lam a w hs
  have hs' : Sim w0 n ro lam st a { w with drawn := w.drawn + 1 } := hs.world ((Below.refl _ _).drew)
  exact wp_region_any mixed (wpAny_of_cAnyX hΓ hf (fun a' ro' lam' w' s hext hs hk => ⟨s, ro', lam', hk, hext, hs⟩) _ _ st ro lam a _ (Ext.refl _ _) hs' (h ops (Q .normal) rfl (fun s hs => hs)))
/-- One step of it: which operations are ready. -/
theorem cany1 {Γ : Tab} {ops : Array Oper} {K : St → Prop} {fuel : Nat} {listed : Array Bool} {st : St} (i : Nat) {o : Oper} (hl : Region.ready .any ops listed = [i]) (ho : ops[i]? = some o) (h : egX Try.prog Γ ops [o] (cAnyX Γ ops K fuel (listed.setIfInBounds i true)) st) : cAnyX Γ ops K (fuel + 1) listed st :=
  ⟨fun e => (by rw [hl] at e; cases e), fun k hk => by
    rw [hl] at hk
    simp only [List.mem_cons, List.not_mem_nil, or_false] at hk
    subst hk
    unfold cOpX; simp only [ho]; exact h⟩
theorem cany2 {Γ : Tab} {ops : Array Oper} {K : St → Prop} {fuel : Nat} {listed : Array Bool} {st : St} (i j : Nat) {o o2 : Oper} (hl : Region.ready .any ops listed = [i, j]) (ho : ops[i]? = some o) (ho2 : ops[j]? = some o2) (h : egX Try.prog Γ ops [o] (cAnyX Γ ops K fuel (listed.setIfInBounds i true)) st) (h2 : egX Try.prog Γ ops [o2] (cAnyX Γ ops K fuel (listed.setIfInBounds j true)) st) : cAnyX Γ ops K (fuel + 1) listed st :=
  ⟨fun e => (by rw [hl] at e; cases e), fun k hk => by
    rw [hl] at hk
    simp only [List.mem_cons, List.not_mem_nil, or_false] at hk
    rcases hk with rfl | rfl
    · unfold cOpX; simp only [ho]; exact h
    · unfold cOpX; simp only [ho2]; exact h2⟩
theorem cany3 {Γ : Tab} {ops : Array Oper} {K : St → Prop} {fuel : Nat} {listed : Array Bool} {st : St} (i j l : Nat) {o o2 o3 : Oper} (hl : Region.ready .any ops listed = [i, j, l]) (ho : ops[i]? = some o) (ho2 : ops[j]? = some o2) (ho3 : ops[l]? = some o3) (h : egX Try.prog Γ ops [o] (cAnyX Γ ops K fuel (listed.setIfInBounds i true)) st) (h2 : egX Try.prog Γ ops [o2] (cAnyX Γ ops K fuel (listed.setIfInBounds j true)) st) (h3 : egX Try.prog Γ ops [o3] (cAnyX Γ ops K fuel (listed.setIfInBounds l true)) st) : cAnyX Γ ops K (fuel + 1) listed st :=
  ⟨fun e => (by rw [hl] at e; cases e), fun k hk => by
    rw [hl] at hk
    simp only [List.mem_cons, List.not_mem_nil, or_false] at hk
    rcases hk with rfl | rfl | rfl
    · unfold cOpX; simp only [ho]; exact h
    · unfold cOpX; simp only [ho2]; exact h2
    · unfold cOpX; simp only [ho3]; exact h3⟩
theorem cany0 {Γ : Tab} {ops : Array Oper} {K : St → Prop} {listed : Array Bool} {st : St} (hl : Region.ready .any ops listed = []) (h : K st) : cAnyX Γ ops K 0 listed st := ⟨hl, h⟩
/-! ### the rows -/
def rowG (lk : List (List Int)) (j : Nat) : List Int := lk.getD j []
theorem rowG_at {lk : List (List Int)} {j : Nat} {l : List Int} (h : lk[j]? = some l) : rowG lk j = l := by simp [rowG, h]
/-- The cells of the first i rows' slices; row j lies under the key j + K. -/
def famL (K : Nat) (lk : List (List Int)) (i : Nat) : List V := (List.range i).map fun j => .sl (j + K) 0 (rowG lk j).length 1
theorem famL_len (K : Nat) (lk : List (List Int)) (i : Nat) : (famL K lk i).length = i := by simp [famL]
theorem famL_step (K : Nat) (lk : List (List Int)) (i : Nat) : famL K lk (i + 1) = famL K lk i ++ [.sl (i + K) 0 (rowG lk i).length 1] := by simp [famL, List.range_succ]
theorem famL_scr {K : Nat} {lk : List (List Int)} {i k : Nat} (hk : k < K) : (famL K lk i).map (scrC k) = famL K lk i := by
  simp only [famL, List.map_map]
  refine List.map_congr_left fun j _ => ?_
  have h : (j + K == k) = false := by simp; omega
  simp [scrC, h]
theorem famL_rn {K : Nat} {lk : List (List Int)} {i a : Nat} (ha : a < K) : (famL K lk i).map (rnC (swp a (i + K))) = famL K lk i := by
  simp only [famL, List.map_map]
  refine List.map_congr_left fun j hj => ?_
  simp only [List.mem_range] at hj
  have h : swp a (i + K) (j + K) = j + K := by unfold swp; rw [if_neg (by omega), if_neg (by omega)]
  simp [rnC, h]
theorem famL_sh {K c : Nat} {lk : List (List Int)} {i : Nat} : (famL K lk i).map (shC c) = famL (c + K) lk i := by
  simp only [famL, List.map_map]
  refine List.map_congr_left fun j _ => ?_
  have h : c + (j + K) = j + (c + K) := by omega
  simp [shC, h]
theorem famL_at {K : Nat} {lk : List (List Int)} {n i : Nat} (h : i < n) : (famL K lk n)[i]? = some (.sl (i + K) 0 (rowG lk i).length 1) := by simp [famL, h]
def rowB (l : List Int) : Blk := ⟨3, l.map (V.int .i64)⟩
/-- The blocks of the rows. -/
def famB (K : Nat) (lk : List (List Int)) (n : Nat) : List (Nat × Blk) := (List.range n).map fun j => (j + K, rowB (rowG lk j))
theorem blk_mapR (K : Nat) (f : Nat → Blk) (k : Nat) : ∀ (l : List Nat), blkOf (l.map fun j => (j + K, f j)) k = (if K ≤ k ∧ k - K ∈ l then some (f (k - K)) else none)
  | [] => by simp [blkOf]
  | j :: l => by
    simp only [List.map_cons, blkOf, blk_mapR K f k l, List.mem_cons]
    by_cases e : k = j + K
    · subst e; simp
    · rw [if_neg e]
      by_cases h : K ≤ k ∧ k - K ∈ l
      · rw [if_pos h, if_pos ⟨h.1, .inr h.2⟩]
      · rw [if_neg h, if_neg]
        rintro ⟨h1, h2 | h2⟩
        · omega
        · exact h ⟨h1, h2⟩
theorem blk_fam (K : Nat) (lk : List (List Int)) (n k : Nat) : blkOf (famB K lk n) k = if K ≤ k ∧ k - K < n then some (rowB (rowG lk (k - K))) else none := by
  rw [famB, blk_mapR K (fun j => rowB (rowG lk j))]; simp
theorem keep_fam {h : Nat → Option Blk} {K : Nat} {lk : List (List Int)} : ∀ {l : List Nat}, (∀ j ∈ l, h (j + K) = some (rowB (rowG lk j))) → KeepBl h (l.map fun j => (j + K, rowB (rowG lk j)))
  | [], _ => trivial
  | j :: l, hl => ⟨hl j (by simp), keep_fam fun i hi => hl i (by simp [hi])⟩
theorem closed_fam {bl : List (Nat × Blk)} {K : Nat} {lk : List (List Int)} : ∀ {l : List Nat}, closedB bl (l.map fun j => (j + K, rowB (rowG lk j))) = true
  | [] => rfl
  | j :: l => by
    have hp : (rowB (rowG lk j)).cells.any ownC = false := pure_i1 _
    simp only [List.map_cons, closedB, hp, closed_fam, Bool.not_false, Bool.true_or, Bool.and_self]
theorem free_fam {h : Nat → Option Blk} {c K : Nat} {lk : List (List Int)} : ∀ {l : List Nat}, (∀ j ∈ l, h (c + (j + K)) = none) → freeK c (l.map fun j => (j + K, rowB (rowG lk j))) h
  | [], _ => trivial
  | j :: l, hl => ⟨hl j (by simp), free_fam fun i hi => hl i (by simp [hi])⟩
theorem put_fam_out {h : Nat → Option Blk} {c K n k : Nat} {lk : List (List Int)} (hk : k < c + K) : putK c (famB K lk n) h k = h k := by
  refine putK_out _ _ fun k' e => ?_
  rw [blk_fam, if_neg (by omega)]
theorem put_fam_in {h : Nat → Option Blk} {c K n j : Nat} {lk : List (List Int)} (hj : j < n) : putK c (famB K lk n) h (j + (c + K)) = some (rowB (rowG lk j)) := by
  have := putK_in (c := c) (h := h) (famB K lk n) (j + K) (rowB (rowG lk j)) (by rw [blk_fam, if_pos ⟨by omega, by omega⟩]; congr 3; omega)
  rw [show c + (j + K) = j + (c + K) by omega] at this
  rw [this]
  have hs : (rowB (rowG lk j)).cells.map (shC c) = (rowB (rowG lk j)).cells := sh_i1 _ _
  rw [hs]
theorem famL_in {bl : List (Nat × Blk)} {K : Nat} {lk : List (List Int)} {n : Nat} (h : ∀ j, j < n → (blkOf bl (j + K)).isSome = true) : (famL K lk n).all (inC bl) = true := by
  rw [List.all_eq_true]
  intro v hv
  simp only [famL, List.mem_map, List.mem_range] at hv
  obtain ⟨j, hj, rfl⟩ := hv
  exact h j hj
/-- All rows are lent. -/
theorem lend_fam {h : Nat → Option Blk} {K : Nat} {lk : List (List Int)} {R : Nat → List Int} : ∀ {l : List Nat}, (∀ j ∈ l, h (j + K) = some (rowB (R j)) ∧ (R j).length = (rowG lk j).length) → lend0L h (l.map fun j => .sl (j + K) 0 (rowG lk j).length 1) = some (l.map fun j => r0 (R j))
  | [], _ => rfl
  | j :: l, hl => by
    obtain ⟨h1, h2⟩ := hl j (by simp)
    have hp : (rowB (R j)).cells.any ownC = false := pure_i1 _
    have hc := chunks_i1 (R j)
    have hx : lend0 h (.sl (j + K) 0 (rowG lk j).length 1) = some (r0 (R j)) := by
      have hle : decide (0 + (rowG lk j).length * 1 ≤ (rowB (R j)).cells.length) = true := by simp [rowB, h2]
      simp only [lend0, h1, hle, hp, Bool.not_false, Bool.and_self, cond_true, List.drop_zero]
      rw [← h2]
      simp only [rowB, hc, r0]
    have ih := lend_fam (l := l) (R := R) (fun i hi => hl i (by simp [hi]))
    simp only [List.map_cons, lend0L, hx, ih]
end Go.Proofs.Ytjhmphkdkclbjaa
end
section
namespace Go.Proofs.Ytjhmphkdkclbjaa
open Go.Pv Go.RowKit
set_option linter.unusedSimpArgs false
set_option linter.unusedVariables false
set_option maxRecDepth 100000
set_option maxHeartbeats 8000000

theorem nx_e5 {n : Nat} {c : Code} {Q : Exit → St → Prop} {st : St} {id : Nat} : Nx Try.prog n c Q (.exit id) st ↔ Q (.exit id) st := Iff.rfl
attribute [simp] nx_e5
/-- What stays in the loop. -/
def cpE (p : Pos) (n i : Nat) (s : St) : Prop := s.env 1 = .ptr 1 0 ∧ s.env 2 = .ptr 2 0 ∧ s.env 3 = .ptr 3 0 ∧ s.env 12 = .list 1 (p.lk.map r1) ∧ s.env 13 = .int .i64 n ∧ s.env 14 = .int .i64 i
def cpH (p : Pos) (nc : Nat) (A : List V) (s : St) : Prop := s.heap 1 = some ⟨31, [.list 1 (p.cl.map b1), .list 1 (p.lk.map r1)]⟩ ∧ s.heap 2 = some ⟨31, [.nils, .nils]⟩ ∧ s.heap 6 = some ⟨4, A⟩
def cpF (h0 : Nat → Option Blk) (s : St) : Prop := ∀ j, s.heap (j + 1000) = h0 (j + 1000)
def cpT (nc i : Nat) (L : List V) (s : St) : Prop := s.heap 3 = some ⟨31, [.sl 6 0 nc 1, .sl 24 0 i 1]⟩ ∧ s.heap 24 = some ⟨42, L⟩
/-- Region 5: what is so in each of its orders. -/
def f0 (p : Pos) (nc n i : Nat) (A L : List V) (row : List Int) (h0 : Nat → Option Blk) (s : St) : Prop := cpE p n i s ∧ cpH p nc A s ∧ cpF h0 s ∧ cpT nc i L s ∧ s.env 5 = .list 1 (row.map i1)
def fA (i : Nat) : Nat → St → Prop
  | 0, _ => True
  | 1, s => s.env 18 = .ptr 3 1
  | _, s => s.env 19 = .sl 24 0 i 1
def fB (m : Nat) (row : List Int) : Nat → St → Prop
  | 0, s => s.heap 20 = none ∧ s.heap 23 = none
  | 1, s => s.env 20 = .sl 20 0 0 1 ∧ s.heap 20 = some ⟨3, []⟩ ∧ s.heap 23 = none
  | 2, s => s.env 21 = .list 1 (row.map i1) ∧ s.heap 20 = none ∧ s.heap 23 = none
  | 3, s => s.env 20 = .sl 20 0 0 1 ∧ s.env 21 = .list 1 (row.map i1) ∧ s.heap 20 = some ⟨3, []⟩ ∧ s.heap 23 = none
  | 4, s => s.env 22 = .sl 20 0 m 1 ∧ s.heap 20 = some ⟨3, row.map (V.int .i64)⟩ ∧ s.heap 23 = none
  | _, s => s.env 23 = .sl 23 0 1 1 ∧ s.heap 20 = some ⟨3, row.map (V.int .i64)⟩ ∧ s.heap 23 = some ⟨42, [.sl 20 0 m 1]⟩
theorem copied_ok (p : Pos) (hc : p.cl.length ≤ 1000) (hn0 : p.lk.length ≤ 1000) (hr : ∀ l ∈ p.lk, l.length ≤ 1000) : PGive Try.prog 17 [.agg p.cs] (.agg [.sl 6 0 p.cl.length 1, .sl 24 0 p.lk.length 1]) ((6, ⟨4, p.cl.map V.bool⟩) :: (24, ⟨42, famL 1000 p.lk p.lk.length⟩) :: famB 1000 p.lk p.lk.length) := by
  obtain ⟨n, hn⟩ : ∃ n, p.lk.length = n := ⟨_, rfl⟩
  obtain ⟨nc, hnc⟩ : ∃ n, p.cl.length = n := ⟨_, rfl⟩
  rw [hn] at hn0
  rw [hnc] at hc
  have hfl := flat_b1 p.cl
  have hon : (p.cl.map V.bool).all oneV = true := by simp [oneV]
  have hbp := pure_b1 p.cl
  have hal : (p.cl.map V.bool).length = nc := by simp [hnc]
  rw [hn, hnc]
  generalize p.cl.map V.bool = A at hfl hon hbp hal ⊢
  have hAs : ∀ k, A.map (scrC k) = A := fun k => scrC_cells hbp
  have hAr : ∀ f, A.map (rnC f) = A := fun f => rn_cells hbp
  have q5 : nc ≤ 140737488355328 := by omega
  have q6 : nc ≤ 9223372036854775807 := by omega
  refine pgive_of2 Try.func17 rfl Try.ntmps17 Try.results17 (by simp) ?_
  refine cut (K := fun s => s.env 1 = .ptr 1 0 ∧ s.env 2 = .ptr 2 0 ∧ s.heap 1 = some ⟨31, [.list 1 (p.cl.map b1), .list 1 (p.lk.map r1)]⟩ ∧ s.heap 2 = some ⟨31, [.nils, .nils]⟩ ∧ s.heap 3 = none ∧ s.heap 6 = none ∧ s.heap 20 = none ∧ s.heap 23 = none ∧ s.heap 24 = none ∧ ∀ j, s.heap (j + 1000) = none) ?_ ?_
  · refine CW.of_cx (D := (fun id => if id = 5 then some ⟨[(8, 3)], []⟩ else none)) noTab_ok mixed _ _ _ (by kernel_rfl) ?_
    repeat' first
      | (with_reducible refine gw_bool (fun _ => ?_) (fun _ => ?_))
      | (with_reducible refine condw_bool (fun _ => ?_) (fun _ => ?_))
      | simp [*, Pos.cs]
    all_goals (intro j; simp [upd])
  rintro ⟨e, h⟩ ⟨e1, e2, h1, h2, h3, h6, h20, h23, h24, hf⟩
  simp only at e1 e2 h1 h2 h3 h6 h20 h23 h24 hf
  refine cut (K := fun s => s.env 1 = .ptr 1 0 ∧ s.env 2 = .ptr 2 0 ∧ s.env 3 = .ptr 3 0 ∧ cpH p nc A s ∧ s.heap 3 = some ⟨31, [.sl 6 0 nc 1, .nils]⟩ ∧ s.heap 20 = none ∧ s.heap 23 = none ∧ s.heap 24 = none ∧ ∀ j, s.heap (j + 1000) = none) ?_ ?_
  · refine CW.of_cx (D := (fun id => if id = 5 then some ⟨[(8, 3)], []⟩ else none)) noTab_ok mixed _ _ _ (by kernel_rfl) ?_
    repeat' first
      | (with_reducible refine gw_bool (fun _ => ?_) (fun _ => ?_))
      | (with_reducible refine condw_bool (fun _ => ?_) (fun _ => ?_))
      | simp [*, cpH, appendV, srcCells, St.forget, scr, scrC, scrB_comp, setsV]
  clear e1 e2 h1 h2 h3 h6 h20 h23 h24 hf e h hfl hon
  rintro ⟨e, h⟩ ⟨e1, e2, e3, ⟨h1, h2, h6⟩, h3, h20, h23, h24, hf⟩
  simp only at e1 e2 e3 h1 h2 h6 h3 h20 h23 h24 hf
  refine cut (K := fun s => cpE p n n s ∧ cpH p nc A s ∧ cpT nc n (famL 1000 p.lk n) s ∧ ∀ j, j < n → s.heap (j + 1000) = some (rowB (rowG p.lk j))) ?_ ?_
  · refine cut (K := fun s => cpE p n 0 s ∧ cpH p nc A s ∧ s.heap 3 = some ⟨31, [.sl 6 0 nc 1, .nils]⟩ ∧ s.heap 20 = none ∧ s.heap 23 = none ∧ s.heap 24 = none ∧ ∀ j, s.heap (j + 1000) = none) ?_ ?_
    · refine CW.of_cx (D := (fun id => if id = 5 then some ⟨[(8, 3)], []⟩ else none)) noTab_ok mixed _ _ _ (by kernel_rfl) ?_
      repeat' first
        | (with_reducible refine gw_bool (fun _ => ?_) (fun _ => ?_))
        | (with_reducible refine condw_bool (fun _ => ?_) (fun _ => ?_))
        | simp [*, cpH, cpE]
    clear e1 e2 e3 h1 h2 h6 h3 h20 h23 h24 hf e h
    rintro ⟨e, h⟩ ⟨⟨e1, e2, e3, e12, e13, e14⟩, ⟨h1, h2, h6⟩, h3, h20, h23, h24, hf⟩
    simp only at e1 e2 e3 e12 e13 e14 h1 h2 h6 h3 h20 h23 h24 hf
    refine cw_view (View.nilAt _ (t := 3) (o := 0) (key := 3) (key' := 24) (i := 1) (blk := ⟨31, [.sl 6 0 nc 1, .nils]⟩) 1 42 e3 h3 rfl h24) ?_
    refine cw_block (LH.cw (LH.inv (α := Nat) (fun i s => i ≤ n ∧ cpE p n i s ∧ cpH p nc A s ∧ cpT nc i (famL 1000 p.lk i) s ∧ s.heap 20 = none ∧ s.heap 23 = none ∧ (∀ j, j < i → s.heap (j + 1000) = some (rowB (rowG p.lk j))) ∧ ∀ j, i ≤ j → s.heap (j + 1000) = none) (fun i => n - i) ?_ _ 0 _ rfl ?_))
    rotate_left
    · refine ⟨by omega, ?_, ?_, ?_, ?_, ?_, fun j hj => by omega, fun j _ => ?_⟩
      · simp [cpE, *]
      · simp [cpH, upd, *]
      · simp [cpT, upd, famL]
      · simp [upd, *]
      · simp [upd, *]
      · simp [upd, *]
    clear e1 e2 e3 e12 e13 e14 h1 h2 h6 h3 h20 h23 h24 hf e h
    rintro i ⟨e, h⟩ ⟨hi, ⟨e1, e2, e3, e12, e13, e14⟩, ⟨h1, h2, h6⟩, ⟨h3, h24⟩, h20, h23, hf1, hf2⟩
    simp only at e1 e2 e3 e12 e13 e14 h1 h2 h6 h3 h24 h20 h23 hf1 hf2
    by_cases hlt : i < n
    · obtain ⟨l, hl, hl'⟩ := at_ex (l := p.lk) (i := i) (by omega)
      obtain ⟨m, hm⟩ : ∃ m, l.length = m := ⟨_, rfl⟩
      have hml := hr l (List.mem_of_getElem? hl)
      rw [hm] at hml
      have hrw := rowG_at hl
      have q3 : ilt (i : Int) (n : Int) = true := ilt_t (by omega)
      have q4 : (i : Int) < n := by omega
      have q5 : i + 1 ≤ n := by omega
      have w1 : IntKind.i64.wrap ((i : Int) + 1) = ((i + 1 : Nat) : Int) := wrap_succ (by omega)
      have hst : Hid (famL 1000 p.lk (i + 1) = famL 1000 p.lk i ++ [.sl (i + 1000) 0 m 1]) := show _ = _ by rw [famL_step, hrw, hm]
      have hLl := famL_len 1000 p.lk i
      have hLs : ∀ k, k < 1000 → (famL 1000 p.lk i).map (scrC k) = famL 1000 p.lk i := fun k hk => famL_scr hk
      have hLr : Hid ((famL 1000 p.lk i).map (rnC (swp 20 (i + 1000))) = famL 1000 p.lk i) := show _ = _ from famL_rn (by omega)
      have hpf : ∀ j k, (h (j + 1000)).map (fun b => (⟨b.ty, b.cells.map (scrC k)⟩ : Blk)) = h (j + 1000) := fun j k => by
        by_cases hj : j < i
        · rw [hf1 j hj]; simp only [Option.map_some, rowB, scr_i1]
        · rw [hf2 j (by omega)]; rfl
      generalize famL 1000 p.lk i = L at h24 hst hLl hLs hLr
      have hS20 := hLs 20 (by omega)
      have hS24 := hLs 24 (by omega)
      have hS23 := hLs 23 (by omega)
      replace hf1 : Hid (_) := hf1
      replace hf2 : Hid (_) := hf2
      obtain ⟨h0, hh0⟩ : ∃ h0, h0 = h := ⟨_, rfl⟩
      rw [← hh0] at hpf hf1 hf2
      have hF : ∀ j, h (j + 1000) = h0 (j + 1000) := fun j => by rw [hh0]
      clear hh0
      refine cut (K := fun s => cpE p n i s ∧ cpH p nc A s ∧ cpF h0 s ∧ cpT nc i L s ∧ s.heap 20 = none ∧ s.heap 23 = none ∧ s.env 15 = .bool true) ?_ ?_
      · refine CW.of_cx (D := (fun id => if id = 5 then some ⟨[(8, 3)], []⟩ else none)) noTab_ok mixed _ _ _ (by kernel_rfl) ?_
        repeat' first
          | (with_reducible refine gw_bool (fun _ => ?_) (fun _ => ?_))
          | (with_reducible refine condw_bool (fun _ => ?_) (fun _ => ?_))
          | simp [*, cpE, cpH, cpF, cpT]
      clear e1 e2 e3 e12 e13 e14 h1 h2 h6 h3 h24 h20 h23 hF e h
      rintro ⟨e, h⟩ ⟨⟨e1, e2, e3, e12, e13, e14⟩, ⟨h1, h2, h6⟩, hF, ⟨h3, h24⟩, h20, h23, e15⟩
      simp only [cpF] at e1 e2 e3 e12 e13 e14 h1 h2 h6 hF h3 h24 h20 h23 e15
      refine cut (K := fun s => cpE p n i s ∧ cpH p nc A s ∧ cpF h0 s ∧ cpT nc i L s ∧ s.heap 20 = none ∧ s.heap 23 = none) ?_ ?_
      · refine CW.of_cx (D := (fun id => if id = 5 then some ⟨[(8, 3)], []⟩ else none)) noTab_ok mixed _ _ _ (by kernel_rfl) ?_
        repeat' first
          | (with_reducible refine gw_bool (fun _ => ?_) (fun _ => ?_))
          | (with_reducible refine condw_bool (fun _ => ?_) (fun _ => ?_))
          | simp [*, cpE, cpH, cpF, cpT]
      clear e1 e2 e3 e12 e13 e14 h1 h2 h6 h3 h24 h20 h23 hF e15 e h
      rintro ⟨e, h⟩ ⟨⟨e1, e2, e3, e12, e13, e14⟩, ⟨h1, h2, h6⟩, hF, ⟨h3, h24⟩, h20, h23⟩
      simp only [cpF] at e1 e2 e3 e12 e13 e14 h1 h2 h6 hF h3 h24 h20 h23
      refine cut (K := fun s => cpE p n i s ∧ cpH p nc A s ∧ cpF h0 s ∧ cpT nc (i + 1) (L ++ [.sl 20 0 m 1]) s ∧ s.heap 20 = some ⟨3, l.map (V.int .i64)⟩) ?_ ?_
      · refine cw_block ?_
        refine cut (K := fun s => f0 p nc n i A L l h0 s ∧ s.heap 20 = none ∧ s.heap 23 = none) ?_ ?_
        · refine CW.of_cx (D := (fun id => if id = 5 then some ⟨[(8, 3)], []⟩ else none)) noTab_ok mixed _ _ _ (by kernel_rfl) ?_
          repeat' first
            | (with_reducible refine gw_bool (fun _ => ?_) (fun _ => ?_))
            | (with_reducible refine condw_bool (fun _ => ?_) (fun _ => ?_))
            | simp [*, f0, cpE, cpH, cpF, cpT, r1]
        clear e1 e2 e3 e12 e13 e14 h1 h2 h6 h3 h24 h20 h23 hF e h
        rintro st ⟨hst0, hb0⟩
        have hfi := flat_i1 l
        have hoi : (l.map (V.int .i64)).all oneV = true := by simp [oneV]
        have hpi := pure_i1 l
        have p5 : m * 8 ≤ 140737488355328 := by omega
        have p6 : m ≤ 9223372036854775807 := by omega
        have p7 : (i + 1) * 24 ≤ 140737488355328 := by omega
        have p8 : i + 1 ≤ 9223372036854775807 := by omega
        clear hst hLr hf1 hf2 hl hl' hrw w1 q3 q4
        refine cw_anyX noTab_ok (by kernel_rfl) 9 (by kernel_rfl) ?_
        intro O K hO hK
        have T25 : ∀ (l' : Array Bool) (t : St), l' = #[true, true, true, true, true, true, false, false, false] → f0 p nc n i A L l h0 t → fA i 2 t → fB m l 5 t → cAnyX noTab O K 3 l' t := by
          rintro l' ⟨e, h⟩ rfl q0 qa qb
          simp only [f0, fA, fB, cpE, cpH, cpF, cpT] at q0 qa qb
          refine cany1 6 (by rw [hO.out]; kernel_rfl) (by rw [hO.out]; exact rfl) ?_
          simp [*, appendV, srcCells, St.forget, scr, scrC, scrI_comp, setsV]
          refine cany1 7 (by rw [hO.out]; kernel_rfl) (by rw [hO.out]; exact rfl) ?_
          simp [*, appendV, srcCells, St.forget, scr, scrC, scrI_comp, setsV]
          refine cany1 8 (by rw [hO.out]; kernel_rfl) (by rw [hO.out]; exact rfl) ?_
          simp [*, appendV, srcCells, St.forget, scr, scrC, scrI_comp, setsV]
          refine cany0 (by rw [hO.out]; kernel_rfl) (hK.out _ ?_)
          simp [*, St.forget, scr, scrC, scrI_comp, cpE, cpH, cpF, cpT, Bk]
        have T15 : ∀ (l' : Array Bool) (t : St), l' = #[true, false, true, true, true, true, false, false, false] → f0 p nc n i A L l h0 t → fA i 1 t → fB m l 5 t → cAnyX noTab O K 4 l' t := by
          rintro l' ⟨e, h⟩ rfl q0 qa qb
          simp only [f0, fA, fB, cpE, cpH, cpF, cpT] at q0 qa qb
          refine cany1 1 (by rw [hO.out]; kernel_rfl) (by rw [hO.out]; exact rfl) ?_
          · simp [*, appendV, srcCells, St.forget, scr, scrC, scrI_comp, setsV]
            refine T25 _ _ (by kernel_rfl) ?_ ?_ ?_ <;> simp [*, f0, fA, fB, cpE, cpH, cpF, cpT, St.forget, scr, scrC, scrI_comp]
        have T24 : ∀ (l' : Array Bool) (t : St), l' = #[true, true, true, true, true, false, false, false, false] → f0 p nc n i A L l h0 t → fA i 2 t → fB m l 4 t → cAnyX noTab O K 4 l' t := by
          rintro l' ⟨e, h⟩ rfl q0 qa qb
          simp only [f0, fA, fB, cpE, cpH, cpF, cpT] at q0 qa qb
          refine cany1 5 (by rw [hO.out]; kernel_rfl) (by rw [hO.out]; exact rfl) ?_
          · simp [*, appendV, srcCells, St.forget, scr, scrC, scrI_comp, setsV]
            refine T25 _ _ (by kernel_rfl) ?_ ?_ ?_ <;> simp [*, f0, fA, fB, cpE, cpH, cpF, cpT, St.forget, scr, scrC, scrI_comp]
        have T05 : ∀ (l' : Array Bool) (t : St), l' = #[false, false, true, true, true, true, false, false, false] → f0 p nc n i A L l h0 t → fA i 0 t → fB m l 5 t → cAnyX noTab O K 5 l' t := by
          rintro l' ⟨e, h⟩ rfl q0 qa qb
          simp only [f0, fA, fB, cpE, cpH, cpF, cpT] at q0 qa qb
          refine cany1 0 (by rw [hO.out]; kernel_rfl) (by rw [hO.out]; exact rfl) ?_
          · simp [*, appendV, srcCells, St.forget, scr, scrC, scrI_comp, setsV]
            refine T15 _ _ (by kernel_rfl) ?_ ?_ ?_ <;> simp [*, f0, fA, fB, cpE, cpH, cpF, cpT, St.forget, scr, scrC, scrI_comp]
        have T14 : ∀ (l' : Array Bool) (t : St), l' = #[true, false, true, true, true, false, false, false, false] → f0 p nc n i A L l h0 t → fA i 1 t → fB m l 4 t → cAnyX noTab O K 5 l' t := by
          rintro l' ⟨e, h⟩ rfl q0 qa qb
          simp only [f0, fA, fB, cpE, cpH, cpF, cpT] at q0 qa qb
          refine cany2 1 5 (by rw [hO.out]; kernel_rfl) (by rw [hO.out]; exact rfl) (by rw [hO.out]; exact rfl) ?_ ?_
          · simp [*, appendV, srcCells, St.forget, scr, scrC, scrI_comp, setsV]
            refine T24 _ _ (by kernel_rfl) ?_ ?_ ?_ <;> simp [*, f0, fA, fB, cpE, cpH, cpF, cpT, St.forget, scr, scrC, scrI_comp]
          · simp [*, appendV, srcCells, St.forget, scr, scrC, scrI_comp, setsV]
            refine T15 _ _ (by kernel_rfl) ?_ ?_ ?_ <;> simp [*, f0, fA, fB, cpE, cpH, cpF, cpT, St.forget, scr, scrC, scrI_comp]
        have T23 : ∀ (l' : Array Bool) (t : St), l' = #[true, true, true, true, false, false, false, false, false] → f0 p nc n i A L l h0 t → fA i 2 t → fB m l 3 t → cAnyX noTab O K 5 l' t := by
          rintro l' ⟨e, h⟩ rfl q0 qa qb
          simp only [f0, fA, fB, cpE, cpH, cpF, cpT] at q0 qa qb
          refine cany1 4 (by rw [hO.out]; kernel_rfl) (by rw [hO.out]; exact rfl) ?_
          · simp [*, appendV, srcCells, St.forget, scr, scrC, scrI_comp, setsV]
            refine T24 _ _ (by kernel_rfl) ?_ ?_ ?_ <;> simp [*, f0, fA, fB, cpE, cpH, cpF, cpT, St.forget, scr, scrC, scrI_comp]
        have T04 : ∀ (l' : Array Bool) (t : St), l' = #[false, false, true, true, true, false, false, false, false] → f0 p nc n i A L l h0 t → fA i 0 t → fB m l 4 t → cAnyX noTab O K 6 l' t := by
          rintro l' ⟨e, h⟩ rfl q0 qa qb
          simp only [f0, fA, fB, cpE, cpH, cpF, cpT] at q0 qa qb
          refine cany2 0 5 (by rw [hO.out]; kernel_rfl) (by rw [hO.out]; exact rfl) (by rw [hO.out]; exact rfl) ?_ ?_
          · simp [*, appendV, srcCells, St.forget, scr, scrC, scrI_comp, setsV]
            refine T14 _ _ (by kernel_rfl) ?_ ?_ ?_ <;> simp [*, f0, fA, fB, cpE, cpH, cpF, cpT, St.forget, scr, scrC, scrI_comp]
          · simp [*, appendV, srcCells, St.forget, scr, scrC, scrI_comp, setsV]
            refine T05 _ _ (by kernel_rfl) ?_ ?_ ?_ <;> simp [*, f0, fA, fB, cpE, cpH, cpF, cpT, St.forget, scr, scrC, scrI_comp]
        have T13 : ∀ (l' : Array Bool) (t : St), l' = #[true, false, true, true, false, false, false, false, false] → f0 p nc n i A L l h0 t → fA i 1 t → fB m l 3 t → cAnyX noTab O K 6 l' t := by
          rintro l' ⟨e, h⟩ rfl q0 qa qb
          simp only [f0, fA, fB, cpE, cpH, cpF, cpT] at q0 qa qb
          refine cany2 1 4 (by rw [hO.out]; kernel_rfl) (by rw [hO.out]; exact rfl) (by rw [hO.out]; exact rfl) ?_ ?_
          · simp [*, appendV, srcCells, St.forget, scr, scrC, scrI_comp, setsV]
            refine T23 _ _ (by kernel_rfl) ?_ ?_ ?_ <;> simp [*, f0, fA, fB, cpE, cpH, cpF, cpT, St.forget, scr, scrC, scrI_comp]
          · simp [*, appendV, srcCells, St.forget, scr, scrC, scrI_comp, setsV]
            refine T14 _ _ (by kernel_rfl) ?_ ?_ ?_ <;> simp [*, f0, fA, fB, cpE, cpH, cpF, cpT, St.forget, scr, scrC, scrI_comp]
        have T21 : ∀ (l' : Array Bool) (t : St), l' = #[true, true, true, false, false, false, false, false, false] → f0 p nc n i A L l h0 t → fA i 2 t → fB m l 1 t → cAnyX noTab O K 6 l' t := by
          rintro l' ⟨e, h⟩ rfl q0 qa qb
          simp only [f0, fA, fB, cpE, cpH, cpF, cpT] at q0 qa qb
          refine cany1 3 (by rw [hO.out]; kernel_rfl) (by rw [hO.out]; exact rfl) ?_
          · simp [*, appendV, srcCells, St.forget, scr, scrC, scrI_comp, setsV]
            refine T23 _ _ (by kernel_rfl) ?_ ?_ ?_ <;> simp [*, f0, fA, fB, cpE, cpH, cpF, cpT, St.forget, scr, scrC, scrI_comp]
        have T22 : ∀ (l' : Array Bool) (t : St), l' = #[true, true, false, true, false, false, false, false, false] → f0 p nc n i A L l h0 t → fA i 2 t → fB m l 2 t → cAnyX noTab O K 6 l' t := by
          rintro l' ⟨e, h⟩ rfl q0 qa qb
          simp only [f0, fA, fB, cpE, cpH, cpF, cpT] at q0 qa qb
          refine cany1 2 (by rw [hO.out]; kernel_rfl) (by rw [hO.out]; exact rfl) ?_
          · simp [*, appendV, srcCells, St.forget, scr, scrC, scrI_comp, setsV]
            refine T23 _ _ (by kernel_rfl) ?_ ?_ ?_ <;> simp [*, f0, fA, fB, cpE, cpH, cpF, cpT, St.forget, scr, scrC, scrI_comp]
        have T03 : ∀ (l' : Array Bool) (t : St), l' = #[false, false, true, true, false, false, false, false, false] → f0 p nc n i A L l h0 t → fA i 0 t → fB m l 3 t → cAnyX noTab O K 7 l' t := by
          rintro l' ⟨e, h⟩ rfl q0 qa qb
          simp only [f0, fA, fB, cpE, cpH, cpF, cpT] at q0 qa qb
          refine cany2 0 4 (by rw [hO.out]; kernel_rfl) (by rw [hO.out]; exact rfl) (by rw [hO.out]; exact rfl) ?_ ?_
          · simp [*, appendV, srcCells, St.forget, scr, scrC, scrI_comp, setsV]
            refine T13 _ _ (by kernel_rfl) ?_ ?_ ?_ <;> simp [*, f0, fA, fB, cpE, cpH, cpF, cpT, St.forget, scr, scrC, scrI_comp]
          · simp [*, appendV, srcCells, St.forget, scr, scrC, scrI_comp, setsV]
            refine T04 _ _ (by kernel_rfl) ?_ ?_ ?_ <;> simp [*, f0, fA, fB, cpE, cpH, cpF, cpT, St.forget, scr, scrC, scrI_comp]
        have T11 : ∀ (l' : Array Bool) (t : St), l' = #[true, false, true, false, false, false, false, false, false] → f0 p nc n i A L l h0 t → fA i 1 t → fB m l 1 t → cAnyX noTab O K 7 l' t := by
          rintro l' ⟨e, h⟩ rfl q0 qa qb
          simp only [f0, fA, fB, cpE, cpH, cpF, cpT] at q0 qa qb
          refine cany2 1 3 (by rw [hO.out]; kernel_rfl) (by rw [hO.out]; exact rfl) (by rw [hO.out]; exact rfl) ?_ ?_
          · simp [*, appendV, srcCells, St.forget, scr, scrC, scrI_comp, setsV]
            refine T21 _ _ (by kernel_rfl) ?_ ?_ ?_ <;> simp [*, f0, fA, fB, cpE, cpH, cpF, cpT, St.forget, scr, scrC, scrI_comp]
          · simp [*, appendV, srcCells, St.forget, scr, scrC, scrI_comp, setsV]
            refine T13 _ _ (by kernel_rfl) ?_ ?_ ?_ <;> simp [*, f0, fA, fB, cpE, cpH, cpF, cpT, St.forget, scr, scrC, scrI_comp]
        have T12 : ∀ (l' : Array Bool) (t : St), l' = #[true, false, false, true, false, false, false, false, false] → f0 p nc n i A L l h0 t → fA i 1 t → fB m l 2 t → cAnyX noTab O K 7 l' t := by
          rintro l' ⟨e, h⟩ rfl q0 qa qb
          simp only [f0, fA, fB, cpE, cpH, cpF, cpT] at q0 qa qb
          refine cany2 1 2 (by rw [hO.out]; kernel_rfl) (by rw [hO.out]; exact rfl) (by rw [hO.out]; exact rfl) ?_ ?_
          · simp [*, appendV, srcCells, St.forget, scr, scrC, scrI_comp, setsV]
            refine T22 _ _ (by kernel_rfl) ?_ ?_ ?_ <;> simp [*, f0, fA, fB, cpE, cpH, cpF, cpT, St.forget, scr, scrC, scrI_comp]
          · simp [*, appendV, srcCells, St.forget, scr, scrC, scrI_comp, setsV]
            refine T13 _ _ (by kernel_rfl) ?_ ?_ ?_ <;> simp [*, f0, fA, fB, cpE, cpH, cpF, cpT, St.forget, scr, scrC, scrI_comp]
        have T20 : ∀ (l' : Array Bool) (t : St), l' = #[true, true, false, false, false, false, false, false, false] → f0 p nc n i A L l h0 t → fA i 2 t → fB m l 0 t → cAnyX noTab O K 7 l' t := by
          rintro l' ⟨e, h⟩ rfl q0 qa qb
          simp only [f0, fA, fB, cpE, cpH, cpF, cpT] at q0 qa qb
          refine cany2 2 3 (by rw [hO.out]; kernel_rfl) (by rw [hO.out]; exact rfl) (by rw [hO.out]; exact rfl) ?_ ?_
          · simp [*, appendV, srcCells, St.forget, scr, scrC, scrI_comp, setsV]
            refine T21 _ _ (by kernel_rfl) ?_ ?_ ?_ <;> simp [*, f0, fA, fB, cpE, cpH, cpF, cpT, St.forget, scr, scrC, scrI_comp]
          · simp [*, appendV, srcCells, St.forget, scr, scrC, scrI_comp, setsV]
            refine T22 _ _ (by kernel_rfl) ?_ ?_ ?_ <;> simp [*, f0, fA, fB, cpE, cpH, cpF, cpT, St.forget, scr, scrC, scrI_comp]
        have T01 : ∀ (l' : Array Bool) (t : St), l' = #[false, false, true, false, false, false, false, false, false] → f0 p nc n i A L l h0 t → fA i 0 t → fB m l 1 t → cAnyX noTab O K 8 l' t := by
          rintro l' ⟨e, h⟩ rfl q0 qa qb
          simp only [f0, fA, fB, cpE, cpH, cpF, cpT] at q0 qa qb
          refine cany2 0 3 (by rw [hO.out]; kernel_rfl) (by rw [hO.out]; exact rfl) (by rw [hO.out]; exact rfl) ?_ ?_
          · simp [*, appendV, srcCells, St.forget, scr, scrC, scrI_comp, setsV]
            refine T11 _ _ (by kernel_rfl) ?_ ?_ ?_ <;> simp [*, f0, fA, fB, cpE, cpH, cpF, cpT, St.forget, scr, scrC, scrI_comp]
          · simp [*, appendV, srcCells, St.forget, scr, scrC, scrI_comp, setsV]
            refine T03 _ _ (by kernel_rfl) ?_ ?_ ?_ <;> simp [*, f0, fA, fB, cpE, cpH, cpF, cpT, St.forget, scr, scrC, scrI_comp]
        have T02 : ∀ (l' : Array Bool) (t : St), l' = #[false, false, false, true, false, false, false, false, false] → f0 p nc n i A L l h0 t → fA i 0 t → fB m l 2 t → cAnyX noTab O K 8 l' t := by
          rintro l' ⟨e, h⟩ rfl q0 qa qb
          simp only [f0, fA, fB, cpE, cpH, cpF, cpT] at q0 qa qb
          refine cany2 0 2 (by rw [hO.out]; kernel_rfl) (by rw [hO.out]; exact rfl) (by rw [hO.out]; exact rfl) ?_ ?_
          · simp [*, appendV, srcCells, St.forget, scr, scrC, scrI_comp, setsV]
            refine T12 _ _ (by kernel_rfl) ?_ ?_ ?_ <;> simp [*, f0, fA, fB, cpE, cpH, cpF, cpT, St.forget, scr, scrC, scrI_comp]
          · simp [*, appendV, srcCells, St.forget, scr, scrC, scrI_comp, setsV]
            refine T03 _ _ (by kernel_rfl) ?_ ?_ ?_ <;> simp [*, f0, fA, fB, cpE, cpH, cpF, cpT, St.forget, scr, scrC, scrI_comp]
        have T10 : ∀ (l' : Array Bool) (t : St), l' = #[true, false, false, false, false, false, false, false, false] → f0 p nc n i A L l h0 t → fA i 1 t → fB m l 0 t → cAnyX noTab O K 8 l' t := by
          rintro l' ⟨e, h⟩ rfl q0 qa qb
          simp only [f0, fA, fB, cpE, cpH, cpF, cpT] at q0 qa qb
          refine cany3 1 2 3 (by rw [hO.out]; kernel_rfl) (by rw [hO.out]; exact rfl) (by rw [hO.out]; exact rfl) (by rw [hO.out]; exact rfl) ?_ ?_ ?_
          · simp [*, appendV, srcCells, St.forget, scr, scrC, scrI_comp, setsV]
            refine T20 _ _ (by kernel_rfl) ?_ ?_ ?_ <;> simp [*, f0, fA, fB, cpE, cpH, cpF, cpT, St.forget, scr, scrC, scrI_comp]
          · simp [*, appendV, srcCells, St.forget, scr, scrC, scrI_comp, setsV]
            refine T11 _ _ (by kernel_rfl) ?_ ?_ ?_ <;> simp [*, f0, fA, fB, cpE, cpH, cpF, cpT, St.forget, scr, scrC, scrI_comp]
          · simp [*, appendV, srcCells, St.forget, scr, scrC, scrI_comp, setsV]
            refine T12 _ _ (by kernel_rfl) ?_ ?_ ?_ <;> simp [*, f0, fA, fB, cpE, cpH, cpF, cpT, St.forget, scr, scrC, scrI_comp]
        have T00 : ∀ (l' : Array Bool) (t : St), l' = #[false, false, false, false, false, false, false, false, false] → f0 p nc n i A L l h0 t → fA i 0 t → fB m l 0 t → cAnyX noTab O K 9 l' t := by
          rintro l' ⟨e, h⟩ rfl q0 qa qb
          simp only [f0, fA, fB, cpE, cpH, cpF, cpT] at q0 qa qb
          refine cany3 0 2 3 (by rw [hO.out]; kernel_rfl) (by rw [hO.out]; exact rfl) (by rw [hO.out]; exact rfl) (by rw [hO.out]; exact rfl) ?_ ?_ ?_
          · simp [*, appendV, srcCells, St.forget, scr, scrC, scrI_comp, setsV]
            refine T10 _ _ (by kernel_rfl) ?_ ?_ ?_ <;> simp [*, f0, fA, fB, cpE, cpH, cpF, cpT, St.forget, scr, scrC, scrI_comp]
          · simp [*, appendV, srcCells, St.forget, scr, scrC, scrI_comp, setsV]
            refine T01 _ _ (by kernel_rfl) ?_ ?_ ?_ <;> simp [*, f0, fA, fB, cpE, cpH, cpF, cpT, St.forget, scr, scrC, scrI_comp]
          · simp [*, appendV, srcCells, St.forget, scr, scrC, scrI_comp, setsV]
            refine T02 _ _ (by kernel_rfl) ?_ ?_ ?_ <;> simp [*, f0, fA, fB, cpE, cpH, cpF, cpT, St.forget, scr, scrC, scrI_comp]
        exact T00 _ _ (by kernel_rfl) hst0 trivial hb0
      clear e1 e2 e3 e12 e13 e14 h1 h2 h6 h3 h24 h20 h23 hF e h
      rintro ⟨e, h⟩ ⟨⟨e1, e2, e3, e12, e13, e14⟩, ⟨h1, h2, h6⟩, hF, ⟨h3, h24⟩, h20⟩
      simp only [cpF] at e1 e2 e3 e12 e13 e14 h1 h2 h6 hF h3 h24 h20
      refine CW.of_cx (D := (fun id => if id = 5 then some ⟨[(8, 3)], []⟩ else none)) noTab_ok mixed _ _ _ (by kernel_rfl) ?_
      repeat' first
        | (with_reducible refine gw_bool (fun _ => ?_) (fun _ => ?_))
        | (with_reducible refine condw_bool (fun _ => ?_) (fun _ => ?_))
        | simp [*]
      have hLr' := hLr.out
      have hn1 : h0 (i + 1000) = none := hf2.out i (Nat.le_refl _)
      have hFi := hF i
      rw [hn1] at hFi
      have hri : (l.map (V.int .i64)).map (rnC (swp 20 (i + 1000))) = l.map (V.int .i64) := rn_cells (pure_i1 _)
      have hsi : (l.map (V.int .i64)).map (scrC 23) = l.map (V.int .i64) := scr_i1 _ _
      have hAr' := hAr (swp 20 (i + 1000))
      have hA23 := hAs 23
      refine ⟨i + 1, _, (View.forget _ _ 23).trans (View.rn _ _ (f := swp 20 (i + 1000)) (swp_swp 20 (i + 1000))), ⟨by omega, ?_, ?_, ?_, ?_, ?_, ?_, ?_⟩, by show n - (i + 1) < n - i; omega⟩
      · simp [cpE, St.rn, St.forget, rnT, rnA, rnC, scr, scrC, swp, *]
      · simp [cpH, St.rn, St.forget, rnC, scrC, swp, *]
      · rw [hst.out]
        simp [cpT, St.rn, St.forget, rnC, scrC, swp, *]
      · have e20 : swp 20 (i + 1000) 20 = i + 1000 := by simp [swp]
        simp [St.rn, St.forget, e20, hFi]
      · simp [St.rn, St.forget, swp]
      · intro j hj
        by_cases ej : j = i
        · subst ej
          have e20 : swp 20 (j + 1000) (j + 1000) = 20 := by simp [swp]
          rw [hrw]
          simp only [St.rn, St.forget, e20]
          simp [h20, hsi, hri, rowB]
        · have e20 : swp 20 (i + 1000) (j + 1000) = j + 1000 := by unfold swp; rw [if_neg (by omega), if_neg (by omega)]
          have hFj := hF j
          rw [hf1.out j (by omega)] at hFj
          have c1 : (rowB (rowG p.lk j)).cells.map (scrC 23) = (rowB (rowG p.lk j)).cells := scr_i1 _ _
          have c2 : (rowB (rowG p.lk j)).cells.map (rnC (swp 20 (i + 1000))) = (rowB (rowG p.lk j)).cells := rn_cells (pure_i1 _)
          have e23 : (j + 1000 == 23) = false := by simp
          simp only [St.rn, St.forget, e20, e23, hFj, cond_false, Option.map_some, c1, c2]
      · intro j hj
        have e20 : swp 20 (i + 1000) (j + 1000) = j + 1000 := by unfold swp; rw [if_neg (by omega), if_neg (by omega)]
        have hFj := hF j
        rw [hf2.out j (by omega)] at hFj
        simp [St.rn, St.forget, e20, hFj]
    · have q3 : ilt (i : Int) (n : Int) = false := ilt_f (by omega)
      have e1 : i = n := by omega
      subst e1
      refine cut (K := fun s => cpE p i i s ∧ cpH p nc A s ∧ cpT nc i (famL 1000 p.lk i) s ∧ (∀ j, j < i → s.heap (j + 1000) = some (rowB (rowG p.lk j))) ∧ s.env 15 = .bool false) ?_ ?_
      · refine CW.of_cx (D := (fun id => if id = 5 then some ⟨[(8, 3)], []⟩ else none)) noTab_ok mixed _ _ _ (by kernel_rfl) ?_
        repeat' first
          | (with_reducible refine gw_bool (fun _ => ?_) (fun _ => ?_))
          | (with_reducible refine condw_bool (fun _ => ?_) (fun _ => ?_))
          | simp [*, cpE, cpH, cpT]
        exact hf1
      clear e1 e2 e3 e12 e13 e14 h1 h2 h6 h3 h24 h20 h23 hf1 hf2 e h
      rintro ⟨e, h⟩ ⟨⟨e1, e2, e3, e12, e13, e14⟩, ⟨h1, h2, h6⟩, ⟨h3, h24⟩, hf1, e15⟩
      simp only at e1 e2 e3 e12 e13 e14 h1 h2 h6 h3 h24 hf1 e15
      refine cw_seq (CW.of_cx (D := (fun id => if id = 5 then some ⟨[(8, 3)], []⟩ else none)) noTab_ok mixed _ _ _ (by kernel_rfl) ?_)
      repeat' first
        | (with_reducible refine gw_bool (fun _ => ?_) (fun _ => ?_))
        | (with_reducible refine condw_bool (fun _ => ?_) (fun _ => ?_))
        | simp [*, cpE, cpH, cpT]
      exact hf1
  clear e1 e2 e3 h1 h2 h6 h3 h20 h23 h24 hf e h
  rintro ⟨e, h⟩ ⟨⟨e1, e2, e3, e12, e13, e14⟩, ⟨h1, h2, h6⟩, ⟨h3, h24⟩, hf⟩
  simp only at e1 e2 e3 e12 e13 e14 h1 h2 h6 h3 h24 hf
  have hkeep : ∀ x, KeepBl (upd h 2 x) (famB 1000 p.lk n) := fun x => keep_fam fun j hj => by
    rw [upd_ne _ _ (by omega)]; exact hf j (by simpa using hj)
  have hcl : ∀ bl, closedB bl (famB 1000 p.lk n) = true := fun bl => closed_fam
  replace hf : Hid (_) := hf
  refine CW.of_cx (D := (fun id => if id = 5 then some ⟨[(8, 3)], []⟩ else none)) noTab_ok mixed _ _ _ (by kernel_rfl) ?_
  repeat' first
    | (with_reducible refine gw_bool (fun _ => ?_) (fun _ => ?_))
    | (with_reducible refine condw_bool (fun _ => ?_) (fun _ => ?_))
    | simp [*, setsV]
  refine .inr fun x hx => ?_
  simp only [famL, List.mem_map, List.mem_range] at hx
  obtain ⟨j, hj, rfl⟩ := hx
  simp [blk_fam, hj]
end Go.Proofs.Ytjhmphkdkclbjaa
end
section
namespace Go.Proofs.Ytjhmphkdkclbjaa
open Go.Pv Go.RowKit
set_option linter.unusedSimpArgs false
set_option linter.unusedVariables false
set_option maxRecDepth 100000

theorem setSm {α : Type} {l : List α} {b : Nat} {x : α} (h : l[b]? = some x) : l.set b x = l := by
  apply List.ext_getElem?
  intro i
  rw [List.getElem?_set]
  split
  · rename_i e; subst e
    have := (List.getElem?_eq_some_iff.1 h).1
    rw [if_pos this, h]
  · rfl
/-! ### the position that moving links take -/
def chB (cl : List (List Bool)) (i k : Nat) : Bool := match cl[i]? with
  | some r => (match r[k]? with
    | some b => b
    | none => false)
  | none => false
def nwX (cl : List (List Bool)) (i k : Nat) (x : Int) : Int := if ieq x 2 = true then (if chB cl i k = true then 1 else 0) else x
def halfN (cl : List (List Bool)) (i : Nat) (row : List Int) (k : Nat) : List Int := row.mapIdx fun j x => if j < k then nwX cl i j x else x
def rowN (cl : List (List Bool)) (i : Nat) (row : List Int) : List Int := row.mapIdx fun j x => nwX cl i j x
theorem halfN_len (cl : List (List Bool)) (i : Nat) (row : List Int) (k : Nat) : (halfN cl i row k).length = row.length := by simp [halfN]
theorem rowN_len (cl : List (List Bool)) (i : Nat) (row : List Int) : (rowN cl i row).length = row.length := by simp [rowN]
theorem halfN_zero (cl : List (List Bool)) (i : Nat) (row : List Int) : halfN cl i row 0 = row := by
  apply List.ext_getElem
  · simp [halfN]
  · intro j h1 h2; simp [halfN]
theorem halfN_end (cl : List (List Bool)) (i : Nat) (row : List Int) : halfN cl i row row.length = rowN cl i row := by
  apply List.ext_getElem
  · simp [halfN, rowN]
  · intro j h1 h2
    have hj : j < row.length := by simpa [rowN] using h2
    simp [halfN, rowN, hj]
theorem halfN_at {cl : List (List Bool)} {i : Nat} {row : List Int} {k : Nat} {x : Int} (h : row[k]? = some x) : (halfN cl i row k)[k]? = some x := by simp [halfN, h]
theorem halfN_step {cl : List (List Bool)} {i : Nat} {row : List Int} {k : Nat} {x : Int} (h : row[k]? = some x) : halfN cl i row (k + 1) = (halfN cl i row k).set k (nwX cl i k x) := by
  apply List.ext_getElem
  · simp [halfN]
  · intro j h1 h2
    have hj : j < row.length := by simpa [halfN] using h1
    have hx := (List.getElem?_eq_some_iff.1 h).2
    simp only [halfN, List.getElem_mapIdx, List.getElem_set]
    by_cases e : k = j
    · subst e; simp [hx]
    · rw [if_neg e]
      by_cases e2 : j < k
      · rw [if_pos (by omega), if_pos e2]
      · rw [if_neg (by omega), if_neg e2]
theorem halfN_same {cl : List (List Bool)} {i : Nat} {row : List Int} {k : Nat} {x : Int} (h : row[k]? = some x) (hq : ieq x 2 = false) : halfN cl i row (k + 1) = halfN cl i row k := by
  rw [halfN_step h, nwX, hq]
  exact setSm (halfN_at h)
def posN (cl : List (List Bool)) (p : Pos) : Pos := ⟨p.cl, p.lk.mapIdx fun i row => rowN cl i row⟩
theorem pfineN {s : Stn} {p : Pos} {cl : List (List Bool)} (h : PFine s p) : PFine s (posN cl p) := by
  refine ⟨h.nc, by simp [posN, h.nk], fun i b l hb hl => ?_⟩
  simp only [posN, List.getElem?_mapIdx, Option.map_eq_some_iff] at hl
  obtain ⟨r, hr, rfl⟩ := hl
  obtain ⟨h1, h2⟩ := h.row i b r hb hr
  refine ⟨by rw [rowN_len, h1], fun x hx => ?_⟩
  obtain ⟨k, hk⟩ := List.mem_iff_getElem?.1 hx
  simp only [rowN, List.getElem?_mapIdx, Option.map_eq_some_iff] at hk
  obtain ⟨y, hy, rfl⟩ := hk
  have hy2 := h2 y (List.mem_of_getElem? hy)
  unfold nwX
  split
  · rename_i hc
    have e := ieq_iff.1 hc
    subst e
    have k3 : ieq b.kind 3 = false := by
      cases hq : ieq b.kind 3
      · rfl
      · simp [okL, hq, ieq] at hy2; exact absurd (ieq_iff.1 hq) hy2
    split
    · simp [okL, ieq]
    · simp [okL, k3]
  · exact hy2
theorem okN {s : Stn} {p : Pos} {cl : List (List Bool)} (h : okP s p = true) : okP s (posN cl p) = true := by
  obtain ⟨h1, h2⟩ := okP_iff h
  simp [okP, h1, posE_of (pfineN (cl := cl) (pfine_of h2))]
theorem subN {p : Pos} {cl : List (List Bool)} : Sub2 (posN cl p) (resP p true) := by
  intro i l l' h1 h2
  simp only [posN, List.getElem?_mapIdx, Option.map_eq_some_iff] at h1
  obtain ⟨r, hr, rfl⟩ := h1
  simp only [resP, List.getElem?_map, hr, Option.map_some, Option.some.injEq] at h2
  subst h2
  refine ⟨by simp [rowN], fun j x y hx hy hc => ?_⟩
  simp only [rowN, List.getElem?_mapIdx, Option.map_eq_some_iff] at hx
  obtain ⟨z, hz, rfl⟩ := hx
  simp only [List.getElem?_map, hz, Option.map_some, Option.some.injEq] at hy
  subst hy
  unfold nwX at hc
  unfold resF resZ
  split at hc
  · rename_i h2; rw [if_pos h2]; rfl
  · rename_i h2; rw [if_neg h2]; exact hc
/-! ### the sections -/
theorem atF_same {L : List Sc} {b c : Int} (h : ∀ x ∈ L, b ∈ x.bu ↔ c ∈ x.bu) : atF L b = atF L c := by
  have hb : atB L b = atB L c := by
    funext i
    unfold atB
    cases hx : L[i]? with
    | none => rfl
    | some x => simp only []; rw [decide_eq_decide]; exact h x (List.mem_of_getElem? hx)
  unfold atF; rw [hb]
theorem atF_ex {L : List Sc} {b : Int} {x : Sc} (hx : x ∈ L) (hb : b ∈ x.bu) : ∃ k : Nat, atF L b = k ∧ k < L.length := by
  obtain ⟨i, hi⟩ := List.mem_iff_getElem?.1 hx
  have hil := (List.getElem?_eq_some_iff.1 hi).1
  cases hf : (List.range L.length).find? (atB L b) with
  | none =>
    have := List.find?_eq_none.1 hf i (by simpa using hil)
    simp [atB, hi, hb] at this
  | some k =>
    refine ⟨k, by simp [atF, hf], ?_⟩
    have := List.mem_of_find?_eq_some hf
    simpa using this
theorem part_at {s : Stn} {p q : Pos} (hok : okP s p = true) (okq : okP s q = true) (hsub : Sub2 q (resP p true)) {b : Nat} (hb : b < s.bs.length) :
    ∃ k u : Nat, (grp s q)[b]? = some (u : Int) ∧ u < s.bs.length ∧ atF (secF s p) (b : Int) = k ∧ atF (secF s p) (u : Int) = k := by
  have hF := fine_of (okP_iff hok).1
  have hP := pfine_of (okP_iff hok).2
  have hkq := (pfine_of (okP_iff okq).2).nk
  have hkr : (resP p true).lk.length = s.qs.length := by simp [resP, hP.nk]
  have hgl : (grp s (resP p true)).length = s.bs.length := grpN_len _ _ _
  have hql : (grp s q).length = s.bs.length := grpN_len _ _ _
  obtain ⟨x, hx, _⟩ := at_ex (l := grp s q) (i := b) (by omega)
  obtain ⟨u, hu, hub, _⟩ := (show Can (grp s q) from grpN_can hF hkq _ (Nat.le_refl _)) b x hx
  subst hu
  obtain ⟨u', hu', hG⟩ := (show Fin2 (grp s q) (grp s (resP p true)) from grpN_fin2 hF hkq hkr hsub _ (Nat.le_refl _)) b _ hx
  have e : u' = u := by omega
  subst e
  obtain ⟨y, hy, _⟩ := at_ex (l := grp s (resP p true)) (i := b) (by omega)
  obtain ⟨lo, hlo, hlob, hGlo⟩ := (show Can (grp s (resP p true)) from grpN_can hF hkr _ (Nat.le_refl _)) b y hy
  subst hlo
  rw [hy] at hG
  have gb : g0 (grp s (resP p true)) (b : Int) = lo := by simp [g0, gAt, hy]
  have gu : g0 (grp s (resP p true)) (u' : Int) = lo := by simp [g0, gAt, hG]
  have hmem : ∀ x ∈ secF s p, ((b : Int) ∈ x.bu ↔ (u' : Int) ∈ x.bu) := by
    intro x hx
    simp only [secF, secN, List.mem_map, List.mem_filter, List.mem_range] at hx
    obtain ⟨lo', _, rfl⟩ := hx
    simp only [secX]
    rw [busN_mem (by omega), busN_mem (by omega), gb, gu]
  have hin : secX s p (resP p true) (grp s (resP p true)) lo ∈ secF s p := by
    simp only [secF, secN, List.mem_map, List.mem_filter, List.mem_range]
    exact ⟨lo, ⟨by omega, by simp [hGlo]⟩, rfl⟩
  have hbm : (b : Int) ∈ (secX s p (resP p true) (grp s (resP p true)) lo).bu := by
    simp only [secX]
    rw [busN_mem (by omega)]; exact gb
  obtain ⟨k, hk, _⟩ := atF_ex hin hbm
  exact ⟨k, u', hx, by omega, hk, by rw [← atF_same hmem]; exact hk⟩
/-! ### how many buses the sections have -/
theorem sum_add {α : Type} (f g : α → Nat) : ∀ l : List α, (l.map fun x => f x + g x).sum = (l.map f).sum + (l.map g).sum
  | [] => rfl
  | a :: l => by simp only [List.map_cons, List.sum_cons, sum_add f g l]; omega
theorem sum_ite {α : Type} (p : α → Bool) : ∀ l : List α, (l.map fun x => if p x = true then 1 else 0).sum = (l.filter p).length
  | [] => rfl
  | a :: l => by
    simp only [List.map_cons, List.sum_cons, sum_ite p l]
    cases h : p a
    · simp [List.filter_cons, h]
    · simp [List.filter_cons, h]; omega
theorem sum_swap {α β : Type} (p : α → β → Bool) (A : List α) : ∀ M : List β, (A.map fun a => (M.filter (p a)).length).sum = (M.map fun m => (A.filter fun a => p a m).length).sum
  | [] => by
    simp only [List.filter_nil, List.length_nil, List.map_nil, List.sum_nil]
    induction A with
    | nil => rfl
    | cons a A ih => simpa using ih
  | m :: M => by
    have h1 : (A.map fun a => ((m :: M).filter (p a)).length) = A.map fun a => (if p a m = true then 1 else 0) + (M.filter (p a)).length := by
      refine List.map_congr_left fun a _ => ?_
      cases h : p a m
      · simp [List.filter_cons, h]
      · simp [List.filter_cons, h]; omega
    rw [h1, sum_add, sum_ite, sum_swap p A M]
    simp
theorem cnt_one {p : Nat → Bool} {a0 : Nat} : ∀ {A : List Nat}, A.Nodup → a0 ∈ A → (∀ a ∈ A, p a = true ↔ a = a0) → (A.filter p).length = 1
  | [], _, h, _ => by simp at h
  | a :: A, hn, h, hp => by
    simp only [List.nodup_cons] at hn
    by_cases e : a = a0
    · subst e
      have h1 : p a = true := (hp a (by simp)).2 rfl
      have h2 : A.filter p = [] := by
        rw [List.filter_eq_nil_iff]
        intro x hx hpx
        have := (hp x (by simp [hx])).1 hpx
        subst this
        exact hn.1 hx
      simp [List.filter_cons, h1, h2]
    · have h1 : p a = false := by
        cases hq : p a
        · rfl
        · exact absurd ((hp a (by simp)).1 hq) e
      have h2 : a0 ∈ A := by
        rcases List.mem_cons.1 h with h | h
        · exact absurd h.symm e
        · exact h
      simp only [List.filter_cons, h1, Bool.false_eq_true, if_false]
      exact cnt_one hn.2 h2 fun x hx => hp x (by simp [hx])
def smB (L : List Sc) (i : Nat) : Nat := ((L.take i).map fun x => x.bu.length).sum
theorem smB_step {L : List Sc} {i : Nat} {x : Sc} (h : L[i]? = some x) : smB L (i + 1) = smB L i + x.bu.length := by simp [smB, take_snoc h]
theorem smB_le {L : List Sc} (h : ∀ x ∈ L, x.bu.length ≤ 1000) : ∀ i, smB L i ≤ 1000 * i
  | 0 => by simp [smB]
  | i + 1 => by
    have ih := smB_le h i
    cases hx : L[i]? with
    | none =>
      have : L.take (i + 1) = L.take i := by rw [List.take_add_one, hx]; simp
      simp only [smB, this] at ih ⊢; omega
    | some x =>
      rw [smB_step hx]
      have := h x (List.mem_of_getElem? hx)
      omega
theorem part_sum {s : Stn} {p : Pos} (hok : okP s p = true) : smB (secF s p) (secF s p).length = s.bs.length := by
  have hF := fine_of (okP_iff hok).1
  have hP := pfine_of (okP_iff hok).2
  have hkr : (resP p true).lk.length = s.qs.length := by simp [resP, hP.nk]
  have hgl : (grp s (resP p true)).length = s.bs.length := grpN_len _ _ _
  have hcan : Can (grp s (resP p true)) := grpN_can hF hkr _ (Nat.le_refl _)
  rw [smB, List.take_length]
  simp only [secF, secN, List.map_map]
  generalize grp s (resP p true) = g at hgl hcan ⊢
  generalize s.bs.length = n at hgl ⊢
  have e : ((fun x : Sc => x.bu.length) ∘ secX s p (resP p true) g) = fun lo : Nat => ((List.range n).filter (fun i : Nat => g[i]? == some (lo : Int))).length := by
    funext lo; simp [secX, busN, hgl]
  rw [e, sum_swap (fun (lo : Nat) (i : Nat) => g[i]? == some (lo : Int))]
  have h1 : ((List.range n).map fun m => (((List.range n).filter fun i : Nat => g[i]? == some (i : Int)).filter fun a : Nat => g[m]? == some (a : Int)).length) = (List.range n).map fun _ => 1 := by
    refine List.map_congr_left fun m hm => ?_
    obtain ⟨y, hy, _⟩ := at_ex (l := g) (i := m) (by rw [hgl]; simpa using hm)
    obtain ⟨lo, hlo, hlom, hglo⟩ := hcan m y hy
    subst hlo
    have hmn : m < n := by simpa using hm
    refine cnt_one (a0 := lo) (List.Pairwise.filter _ List.nodup_range) ?_ fun a _ => ?_
    · simp [hglo]; omega
    · rw [hy]; simp; omega
  rw [h1]
  have h2 : ∀ k : Nat, ((List.range k).map fun _ => 1).sum = k := by
    intro k
    induction k with
    | zero => rfl
    | succ k ih => rw [List.range_succ, List.map_append, List.sum_append, ih]; rfl
  exact h2 n
end Go.Proofs.Ytjhmphkdkclbjaa
end
section
namespace Go.Proofs.Ytjhmphkdkclbjaa
open Go.Pv Go.RowKit
set_option linter.unusedSimpArgs false
set_option linter.unusedVariables false
set_option maxRecDepth 100000
set_option maxHeartbeats 4000000
attribute [-simp] Tclo_at Tgrp_at Tchk Tpchk TcI TcB Tclo Tgrp Tsid Tnod Tlook Tbnd Tres TSd TBd Tix Tcon Tgps Tsg Tmv Tidx Tnms Tnmd Tobj Tlks Tbay Trck Trpc Trg Trf Trsd Trnd Tar Ttwo Tof Tnm Tat Trof Tsm Tsl Tk33 Tck Tkn Tjo

noncomputable section
def Tcd : List V → Option (V × List (Nat × Blk))
  | [.agg a] => (match unPos a with
    | some p => if p.cl.length ≤ 1000 ∧ p.lk.length ≤ 1000 ∧ (p.lk.all fun l => decide (l.length ≤ 1000)) = true then some (.agg [.sl 6 0 p.cl.length 1, .sl 24 0 p.lk.length 1], (6, ⟨4, p.cl.map V.bool⟩) :: (24, ⟨42, famL 1000 p.lk p.lk.length⟩) :: famB 1000 p.lk p.lk.length) else none
    | none => none)
  | _ => none
theorem Tcd_at {s : Stn} {p : Pos} (h : okP s p = true) : Tcd [.agg [.list 1 (p.cl.map b1), .list 1 (p.lk.map r1)]] = some (.agg [.sl 6 0 p.cl.length 1, .sl 24 0 p.lk.length 1], (6, ⟨4, p.cl.map V.bool⟩) :: (24, ⟨42, famL 1000 p.lk p.lk.length⟩) :: famB 1000 p.lk p.lk.length) := by
  obtain ⟨h1, h2, h3⟩ := res_small h
  have e2 := unPos_cs p
  unfold Pos.cs at e2
  simp only [Tcd, e2]
  exact if_pos ⟨h1, h2, by simpa using h3⟩
theorem cd_tab : ∀ vs u bl, Tcd vs = some (u, bl) → PGive Try.prog 17 vs u bl := by
  intro vs u bl h; unfold Tcd at h; split at h
  · split at h
    · rename_i h1
      split at h
      · rename_i hl
        cases h; rw [unPos_inv _ _ h1]
        exact copied_ok _ hl.1 hl.2.1 (by simpa using hl.2.2)
      · cases h
    · cases h
  · cases h
def HM2 : Tab := addF 18 Tgps (addG 17 Tcd (HL))
theorem HM2_at (f : FuncId) (vs : List V) : HM2.at' f vs = if f = 18 then Tgps vs else HL.at' f vs := rfl
theorem HM2_fr (f : FuncId) : HM2.fr f = if f = 18 then true else HL.fr f := rfl
theorem HM2_gb (f : FuncId) : HM2.gb f = if f = 17 then true else HL.gb f := rfl
theorem HM2_gv (f : FuncId) (vs : List V) : HM2.gv f vs = if f = 17 then Tcd vs else HL.gv f vs := rfl
attribute [simp] HM2_at HM2_fr HM2_gb HM2_gv Tcd Tgps
theorem HM2_ok : TabOK Try.prog HM2 := by
  refine addF_ok (addG_ok (HL_ok) (by kernel_rfl) ?_) (by kernel_rfl) ?_
  · exact cd_tab
  · exact gpsF_tab
attribute [-simp] Tgps Tcd
def rb1 (r : List Bool) : List V := [.list 1 (r.map b1)]
theorem part_bad {s : Stn} {p : Pos} {cl : List (List Bool)} (hl : lenB s p = true) (h : ¬ (smallF s p = true ∧ okP s p = true)) : PCall Try.prog 4 [.agg s.cs, .agg p.cs, .list 1 (cl.map rb1)] (.bool true) := by
  have t1 := @Tsl_at s p
  have t2 : Tk33 [] = some (.bool true) := rfl
  cases e0 : smallF s p
  · rw [e0] at t1
    refine pcall_cx HM2_ok mixed (fun _ => none) Try.func4 rfl Try.ntmps4 Try.results4 (by simp) (by kernel_rfl) ?_
    repeat' first
      | (with_reducible refine gw_bool (fun _ => ?_) (fun _ => ?_))
      | (with_reducible refine condw_bool (fun _ => ?_) (fun _ => ?_))
      | simp [*, Stn.cs, Pos.cs]
  rw [e0] at t1
  cases e1 : ieq (chkF s) 0
  · refine pcall_cx HM2_ok mixed (fun _ => none) Try.func4 rfl Try.ntmps4 Try.results4 (by simp) (by kernel_rfl) ?_
    repeat' first
      | (with_reducible refine gw_bool (fun _ => ?_) (fun _ => ?_))
      | (with_reducible refine condw_bool (fun _ => ?_) (fun _ => ?_))
      | simp [*, Stn.cs, Pos.cs]
  cases e2 : ieq (posE s p) 0
  · refine pcall_cx HM2_ok mixed (fun _ => none) Try.func4 rfl Try.ntmps4 Try.results4 (by simp) (by kernel_rfl) ?_
    repeat' first
      | (with_reducible refine gw_bool (fun _ => ?_) (fun _ => ?_))
      | (with_reducible refine condw_bool (fun _ => ?_) (fun _ => ?_))
      | simp [*, Stn.cs, Pos.cs]
  · exact absurd ⟨e0, by simp [okP, ieq_iff.1 e1, ieq_iff.1 e2]⟩ h
theorem part_good {s : Stn} {p : Pos} {cl : List (List Bool)} (hl : lenB s p = true) (hs : smallF s p = true) (hok : okP s p = true) (hcl : cl.length ≤ 9223372036854775807) (hcr : ∀ r ∈ cl, r.length ≤ 9223372036854775807) : PCall Try.prog 4 [.agg s.cs, .agg p.cs, .list 1 (cl.map rb1)] (.bool true) := by
  have t1 := @Tsl_at s p
  rw [hs] at t1
  have t2 : Tk33 [] = some (.bool true) := rfl
  obtain ⟨kf, hkf⟩ : ∃ kf : Nat → Nat, ∀ j, kf j = j + 561000 := ⟨fun j => j + 561000, fun _ => rfl⟩
  have y3 : ∀ j, ¬ (3 = kf j) := fun j => by rw [hkf]; omega
  have y4 : ∀ j, ¬ (4 = kf j) := fun j => by rw [hkf]; omega
  have y11 : ∀ j, ¬ (11 = kf j) := fun j => by rw [hkf]; omega
  have y12 : ∀ j, ¬ (12 = kf j) := fun j => by rw [hkf]; omega
  have y6 : ∀ j, ¬ (560006 = kf j) := fun j => by rw [hkf]; omega
  have y24 : ∀ j, ¬ (560024 = kf j) := fun j => by rw [hkf]; omega
  have x3 : ∀ j, ¬ (kf j = 3) := fun j => by rw [hkf]; omega
  have x4 : ∀ j, ¬ (kf j = 4) := fun j => by rw [hkf]; omega
  have x11 : ∀ j, ¬ (kf j = 11) := fun j => by rw [hkf]; omega
  have x12 : ∀ j, ¬ (kf j = 12) := fun j => by rw [hkf]; omega
  have x6 : ∀ j, ¬ (kf j = 560006) := fun j => by rw [hkf]; omega
  have x24 : ∀ j, ¬ (kf j = 560024) := fun j => by rw [hkf]; omega
  have hij : ∀ i j, i ≠ j → kf i ≠ kf j := fun i j h => by rw [hkf, hkf]; omega
  replace hij : Hid (_) := hij
  have c1 := (okP_iff hok).1
  have c2 := (okP_iff hok).2
  have hF := fine_of c1
  have hP := pfine_of c2
  have tO := Tof_at hl
  have hof : ofF s p = secF s p := by rw [ofF, if_pos hok]
  have hoe : ofE s p = 0 := by rw [ofE, if_pos c1, c2]
  rw [ofW, hof, hoe] at tO
  have hsc : smallSc (secF s p) = true := by have := ofF_small (p := p) hs; rwa [hof] at this
  have hT : Hid (∀ b : Int, Tat [.list 3 ((secF s p).map Sc.cs), .int .i64 b] = some (.int .i64 (atF (secF s p) b))) := show _ from fun b => Tat_at hsc
  have okq := okN (cl := cl) hok
  have hpa : Hid (∀ b : Nat, b < s.bs.length → _) := show _ from fun b hb => part_at hok okq subN hb
  have hsum := part_sum hok
  have hRl : (secF s p).length ≤ 1000 := by simp only [smallSc, Bool.and_eq_true, decide_eq_true_eq] at hsc; exact hsc.1
  have hRb : ∀ x ∈ secF s p, x.bu.length ≤ 1000 := fun x hx => by
    simp only [smallSc, Bool.and_eq_true, decide_eq_true_eq, List.all_eq_true] at hsc
    exact (hsc.2 x hx).1
  have hsl : Hid (∀ i, smB (secF s p) i ≤ 1000 * i) := show _ from smB_le hRb
  have hG := Tgps_at okq
  have hgl : (grp s (posN cl p)).length = s.bs.length := grpN_len _ _ _
  have hcd := Tcd_at hok
  have hnq := hF.nq
  have hnb := hF.nb
  have hnk := hP.nk
  have hnc := hP.nc
  have hrl : ∀ l ∈ p.lk, l.length ≤ 1000 := (res_small hok).2.2
  obtain ⟨n, hn⟩ : ∃ n, s.qs.length = n := ⟨_, rfl⟩
  obtain ⟨nb, hnbe⟩ : ∃ n, s.bs.length = n := ⟨_, rfl⟩
  obtain ⟨m, hm⟩ : ∃ m, (secF s p).length = m := ⟨_, rfl⟩
  obtain ⟨nl, hnl⟩ : ∃ n, cl.length = n := ⟨_, rfl⟩
  rw [hn] at hnk hnc hnq
  rw [hnbe] at hpa hsum hgl hnb
  rw [hm] at hsum hRl
  rw [hnl] at hcl
  have hAch := chunks_b1 p.cl
  have hApu := pure_b1 p.cl
  have hAsh := sh_b1 p.cl 560000
  have hAl : (p.cl.map V.bool).length = n := by simp [hnc]
  rw [hnc] at hAch hcd
  rw [hnk] at hcd
  have hFsh : (famL 1000 p.lk n).map (shC 560000) = famL 561000 p.lk n := famL_sh
  have hFl := famL_len 561000 p.lk n
  have hFat : Hid (∀ i, i < n → (famL 561000 p.lk n)[i]? = some (.sl (kf i) 0 (rowG p.lk i).length 1)) := show _ from fun i hi => by rw [hkf]; exact famL_at hi
  have hQl : (posN cl p).lk = (List.range n).map fun j => rowN cl j (rowG p.lk j) := by
    apply List.ext_getElem
    · simp [posN, hnk]
    · intro j h1 h2
      have hj : j < p.lk.length := by simpa [posN] using h1
      simp [posN, rowG, hj]
  have hlend : Hid (∀ h : Nat → Option Blk, (∀ j, j < n → h (kf j) = some (rowB (rowN cl j (rowG p.lk j)))) → lend0L h (famL 561000 p.lk n) = some ((posN cl p).lk.map r0)) := show _ from fun h hh => by
    have := lend_fam (h := h) (K := 561000) (lk := p.lk) (R := fun j => rowN cl j (rowG p.lk j)) (l := List.range n) (fun j hj => ⟨by rw [← hkf]; exact hh j (by simpa using hj), rowN_len _ _ _⟩)
    rw [famL, this, hQl, List.map_map]; rfl
  have hQc := chunks_r0 (posN cl p).lk
  have hQn : (posN cl p).lk.length = n := by simp [posN, hnk]
  rw [hQn] at hQc
  have hF0 : Hid ((famL 561000 p.lk n).any ownC = false → chunks 1 n (famL 561000 p.lk n) = (posN cl p).lk.map r1) := show _ → _ from fun h => by
    by_cases hn0 : n = 0
    · subst hn0
      have e : (posN cl p).lk = [] := List.eq_nil_of_length_eq_zero hQn
      rw [e]; rfl
    · exfalso
      have := List.any_eq_false.1 h (.sl (0 + 561000) 0 (rowG p.lk 0).length 1) (List.mem_of_getElem? (famL_at (n := n) (i := 0) (by omega)))
      simp [ownC] at this
  have hfree : Hid (∀ h : Nat → Option Blk, (∀ j, h (kf j) = none) → freeK 560000 (famB 1000 p.lk n) h) := show _ from fun h hh => free_fam fun j _ => by rw [show 560000 + (j + 1000) = kf j by rw [hkf]; omega]; exact hh _
  have hpo : Hid (∀ (h : Nat → Option Blk) k, k < 561000 → putK 560000 (famB 1000 p.lk n) h k = h k) := show _ from fun h k hk => put_fam_out hk
  have hpi : Hid (∀ (h : Nat → Option Blk) j, j < n → putK 560000 (famB 1000 p.lk n) h (kf j) = some (rowB (rowG p.lk j))) := show _ from fun h j hj => by
    have hh := put_fam_in (c := 560000) (K := 1000) (h := h) (lk := p.lk) hj
    rwa [show j + (560000 + 1000) = kf j by rw [hkf]] at hh
  have hqc : (posN cl p).cl = p.cl := rfl
  rw [hqc] at hG
  clear hQl hQn hqc hsc hof hoe okq hF hP hkf
  generalize hLK : (posN cl p).lk.map r0 = Q0 at hlend hQc
  generalize (posN cl p).lk.map r1 = Q1 at hQc hF0 hG
  generalize grp s (posN cl p) = G at hG hgl hpa
  generalize p.cl.map V.bool = A at hAch hApu hAsh hAl hcd
  generalize famB 1000 p.lk n = FB at hcd hfree hpo hpi
  generalize famL 1000 p.lk n = F1 at hcd hFsh
  generalize famL 561000 p.lk n = F at hFsh hFl hFat hlend hF0
  generalize secF s p = L at tO hT hpa hsum hm hRb hsl
  clear hLK
  refine pcall_cx HM2_ok mixed (fun _ => none) Try.func4 rfl Try.ntmps4 Try.results4 (by simp) (by kernel_rfl) ?_
  repeat' first
    | (with_reducible refine gw_bool (fun _ => ?_) (fun _ => ?_))
    | (with_reducible refine condw_bool (fun _ => ?_) (fun _ => ?_))
    | simp [*, Stn.cs, Pos.cs]
  refine lp_go (D := (fun _ => none)) HM2_ok mixed (by kernel_rfl) [2, 3, 4, 7, 42, 43] [3, 4, 11, 12] (α := Nat) (fun i e h => i ≤ m ∧ e 44 = .int .i64 i ∧ e 9 = .int .i64 (smB L i : Nat) ∧ h 560006 = none ∧ h 560024 = none ∧ ∀ j, h (kf j) = none) (fun i => m - i) 0 ?_ ?_
  · exact ⟨by omega, by simp, by simp [smB], by simp, by simp, fun j => by simp [upd, *]⟩
  rintro i e h hk hkh ⟨hi, g44, g9, hn6, hn24, hno⟩
  simp [Keep] at hk
  simp [KeepH] at hkh
  by_cases hlt : i < m
  · obtain ⟨x, hx, hx'⟩ := at_ex (l := L) (i := i) (by omega)
    have f1 : ilt (i : Int) (m : Int) = true := ilt_t (by omega)
    have w1 : IntKind.i64.wrap ((i : Int) + 1) = ((i + 1 : Nat) : Int) := wrap_succ (by omega)
    have hxb := hRb x (List.mem_of_getElem? hx)
    have hsi := hsl.out i
    have hst := smB_step hx
    have w2 : IntKind.i64.wrap ((smB L i : Nat) + (x.bu.length : Nat) : Int) = ((smB L (i + 1) : Nat) : Int) := by rw [wrap_id (by omega) (by omega), hst]; omega
    generalize hS1 : smB L (i + 1) = S1 at w2 hst
    replace hS1 : Hid (_ = _) := hS1
    generalize smB L i = S0 at g9 w2
    replace hno : Hid (_) := hno
    clear tO hT hpa hsl hG hcd hFat hlend hF0 hfree hpo hpi hst
    obtain ⟨lb, hlb⟩ : ∃ n, x.bu.length = n := ⟨_, rfl⟩
    rw [hlb] at w2
    repeat' first
      | (with_reducible refine gw_bool (fun _ => ?_) (fun _ => ?_))
      | (with_reducible refine condw_bool (fun _ => ?_) (fun _ => ?_))
      | simp [*, Sc.cs]
    refine nxt_go (i + 1) ((View.forget _ _ 11)) (by omega) (by simp [*, Keep, St.forget, scr, scrC, usesC, usesA]) (by simp [*, KeepH, St.forget, scr, scrC]) ?_
    exact ⟨by omega, by simp [*, St.forget, scr, scrC], by rw [hS1.out]; simp [*, St.forget, scr, scrC], by simp [*, St.forget], by simp [*, St.forget], fun j => by simp [St.forget, hno.out j, *]⟩
  have e1 : i = m := by omega
  have f1 : ilt (i : Int) (m : Int) = false := ilt_f (by omega)
  rw [e1, hsum] at g9
  have hfr := hfree.out h hno
  obtain ⟨H0, hH0⟩ : ∃ H, putK 560000 FB h = H := ⟨_, rfl⟩
  have hp3 : H0 3 = h 3 := by rw [← hH0, hpo.out h 3 (by omega)]
  have hp4 : H0 4 = h 4 := by rw [← hH0, hpo.out h 4 (by omega)]
  have hp11 : H0 11 = h 11 := by rw [← hH0, hpo.out h 11 (by omega)]
  have hp12 : H0 12 = h 12 := by rw [← hH0, hpo.out h 12 (by omega)]
  have hpf : Hid (∀ j, j < n → H0 (kf j) = some (rowB (rowG p.lk j))) := show _ from fun j hj => by rw [← hH0]; exact hpi.out h j hj
  clear hfree hpo hpi hno hsl hRb tO
  repeat' first
    | (with_reducible refine gw_bool (fun _ => ?_) (fun _ => ?_))
    | (with_reducible refine condw_bool (fun _ => ?_) (fun _ => ?_))
    | simp [*, setsV]
  refine lp_go (D := (fun _ => none)) HM2_ok mixed (by kernel_rfl) [2, 3, 7, 9, 12, 58] [3, 4, 11, 12, 560006, 560024] (α := Nat) (fun i e h => i ≤ n ∧ e 59 = .int .i64 i ∧ (∀ j, j < i → h (kf j) = some (rowB (rowN cl j (rowG p.lk j)))) ∧ ∀ j, i ≤ j → j < n → h (kf j) = some (rowB (rowG p.lk j))) (fun i => n - i) 0 ?_ ?_
  · refine ⟨by omega, by simp, fun j hj => by omega, fun j _ hj => ?_⟩
    have hh := hpf.out j hj
    simp [upd, hh, *]
  have hk0 := hk
  have hkh0 := hkh
  have g90 := g9
  clear hk hkh g44 g9 hlt hi f1 hpf hp11 hp12 hfr hn6 hn24 hcd hFsh hAsh
  clear hH0
  rintro i e h hk hkh ⟨hi, g59, hr1, hr2⟩
  simp [Keep, hk0, hkh0, g90] at hk
  simp [KeepH, hk0, hkh0, hp3, hp4] at hkh
  replace hr1 : Hid (_) := hr1
  replace hr2 : Hid (_) := hr2
  by_cases hlt : i < n
  · obtain ⟨l, hl, hl'⟩ := at_ex (l := p.lk) (i := i) (by omega)
    obtain ⟨mm, hmm⟩ : ∃ mm, l.length = mm := ⟨_, rfl⟩
    have hml := hrl l (List.mem_of_getElem? hl)
    rw [hmm] at hml
    have hrw := rowG_at hl
    have hFi := hFat.out i hlt
    rw [hrw, hmm] at hFi
    have hiF : i < F.length := by rw [hFl]; exact hlt
    have hFi' : F[i]'hiF = .sl (kf i) 0 mm 1 := (List.getElem?_eq_some_iff.1 hFi).2
    have hrow := hr2.out i (Nat.le_refl _) hlt
    rw [hrw, rowB] at hrow
    have i1' : (i : Int) < n := by omega
    have i2 : i + 1 ≤ n := by omega
    have f1 : ilt (i : Int) (n : Int) = true := ilt_t (by omega)
    have w1 : IntKind.i64.wrap ((i : Int) + 1) = ((i + 1 : Nat) : Int) := wrap_succ (by omega)
    clear hT hpa hG hFat hlend hF0 hAch hQc hl' t1 t2 hs hok c1 c2 hsum hgl hm hn hnbe hApu hAl hRl hnq hnb hrl
    repeat' first
      | (with_reducible refine gw_bool (fun _ => ?_) (fun _ => ?_))
      | (with_reducible refine condw_bool (fun _ => ?_) (fun _ => ?_))
      | simp [*]
    refine lp_go (D := (fun _ => none)) HM2_ok mixed (by kernel_rfl) [2, 3, 7, 9, 12, 13, 58, 59, 60, 61, 62, 63, 64, 65, 66, 67] [3, 4, 11, 12, 560006, 560024] (α := Nat) (fun k e h' => k ≤ mm ∧ e 68 = .int .i64 k ∧ h' (kf i) = some ⟨3, (halfN cl i l k).map (V.int .i64)⟩ ∧ ∀ j, j ≠ i → h' (kf j) = h (kf j)) (fun k => mm - k) 0 ?_ ?_
    · exact ⟨by omega, by simp, by rw [halfN_zero]; exact hrow, fun j _ => rfl⟩
    have hk1 := hk
    have hkh1 := hkh
    have g590 := g59
    clear hk hkh g59 hrow
    rintro k e h' hk hkh ⟨hkm, g68, gC, hoth⟩
    simp [Keep, hk1, hkh1, g590] at hk
    simp [KeepH, hk1, hkh1] at hkh
    replace hoth : Hid (_) := hoth
    by_cases hkl : k < mm
    · obtain ⟨x, hx, -⟩ := at_ex (l := l) (i := k) (by omega)
      have hCl := halfN_len cl i l k
      rw [hmm] at hCl
      have hCa := halfN_at (cl := cl) (i := i) hx
      have hsp := @halfN_step cl i l k x hx
      have hsm := @halfN_same cl i l k x hx
      have hnw : nwX cl i k x = if ieq x 2 = true then (if chB cl i k = true then 1 else 0) else x := rfl
      replace hsp : Hid (_ = _) := hsp
      replace hsm : Hid (_ → _ = _) := hsm
      generalize halfN cl i l k = C at gC hCl hCa hsp hsm
      have hkC : k < C.length := by rw [hCl]; exact hkl
      have hCa' : C[k]'hkC = x := (List.getElem?_eq_some_iff.1 hCa).2
      have f2 : ilt (k : Int) (mm : Int) = true := ilt_t (by omega)
      have w2 : IntKind.i64.wrap ((k : Int) + 1) = ((k + 1 : Nat) : Int) := wrap_succ (by omega)
      have k1 : (k : Int) < mm := by omega
      have k2 : k + 1 ≤ mm := by omega
      clear hr1 hr2 hx hrw
      cases q2 : ieq x 2
      · have hnx : Hid (_ = C) := hsm.out q2
        clear hsp hsm hnw
        repeat' first
          | (with_reducible refine gw_bool (fun _ => ?_) (fun _ => ?_))
          | (with_reducible refine condw_bool (fun _ => ?_) (fun _ => ?_))
          | simp [*]
        refine nxt_go (k + 1) (View.refl _ _) (by omega) (by simp [*, Keep, St.forget, scr, scrC]) (by simp [*, KeepH, St.forget, scr, scrC]) ?_
        exact ⟨by omega, by simp [*], by rw [hnx.out]; simp [*], hoth.out⟩
      · rw [q2] at hnw
        simp only [if_true] at hnw
        have hnx0 := hsp.out
        clear hsp hsm
        by_cases hil : i < nl
        · obtain ⟨r, hr, hr'⟩ := at_ex (l := cl) (i := i) (by omega)
          obtain ⟨lr, hlr⟩ : ∃ n, r.length = n := ⟨_, rfl⟩
          have j1 : ilt (i : Int) (nl : Int) = true := ilt_t (by omega)
          have hlrb := hcr r (List.mem_of_getElem? hr)
          rw [hlr] at hlrb
          by_cases hkr : k < lr
          · obtain ⟨b, hb, hb'⟩ := at_ex (l := r) (i := k) (by omega)
            have j2 : ilt (k : Int) (lr : Int) = true := ilt_t (by omega)
            have hch : chB cl i k = b := by simp [chB, hr, hb]
            rw [hch] at hnw
            cases b
            · have hnx : Hid (halfN cl i l (k + 1) = C.set k 0) := show _ = _ by rw [hnx0, hnw]; rfl
              clear hnx0 hnw hch hr hb
              repeat' first
                | (with_reducible refine gw_bool (fun _ => ?_) (fun _ => ?_))
                | (with_reducible refine condw_bool (fun _ => ?_) (fun _ => ?_))
                | simp [*, setsV, rb1, b1]
              refine nxt_go (k + 1) (View.refl _ _) (by omega) (by simp [*, Keep, St.forget, scr, scrC]) (by simp [*, KeepH, St.forget, scr, scrC]) ?_
              exact ⟨by omega, by simp [*], by rw [hnx.out]; simp [*, List.map_set], fun j hj => by dsimp only; rw [upd_ne _ _ (hij.out _ _ hj)]; exact hoth.out j hj⟩
            · have hnx : Hid (halfN cl i l (k + 1) = C.set k 1) := show _ = _ by rw [hnx0, hnw]; rfl
              clear hnx0 hnw hch hr hb
              repeat' first
                | (with_reducible refine gw_bool (fun _ => ?_) (fun _ => ?_))
                | (with_reducible refine condw_bool (fun _ => ?_) (fun _ => ?_))
                | simp [*, setsV, rb1, b1]
              refine nxt_go (k + 1) (View.refl _ _) (by omega) (by simp [*, Keep, St.forget, scr, scrC]) (by simp [*, KeepH, St.forget, scr, scrC]) ?_
              exact ⟨by omega, by simp [*], by rw [hnx.out]; simp [*, List.map_set], fun j hj => by dsimp only; rw [upd_ne _ _ (hij.out _ _ hj), upd_ne _ _ (hij.out _ _ hj)]; exact hoth.out j hj⟩
          · have j2 : ilt (k : Int) (lr : Int) = false := ilt_f (by omega)
            have hch : chB cl i k = false := by simp [chB, hr, List.getElem?_eq_none (show r.length ≤ k by omega)]
            rw [hch] at hnw
            have hnx : Hid (halfN cl i l (k + 1) = C.set k 0) := show _ = _ by rw [hnx0, hnw]; rfl
            clear hnx0 hnw hch hr
            repeat' first
              | (with_reducible refine gw_bool (fun _ => ?_) (fun _ => ?_))
              | (with_reducible refine condw_bool (fun _ => ?_) (fun _ => ?_))
              | simp [*, setsV, rb1, b1]
            refine nxt_go (k + 1) (View.refl _ _) (by omega) (by simp [*, Keep, St.forget, scr, scrC]) (by simp [*, KeepH, St.forget, scr, scrC]) ?_
            exact ⟨by omega, by simp [*], by rw [hnx.out]; simp [*, List.map_set], fun j hj => by dsimp only; rw [upd_ne _ _ (hij.out _ _ hj)]; exact hoth.out j hj⟩
        · have j1 : ilt (i : Int) (nl : Int) = false := ilt_f (by omega)
          have hch : chB cl i k = false := by simp [chB, List.getElem?_eq_none (show cl.length ≤ i by omega)]
          rw [hch] at hnw
          have hnx : Hid (halfN cl i l (k + 1) = C.set k 0) := show _ = _ by rw [hnx0, hnw]; rfl
          clear hnx0 hnw hch
          repeat' first
            | (with_reducible refine gw_bool (fun _ => ?_) (fun _ => ?_))
            | (with_reducible refine condw_bool (fun _ => ?_) (fun _ => ?_))
            | simp [*, setsV, rb1, b1]
          refine nxt_go (k + 1) (View.refl _ _) (by omega) (by simp [*, Keep, St.forget, scr, scrC]) (by simp [*, KeepH, St.forget, scr, scrC]) ?_
          exact ⟨by omega, by simp [*], by rw [hnx.out]; simp [*, List.map_set], fun j hj => by dsimp only; rw [upd_ne _ _ (hij.out _ _ hj)]; exact hoth.out j hj⟩
    · have f2 : ilt (k : Int) (mm : Int) = false := ilt_f (by omega)
      have e2 : k = l.length := by omega
      rw [e2, halfN_end] at gC
      replace gC : Hid (_) := gC
      repeat' first
        | (with_reducible refine gw_bool (fun _ => ?_) (fun _ => ?_))
        | (with_reducible refine condw_bool (fun _ => ?_) (fun _ => ?_))
        | simp [*]
      refine nxt_go (i + 1) (View.refl _ _) (by omega) (by simp [*, Keep, St.forget, scr, scrC]) (by simp [*, KeepH, St.forget, scr, scrC]) ?_
      refine ⟨by omega, by simp [*], fun j hj => ?_, fun j hj hj2 => ?_⟩
      · by_cases ej : j = i
        · subst ej; rw [hrw]; exact gC.out
        · dsimp only; rw [hoth.out j ej]; exact hr1.out j (by omega)
      · dsimp only; rw [hoth.out j (by omega)]; exact hr2.out j (by omega) hj2
  · have f1 : ilt (i : Int) (n : Int) = false := ilt_f (by omega)
    have e1 : i = n := by omega
    have hle := hlend.out h (fun j hj => hr1.out j (by omega))
    have c0 : ieq (nb : Int) (nb : Int) = true := by simp [ieq]
    have hFc := hF0.out
    clear hr1 hr2 hF0 hlend hFat t1 hs hok c1 c2 hcr hrl hcl e1
    cases hFa : F.any ownC
    all_goals
      first
        | (have hFc' := hFc hFa; clear hFc hle hQc)
        | clear hFc
      repeat' first
        | (with_reducible refine gw_bool (fun _ => ?_) (fun _ => ?_))
        | (with_reducible refine condw_bool (fun _ => ?_) (fun _ => ?_))
        | simp [*]
    all_goals refine lp_go (D := (fun _ => none)) HM2_ok mixed (by kernel_rfl) [7, 15, 136] [3, 4, 11, 12] (α := Nat) (fun b e h => b ≤ nb ∧ e 137 = .int .i64 b) (fun b => nb - b) 0 ?_ ?_
    all_goals first
      | (exact ⟨by omega, by simp⟩)
      | skip
    all_goals
      have hk1 := hk
      have hkh1 := hkh
      clear hk hkh g59
      rintro b e h' hk hkh ⟨hbn, g137⟩
      simp [Keep, hk1, hkh1] at hk
      simp [KeepH, hk1, hkh1] at hkh
      by_cases hbl : b < nb
      · obtain ⟨k, u, hGu, hul, hk1', hk2'⟩ := hpa.out b hbl
        have hT1 := hT.out (b : Int)
        have hT2 := hT.out (u : Int)
        rw [hk1'] at hT1
        rw [hk2'] at hT2
        have hGu' := (List.getElem?_eq_some_iff.1 hGu).2
        have f2 : ilt (b : Int) (nb : Int) = true := ilt_t (by omega)
        have w2 : IntKind.i64.wrap ((b : Int) + 1) = ((b + 1 : Nat) : Int) := wrap_succ (by omega)
        have f3 : ilt (k : Int) 0 = false := ilt_f (by omega)
        have c3 : ieq (k : Int) (k : Int) = true := by simp [ieq]
        have b1' : (b : Int) < nb := by omega
        clear hT hpa hG
        repeat' first
          | (with_reducible refine gw_bool (fun _ => ?_) (fun _ => ?_))
          | (with_reducible refine condw_bool (fun _ => ?_) (fun _ => ?_))
          | simp [*, i1]
        refine nxt_go (b + 1) (View.refl _ _) (by omega) (by simp [*, Keep, St.forget, scr, scrC]) (by simp [*, KeepH, St.forget, scr, scrC]) ?_
        exact ⟨by omega, by simp [*]⟩
      · have f2 : ilt (b : Int) (nb : Int) = false := ilt_f (by omega)
        clear hT hpa hG
        repeat' first
          | (with_reducible refine gw_bool (fun _ => ?_) (fun _ => ?_))
          | (with_reducible refine condw_bool (fun _ => ?_) (fun _ => ?_))
          | simp [*]
end
end Go.Proofs.Ytjhmphkdkclbjaa
end
section
namespace Go.Proofs.Ytjhmphkdkclbjaa
open Go.Pv Go.RowKit
set_option linter.unusedVariables false

theorem part_ok {s : Stn} {p : Pos} {cl : List (List Bool)} (hl : lenB s p = true) (hcl : cl.length ≤ 9223372036854775807) (hcr : ∀ r ∈ cl, r.length ≤ 9223372036854775807) : PCall Try.prog 4 [.agg s.cs, .agg p.cs, .list 1 (cl.map rb1)] (.bool true) := by
  by_cases h : smallF s p = true ∧ okP s p = true
  · exact part_good hl h.1 h.2 hcl hcr
  · exact part_bad hl h
theorem has_rb {cs : List V} (h : HasC (.slice .bool) cs) : ∃ r : List Bool, cs = rb1 r ∧ r.length ≤ maxLen := by
  simp only [HasC] at h
  obtain ⟨xs, rfl, hl, hx⟩ := h
  obtain ⟨l, rfl⟩ := rows_of (enc := b1) fun x hx2 => has_b1 (by simpa only [HasC] using hx x hx2)
  exact ⟨l, rfl, by simpa using hl⟩
theorem rb1_inj {a b : List Bool} (h : rb1 a = rb1 b) : a = b := by
  have h1 : (a.map b1) = b.map b1 := by simpa [rb1] using h
  have h2 := congrArg (List.map fun c : List V => match c with | [.bool x] => x | _ => false) h1
  simpa [List.map_map, b1, Function.comp_def] using h2
theorem has_rbs {u : V} (h : HasV (.slice (.slice .bool)) u) : ∃ cl : List (List Bool), u = .list 1 (cl.map rb1) ∧ cl.length ≤ maxLen ∧ ∀ r ∈ cl, r.length ≤ maxLen := by
  obtain ⟨xs, rfl, hl, hx⟩ := has_slice h
  obtain ⟨cl, rfl⟩ := rows_of (enc := rb1) fun x hx2 => by obtain ⟨r, hr, _⟩ := has_rb (hx x hx2); exact ⟨r, hr⟩
  refine ⟨cl, rfl, by simpa using hl, fun r hr => ?_⟩
  obtain ⟨r2, h2, h3⟩ := has_rb (hx (rb1 r) (List.mem_map.2 ⟨r, hr, rfl⟩))
  rw [rb1_inj h2]; exact h3
end Go.Proofs.Ytjhmphkdkclbjaa
end
section
namespace Go.Proofs.Ytjhmphkdkclbjaa.busimagePartitionDone
open Go.Pv Go.ChangeShapes Go.WideShapes Go.ChangeAt Go.RowKit
set_option linter.unusedVariables false

theorem law : ∀ us, HasAll [.struct [.str, .slice .str, .slice (.struct [.str, .struct [.int .i64, .int .i64], .struct [.int .i64, .int .i64]]), .slice (.struct [.str, .int .i64, .struct [.int .i64, .int .i64], .struct [.int .i64, .int .i64]]), .slice (.struct [.str, .int .i64, .int .i64, .int .i64, .struct [.int .i64, .int .i64], .slice (.struct [.int .i64, .int .i64]), .bool, .int .i64, .int .i64, .int .i64, .int .i64])], .struct [.slice .bool, .slice (.slice (.int .i64))], .slice (.slice .bool)] us → PCall Try.prog 4 us (.bool true) := by
  rintro us ⟨a, _, rfl, ha, b, _, rfl, hb, c, _, rfl, hc, rfl⟩
  obtain ⟨s, rfl, h1, _, hlk⟩ := has_stnL ha
  obtain ⟨p, rfl, h2, _⟩ := has_pos hb
  obtain ⟨cl, rfl, hl, hx⟩ := has_rbs hc
  have hm : maxLen = 9223372036854775807 := by decide
  rw [hm] at h1 h2 hl
  have hlb : lenB s p = true := by
    simp only [lenB, Bool.and_eq_true, decide_eq_true_eq, List.all_eq_true]
    exact ⟨h1, h2⟩
  exact part_ok hlb hl fun r hr => by have := hx r hr; rwa [hm] at this

theorem own : ownKnob Try.prog.godebug = none := by kernel_rfl
theorem laidOut : laidOutB Try.prog = true := by kernel_rfl
theorem spec_at (H : Type) : ∀ ds : List (DataW H), ds.length = 3 → Rows.busimagePartitionSpec.fn H ds = { results := [.lit (.bool true)], args := ds } := by
  intro ds h
  rcases ds with _ | ⟨d0, _ | ⟨d1, _ | ⟨d2, _ | ⟨e, r⟩⟩⟩⟩
  all_goals first | rfl | (simp at h; done) | (simp at h; omega)

set_option maxRecDepth 100000 in
theorem lifted (os : Os) (started : os.Started) (H : Type) (enc : TypeId × Value → H) :
    ReturnsInHanded {} Try.checked os 4 .any (Rows.busimagePartitionSpec.pre6 enc Try.prog Try.f4 Rows.busimagePartitionRow.domain false) (Rows.busimagePartitionSpec.post enc Try.prog Try.f4 false true false false) :=
  lift (C := Try.checked) (m := 9) own laidOut started (by kernel_rfl) Try.func4
    (ChangeSpec.witness6 (enc := enc) (C := Try.checked) false ⟨#[], #[.agg #[.string ⟨#[]⟩, .slice none 0 0, .slice none 0 0, .slice none 0 0, .slice none 0 0], .agg #[.slice none 0 0, .slice none 0 0], .slice none 0 0], []⟩ 8 (by kernel_rfl) (by kernel_rfl) (by kernel_rfl) (by kernel_rfl))
    Try.params4 (by kernel_rfl) Try.underlying4 rfl (by kernel_rfl) (by kernel_rfl) (spec_at H) law

theorem over : Rows.busimagePartitionRow.holds Try.pinned (OpenSpec.ofChange Rows.busimagePartitionSpec) :=
  OpenClaim.holds_of_wide 4 Try.f4 rfl rfl rfl rfl rfl rfl rfl ⟨rfl, rfl, rfl, rfl, rfl⟩ rfl rfl rfl rfl rfl (by kernel_rfl) Try.func4 (by kernel_rfl)
    (of_decide_eq_true (by kernel_rfl)) (by unfold Func.isWrapper; first | (rw [if_pos (by decide +kernel)]; kernel_rfl) | (rw [if_neg (by decide +kernel)]; exact ⟨rfl, rfl⟩))
    (fun os started H enc _ => lifted os started H enc)

theorem proved : Rows.BusimagePartitionSaid := over
end Go.Proofs.Ytjhmphkdkclbjaa.busimagePartitionDone
end
