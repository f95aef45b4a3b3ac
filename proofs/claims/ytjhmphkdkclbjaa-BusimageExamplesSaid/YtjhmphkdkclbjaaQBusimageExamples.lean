/-
  The bus image: the bays around a section, and their signs.
  The examples of the bus image.
  BusimageExamples returns true for every input, and leaves the input as it was. No condition.
-/
import Derived.Test.YtjhmphkdkclbjaaJ7
import Derived.Test.YtjhmphkdkclbjaaRows
section
namespace Go.Proofs.Ytjhmphkdkclbjaa
open Go.Pv Go.RowKit
set_option linter.unusedSimpArgs false
set_option linter.unusedVariables false
set_option maxRecDepth 100000
set_option maxHeartbeats 4000000
attribute [-simp] Tclo_at Tgrp_at Tchk Tpchk TcI TcB Tclo Tgrp Tsid Tnod Tlook Tbnd Tres TSd TBd Tix Tcon Tgps Tsg Tmv Tidx Tnms Tnmd Tobj Tlks Tbay Trck Trpc Trg Trf Trsd Trnd Tar Ttwo Tof Tnm Tat Trof Tsm Tsl Tk33

def sgnS (n : Nat) (S : List Int × List Bool) (m : Int × Int) : List Int × List Bool :=
  if (ilt m.1 0 || !ilt m.1 (n : Int)) || (S.2[m.1.toNat]?).getD false then S else (S.1.set m.1.toNat m.2, S.2.set m.1.toNat true)
def sgnR (n : Nat) (me : List (Int × Int)) : List Int × List Bool := me.foldl (sgnS n) (List.replicate n 0, List.replicate 16 false)
def sgnF (L : List Sc) (k n : Nat) : List Int := match L[k]? with
  | some x => (sgnR n x.me).1
  | none => []
theorem sgnS_len (n : Nat) (S : List Int × List Bool) (m : Int × Int) : (sgnS n S m).1.length = S.1.length ∧ (sgnS n S m).2.length = S.2.length := by
  unfold sgnS; split <;> simp
theorem sgnR_len (n : Nat) (me : List (Int × Int)) : (sgnR n me).1.length = n ∧ (sgnR n me).2.length = 16 := by
  have h : ∀ (me : List (Int × Int)) (S : List Int × List Bool), (me.foldl (sgnS n) S).1.length = S.1.length ∧ (me.foldl (sgnS n) S).2.length = S.2.length := by
    intro me
    induction me with
    | nil => intro S; simp
    | cons m t ih => intro S; rw [List.foldl_cons]; have := ih (sgnS n S m); have h2 := sgnS_len n S m; omega
  have := h me (List.replicate n 0, List.replicate 16 false)
  simpa [sgnR] using this
theorem repl_i (n : Nat) : (List.replicate n [V.int .i64 0]).flatten = (List.replicate n (0 : Int)).map (V.int .i64) := by
  induction n with
  | zero => rfl
  | succ n ih => rw [List.replicate_succ, List.flatten_cons, ih]; simp [List.replicate_succ]
def arF (L : List Sc) (k : Int) : List Int := if 0 ≤ k then (match L[k.toNat]? with | some x => x.me.map Prod.fst | none => []) else []
theorem arF_neg (L : List Sc) {k : Int} (h : k < 0) : arF L k = [] := if_neg (by omega)
theorem arF_none {L : List Sc} {j : Nat} (h : L[j]? = none) : arF L j = [] := by simp [arF, h]
theorem arF_some {L : List Sc} {j : Nat} {x : Sc} (h : L[j]? = some x) : arF L j = x.me.map Prod.fst := by simp [arF, h]
theorem around_ok (L : List Sc) (k : Int) (hL : L.length ≤ 1000) (hx : ∀ x ∈ L, x.me.length ≤ 1000) : PCall Try.prog 25 [.list 3 (L.map Sc.cs), .int .i64 k] (.list 1 ((arF L k).map i1)) := by
  by_cases h0 : k < 0
  · rw [arF_neg L h0]
    refine PCall.weaken ?_ (WkL.refl _) (Wk.nils 1)
    have f0 : ilt k 0 = true := ilt_t h0
    refine pcall_cx noTab_ok mixed (fun _ => none) Try.func25 rfl Try.ntmps25 Try.results25 (by simp) (by kernel_rfl) ?_
    repeat' first
      | (with_reducible refine gw_bool (fun _ => ?_) (fun _ => ?_))
      | (with_reducible refine condw_bool (fun _ => ?_) (fun _ => ?_))
      | simp [*]
  obtain ⟨j, rfl⟩ : ∃ j : Nat, k = j := ⟨k.toNat, by omega⟩
  have f0 : ilt (j : Int) 0 = false := ilt_f (by omega)
  obtain ⟨n, hn⟩ : ∃ n, L.length = n := ⟨_, rfl⟩
  by_cases h1 : j < n
  · obtain ⟨x, hx1, hx2⟩ := at_ex (l := L) (i := j) (by omega)
    have hxl := hx x (List.mem_of_getElem? hx1)
    have f1 : ilt (j : Int) (n : Int) = true := ilt_t (by omega)
    obtain ⟨m, hm⟩ : ∃ m, x.me.length = m := ⟨_, rfl⟩
    have hrow : ∀ i (y : Int × Int), x.me[i]? = some y → (((x.me.map Prod.fst).take i ++ List.replicate (m - i) 0).map (V.int .i64)).set i (V.int .i64 y.1) = ((x.me.map Prod.fst).take (i + 1) ++ List.replicate (m - (i + 1)) 0).map (V.int .i64) := fun i y hy => by
      have hi : i < x.me.length := (List.getElem?_eq_some_iff.1 hy).1
      have e1 : m - i = m - (i + 1) + 1 := by omega
      have e2 : (x.me.map Prod.fst).take (i + 1) = (x.me.map Prod.fst).take i ++ [y.1] := by rw [List.take_add_one]; simp [hy]
      rw [e1, e2, List.replicate_succ]
      rw [show V.int .i64 y.1 = (V.int .i64) y.1 from rfl, ← List.map_set]
      congr 1
      rw [List.set_append, if_neg (by simp [List.length_take]; omega)]
      simp [List.length_take, Nat.min_eq_left (Nat.le_of_lt hi)]
    have hlen : ∀ i, i ≤ m → (((x.me.map Prod.fst).take i ++ List.replicate (m - i) 0).map (V.int .i64)).length = m := fun i hi => by simp [List.length_take]; omega
    have hsc : ∀ i, (((x.me.map Prod.fst).take i ++ List.replicate (m - i) 0).map (V.int .i64)).map (scrC 7) = (((x.me.map Prod.fst).take i ++ List.replicate (m - i) 0).map (V.int .i64)) := fun i => scr_i1 _ 7
    have hst : (List.replicate m (0 : Int)).map (V.int .i64) = ((x.me.map Prod.fst).take 0 ++ List.replicate (m - 0) 0).map (V.int .i64) := by simp
    have hen : ((x.me.map Prod.fst).take m ++ List.replicate (m - m) 0).map (V.int .i64) = (x.me.map Prod.fst).map (V.int .i64) := by simp [← hm, List.take_of_length_le]
    have hch := chunks_i1 (x.me.map Prod.fst)
    have hmm : (x.me.map Prod.fst).length = m := by simp [hm]
    rw [arF_some hx1]
    have hpu := pure_i1 (x.me.map Prod.fst)
    generalize hR : x.me.map Prod.fst = R at hst hen hrow hlen hch hmm hpu hsc ⊢
    clear hR
    rw [hmm] at hch
    generalize hF : (fun i : Nat => ((R.take i ++ List.replicate (m - i) 0).map (V.int .i64))) = F
    have hFi : ∀ i, ((R.take i ++ List.replicate (m - i) 0).map (V.int .i64)) = F i := fun i => by rw [← hF]
    simp only [hFi] at hst hen hrow hlen hsc
    clear hF hFi hx
    have hri := repl_i m
    have f5 : 8 * (m : Int) ≤ 281474976710656 := by omega
    have f6 : (m : Int) ≤ 9223372036854775807 := by omega
    rw [List.map_replicate] at hst
    replace hrow : Hid (_) := hrow
    replace hlen : Hid (_) := hlen
    replace hsc : Hid (_) := hsc
    replace hen : Hid (_) := hen
    replace hst : Hid (_) := hst
    refine pcall_cx noTab_ok mixed (fun _ => none) Try.func25 rfl Try.ntmps25 Try.results25 (by simp) (by kernel_rfl) ?_
    repeat' first
      | (with_reducible refine gw_bool (fun _ => ?_) (fun _ => ?_))
      | (with_reducible refine condw_bool (fun _ => ?_) (fun _ => ?_))
      | simp [*, Sc.cs]
    refine lp_go (D := (fun _ => none)) noTab_ok mixed (by kernel_rfl) [5, 27, 28] [7] (α := Nat) (fun i e h => i ≤ m ∧ e 29 = .int .i64 i ∧ h 22 = some ⟨3, F i⟩) (fun i => m - i) 0 ?_ ?_
    · exact ⟨by omega, by simp, by rw [← hst.out]; simp [*]⟩
    rintro i e h hk hkh ⟨hi, g7, g22⟩
    simp [Keep] at hk
    simp [KeepH] at hkh
    by_cases hlt : i < m
    · obtain ⟨y, hy, hy'⟩ := at_ex (l := x.me) (i := i) (by omega)
      have f2 : ilt (i : Int) (m : Int) = true := ilt_t (by omega)
      have w1 : IntKind.i64.wrap ((i : Int) + 1) = ((i + 1 : Nat) : Int) := wrap_succ (by omega)
      have hr := hrow.out i y hy
      have hl := hlen.out i (by omega)
      have hc := hsc.out i
      generalize F i = C at g22 hr hl hc
      replace hr : Hid (_) := hr
      clear hst hen hrow hlen hch hri hsc
      have f7 : i + 1 ≤ m := by omega
      repeat' first
        | (with_reducible refine gw_bool (fun _ => ?_) (fun _ => ?_))
        | (with_reducible refine condw_bool (fun _ => ?_) (fun _ => ?_))
        | simp [*, p2, setsV]
      refine nxt_go (i + 1) ((View.forget _ _ 7)) (by omega) (by simp [*, Keep, St.forget, scr, scrC, usesC, usesA]) (by simp [*, KeepH, St.forget, scr, scrC]) ?_
      refine ⟨by omega, by simp [*, St.forget, scr, scrC], ?_⟩
      rw [← hr.out]; simp [*, St.forget, scr, scrC, scrI_comp]
    · have f2 : ilt (i : Int) (m : Int) = false := ilt_f (by omega)
      have e2 : i = m := by omega
      rw [e2, hen.out] at g22
      clear hst hen hrow hlen hri hsc
      repeat' first
        | (with_reducible refine gw_bool (fun _ => ?_) (fun _ => ?_))
        | (with_reducible refine condw_bool (fun _ => ?_) (fun _ => ?_))
        | simp [*]
  · have f1 : ilt (j : Int) (n : Int) = false := ilt_f (by omega)
    have hnone : L[j]? = none := by rw [List.getElem?_eq_none_iff]; omega
    rw [arF_none hnone]
    refine PCall.weaken ?_ (WkL.refl _) (Wk.nils 1)
    clear hnone
    refine pcall_cx noTab_ok mixed (fun _ => none) Try.func25 rfl Try.ntmps25 Try.results25 (by simp) (by kernel_rfl) ?_
    repeat' first
      | (with_reducible refine gw_bool (fun _ => ?_) (fun _ => ?_))
      | (with_reducible refine condw_bool (fun _ => ?_) (fun _ => ?_))
      | simp [*]
theorem sgnR_step {n : Nat} {me : List (Int × Int)} {i : Nat} {y : Int × Int} (h : me[i]? = some y) : sgnR n (me.take (i + 1)) = sgnS n (sgnR n (me.take i)) y := by
  rw [take_snoc h, sgnR, List.foldl_append]; rfl
theorem signs_ok (L : List Sc) (k n : Int) (hL : L.length ≤ 1000) (hx : ∀ x ∈ L, x.me.length ≤ 1000) : PCall Try.prog 22 [.list 3 (L.map Sc.cs), .int .i64 k, .int .i64 n] (.list 1 ((if k < 0 ∨ n < 0 ∨ 16 < n then [] else sgnF L k.toNat n.toNat).map i1)) := by
  obtain ⟨nl, hn⟩ : ∃ n, L.length = n := ⟨_, rfl⟩
  by_cases h0 : k < 0
  · rw [if_pos (.inl h0)]
    refine PCall.weaken ?_ (WkL.refl _) (Wk.nils 1)
    have f0 : ilt k 0 = true := ilt_t h0
    refine pcall_cx noTab_ok mixed (fun id => if id = 9 then some ⟨[(8, 28), (10, 8)], [4]⟩ else none) Try.func22 rfl Try.ntmps22 Try.results22 (by simp) (by kernel_rfl) ?_
    repeat' first
      | (with_reducible refine gw_bool (fun _ => ?_) (fun _ => ?_))
      | (with_reducible refine condw_bool (fun _ => ?_) (fun _ => ?_))
      | simp [*]
  obtain ⟨j, rfl⟩ : ∃ j : Nat, k = j := ⟨k.toNat, by omega⟩
  have f0 : ilt (j : Int) 0 = false := ilt_f (by omega)
  by_cases h1 : j < nl
  · have f1 : ilt (j : Int) (nl : Int) = true := ilt_t (by omega)
    by_cases h2 : n < 0
    · rw [if_pos (.inr (.inl h2))]
      refine PCall.weaken ?_ (WkL.refl _) (Wk.nils 1)
      have f2 : ilt n 0 = true := ilt_t h2
      refine pcall_cx noTab_ok mixed (fun id => if id = 9 then some ⟨[(8, 28), (10, 8)], [4]⟩ else none) Try.func22 rfl Try.ntmps22 Try.results22 (by simp) (by kernel_rfl) ?_
      repeat' first
        | (with_reducible refine gw_bool (fun _ => ?_) (fun _ => ?_))
        | (with_reducible refine condw_bool (fun _ => ?_) (fun _ => ?_))
        | simp [*]
    have f2 : ilt n 0 = false := ilt_f (by omega)
    by_cases h3 : 16 < n
    · rw [if_pos (.inr (.inr h3))]
      refine PCall.weaken ?_ (WkL.refl _) (Wk.nils 1)
      have f3 : ilt 16 n = true := ilt_t h3
      refine pcall_cx noTab_ok mixed (fun id => if id = 9 then some ⟨[(8, 28), (10, 8)], [4]⟩ else none) Try.func22 rfl Try.ntmps22 Try.results22 (by simp) (by kernel_rfl) ?_
      repeat' first
        | (with_reducible refine gw_bool (fun _ => ?_) (fun _ => ?_))
        | (with_reducible refine condw_bool (fun _ => ?_) (fun _ => ?_))
        | simp [*]
    have f3 : ilt 16 n = false := ilt_f (by omega)
    rw [if_neg (by omega)]
    obtain ⟨b, rfl⟩ : ∃ b : Nat, n = b := ⟨n.toNat, by omega⟩
    obtain ⟨x, hx1, hx2⟩ := at_ex (l := L) (i := j) (by omega)
    have hxl := hx x (List.mem_of_getElem? hx1)
    obtain ⟨m, hm⟩ : ∃ m, x.me.length = m := ⟨_, rfl⟩
    have hv : sgnF L (j : Int).toNat (b : Int).toNat = (sgnR b x.me).1 := by simp [sgnF, hx1]
    rw [hv]
    clear hv hx
    have f5 : 8 * (b : Int) ≤ 281474976710656 := by omega
    have f6 : (b : Int) ≤ 9223372036854775807 := by omega
    have hS0 : sgnR b (x.me.take 0) = (List.replicate b 0, List.replicate 16 false) := rfl
    have hSe : sgnR b (x.me.take m) = sgnR b x.me := by rw [← hm, List.take_length]
    have hSs : ∀ i y, x.me[i]? = some y → sgnR b (x.me.take (i + 1)) = sgnS b (sgnR b (x.me.take i)) y := fun i y h => sgnR_step h
    have hSl : ∀ i, (sgnR b (x.me.take i)).1.length = b ∧ (sgnR b (x.me.take i)).2.length = 16 := fun i => sgnR_len b _
    generalize hF : (fun i : Nat => sgnR b (x.me.take i)) = F
    have hFi : ∀ i, sgnR b (x.me.take i) = F i := fun i => by rw [← hF]
    simp only [hFi] at hS0 hSe hSs hSl
    rw [← hSe]
    clear hF hFi hSe
    have hri := repl_i b
    have hz : ((F 0).1.map (V.int .i64)) = List.replicate b (V.int .i64 0) := by rw [hS0]; simp
    have hz2 : ((F 0).2.map V.bool) = List.replicate 16 (V.bool false) := by rw [hS0]; simp
    replace hSs : Hid (_) := hSs
    replace hSl : Hid (_) := hSl
    replace hz : Hid (_) := hz
    replace hz2 : Hid (_) := hz2
    refine pcall_cx noTab_ok mixed (fun id => if id = 9 then some ⟨[(8, 28), (10, 8)], [4]⟩ else none) Try.func22 rfl Try.ntmps22 Try.results22 (by simp) (by kernel_rfl) ?_
    repeat' first
      | (with_reducible refine gw_bool (fun _ => ?_) (fun _ => ?_))
      | (with_reducible refine condw_bool (fun _ => ?_) (fun _ => ?_))
      | simp [*, Sc.cs]
    refine lp_go (D := (fun id => if id = 9 then some ⟨[(8, 28), (10, 8)], [4]⟩ else none)) noTab_ok mixed (by kernel_rfl) [2, 7, 8, 33, 34] [10] (α := Nat) (fun i e h => i ≤ m ∧ e 35 = .int .i64 i ∧ h 28 = some ⟨3, (F i).1.map (V.int .i64)⟩ ∧ h 8 = some ⟨107, (F i).2.map V.bool⟩) (fun i => m - i) 0 ?_ ?_
    · exact ⟨by omega, by simp, by rw [hz.out]; simp [*], by rw [hz2.out]; simp [*]⟩
    rintro i e h hk hkh ⟨hi, g7, g28, g8⟩
    simp [Keep] at hk
    simp [KeepH] at hkh
    by_cases hlt : i < m
    · obtain ⟨⟨y1, y2⟩, hy, hy'⟩ := at_ex (l := x.me) (i := i) (by omega)
      have f2 : ilt (i : Int) (m : Int) = true := ilt_t (by omega)
      have w1 : IntKind.i64.wrap ((i : Int) + 1) = ((i + 1 : Nat) : Int) := wrap_succ (by omega)
      have hr := hSs.out i _ hy
      have hl := hSl.out i
      obtain ⟨Fi, hFi⟩ : ∃ Fi, F i = Fi := ⟨_, rfl⟩
      rw [hFi] at g28 g8 hr hl
      obtain ⟨C, T⟩ := Fi
      simp only at g28 g8 hr hl
      obtain ⟨hlC, hlT⟩ := hl
      have hsC := scr_i1 C 10
      have hsT := scr_b1 T 10
      clear hSs hSl hz hz2 hFi hri
      cases q1 : ilt y1 0
      · cases q2 : ilt y1 (b : Int)
        · have hr' : F (i + 1) = (C, T) := by rw [hr]; simp [sgnS, q1, q2]
          replace hr' : Hid (_) := hr'
          clear hr
          repeat' first
            | (with_reducible refine gw_bool (fun _ => ?_) (fun _ => ?_))
            | (with_reducible refine condw_bool (fun _ => ?_) (fun _ => ?_))
            | simp [*, p2, setsV]
          refine nxt_go (i + 1) ((View.forget _ _ 10)) (by omega) (by simp [*, Keep, St.forget, scr, scrC, usesC, usesA]) (by simp [*, KeepH, St.forget, scr, scrC]) ?_
          refine ⟨by omega, by simp [*, St.forget, scr, scrC], ?_, ?_⟩
          · rw [hr'.out]; simp [*, St.forget, scr, scrC]
          · rw [hr'.out]; simp [*, St.forget, scr, scrC]
        · have hy1 : 0 ≤ y1 := by have := ilt_iff'.1 q1; omega
          have hy2 := ilt_iff.1 q2
          obtain ⟨u, rfl⟩ : ∃ u : Nat, y1 = u := ⟨y1.toNat, by omega⟩
          obtain ⟨t, ht, ht'⟩ := at_ex (l := T) (i := u) (by omega)
          have f8 : u < b := by omega
          have f9 : u < 16 := by omega
          have f12 : (u : Int) < 16 := by omega
          have f10 : u + 1 ≤ b := by omega
          have f11 : u + 1 ≤ 16 := by omega
          cases t
          · have hr' : F (i + 1) = (C.set u y2, T.set u true) := by rw [hr]; simp [sgnS, q1, q2, ht]
            replace hr' : Hid (_) := hr'
            clear hr
            repeat' first
              | (with_reducible refine gw_bool (fun _ => ?_) (fun _ => ?_))
              | (with_reducible refine condw_bool (fun _ => ?_) (fun _ => ?_))
              | simp [*, p2, setsV]
            refine nxt_go (i + 1) ((View.forget _ _ 10)) (by omega) (by simp [*, Keep, St.forget, scr, scrC, usesC, usesA]) (by simp [*, KeepH, St.forget, scr, scrC]) ?_
            refine ⟨by omega, by simp [*, St.forget, scr, scrC], ?_, ?_⟩
            · rw [hr'.out]; simp [*, St.forget, scr, scrC, List.map_set]
            · rw [hr'.out]; simp [*, St.forget, scr, scrC, List.map_set]
          · have hr' : F (i + 1) = (C, T) := by rw [hr]; simp [sgnS, q1, q2, ht]
            replace hr' : Hid (_) := hr'
            clear hr
            repeat' first
              | (with_reducible refine gw_bool (fun _ => ?_) (fun _ => ?_))
              | (with_reducible refine condw_bool (fun _ => ?_) (fun _ => ?_))
              | simp [*, p2, setsV]
            refine nxt_go (i + 1) ((View.forget _ _ 10)) (by omega) (by simp [*, Keep, St.forget, scr, scrC, usesC, usesA]) (by simp [*, KeepH, St.forget, scr, scrC]) ?_
            refine ⟨by omega, by simp [*, St.forget, scr, scrC], ?_, ?_⟩
            · rw [hr'.out]; simp [*, St.forget, scr, scrC]
            · rw [hr'.out]; simp [*, St.forget, scr, scrC]
      · have hr' : F (i + 1) = (C, T) := by rw [hr]; simp [sgnS, q1]
        replace hr' : Hid (_) := hr'
        clear hr
        repeat' first
          | (with_reducible refine gw_bool (fun _ => ?_) (fun _ => ?_))
          | (with_reducible refine condw_bool (fun _ => ?_) (fun _ => ?_))
          | simp [*, p2, setsV]
        refine nxt_go (i + 1) ((View.forget _ _ 10)) (by omega) (by simp [*, Keep, St.forget, scr, scrC, usesC, usesA]) (by simp [*, KeepH, St.forget, scr, scrC]) ?_
        refine ⟨by omega, by simp [*, St.forget, scr, scrC], ?_, ?_⟩
        · rw [hr'.out]; simp [*, St.forget, scr, scrC]
        · rw [hr'.out]; simp [*, St.forget, scr, scrC]
    · have f2 : ilt (i : Int) (m : Int) = false := ilt_f (by omega)
      have e2 : i = m := by omega
      rw [e2] at g28
      have hl := (hSl.out m).1
      generalize (F m).1 = R at g28 hl
      have hch := chunks_i1 R
      have hpu := pure_i1 R
      rw [hl] at hch
      clear hSs hSl hz hz2 hri
      repeat' first
        | (with_reducible refine gw_bool (fun _ => ?_) (fun _ => ?_))
        | (with_reducible refine condw_bool (fun _ => ?_) (fun _ => ?_))
        | simp [*]
  · have f1 : ilt (j : Int) (nl : Int) = false := ilt_f (by omega)
    have hnone : L[j]? = none := by rw [List.getElem?_eq_none_iff]; omega
    have hv : (if (j : Int) < 0 ∨ n < 0 ∨ 16 < n then [] else sgnF L (j : Int).toNat n.toNat) = [] := by
      split
      · rfl
      · simp [sgnF, hnone]
    rw [hv]
    refine PCall.weaken ?_ (WkL.refl _) (Wk.nils 1)
    clear hnone hv
    refine pcall_cx noTab_ok mixed (fun id => if id = 9 then some ⟨[(8, 28), (10, 8)], [4]⟩ else none) Try.func22 rfl Try.ntmps22 Try.results22 (by simp) (by kernel_rfl) ?_
    repeat' first
      | (with_reducible refine gw_bool (fun _ => ?_) (fun _ => ?_))
      | (with_reducible refine condw_bool (fun _ => ?_) (fun _ => ?_))
      | simp [*]
end Go.Proofs.Ytjhmphkdkclbjaa
end
section
namespace Go.Proofs.Ytjhmphkdkclbjaa
open Go.Pv Go.RowKit
set_option linter.unusedSimpArgs false
set_option linter.unusedVariables false
set_option maxRecDepth 100000
set_option maxHeartbeats 4000000
attribute [-simp] Tclo_at Tgrp_at Tchk Tpchk TcI TcB Tclo Tgrp Tsid Tnod Tlook Tbnd Tres TSd TBd Tix Tcon Tgps Tsg Tmv Tidx Tnms Tnmd Tobj Tlks Tbay Trck Trpc Trg Trf Trsd Trnd Tar Ttwo Tof Tnm Tat Trof Tsm Tsl Tk33
noncomputable section
def sgn2 (L : List Sc) (k n : Int) : List Int := if k < 0 ∨ n < 0 ∨ 16 < n then [] else sgnF L k.toNat n.toNat
def Tard : List V → Option V
  | [.list 3 xs, .int .i64 b] => (match decL unSc xs with
    | some L => if smallSc L = true then some (.list 1 ((arF L b).map i1)) else none
    | _ => none)
  | _ => none
theorem Tard_at {L : List Sc} {b : Int} (h : smallSc L = true) : Tard [.list 3 (L.map Sc.cs), .int .i64 b] = some (.list 1 ((arF L b).map i1)) := by simp [Tard, decL_map unSc_cs, h]
theorem smallSc_me {L : List Sc} (h : smallSc L = true) : L.length ≤ 1000 ∧ ∀ x ∈ L, x.me.length ≤ 1000 := by
  simp only [smallSc, Bool.and_eq_true, decide_eq_true_eq, List.all_eq_true] at h
  exact ⟨h.1, fun x hx => (h.2 x hx).2⟩
theorem ard_tab : ∀ vs v, Tard vs = some v → PCall Try.prog 25 vs v := by
  intro vs v h; unfold Tard at h; split at h
  · split at h
    · rename_i h1
      split at h
      · rename_i hl; cases h; rw [decL_inv unSc_inv _ _ h1]; exact around_ok _ _ (smallSc_me hl).1 (smallSc_me hl).2
      · cases h
    · cases h
  · cases h
def Tsgs : List V → Option V
  | [.list 3 xs, .int .i64 b, .int .i64 n] => (match decL unSc xs with
    | some L => if smallSc L = true then some (.list 1 ((sgn2 L b n).map i1)) else none
    | _ => none)
  | _ => none
theorem Tsgs_at {L : List Sc} {b n : Int} (h : smallSc L = true) : Tsgs [.list 3 (L.map Sc.cs), .int .i64 b, .int .i64 n] = some (.list 1 ((sgn2 L b n).map i1)) := by simp [Tsgs, decL_map unSc_cs, h]
theorem sgs_tab : ∀ vs v, Tsgs vs = some v → PCall Try.prog 22 vs v := by
  intro vs v h; unfold Tsgs at h; split at h
  · split at h
    · rename_i h1
      split at h
      · rename_i hl; cases h; rw [decL_inv unSc_inv _ _ h1]; exact signs_ok _ _ _ (smallSc_me hl).1 (smallSc_me hl).2
      · cases h
    · cases h
  · cases h
def HM : Tab := add 25 Tard (add 22 Tsgs (HL))
theorem HM_at (f : FuncId) (vs : List V) : HM.at' f vs = if f = 25 then Tard vs else if f = 22 then Tsgs vs else HL.at' f vs := rfl
theorem HM_fr (f : FuncId) : HM.fr f = if f = 25 then false else if f = 22 then false else HL.fr f := rfl
theorem HM_gb (f : FuncId) : HM.gb f = HL.gb f := rfl
theorem HM_gv (f : FuncId) (vs : List V) : HM.gv f vs = HL.gv f vs := rfl
attribute [simp] HM_at HM_fr HM_gb HM_gv Tard Tsgs
theorem HM_ok : TabOK Try.prog HM := by
  refine add_ok (add_ok (HL_ok) (by kernel_rfl) ?_) (by kernel_rfl) ?_
  · exact sgs_tab
  · exact ard_tab
attribute [-simp] Tard Tsgs
def st0 : Stn := ⟨⟨#[]⟩, [], [], [], []⟩
def po0 : Pos := ⟨[], []⟩
theorem of3 : ofW st2 po0 = .tup [.list 3 [], .int .i64 3] := by kernel_rfl
theorem of4 : ofW st0 po0 = .tup [.list 3 [], .int .i64 7] := by kernel_rfl
theorem Tof_nil1 : Tof [.agg st2.cs, .agg [.nils, .nils]] = some (ofW st2 po0) := by
  have e1 := unStn_cs st2
  unfold Stn.cs at e1
  simp [Tof, Stn.cs, nzS, nzP, nz, e1, unPos, decL, lenB, po0]
  show (1 : Nat) ≤ _
  omega
theorem Tof_nil2 : Tof [.agg [.str ⟨#[]⟩, .nils, .nils, .nils, .nils], .agg [.nils, .nils]] = some (ofW st0 po0) := by
  simp [Tof, nzS, nzP, nz, unStn, unPos, decL, lenB, po0, st0]
theorem Examples_ok : PCall Try.prog 6 [] (.bool true) := by
  have hT0 : Ttwo [] = some (.agg st2.cs) := rfl
  have hT1 := Tof_nil1
  have hT2 := Tof_at (s := st2) (p := po2) (by kernel_rfl)
  have hT3 := Tof_nil2
  have hTn := Tnm_at st2_chk
  have hTa := Tat_at (L := sx2) (b := 2) (by kernel_rfl)
  have hA0 := Tard_at (L := sx2) (b := 0) (by kernel_rfl)
  have hA1 := Tard_at (L := sx2) (b := 1) (by kernel_rfl)
  have hA2 := Tard_at (L := sx2) (b := 2) (by kernel_rfl)
  have hS1 := Tsgs_at (L := sx2) (b := 0) (n := 1) (by kernel_rfl)
  have hS2 := Tsgs_at (L := sx2) (b := 0) (n := 17) (by kernel_rfl)
  have hK : Tk33 [] = some (.bool true) := rfl
  rw [of3] at hT1
  rw [of2] at hT2
  rw [of4] at hT3
  rw [show atF sx2 2 = -1 by kernel_rfl] at hTa
  rw [show arF sx2 0 = [0] by kernel_rfl] at hA0
  rw [show arF sx2 1 = [] by kernel_rfl] at hA1
  rw [show arF sx2 2 = [] by kernel_rfl] at hA2
  rw [show sgn2 sx2 0 1 = [1] by kernel_rfl] at hS1
  rw [show sgn2 sx2 0 17 = [] by kernel_rfl] at hS2
  rw [show normP st2 = po2 from rfl] at hTn
  generalize hSX : sx2.map Sc.cs = SX at hT2 hTa hA0 hA1 hA2 hS1 hS2
  generalize po2 = P2 at hT2 hTn
  generalize st2 = X at hT0 hT1 hT2 hTn
  simp only [Stn.cs] at hT0 hT1
  simp only [Pos.cs] at hTn
  simp only [List.map_cons, List.map_nil, i1] at hA0 hA1 hA2 hS1 hS2
  clear hSX
  refine pcall_cx HM_ok mixed (fun _ => none) Try.func6 rfl Try.ntmps6 Try.results6 (by simp) (by kernel_rfl) ?_
  repeat' first
    | (with_reducible refine gw_bool (fun _ => ?_) (fun _ => ?_))
    | (with_reducible refine condw_bool (fun _ => ?_) (fun _ => ?_))
    | simp [*]
end
end Go.Proofs.Ytjhmphkdkclbjaa
end
section
namespace Go.Proofs.Ytjhmphkdkclbjaa.busimageExamplesDone
open Go.Pv Go.ChangeShapes Go.WideShapes Go.ChangeAt Go.RowKit
set_option linter.unusedVariables false

theorem law : ∀ us, HasAll [] us → PCall Try.prog 6 us (.bool true) := by
  rintro us rfl
  exact Examples_ok

theorem own : ownKnob Try.prog.godebug = none := by kernel_rfl
theorem laidOut : laidOutB Try.prog = true := by kernel_rfl
theorem spec_at (H : Type) : ∀ ds : List (DataW H), ds.length = 0 → Rows.busimageExamplesSpec.fn H ds = { results := [.lit (.bool true)], args := ds } := by
  intro ds h
  cases ds with
  | nil => rfl
  | cons _ _ => simp at h

set_option maxRecDepth 100000 in
theorem lifted (os : Os) (started : os.Started) (H : Type) (enc : TypeId × Value → H) :
    ReturnsInHanded {} Try.checked os 6 .any (Rows.busimageExamplesSpec.pre6 enc Try.prog Try.f6 Rows.busimageExamplesRow.domain false) (Rows.busimageExamplesSpec.post enc Try.prog Try.f6 false true false false) :=
  lift (C := Try.checked) (m := 9) own laidOut started (by kernel_rfl) Try.func6
    (ChangeSpec.witness6 (enc := enc) (C := Try.checked) false ⟨#[], #[], []⟩ 8 (by kernel_rfl) (by kernel_rfl) (by kernel_rfl) (by kernel_rfl))
    Try.params6 (by kernel_rfl) Try.underlying4 rfl (by kernel_rfl) (by kernel_rfl) (spec_at H) law

theorem over : Rows.busimageExamplesRow.holds Try.pinned (OpenSpec.ofChange Rows.busimageExamplesSpec) :=
  OpenClaim.holds_of_wide 6 Try.f6 rfl rfl rfl rfl rfl rfl rfl ⟨rfl, rfl, rfl, rfl, rfl⟩ rfl rfl rfl rfl rfl (by kernel_rfl) Try.func6 (by kernel_rfl)
    (of_decide_eq_true (by kernel_rfl)) (by unfold Func.isWrapper; first | (rw [if_pos (by decide +kernel)]; kernel_rfl) | (rw [if_neg (by decide +kernel)]; exact ⟨rfl, rfl⟩))
    (fun os started H enc _ => lifted os started H enc)

theorem proved : Rows.BusimageExamplesSaid := over
end Go.Proofs.Ytjhmphkdkclbjaa.busimageExamplesDone
end
