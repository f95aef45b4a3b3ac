/-
  The bus image: the bays around a section, and their signs.
  The examples of the bus image.
  Groups of buses: what they are like, and how closing what moves merges them.
  Groups of buses grow as links close; the sums of a section.
  The balance of a section's currents.
  Each bay adds as much to a section's sum as to its groups' sums.
  A section's sum is the sum of its groups; both are small.
  The sums stay small.
  The law of balance.
  The law of balance: the main path.
  What the law of balance asks of a section.
  The law of balance: the walk.
  BusimageBalance returns true for every input, and leaves the input as it was. No condition.
-/
import Derived.Test.YtjhmphkdkclbjaaJ7
import Derived.Test.YtjhmphkdkclbjaaJ5
import Derived.Test.YtjhmphkdkclbjaaRows
section
namespace Go.Proofs.Ytjhmphkdkclbjaa
open Go.Pv Go.RowKit
set_option linter.unusedSimpArgs false
set_option linter.unusedVariables false
set_option maxRecDepth 100000
set_option maxHeartbeats 4000000
attribute [-simp] Tclo_at Tgrp_at Tchk Tpchk TcI TcB Tclo Tgrp Tsid Tnod Tlook Tbnd Tres TSd TBd Tix Tcon Tgps Tsg Tmv Tidx Tnms Tnmd Tobj Tlks Tbay Trck Trpc Trg Trf Trsd Trnd Tar Ttwo Tof Tnm Tat Trof Tsm Tsl Tk33

def sgnS (n : Nat) (S : List Int × List Bool) (m : Int × Int) : List Int × List Bool :=
  if (ilt m.1 0 || !ilt m.1 (n : Int)) || (S.2[m.1.toNat]?).getD false then S else (S.1.set m.1.toNat m.2, S.2.set m.1.toNat true)
def sgnR (n : Nat) (me : List (Int × Int)) : List Int × List Bool := me.foldl (sgnS n) (List.replicate n 0, List.replicate 16 false)
def sgnF (L : List Sc) (k n : Nat) : List Int := match L[k]? with
  | some x => (sgnR n x.me).1
  | none => []
theorem sgnS_len (n : Nat) (S : List Int × List Bool) (m : Int × Int) : (sgnS n S m).1.length = S.1.length ∧ (sgnS n S m).2.length = S.2.length := by
  unfold sgnS; split <;> simp
theorem sgnR_len (n : Nat) (me : List (Int × Int)) : (sgnR n me).1.length = n ∧ (sgnR n me).2.length = 16 := by
  have h : ∀ (me : List (Int × Int)) (S : List Int × List Bool), (me.foldl (sgnS n) S).1.length = S.1.length ∧ (me.foldl (sgnS n) S).2.length = S.2.length := by
    intro me
    induction me with
    | nil => intro S; simp
    | cons m t ih => intro S; rw [List.foldl_cons]; have := ih (sgnS n S m); have h2 := sgnS_len n S m; omega
  have := h me (List.replicate n 0, List.replicate 16 false)
  simpa [sgnR] using this
theorem repl_i (n : Nat) : (List.replicate n [V.int .i64 0]).flatten = (List.replicate n (0 : Int)).map (V.int .i64) := by
  induction n with
  | zero => rfl
  | succ n ih => rw [List.replicate_succ, List.flatten_cons, ih]; simp [List.replicate_succ]
def arF (L : List Sc) (k : Int) : List Int := if 0 ≤ k then (match L[k.toNat]? with | some x => x.me.map Prod.fst | none => []) else []
theorem arF_neg (L : List Sc) {k : Int} (h : k < 0) : arF L k = [] := if_neg (by omega)
theorem arF_none {L : List Sc} {j : Nat} (h : L[j]? = none) : arF L j = [] := by simp [arF, h]
theorem arF_some {L : List Sc} {j : Nat} {x : Sc} (h : L[j]? = some x) : arF L j = x.me.map Prod.fst := by simp [arF, h]
theorem around_ok (L : List Sc) (k : Int) (hL : L.length ≤ 1000) (hx : ∀ x ∈ L, x.me.length ≤ 1000) : PCall Try.prog 25 [.list 3 (L.map Sc.cs), .int .i64 k] (.list 1 ((arF L k).map i1)) := by
  by_cases h0 : k < 0
  · rw [arF_neg L h0]
    refine PCall.weaken ?_ (WkL.refl _) (Wk.nils 1)
    have f0 : ilt k 0 = true := ilt_t h0
    refine pcall_cx noTab_ok mixed (fun _ => none) Try.func25 rfl Try.ntmps25 Try.results25 (by simp) (by kernel_rfl) ?_
    repeat' first
      | (with_reducible refine gw_bool (fun _ => ?_) (fun _ => ?_))
      | (with_reducible refine condw_bool (fun _ => ?_) (fun _ => ?_))
      | simp [*]
  obtain ⟨j, rfl⟩ : ∃ j : Nat, k = j := ⟨k.toNat, by omega⟩
  have f0 : ilt (j : Int) 0 = false := ilt_f (by omega)
  obtain ⟨n, hn⟩ : ∃ n, L.length = n := ⟨_, rfl⟩
  by_cases h1 : j < n
  · obtain ⟨x, hx1, hx2⟩ := at_ex (l := L) (i := j) (by omega)
    have hxl := hx x (List.mem_of_getElem? hx1)
    have f1 : ilt (j : Int) (n : Int) = true := ilt_t (by omega)
    obtain ⟨m, hm⟩ : ∃ m, x.me.length = m := ⟨_, rfl⟩
    have hrow : ∀ i (y : Int × Int), x.me[i]? = some y → (((x.me.map Prod.fst).take i ++ List.replicate (m - i) 0).map (V.int .i64)).set i (V.int .i64 y.1) = ((x.me.map Prod.fst).take (i + 1) ++ List.replicate (m - (i + 1)) 0).map (V.int .i64) := fun i y hy => by
      have hi : i < x.me.length := (List.getElem?_eq_some_iff.1 hy).1
      have e1 : m - i = m - (i + 1) + 1 := by omega
      have e2 : (x.me.map Prod.fst).take (i + 1) = (x.me.map Prod.fst).take i ++ [y.1] := by rw [List.take_add_one]; simp [hy]
      rw [e1, e2, List.replicate_succ]
      rw [show V.int .i64 y.1 = (V.int .i64) y.1 from rfl, ← List.map_set]
      congr 1
      rw [List.set_append, if_neg (by simp [List.length_take]; omega)]
      simp [List.length_take, Nat.min_eq_left (Nat.le_of_lt hi)]
    have hlen : ∀ i, i ≤ m → (((x.me.map Prod.fst).take i ++ List.replicate (m - i) 0).map (V.int .i64)).length = m := fun i hi => by simp [List.length_take]; omega
    have hsc : ∀ i, (((x.me.map Prod.fst).take i ++ List.replicate (m - i) 0).map (V.int .i64)).map (scrC 7) = (((x.me.map Prod.fst).take i ++ List.replicate (m - i) 0).map (V.int .i64)) := fun i => scr_i1 _ 7
    have hst : (List.replicate m (0 : Int)).map (V.int .i64) = ((x.me.map Prod.fst).take 0 ++ List.replicate (m - 0) 0).map (V.int .i64) := by simp
    have hen : ((x.me.map Prod.fst).take m ++ List.replicate (m - m) 0).map (V.int .i64) = (x.me.map Prod.fst).map (V.int .i64) := by simp [← hm, List.take_of_length_le]
    have hch := chunks_i1 (x.me.map Prod.fst)
    have hmm : (x.me.map Prod.fst).length = m := by simp [hm]
    rw [arF_some hx1]
    have hpu := pure_i1 (x.me.map Prod.fst)
    generalize hR : x.me.map Prod.fst = R at hst hen hrow hlen hch hmm hpu hsc ⊢
    clear hR
    rw [hmm] at hch
    generalize hF : (fun i : Nat => ((R.take i ++ List.replicate (m - i) 0).map (V.int .i64))) = F
    have hFi : ∀ i, ((R.take i ++ List.replicate (m - i) 0).map (V.int .i64)) = F i := fun i => by rw [← hF]
    simp only [hFi] at hst hen hrow hlen hsc
    clear hF hFi hx
    have hri := repl_i m
    have f5 : 8 * (m : Int) ≤ 281474976710656 := by omega
    have f6 : (m : Int) ≤ 9223372036854775807 := by omega
    rw [List.map_replicate] at hst
    replace hrow : Hid (_) := hrow
    replace hlen : Hid (_) := hlen
    replace hsc : Hid (_) := hsc
    replace hen : Hid (_) := hen
    replace hst : Hid (_) := hst
    refine pcall_cx noTab_ok mixed (fun _ => none) Try.func25 rfl Try.ntmps25 Try.results25 (by simp) (by kernel_rfl) ?_
    repeat' first
      | (with_reducible refine gw_bool (fun _ => ?_) (fun _ => ?_))
      | (with_reducible refine condw_bool (fun _ => ?_) (fun _ => ?_))
      | simp [*, Sc.cs]
    refine lp_go (D := (fun _ => none)) noTab_ok mixed (by kernel_rfl) [5, 27, 28] [7] (α := Nat) (fun i e h => i ≤ m ∧ e 29 = .int .i64 i ∧ h 22 = some ⟨3, F i⟩) (fun i => m - i) 0 ?_ ?_
    · exact ⟨by omega, by simp, by rw [← hst.out]; simp [*]⟩
    rintro i e h hk hkh ⟨hi, g7, g22⟩
    simp [Keep] at hk
    simp [KeepH] at hkh
    by_cases hlt : i < m
    · obtain ⟨y, hy, hy'⟩ := at_ex (l := x.me) (i := i) (by omega)
      have f2 : ilt (i : Int) (m : Int) = true := ilt_t (by omega)
      have w1 : IntKind.i64.wrap ((i : Int) + 1) = ((i + 1 : Nat) : Int) := wrap_succ (by omega)
      have hr := hrow.out i y hy
      have hl := hlen.out i (by omega)
      have hc := hsc.out i
      generalize F i = C at g22 hr hl hc
      replace hr : Hid (_) := hr
      clear hst hen hrow hlen hch hri hsc
      have f7 : i + 1 ≤ m := by omega
      repeat' first
        | (with_reducible refine gw_bool (fun _ => ?_) (fun _ => ?_))
        | (with_reducible refine condw_bool (fun _ => ?_) (fun _ => ?_))
        | simp [*, p2, setsV]
      refine nxt_go (i + 1) ((View.forget _ _ 7)) (by omega) (by simp [*, Keep, St.forget, scr, scrC, usesC, usesA]) (by simp [*, KeepH, St.forget, scr, scrC]) ?_
      refine ⟨by omega, by simp [*, St.forget, scr, scrC], ?_⟩
      rw [← hr.out]; simp [*, St.forget, scr, scrC, scrI_comp]
    · have f2 : ilt (i : Int) (m : Int) = false := ilt_f (by omega)
      have e2 : i = m := by omega
      rw [e2, hen.out] at g22
      clear hst hen hrow hlen hri hsc
      repeat' first
        | (with_reducible refine gw_bool (fun _ => ?_) (fun _ => ?_))
        | (with_reducible refine condw_bool (fun _ => ?_) (fun _ => ?_))
        | simp [*]
  · have f1 : ilt (j : Int) (n : Int) = false := ilt_f (by omega)
    have hnone : L[j]? = none := by rw [List.getElem?_eq_none_iff]; omega
    rw [arF_none hnone]
    refine PCall.weaken ?_ (WkL.refl _) (Wk.nils 1)
    clear hnone
    refine pcall_cx noTab_ok mixed (fun _ => none) Try.func25 rfl Try.ntmps25 Try.results25 (by simp) (by kernel_rfl) ?_
    repeat' first
      | (with_reducible refine gw_bool (fun _ => ?_) (fun _ => ?_))
      | (with_reducible refine condw_bool (fun _ => ?_) (fun _ => ?_))
      | simp [*]
theorem sgnR_step {n : Nat} {me : List (Int × Int)} {i : Nat} {y : Int × Int} (h : me[i]? = some y) : sgnR n (me.take (i + 1)) = sgnS n (sgnR n (me.take i)) y := by
  rw [take_snoc h, sgnR, List.foldl_append]; rfl
theorem signs_ok (L : List Sc) (k n : Int) (hL : L.length ≤ 1000) (hx : ∀ x ∈ L, x.me.length ≤ 1000) : PCall Try.prog 22 [.list 3 (L.map Sc.cs), .int .i64 k, .int .i64 n] (.list 1 ((if k < 0 ∨ n < 0 ∨ 16 < n then [] else sgnF L k.toNat n.toNat).map i1)) := by
  obtain ⟨nl, hn⟩ : ∃ n, L.length = n := ⟨_, rfl⟩
  by_cases h0 : k < 0
  · rw [if_pos (.inl h0)]
    refine PCall.weaken ?_ (WkL.refl _) (Wk.nils 1)
    have f0 : ilt k 0 = true := ilt_t h0
    refine pcall_cx noTab_ok mixed (fun id => if id = 9 then some ⟨[(8, 28), (10, 8)], [4]⟩ else none) Try.func22 rfl Try.ntmps22 Try.results22 (by simp) (by kernel_rfl) ?_
    repeat' first
      | (with_reducible refine gw_bool (fun _ => ?_) (fun _ => ?_))
      | (with_reducible refine condw_bool (fun _ => ?_) (fun _ => ?_))
      | simp [*]
  obtain ⟨j, rfl⟩ : ∃ j : Nat, k = j := ⟨k.toNat, by omega⟩
  have f0 : ilt (j : Int) 0 = false := ilt_f (by omega)
  by_cases h1 : j < nl
  · have f1 : ilt (j : Int) (nl : Int) = true := ilt_t (by omega)
    by_cases h2 : n < 0
    · rw [if_pos (.inr (.inl h2))]
      refine PCall.weaken ?_ (WkL.refl _) (Wk.nils 1)
      have f2 : ilt n 0 = true := ilt_t h2
      refine pcall_cx noTab_ok mixed (fun id => if id = 9 then some ⟨[(8, 28), (10, 8)], [4]⟩ else none) Try.func22 rfl Try.ntmps22 Try.results22 (by simp) (by kernel_rfl) ?_
      repeat' first
        | (with_reducible refine gw_bool (fun _ => ?_) (fun _ => ?_))
        | (with_reducible refine condw_bool (fun _ => ?_) (fun _ => ?_))
        | simp [*]
    have f2 : ilt n 0 = false := ilt_f (by omega)
    by_cases h3 : 16 < n
    · rw [if_pos (.inr (.inr h3))]
      refine PCall.weaken ?_ (WkL.refl _) (Wk.nils 1)
      have f3 : ilt 16 n = true := ilt_t h3
      refine pcall_cx noTab_ok mixed (fun id => if id = 9 then some ⟨[(8, 28), (10, 8)], [4]⟩ else none) Try.func22 rfl Try.ntmps22 Try.results22 (by simp) (by kernel_rfl) ?_
      repeat' first
        | (with_reducible refine gw_bool (fun _ => ?_) (fun _ => ?_))
        | (with_reducible refine condw_bool (fun _ => ?_) (fun _ => ?_))
        | simp [*]
    have f3 : ilt 16 n = false := ilt_f (by omega)
    rw [if_neg (by omega)]
    obtain ⟨b, rfl⟩ : ∃ b : Nat, n = b := ⟨n.toNat, by omega⟩
    obtain ⟨x, hx1, hx2⟩ := at_ex (l := L) (i := j) (by omega)
    have hxl := hx x (List.mem_of_getElem? hx1)
    obtain ⟨m, hm⟩ : ∃ m, x.me.length = m := ⟨_, rfl⟩
    have hv : sgnF L (j : Int).toNat (b : Int).toNat = (sgnR b x.me).1 := by simp [sgnF, hx1]
    rw [hv]
    clear hv hx
    have f5 : 8 * (b : Int) ≤ 281474976710656 := by omega
    have f6 : (b : Int) ≤ 9223372036854775807 := by omega
    have hS0 : sgnR b (x.me.take 0) = (List.replicate b 0, List.replicate 16 false) := rfl
    have hSe : sgnR b (x.me.take m) = sgnR b x.me := by rw [← hm, List.take_length]
    have hSs : ∀ i y, x.me[i]? = some y → sgnR b (x.me.take (i + 1)) = sgnS b (sgnR b (x.me.take i)) y := fun i y h => sgnR_step h
    have hSl : ∀ i, (sgnR b (x.me.take i)).1.length = b ∧ (sgnR b (x.me.take i)).2.length = 16 := fun i => sgnR_len b _
    generalize hF : (fun i : Nat => sgnR b (x.me.take i)) = F
    have hFi : ∀ i, sgnR b (x.me.take i) = F i := fun i => by rw [← hF]
    simp only [hFi] at hS0 hSe hSs hSl
    rw [← hSe]
    clear hF hFi hSe
    have hri := repl_i b
    have hz : ((F 0).1.map (V.int .i64)) = List.replicate b (V.int .i64 0) := by rw [hS0]; simp
    have hz2 : ((F 0).2.map V.bool) = List.replicate 16 (V.bool false) := by rw [hS0]; simp
    replace hSs : Hid (_) := hSs
    replace hSl : Hid (_) := hSl
    replace hz : Hid (_) := hz
    replace hz2 : Hid (_) := hz2
    refine pcall_cx noTab_ok mixed (fun id => if id = 9 then some ⟨[(8, 28), (10, 8)], [4]⟩ else none) Try.func22 rfl Try.ntmps22 Try.results22 (by simp) (by kernel_rfl) ?_
    repeat' first
      | (with_reducible refine gw_bool (fun _ => ?_) (fun _ => ?_))
      | (with_reducible refine condw_bool (fun _ => ?_) (fun _ => ?_))
      | simp [*, Sc.cs]
    refine lp_go (D := (fun id => if id = 9 then some ⟨[(8, 28), (10, 8)], [4]⟩ else none)) noTab_ok mixed (by kernel_rfl) [2, 7, 8, 33, 34] [10] (α := Nat) (fun i e h => i ≤ m ∧ e 35 = .int .i64 i ∧ h 28 = some ⟨3, (F i).1.map (V.int .i64)⟩ ∧ h 8 = some ⟨107, (F i).2.map V.bool⟩) (fun i => m - i) 0 ?_ ?_
    · exact ⟨by omega, by simp, by rw [hz.out]; simp [*], by rw [hz2.out]; simp [*]⟩
    rintro i e h hk hkh ⟨hi, g7, g28, g8⟩
    simp [Keep] at hk
    simp [KeepH] at hkh
    by_cases hlt : i < m
    · obtain ⟨⟨y1, y2⟩, hy, hy'⟩ := at_ex (l := x.me) (i := i) (by omega)
      have f2 : ilt (i : Int) (m : Int) = true := ilt_t (by omega)
      have w1 : IntKind.i64.wrap ((i : Int) + 1) = ((i + 1 : Nat) : Int) := wrap_succ (by omega)
      have hr := hSs.out i _ hy
      have hl := hSl.out i
      obtain ⟨Fi, hFi⟩ : ∃ Fi, F i = Fi := ⟨_, rfl⟩
      rw [hFi] at g28 g8 hr hl
      obtain ⟨C, T⟩ := Fi
      simp only at g28 g8 hr hl
      obtain ⟨hlC, hlT⟩ := hl
      have hsC := scr_i1 C 10
      have hsT := scr_b1 T 10
      clear hSs hSl hz hz2 hFi hri
      cases q1 : ilt y1 0
      · cases q2 : ilt y1 (b : Int)
        · have hr' : F (i + 1) = (C, T) := by rw [hr]; simp [sgnS, q1, q2]
          replace hr' : Hid (_) := hr'
          clear hr
          repeat' first
            | (with_reducible refine gw_bool (fun _ => ?_) (fun _ => ?_))
            | (with_reducible refine condw_bool (fun _ => ?_) (fun _ => ?_))
            | simp [*, p2, setsV]
          refine nxt_go (i + 1) ((View.forget _ _ 10)) (by omega) (by simp [*, Keep, St.forget, scr, scrC, usesC, usesA]) (by simp [*, KeepH, St.forget, scr, scrC]) ?_
          refine ⟨by omega, by simp [*, St.forget, scr, scrC], ?_, ?_⟩
          · rw [hr'.out]; simp [*, St.forget, scr, scrC]
          · rw [hr'.out]; simp [*, St.forget, scr, scrC]
        · have hy1 : 0 ≤ y1 := by have := ilt_iff'.1 q1; omega
          have hy2 := ilt_iff.1 q2
          obtain ⟨u, rfl⟩ : ∃ u : Nat, y1 = u := ⟨y1.toNat, by omega⟩
          obtain ⟨t, ht, ht'⟩ := at_ex (l := T) (i := u) (by omega)
          have f8 : u < b := by omega
          have f9 : u < 16 := by omega
          have f12 : (u : Int) < 16 := by omega
          have f10 : u + 1 ≤ b := by omega
          have f11 : u + 1 ≤ 16 := by omega
          cases t
          · have hr' : F (i + 1) = (C.set u y2, T.set u true) := by rw [hr]; simp [sgnS, q1, q2, ht]
            replace hr' : Hid (_) := hr'
            clear hr
            repeat' first
              | (with_reducible refine gw_bool (fun _ => ?_) (fun _ => ?_))
              | (with_reducible refine condw_bool (fun _ => ?_) (fun _ => ?_))
              | simp [*, p2, setsV]
            refine nxt_go (i + 1) ((View.forget _ _ 10)) (by omega) (by simp [*, Keep, St.forget, scr, scrC, usesC, usesA]) (by simp [*, KeepH, St.forget, scr, scrC]) ?_
            refine ⟨by omega, by simp [*, St.forget, scr, scrC], ?_, ?_⟩
            · rw [hr'.out]; simp [*, St.forget, scr, scrC, List.map_set]
            · rw [hr'.out]; simp [*, St.forget, scr, scrC, List.map_set]
          · have hr' : F (i + 1) = (C, T) := by rw [hr]; simp [sgnS, q1, q2, ht]
            replace hr' : Hid (_) := hr'
            clear hr
            repeat' first
              | (with_reducible refine gw_bool (fun _ => ?_) (fun _ => ?_))
              | (with_reducible refine condw_bool (fun _ => ?_) (fun _ => ?_))
              | simp [*, p2, setsV]
            refine nxt_go (i + 1) ((View.forget _ _ 10)) (by omega) (by simp [*, Keep, St.forget, scr, scrC, usesC, usesA]) (by simp [*, KeepH, St.forget, scr, scrC]) ?_
            refine ⟨by omega, by simp [*, St.forget, scr, scrC], ?_, ?_⟩
            · rw [hr'.out]; simp [*, St.forget, scr, scrC]
            · rw [hr'.out]; simp [*, St.forget, scr, scrC]
      · have hr' : F (i + 1) = (C, T) := by rw [hr]; simp [sgnS, q1]
        replace hr' : Hid (_) := hr'
        clear hr
        repeat' first
          | (with_reducible refine gw_bool (fun _ => ?_) (fun _ => ?_))
          | (with_reducible refine condw_bool (fun _ => ?_) (fun _ => ?_))
          | simp [*, p2, setsV]
        refine nxt_go (i + 1) ((View.forget _ _ 10)) (by omega) (by simp [*, Keep, St.forget, scr, scrC, usesC, usesA]) (by simp [*, KeepH, St.forget, scr, scrC]) ?_
        refine ⟨by omega, by simp [*, St.forget, scr, scrC], ?_, ?_⟩
        · rw [hr'.out]; simp [*, St.forget, scr, scrC]
        · rw [hr'.out]; simp [*, St.forget, scr, scrC]
    · have f2 : ilt (i : Int) (m : Int) = false := ilt_f (by omega)
      have e2 : i = m := by omega
      rw [e2] at g28
      have hl := (hSl.out m).1
      generalize (F m).1 = R at g28 hl
      have hch := chunks_i1 R
      have hpu := pure_i1 R
      rw [hl] at hch
      clear hSs hSl hz hz2 hri
      repeat' first
        | (with_reducible refine gw_bool (fun _ => ?_) (fun _ => ?_))
        | (with_reducible refine condw_bool (fun _ => ?_) (fun _ => ?_))
        | simp [*]
  · have f1 : ilt (j : Int) (nl : Int) = false := ilt_f (by omega)
    have hnone : L[j]? = none := by rw [List.getElem?_eq_none_iff]; omega
    have hv : (if (j : Int) < 0 ∨ n < 0 ∨ 16 < n then [] else sgnF L (j : Int).toNat n.toNat) = [] := by
      split
      · rfl
      · simp [sgnF, hnone]
    rw [hv]
    refine PCall.weaken ?_ (WkL.refl _) (Wk.nils 1)
    clear hnone hv
    refine pcall_cx noTab_ok mixed (fun id => if id = 9 then some ⟨[(8, 28), (10, 8)], [4]⟩ else none) Try.func22 rfl Try.ntmps22 Try.results22 (by simp) (by kernel_rfl) ?_
    repeat' first
      | (with_reducible refine gw_bool (fun _ => ?_) (fun _ => ?_))
      | (with_reducible refine condw_bool (fun _ => ?_) (fun _ => ?_))
      | simp [*]
end Go.Proofs.Ytjhmphkdkclbjaa
end
section
namespace Go.Proofs.Ytjhmphkdkclbjaa
open Go.Pv Go.RowKit
set_option linter.unusedSimpArgs false
set_option linter.unusedVariables false
set_option maxRecDepth 100000
set_option maxHeartbeats 4000000
attribute [-simp] Tclo_at Tgrp_at Tchk Tpchk TcI TcB Tclo Tgrp Tsid Tnod Tlook Tbnd Tres TSd TBd Tix Tcon Tgps Tsg Tmv Tidx Tnms Tnmd Tobj Tlks Tbay Trck Trpc Trg Trf Trsd Trnd Tar Ttwo Tof Tnm Tat Trof Tsm Tsl Tk33
noncomputable section
def sgn2 (L : List Sc) (k n : Int) : List Int := if k < 0 ∨ n < 0 ∨ 16 < n then [] else sgnF L k.toNat n.toNat
def Tard : List V → Option V
  | [.list 3 xs, .int .i64 b] => (match decL unSc xs with
    | some L => if smallSc L = true then some (.list 1 ((arF L b).map i1)) else none
    | _ => none)
  | _ => none
theorem Tard_at {L : List Sc} {b : Int} (h : smallSc L = true) : Tard [.list 3 (L.map Sc.cs), .int .i64 b] = some (.list 1 ((arF L b).map i1)) := by simp [Tard, decL_map unSc_cs, h]
theorem smallSc_me {L : List Sc} (h : smallSc L = true) : L.length ≤ 1000 ∧ ∀ x ∈ L, x.me.length ≤ 1000 := by
  simp only [smallSc, Bool.and_eq_true, decide_eq_true_eq, List.all_eq_true] at h
  exact ⟨h.1, fun x hx => (h.2 x hx).2⟩
theorem ard_tab : ∀ vs v, Tard vs = some v → PCall Try.prog 25 vs v := by
  intro vs v h; unfold Tard at h; split at h
  · split at h
    · rename_i h1
      split at h
      · rename_i hl; cases h; rw [decL_inv unSc_inv _ _ h1]; exact around_ok _ _ (smallSc_me hl).1 (smallSc_me hl).2
      · cases h
    · cases h
  · cases h
def Tsgs : List V → Option V
  | [.list 3 xs, .int .i64 b, .int .i64 n] => (match decL unSc xs with
    | some L => if smallSc L = true then some (.list 1 ((sgn2 L b n).map i1)) else none
    | _ => none)
  | _ => none
theorem Tsgs_at {L : List Sc} {b n : Int} (h : smallSc L = true) : Tsgs [.list 3 (L.map Sc.cs), .int .i64 b, .int .i64 n] = some (.list 1 ((sgn2 L b n).map i1)) := by simp [Tsgs, decL_map unSc_cs, h]
theorem sgs_tab : ∀ vs v, Tsgs vs = some v → PCall Try.prog 22 vs v := by
  intro vs v h; unfold Tsgs at h; split at h
  · split at h
    · rename_i h1
      split at h
      · rename_i hl; cases h; rw [decL_inv unSc_inv _ _ h1]; exact signs_ok _ _ _ (smallSc_me hl).1 (smallSc_me hl).2
      · cases h
    · cases h
  · cases h
def HM : Tab := add 25 Tard (add 22 Tsgs (HL))
theorem HM_at (f : FuncId) (vs : List V) : HM.at' f vs = if f = 25 then Tard vs else if f = 22 then Tsgs vs else HL.at' f vs := rfl
theorem HM_fr (f : FuncId) : HM.fr f = if f = 25 then false else if f = 22 then false else HL.fr f := rfl
theorem HM_gb (f : FuncId) : HM.gb f = HL.gb f := rfl
theorem HM_gv (f : FuncId) (vs : List V) : HM.gv f vs = HL.gv f vs := rfl
attribute [simp] HM_at HM_fr HM_gb HM_gv Tard Tsgs
theorem HM_ok : TabOK Try.prog HM := by
  refine add_ok (add_ok (HL_ok) (by kernel_rfl) ?_) (by kernel_rfl) ?_
  · exact sgs_tab
  · exact ard_tab
attribute [-simp] Tard Tsgs
def st0 : Stn := ⟨⟨#[]⟩, [], [], [], []⟩
def po0 : Pos := ⟨[], []⟩
theorem of3 : ofW st2 po0 = .tup [.list 3 [], .int .i64 3] := by kernel_rfl
theorem of4 : ofW st0 po0 = .tup [.list 3 [], .int .i64 7] := by kernel_rfl
theorem Tof_nil1 : Tof [.agg st2.cs, .agg [.nils, .nils]] = some (ofW st2 po0) := by
  have e1 := unStn_cs st2
  unfold Stn.cs at e1
  simp [Tof, Stn.cs, nzS, nzP, nz, e1, unPos, decL, lenB, po0]
  show (1 : Nat) ≤ _
  omega
theorem Tof_nil2 : Tof [.agg [.str ⟨#[]⟩, .nils, .nils, .nils, .nils], .agg [.nils, .nils]] = some (ofW st0 po0) := by
  simp [Tof, nzS, nzP, nz, unStn, unPos, decL, lenB, po0, st0]
theorem Examples_ok : PCall Try.prog 6 [] (.bool true) := by
  have hT0 : Ttwo [] = some (.agg st2.cs) := rfl
  have hT1 := Tof_nil1
  have hT2 := Tof_at (s := st2) (p := po2) (by kernel_rfl)
  have hT3 := Tof_nil2
  have hTn := Tnm_at st2_chk
  have hTa := Tat_at (L := sx2) (b := 2) (by kernel_rfl)
  have hA0 := Tard_at (L := sx2) (b := 0) (by kernel_rfl)
  have hA1 := Tard_at (L := sx2) (b := 1) (by kernel_rfl)
  have hA2 := Tard_at (L := sx2) (b := 2) (by kernel_rfl)
  have hS1 := Tsgs_at (L := sx2) (b := 0) (n := 1) (by kernel_rfl)
  have hS2 := Tsgs_at (L := sx2) (b := 0) (n := 17) (by kernel_rfl)
  have hK : Tk33 [] = some (.bool true) := rfl
  rw [of3] at hT1
  rw [of2] at hT2
  rw [of4] at hT3
  rw [show atF sx2 2 = -1 by kernel_rfl] at hTa
  rw [show arF sx2 0 = [0] by kernel_rfl] at hA0
  rw [show arF sx2 1 = [] by kernel_rfl] at hA1
  rw [show arF sx2 2 = [] by kernel_rfl] at hA2
  rw [show sgn2 sx2 0 1 = [1] by kernel_rfl] at hS1
  rw [show sgn2 sx2 0 17 = [] by kernel_rfl] at hS2
  rw [show normP st2 = po2 from rfl] at hTn
  generalize hSX : sx2.map Sc.cs = SX at hT2 hTa hA0 hA1 hA2 hS1 hS2
  generalize po2 = P2 at hT2 hTn
  generalize st2 = X at hT0 hT1 hT2 hTn
  simp only [Stn.cs] at hT0 hT1
  simp only [Pos.cs] at hTn
  simp only [List.map_cons, List.map_nil, i1] at hA0 hA1 hA2 hS1 hS2
  clear hSX
  refine pcall_cx HM_ok mixed (fun _ => none) Try.func6 rfl Try.ntmps6 Try.results6 (by simp) (by kernel_rfl) ?_
  repeat' first
    | (with_reducible refine gw_bool (fun _ => ?_) (fun _ => ?_))
    | (with_reducible refine condw_bool (fun _ => ?_) (fun _ => ?_))
    | simp [*]
end
end Go.Proofs.Ytjhmphkdkclbjaa
end
section
namespace Go.Proofs.Ytjhmphkdkclbjaa
open Go.Pv Go.RowKit
set_option linter.unusedSimpArgs false
set_option linter.unusedVariables false
set_option maxRecDepth 100000

theorem mgHit {x y z : Int} (h : (ieq z x || ieq z y) = true) : mgF (min x y) (max x y) z = min x y := by
  simp only [Bool.or_eq_true, ieq_iff] at h
  unfold mgF
  split
  · rfl
  · rename_i hh
    have : ¬ (z = max x y) := fun e => hh (ieq_t e)
    omega
theorem mgMiss {x y z : Int} (h : (ieq z x || ieq z y) = false) : mgF (min x y) (max x y) z = z := by
  simp only [Bool.or_eq_false_iff] at h
  have h1 := ieq_iff'.1 h.1
  have h2 := ieq_iff'.1 h.2
  unfold mgF
  rw [if_neg]
  intro hh
  have := ieq_iff.1 hh
  omega
/-- Each bus names the lowest bus of its group. -/
def Can (G : List Int) : Prop := ∀ (i : Nat) (x : Int), G[i]? = some x → ∃ u : Nat, x = u ∧ u ≤ i ∧ G[u]? = some x
/-- Each group of the first lies in one group of the second. -/
def Fin2 (A B : List Int) : Prop := ∀ (i : Nat) (x : Int), A[i]? = some x → ∃ u : Nat, x = u ∧ B[u]? = B[i]?
theorem can_ini (n : Nat) : Can (ini0 n) := by
  intro i x h
  have hi : i < n := by have := (List.getElem?_eq_some_iff.1 h).1; simpa [ini0] using this
  have hx : x = (i : Int) := by
    have : (ini0 n)[i]? = some (i : Int) := by simp [ini0, hi]
    rw [this] at h; exact (Option.some.inj h).symm
  exact ⟨i, hx, Nat.le_refl _, h⟩
theorem can_map {G : List Int} (h : Can G) {p q : Nat} {x y : Int} (hp : G[p]? = some x) (hq : G[q]? = some y) : Can (G.map (mgF (min x y) (max x y))) := by
  obtain ⟨u, hu, hup, hGu⟩ := h p x hp
  obtain ⟨v, hv, hvq, hGv⟩ := h q y hq
  intro i z hz
  simp only [List.getElem?_map, Option.map_eq_some_iff] at hz
  obtain ⟨z0, hz0, rfl⟩ := hz
  obtain ⟨t, ht, hti, hGt⟩ := h i z0 hz0
  cases hh : (ieq z0 x || ieq z0 y)
  · have hm := mgMiss hh
    rw [hm]
    exact ⟨t, ht, hti, by simp [hGt, hm]⟩
  · have hm := mgHit hh
    rw [hm]
    simp only [Bool.or_eq_true, ieq_iff] at hh
    rcases Int.le_total x y with hxy | hxy
    · refine ⟨u, by omega, by omega, ?_⟩
      have : mgF (min x y) (max x y) x = min x y := mgHit (by simp [ieq])
      simp only [List.getElem?_map, hGu, Option.map_some, this]
    · refine ⟨v, by omega, by omega, ?_⟩
      have : mgF (min x y) (max x y) y = min x y := mgHit (by simp [ieq])
      simp only [List.getElem?_map, hGv, Option.map_some, this]
theorem fin_right {A B : List Int} (h : Fin2 A B) (f : Int → Int) : Fin2 A (B.map f) := by
  intro i x hx
  obtain ⟨u, hu, hB⟩ := h i x hx
  exact ⟨u, hu, by simp [hB]⟩
theorem fin_both {A B : List Int} (h : Fin2 A B) {p q : Nat} {x y x' y' : Int} (hp : A[p]? = some x) (hq : A[q]? = some y) (hp' : B[p]? = some x') (hq' : B[q]? = some y') : Fin2 (A.map (mgF (min x y) (max x y))) (B.map (mgF (min x' y') (max x' y'))) := by
  obtain ⟨u, hu, hBu⟩ := h p x hp
  obtain ⟨v, hv, hBv⟩ := h q y hq
  rw [hp'] at hBu
  rw [hq'] at hBv
  have m1 : mgF (min x' y') (max x' y') x' = min x' y' := mgHit (by simp [ieq])
  have m2 : mgF (min x' y') (max x' y') y' = min x' y' := mgHit (by simp [ieq])
  intro i z hz
  simp only [List.getElem?_map, Option.map_eq_some_iff] at hz
  obtain ⟨z0, hz0, rfl⟩ := hz
  obtain ⟨t, ht, hBt⟩ := h i z0 hz0
  cases hh : (ieq z0 x || ieq z0 y)
  · rw [mgMiss hh]
    exact ⟨t, ht, by simp [hBt]⟩
  · rw [mgHit hh]
    simp only [Bool.or_eq_true, ieq_iff] at hh
    have hBi : (B.map (mgF (min x' y') (max x' y')))[i]? = some (min x' y') := by
      rcases hh with hh | hh
      · have : t = u := by omega
        rw [List.getElem?_map, ← hBt, this, hBu]; simp [m1]
      · have : t = v := by omega
        rw [List.getElem?_map, ← hBt, this, hBv]; simp [m2]
    rcases Int.le_total x y with hxy | hxy
    · refine ⟨u, by omega, ?_⟩
      rw [hBi, List.getElem?_map, hBu]; simp [m1]
    · refine ⟨v, by omega, ?_⟩
      rw [hBi, List.getElem?_map, hBv]; simp [m2]
/-- A bay's step. -/
theorem stG_cases (G : List Int) (b : By) (l : List Int) : (stG G b l = G ∧ ¬ (ieq b.kind 3 = false ∧ ∃ a c x y, b.lks = [a, c] ∧ l = [x, y] ∧ ieq x 1 = true ∧ ieq y 1 = true)) ∨ (ieq b.kind 3 = false ∧ ∃ a c x y, b.lks = [a, c] ∧ l = [x, y] ∧ ieq x 1 = true ∧ ieq y 1 = true ∧ stG G b l = merge G (g0 G a.bus) (g0 G c.bus)) := by
  cases h3 : ieq b.kind 3
  · obtain ⟨lks, hlk⟩ : ∃ lks, b.lks = lks := ⟨_, rfl⟩
    match lks, l with
    | [a, c], [x, y] =>
      cases hx : ieq x 1
      · left; refine ⟨by simp [stG, h3, hlk, hx], ?_⟩
        rintro ⟨_, a', c', x', y', h1, h2, h4, h5⟩
        simp at h2; rw [h2.1] at hx; rw [hx] at h4; cases h4
      · cases hy : ieq y 1
        · left; refine ⟨by simp [stG, h3, hlk, hx, hy], ?_⟩
          rintro ⟨_, a', c', x', y', h1, h2, h4, h5⟩
          simp at h2; rw [h2.2] at hy; rw [hy] at h5; cases h5
        · right; exact ⟨rfl, a, c, x, y, hlk, rfl, hx, hy, by simp [stG, h3, hlk, hx, hy]⟩
    | [], _ => left; refine ⟨by simp [stG, h3, hlk], ?_⟩; rintro ⟨_, a', c', x', y', h1, _⟩; rw [hlk] at h1; cases h1
    | [_], _ => left; refine ⟨by simp [stG, h3, hlk], ?_⟩; rintro ⟨_, a', c', x', y', h1, _⟩; rw [hlk] at h1; cases h1
    | _ :: _ :: _ :: _, _ => left; refine ⟨by simp [stG, h3, hlk], ?_⟩; rintro ⟨_, a', c', x', y', h1, _⟩; rw [hlk] at h1; cases h1
    | [a, c], [] => left; refine ⟨by simp [stG, h3, hlk], ?_⟩; rintro ⟨_, a', c', x', y', _, h2, _⟩; cases h2
    | [a, c], [_] => left; refine ⟨by simp [stG, h3, hlk], ?_⟩; rintro ⟨_, a', c', x', y', _, h2, _⟩; cases h2
    | [a, c], _ :: _ :: _ :: _ => left; refine ⟨by simp [stG, h3, hlk], ?_⟩; rintro ⟨_, a', c', x', y', _, h2, _⟩; cases h2
  · left; refine ⟨by simp [stG, h3], ?_⟩
    rintro ⟨h, _⟩; cases h
theorem g0_at {G : List Int} {b : Int} (h : 0 ≤ b ∧ b < G.length) : ∃ u : Nat, b = u ∧ u < G.length ∧ G[u]? = some (g0 G b) := by
  obtain ⟨u, rfl⟩ := Int.eq_ofNat_of_zero_le h.1
  have hu : u < G.length := by omega
  exact ⟨u, rfl, hu, by simp [g0, gAt, hu]⟩
theorem grpN_can {s : Stn} {p : Pos} (hF : Fine s) (hk : p.lk.length = s.qs.length) : ∀ k, k ≤ s.qs.length → Can (grpN s p k)
  | 0, _ => by simpa [grpN] using can_ini s.bs.length
  | k + 1, hle => by
    obtain ⟨b, hb, _⟩ := at_ex (l := s.qs) (i := k) (by omega)
    obtain ⟨l, hl, _⟩ := at_ex (l := p.lk) (i := k) (by omega)
    have ih := grpN_can hF hk k (by omega)
    rw [grpN_step hb hl]
    have hlen : (grpN s p k).length = s.bs.length := grpN_len s p k
    rcases stG_cases (grpN s p k) b l with ⟨h, _⟩ | ⟨_, a, c, x, y, hlk, _, _, _, h⟩
    · rw [h]; exact ih
    · rw [h]
      have hbus := (hF.lk b (List.mem_of_getElem? hb)).1
      obtain ⟨u, _, _, hu⟩ := g0_at (G := grpN s p k) (b := a.bus) (by rw [hlen]; exact hbus a (by simp [hlk]))
      obtain ⟨v, _, _, hv⟩ := g0_at (G := grpN s p k) (b := c.bus) (by rw [hlen]; exact hbus c (by simp [hlk]))
      exact can_map ih hu hv
theorem res01 {x : Int} (h : ieq (resF 0 x) 1 = true) : ieq (resF 1 x) 1 = true := by
  unfold resF at *
  split at h
  · cases h
  · rename_i hh; rw [if_neg hh]; exact h
theorem grpN_fin {s : Stn} {p : Pos} (hF : Fine s) (hk : p.lk.length = s.qs.length) : ∀ k, k ≤ s.qs.length → Fin2 (grpN s (resP p false) k) (grpN s (resP p true) k)
  | 0, _ => by
    intro i x hx
    obtain ⟨u, hu, hui, hGu⟩ := can_ini s.bs.length i x (by simpa [grpN] using hx)
    have hx' : (ini0 s.bs.length)[i]? = some x := by simpa [grpN] using hx
    exact ⟨u, hu, by simp only [grpN, List.take_zero, List.foldl_nil]; rw [hGu, hx']⟩
  | k + 1, hle => by
    obtain ⟨b, hb, _⟩ := at_ex (l := s.qs) (i := k) (by omega)
    obtain ⟨l, hl, _⟩ := at_ex (l := p.lk) (i := k) (by omega)
    have ih := grpN_fin hF hk k (by omega)
    have hl0 : (resP p false).lk[k]? = some (l.map (resF 0)) := by simp [resP, hl, resZ]
    have hl1 : (resP p true).lk[k]? = some (l.map (resF 1)) := by simp [resP, hl, resZ]
    rw [grpN_step hb hl0, grpN_step hb hl1]
    have hA : (grpN s (resP p false) k).length = s.bs.length := grpN_len _ _ _
    have hB : (grpN s (resP p true) k).length = s.bs.length := grpN_len _ _ _
    have hbus := (hF.lk b (List.mem_of_getElem? hb)).1
    rcases stG_cases (grpN s (resP p true) k) b (l.map (resF 1)) with ⟨h1, hno⟩ | ⟨h3, a, c, x, y, hlk, hll, hx, hy, h1⟩
    · rw [h1]
      rcases stG_cases (grpN s (resP p false) k) b (l.map (resF 0)) with ⟨h0, _⟩ | ⟨h3, a, c, x, y, hlk, hll, hx, hy, h0⟩
      · rw [h0]; exact ih
      · exfalso
        apply hno
        match l, hll with
        | [x', y'], hll =>
          simp at hll
          exact ⟨h3, a, c, _, _, hlk, rfl, res01 (by rw [hll.1]; exact hx), res01 (by rw [hll.2]; exact hy)⟩
    · rw [h1]
      obtain ⟨u, hu0, _, hu⟩ := g0_at (G := grpN s (resP p true) k) (b := a.bus) (by rw [hB]; exact hbus a (by simp [hlk]))
      obtain ⟨v, hv0, _, hv⟩ := g0_at (G := grpN s (resP p true) k) (b := c.bus) (by rw [hB]; exact hbus c (by simp [hlk]))
      rcases stG_cases (grpN s (resP p false) k) b (l.map (resF 0)) with ⟨h0, _⟩ | ⟨_, a', c', x', y', hlk', hll', hx', hy', h0⟩
      · rw [h0]; exact fin_right ih _
      · rw [h0]
        rw [hlk] at hlk'
        simp at hlk'
        obtain ⟨rfl, rfl⟩ := hlk'
        obtain ⟨u', hu0', _, hu'⟩ := g0_at (G := grpN s (resP p false) k) (b := a.bus) (by rw [hA]; exact hbus a (by simp [hlk]))
        obtain ⟨v', hv0', _, hv'⟩ := g0_at (G := grpN s (resP p false) k) (b := c.bus) (by rw [hA]; exact hbus c (by simp [hlk]))
        have eu : u' = u := by omega
        have ev : v' = v := by omega
        subst eu; subst ev
        exact fin_both ih hu' hv' hu hv
/-- What the law of moving links asks of a bus. -/
theorem moving_at {s : Stn} {p : Pos} (hF : Fine s) (hk : p.lk.length = s.qs.length) {i : Nat} (hi : i < s.bs.length) : ∃ u v : Nat, u ≤ i ∧ v ≤ u ∧ (grp s (resP p false))[i]? = some (u : Int) ∧ (grp s (resP p false))[u]? = some (u : Int) ∧ (grp s (resP p true))[i]? = some (v : Int) ∧ (grp s (resP p true))[u]? = some (v : Int) ∧ (grp s (resP p true))[v]? = some (v : Int) := by
  have hk0 : (resP p false).lk.length = s.qs.length := by simp [resP, hk]
  have hk1 : (resP p true).lk.length = s.qs.length := by simp [resP, hk]
  have cA : Can (grp s (resP p false)) := grpN_can hF hk0 _ (Nat.le_refl _)
  have cB : Can (grp s (resP p true)) := grpN_can hF hk1 _ (Nat.le_refl _)
  have fAB : Fin2 (grp s (resP p false)) (grp s (resP p true)) := grpN_fin hF hk _ (Nat.le_refl _)
  obtain ⟨x, hx, _⟩ := at_ex (l := grp s (resP p false)) (i := i) (by rw [grp, grpN_len]; exact hi)
  obtain ⟨y, hy, _⟩ := at_ex (l := grp s (resP p true)) (i := i) (by rw [grp, grpN_len]; exact hi)
  obtain ⟨u, hu, hui, hAu⟩ := cA i x hx
  obtain ⟨v, hv, hvi, hBv⟩ := cB i y hy
  obtain ⟨u', hu', hB⟩ := fAB i x hx
  have : u' = u := by omega
  subst this
  have hBu : (grp s (resP p true))[u']? = some y := by rw [hB]; exact hy
  obtain ⟨t, ht, htu, _⟩ := cB u' y hBu
  subst hu; subst hv
  exact ⟨u', v, hui, by omega, hx, hAu, hy, hBu, hBv⟩
end Go.Proofs.Ytjhmphkdkclbjaa
end
section
namespace Go.Proofs.Ytjhmphkdkclbjaa
open Go.Pv Go.RowKit
set_option linter.unusedSimpArgs false
set_option linter.unusedVariables false
set_option maxRecDepth 100000

/-- What is closed in the first position is closed in the second one. -/
def Sub2 (p q : Pos) : Prop := ∀ (i : Nat) (l l' : List Int), p.lk[i]? = some l → q.lk[i]? = some l' → l.length = l'.length ∧ ∀ (j : Nat) (x y : Int), l[j]? = some x → l'[j]? = some y → ieq x 1 = true → ieq y 1 = true
theorem grpN_fin2 {s : Stn} {p q : Pos} (hF : Fine s) (hk : p.lk.length = s.qs.length) (hk' : q.lk.length = s.qs.length) (hs : Sub2 p q) : ∀ k, k ≤ s.qs.length → Fin2 (grpN s p k) (grpN s q k)
  | 0, _ => by
    intro i x hx
    obtain ⟨u, hu, hui, hGu⟩ := can_ini s.bs.length i x (by simpa [grpN] using hx)
    have hx' : (ini0 s.bs.length)[i]? = some x := by simpa [grpN] using hx
    exact ⟨u, hu, by simp only [grpN, List.take_zero, List.foldl_nil]; rw [hGu, hx']⟩
  | k + 1, hle => by
    obtain ⟨b, hb, _⟩ := at_ex (l := s.qs) (i := k) (by omega)
    obtain ⟨l, hl, _⟩ := at_ex (l := p.lk) (i := k) (by omega)
    obtain ⟨l', hl', _⟩ := at_ex (l := q.lk) (i := k) (by omega)
    have ih := grpN_fin2 hF hk hk' hs k (by omega)
    obtain ⟨hll, hcl⟩ := hs k l l' hl hl'
    rw [grpN_step hb hl, grpN_step hb hl']
    have hA : (grpN s p k).length = s.bs.length := grpN_len _ _ _
    have hB : (grpN s q k).length = s.bs.length := grpN_len _ _ _
    have hbus := (hF.lk b (List.mem_of_getElem? hb)).1
    rcases stG_cases (grpN s q k) b l' with ⟨h1, hno⟩ | ⟨h3, a, c, x, y, hlk, hl2, hx, hy, h1⟩
    · rw [h1]
      rcases stG_cases (grpN s p k) b l with ⟨h0, _⟩ | ⟨h3, a, c, x, y, hlk, hl2, hx, hy, h0⟩
      · rw [h0]; exact ih
      · exfalso
        apply hno
        subst hl2
        match l', hll, hcl with
        | [x', y'], _, hcl =>
          exact ⟨h3, a, c, _, _, hlk, rfl, hcl 0 x x' rfl rfl hx, hcl 1 y y' rfl rfl hy⟩
    · rw [h1]
      obtain ⟨u, hu0, _, hu⟩ := g0_at (G := grpN s q k) (b := a.bus) (by rw [hB]; exact hbus a (by simp [hlk]))
      obtain ⟨v, hv0, _, hv⟩ := g0_at (G := grpN s q k) (b := c.bus) (by rw [hB]; exact hbus c (by simp [hlk]))
      rcases stG_cases (grpN s p k) b l with ⟨h0, _⟩ | ⟨_, a', c', x', y', hlk', hll', hx', hy', h0⟩
      · rw [h0]; exact fin_right ih _
      · rw [h0]
        rw [hlk] at hlk'
        simp at hlk'
        obtain ⟨rfl, rfl⟩ := hlk'
        obtain ⟨u', hu0', _, hu'⟩ := g0_at (G := grpN s p k) (b := a.bus) (by rw [hA]; exact hbus a (by simp [hlk]))
        obtain ⟨v', hv0', _, hv'⟩ := g0_at (G := grpN s p k) (b := c.bus) (by rw [hA]; exact hbus c (by simp [hlk]))
        have eu : u' = u := by omega
        have ev : v' = v := by omega
        subst eu; subst ev
        exact fin_both ih hu' hv' hu hv
theorem sub_res (p : Pos) : Sub2 p (resP p true) := by
  intro i l l' h1 h2
  simp only [resP, List.getElem?_map, h1, Option.map_some, Option.some.injEq] at h2
  subst h2
  refine ⟨by simp, fun j x y hx hy hc => ?_⟩
  simp only [List.getElem?_map, hx, Option.map_some, Option.some.injEq] at hy
  subst hy
  have := ieq_iff.1 hc
  subst this
  simp [resF, resZ, ieq]
theorem g0_map {G : List Int} {f : Int → Int} {b : Int} (h : 0 ≤ b ∧ b < G.length) : g0 (G.map f) b = f (g0 G b) := by
  obtain ⟨u, rfl, hu, hG⟩ := g0_at h
  simp [g0, gAt, hu]
theorem grpN_join {s : Stn} {p : Pos} (hF : Fine s) (hk : p.lk.length = s.qs.length) {i : Nat} {b : By} {l : List Int} (hb : s.qs[i]? = some b) (hl : p.lk[i]? = some l) (h3 : ieq b.kind 3 = false) {a c : Lk} {x y : Int} (hlk : b.lks = [a, c]) (hll : l = [x, y]) (hx : ieq x 1 = true) (hy : ieq y 1 = true) : ∀ k, i < k → k ≤ s.qs.length → g0 (grpN s p k) a.bus = g0 (grpN s p k) c.bus
  | 0, h, _ => absurd h (by omega)
  | k + 1, hik, hle => by
    have hlen : (grpN s p k).length = s.bs.length := grpN_len s p k
    have hbus := (hF.lk b (List.mem_of_getElem? hb)).1
    have ha := hbus a (by simp [hlk])
    have hc := hbus c (by simp [hlk])
    by_cases hi : i = k
    · subst hi
      rw [grpN_step hb hl]
      rcases stG_cases (grpN s p i) b l with ⟨_, hno⟩ | ⟨_, a', c', x', y', hlk', hll', _, _, h⟩
      · exact absurd ⟨h3, a, c, x, y, hlk, hll, hx, hy⟩ hno
      · rw [hlk] at hlk'
        simp at hlk'
        obtain ⟨rfl, rfl⟩ := hlk'
        rw [h, merge, g0_map (by rw [hlen]; exact ha), g0_map (by rw [hlen]; exact hc), mgHit (by simp [ieq]), mgHit (by simp [ieq])]
    · have ih := grpN_join hF hk hb hl h3 hlk hll hx hy k (by omega) (by omega)
      obtain ⟨b2, hb2, _⟩ := at_ex (l := s.qs) (i := k) (by omega)
      obtain ⟨l2, hl2, _⟩ := at_ex (l := p.lk) (i := k) (by omega)
      rw [grpN_step hb2 hl2]
      rcases stG_cases (grpN s p k) b2 l2 with ⟨h, _⟩ | ⟨_, a', c', x', y', _, _, _, _, h⟩
      · rw [h]; exact ih
      · rw [h, merge, g0_map (by rw [hlen]; exact ha), g0_map (by rw [hlen]; exact hc), ih]
/-- The groups of a position and those with more links closed. -/
structure GG (G H : List Int) (n : Nat) : Prop where
  lG : G.length = n
  lH : H.length = n
  own : ∀ b : Int, 0 ≤ b → b < n → 0 ≤ g0 G b ∧ g0 G b < n ∧ g0 G (g0 G b) = g0 G b
  fin : ∀ b : Int, 0 ≤ b → b < n → g0 H (g0 G b) = g0 H b
theorem gg_of {s : Stn} {p q : Pos} (hF : Fine s) (hk : p.lk.length = s.qs.length) (hk' : q.lk.length = s.qs.length) (hs : Sub2 p q) : GG (grp s p) (grp s q) s.bs.length := by
  have cA : Can (grp s p) := grpN_can hF hk _ (Nat.le_refl _)
  have fAB : Fin2 (grp s p) (grp s q) := grpN_fin2 hF hk hk' hs _ (Nat.le_refl _)
  have hA : (grp s p).length = s.bs.length := grpN_len _ _ _
  have hB : (grp s q).length = s.bs.length := grpN_len _ _ _
  refine ⟨hA, hB, fun b h1 h2 => ?_, fun b h1 h2 => ?_⟩
  · obtain ⟨u, rfl, hu, hG⟩ := g0_at (G := grp s p) (b := b) (by rw [hA]; exact ⟨h1, h2⟩)
    obtain ⟨v, hv, hvu, hGv⟩ := cA u _ hG
    rw [hv] at hGv ⊢
    refine ⟨by omega, by omega, ?_⟩
    simp [g0, gAt, hGv]
  · obtain ⟨u, rfl, hu, hG⟩ := g0_at (G := grp s p) (b := b) (by rw [hA]; exact ⟨h1, h2⟩)
    obtain ⟨v, hv, hE⟩ := fAB u _ hG
    rw [hv]
    simp [g0, gAt, hE]
end Go.Proofs.Ytjhmphkdkclbjaa
end
section
namespace Go.Proofs.Ytjhmphkdkclbjaa
open Go.Pv Go.RowKit
set_option linter.unusedSimpArgs false
set_option linter.unusedVariables false
set_option maxRecDepth 100000

def adL (L : List Int) (x c : Int) : List Int := L.set x.toNat ((L[x.toNat]?).getD 0 + c)
def lfS (G : List Int) (b : By) (l : List Int) (c : Int) (L : List Int) : List Int := match sid G b l with
  | [a0, a1, _, c1] => if ieq b.kind 3 = true then adL (adL L a1 c) c1 (-c) else if ieq a0 1 = true then adL L a1 c else L
  | _ => L
def lfN (s : Stn) (p : Pos) (G cur : List Int) : Nat → List Int
  | 0 => List.replicate s.bs.length 0
  | k + 1 => match s.qs[k]?, p.lk[k]?, cur[k]? with
    | some b, some l, some c => lfS G b l c (lfN s p G cur k)
    | _, _, _ => lfN s p G cur k
def smN (S cur : List Int) : Nat → Int
  | 0 => 0
  | k + 1 => smN S cur k + (S[k]?).getD 0 * (cur[k]?).getD 0
def wt (G L : List Int) (b : Int) : Int := if ieq (g0 G b) b = true then (L[b.toNat]?).getD 0 else 0
def wtS (G L B : List Int) : Int := (B.map (wt G L)).sum
theorem adL_len (L : List Int) (x c : Int) : (adL L x c).length = L.length := by simp [adL]
theorem wt_ad {G L : List Int} {x c b : Int} (hx : 0 ≤ x ∧ x < L.length) (hb : 0 ≤ b) : wt G (adL L x c) b = wt G L b + (if b = x ∧ g0 G b = b then c else 0) := by
  unfold wt
  cases h : ieq (g0 G b) b
  · have := ieq_iff'.1 h
    simp [this]
  · have h1 := ieq_iff.1 h
    by_cases e : b = x
    · subst e
      have : b.toNat < L.length := by omega
      simp [adL, h1, this]
    · have : ¬ (x.toNat = b.toNat) := by omega
      simp [adL, e, this]
theorem wtS_ad {G L B : List Int} {x c : Int} (hx : 0 ≤ x ∧ x < L.length) (hB : ∀ b ∈ B, 0 ≤ b) (hN : B.Nodup) : wtS G (adL L x c) B = wtS G L B + (if x ∈ B ∧ g0 G x = x then c else 0) := by
  induction B with
  | nil => simp [wtS]
  | cons b t ih =>
    have ih' := ih (fun y hy => hB y (by simp [hy])) (List.nodup_cons.1 hN).2
    have hb := hB b (by simp)
    have hn := (List.nodup_cons.1 hN).1
    have e1 : wtS G (adL L x c) (b :: t) = wt G (adL L x c) b + wtS G (adL L x c) t := by simp [wtS]
    have e2 : wtS G L (b :: t) = wt G L b + wtS G L t := by simp [wtS]
    rw [e1, e2, ih', wt_ad hx hb]
    by_cases e : b = x
    · subst e
      by_cases e3 : g0 G b = b <;> simp [hn, e3] <;> omega
    · have : ¬ (x = b) := fun h => e h.symm
      simp [e, this]; omega
theorem busN_nodup (g : List Int) (lo m : Nat) : (busN g lo m).Nodup := by
  unfold busN
  exact List.Pairwise.map _ (fun a b h e => h (by omega)) (List.Pairwise.filter _ List.nodup_range)
theorem busN_nn {g : List Int} {lo m : Nat} : ∀ b ∈ busN g lo m, 0 ≤ b ∧ b < m := by
  intro b hb
  simp only [busN, List.mem_map, List.mem_filter, List.mem_range] at hb
  obtain ⟨i, ⟨hi, _⟩, rfl⟩ := hb
  omega
theorem sgn_row {n : Nat} (hn : n ≤ 16) (P : Nat → Bool) (v : Int → Int) : ∀ m, m ≤ n → ∀ i, i < n → (sgnR n (((List.range m).filter P).map fun i : Nat => ((i : Int), v i))).1[i]? = some (if (decide (i < m) && P i) = true then v i else 0) ∧ (sgnR n (((List.range m).filter P).map fun i : Nat => ((i : Int), v i))).2[i]? = some (decide (i < m) && P i)
  | 0, _, i, hi => by
    have h16 : i < 16 := by omega
    simp [sgnR, hi, List.getElem?_replicate, h16, -List.reduceReplicate]
  | m + 1, hm, i, hi => by
    have ih := sgn_row hn P v m (by omega)
    have hl := sgnR_len n (((List.range m).filter P).map fun i : Nat => ((i : Int), v i))
    rw [List.range_succ, List.filter_append, List.map_append]
    cases hP : P m
    · have e : ([m].filter P) = [] := by simp [hP]
      rw [e, List.map_nil, List.append_nil]
      have := ih i hi
      rw [this.1, this.2]
      by_cases e2 : i = m
      · subst e2; simp [hP]
      · have e3 : decide (i < m + 1) = decide (i < m) := by simp; omega
        rw [e3]; exact ⟨rfl, rfl⟩
    · have e : ([m].filter P) = [m] := by simp [hP]
      rw [e, List.map_cons, List.map_nil]
      have hs : sgnR n (((List.range m).filter P).map (fun i : Nat => ((i : Int), v i)) ++ [((m : Int), v m)]) = sgnS n (sgnR n (((List.range m).filter P).map fun i : Nat => ((i : Int), v i))) ((m : Int), v m) := by rw [sgnR, List.foldl_append]; rfl
      rw [hs]
      generalize sgnR n (((List.range m).filter P).map fun i : Nat => ((i : Int), v i)) = R at ih hl ⊢
      have hm2 := (ih m (by omega)).2
      have f1 : ilt (m : Int) 0 = false := ilt_f (by omega)
      have f2 : ilt (m : Int) (n : Int) = true := ilt_t (by omega)
      have hst : sgnS n R ((m : Int), v m) = (R.1.set m (v m), R.2.set m true) := by simp [sgnS, f1, f2, hm2]
      rw [hst]
      simp only
      by_cases e2 : i = m
      · subst e2
        have h1 : i < R.1.length := by omega
        have h2 : i < R.2.length := by omega
        simp [h1, h2, hP]
      · have := ih i hi
        have e3 : decide (i < m + 1) = decide (i < m) := by simp; omega
        have e4 : ¬ (m = i) := fun h => e2 h.symm
        rw [e3, List.getElem?_set_ne e4, List.getElem?_set_ne e4]
        exact this
end Go.Proofs.Ytjhmphkdkclbjaa
end
section
namespace Go.Proofs.Ytjhmphkdkclbjaa
open Go.Pv Go.RowKit
set_option linter.unusedSimpArgs false
set_option linter.unusedVariables false
set_option maxRecDepth 100000

theorem lfS_add {G H L B : List Int} {n lo : Nat} (gg : GG G H n) (hL : L.length = n) (hB : B = busN H lo H.length) {x c : Int} (hx : 0 ≤ x ∧ x < n) : wtS G (adL L (g0 G x) c) B = wtS G L B + (if g0 H x = lo then c else 0) := by
  obtain ⟨o1, o2, o3⟩ := gg.own x hx.1 hx.2
  rw [wtS_ad (by omega) (fun b hb => by rw [hB] at hb; exact (busN_nn b hb).1) (by rw [hB]; exact busN_nodup _ _ _)]
  have hm : g0 G x ∈ B ↔ g0 H x = lo := by rw [hB, busN_mem (by rw [gg.lH]; exact ⟨o1, o2⟩), gg.fin x hx.1 hx.2]
  simp only [hm, o3, and_true]
theorem resF1_1 {x : Int} (h : ieq x 1 = true) : ieq (resF 1 x) 1 = true := by
  have := ieq_iff.1 h
  subst this
  simp [resF, ieq]
theorem bay_eq {G H L B : List Int} {n lo : Nat} (gg : GG G H n) (hL : L.length = n) (hB : B = busN H lo H.length) {b : By} {l : List Int} {c : Int}
    (hbus : ∀ k ∈ b.lks, 0 ≤ k.bus ∧ k.bus < n) (h32 : ieq b.kind 3 = true → b.lks.length = 2) (hl1 : 1 ≤ b.lks.length) (hl2 : b.lks.length ≤ 2) (hll : l.length = b.lks.length)
    (hj : ieq b.kind 3 = false → ∀ a k x y, b.lks = [a, k] → l.map (resF 1) = [x, y] → ieq x 1 = true → ieq y 1 = true → g0 H a.bus = g0 H k.bus)
    (hg : ieq b.kind 3 = true ∨ (fstN G ((b.lks.zip l).find? hit)).1 = 1 ∨ c = 0) :
    wtS G (lfS G b l c L) B = wtS G L B + (if inB (1, (lo : Int)) (sid H b (l.map (resF 1))) = true then sgB B b else 0) * c := by
  have hmem : ∀ x : Int, 0 ≤ x ∧ x < n → (x ∈ B ↔ g0 H x = lo) := fun x hx => by rw [hB, busN_mem (by rw [gg.lH]; exact hx)]
  cases h3 : ieq b.kind 3
  · have hsg : sgB B b = 1 := by simp [sgB, h3]
    have hinB : ∀ k : Lk, inB (1, (lo : Int)) [1, g0 H k.bus, if ieq b.kind 1 = true then 2 else 3, b.ob] = ieq (g0 H k.bus) lo := fun k => by
      have ht : ieq (if ieq b.kind 1 = true then 2 else 3) 1 = false := by split <;> rfl
      simp [inB, ht, show ieq 1 1 = true from rfl]
    have key : ∀ (k k' : Lk), k ∈ b.lks → (b.lks.zip l).find? hit = some (k, 1) → (∃ z, (b.lks.zip (l.map (resF 1))).find? hit = some (k', z)) → g0 H k'.bus = g0 H k.bus → wtS G (lfS G b l c L) B = wtS G L B + (if inB (1, (lo : Int)) (sid H b (l.map (resF 1))) = true then sgB B b else 0) * c := by
      rintro k k' hk e1 ⟨z, e2⟩ e3
      have s1 : lfS G b l c L = adL L (g0 G k.bus) c := by simp [lfS, sid, h3, e1, fstN, show ieq 1 1 = true from rfl]
      have s2 : sid H b (l.map (resF 1)) = [1, g0 H k'.bus, if ieq b.kind 1 = true then 2 else 3, b.ob] := by simp [sid, h3, e2, fstN]
      rw [s1, s2, hinB, hsg, lfS_add gg hL hB (hbus k hk), e3]
      by_cases e : g0 H k.bus = lo
      · rw [if_pos e, if_pos (ieq_t e)]; omega
      · rw [if_neg e, if_neg (by rw [ieq_f e]; simp)]; omega
    have key0 : (b.lks.zip l).find? hit = none → wtS G (lfS G b l c L) B = wtS G L B + (if inB (1, (lo : Int)) (sid H b (l.map (resF 1))) = true then sgB B b else 0) * c := by
      intro e1
      have hc : c = 0 := by
        rcases hg with h | h | h
        · rw [h3] at h; cases h
        · rw [e1] at h; simp [fstN] at h
        · exact h
      have s1 : lfS G b l c L = L := by simp [lfS, sid, h3, e1, fstN, show ieq 0 1 = false from rfl]
      rw [s1, hc, Int.mul_zero, Int.add_zero]
    obtain ⟨lks, hlk⟩ : ∃ lks, b.lks = lks := ⟨_, rfl⟩
    rw [hlk] at hl1 hl2 hll key key0
    match lks, l, hll with
    | [a], [x], _ =>
      cases hx : ieq x 1
      · exact key0 (by simp [List.find?, hit, hx])
      · have e := ieq_iff.1 hx
        subst e
        exact key a a (by simp [hlk]) (by simp [List.find?, hit, ieq]) ⟨resF 1 1, by simp [List.find?, hit, resF1_1 hx]⟩ rfl
    | [a, k], [x, y], _ =>
      cases hx : ieq x 1
      · cases hy : ieq y 1
        · exact key0 (by simp [List.find?, hit, hx, hy])
        · have e := ieq_iff.1 hy
          subst e
          cases hx1 : ieq (resF 1 x) 1
          · exact key k k (by simp [hlk]) (by simp [List.find?, hit, hx, hy]) ⟨resF 1 1, by simp [List.find?, hit, hx1, resF1_1 hy]⟩ rfl
          · exact key k a (by simp [hlk]) (by simp [List.find?, hit, hx, hy]) ⟨resF 1 x, by simp [List.find?, hit, hx1]⟩ (hj h3 a k _ _ hlk rfl hx1 (resF1_1 hy))
      · have e := ieq_iff.1 hx
        subst e
        exact key a a (by simp [hlk]) (by simp [List.find?, hit, hx]) ⟨resF 1 1, by simp [List.find?, hit, resF1_1 hx]⟩ rfl
    | [], _, _ => simp at hl1
    | _ :: _ :: _ :: _, _, _ => simp at hl2
  · have h2 := h32 h3
    obtain ⟨lks, hlk⟩ : ∃ lks, b.lks = lks := ⟨_, rfl⟩
    rw [hlk] at h2
    match lks, h2 with
    | [a, k], _ =>
      have ha := hbus a (by simp [hlk])
      have hk := hbus k (by simp [hlk])
      have s1 : lfS G b l c L = adL (adL L (g0 G a.bus) c) (g0 G k.bus) (-c) := by simp [lfS, sid, h3, hlk]
      have s2 : sid H b (l.map (resF 1)) = [1, g0 H a.bus, 1, g0 H k.bus] := by simp [sid, h3, hlk]
      have s3 : sgB B b = if g0 H a.bus = lo then 1 else -1 := by
        simp only [sgB, h3, hlk, if_true, decide_eq_true_eq, hmem a.bus ha]
      rw [s1, s2, s3, lfS_add gg (by rw [adL_len]; exact hL) hB hk, lfS_add gg hL hB ha]
      have i11 : ieq 1 1 = true := rfl
      by_cases e1 : g0 H a.bus = lo
      · have f1 := ieq_t e1
        by_cases e2 : g0 H k.bus = lo
        · have f2 := ieq_t e2
          simp [inB, i11, f1, f2, e1, e2]; omega
        · have f2 := ieq_f e2
          simp [inB, i11, f1, f2, e1, e2]
      · have f1 := ieq_f e1
        by_cases e2 : g0 H k.bus = lo
        · have f2 := ieq_t e2
          simp [inB, i11, f1, f2, e1, e2]
        · have f2 := ieq_f e2
          simp [inB, i11, f1, f2, e1, e2]
end Go.Proofs.Ytjhmphkdkclbjaa
end
section
namespace Go.Proofs.Ytjhmphkdkclbjaa
open Go.Pv Go.RowKit
set_option linter.unusedSimpArgs false
set_option linter.unusedVariables false
set_option maxRecDepth 100000

theorem lfS_len (G : List Int) (b : By) (l : List Int) (c : Int) (L : List Int) : (lfS G b l c L).length = L.length := by
  unfold lfS
  split
  · split
    · rw [adL_len, adL_len]
    · split
      · rw [adL_len]
      · rfl
  · rfl
theorem lfN_len (s : Stn) (p : Pos) (G cur : List Int) : ∀ k, (lfN s p G cur k).length = s.bs.length
  | 0 => by simp [lfN]
  | k + 1 => by
    unfold lfN
    split
    · rw [lfS_len, lfN_len]
    · exact lfN_len s p G cur k
theorem lfN_step {s : Stn} {p : Pos} {G cur : List Int} {k : Nat} {b : By} {l : List Int} {c : Int} (hb : s.qs[k]? = some b) (hl : p.lk[k]? = some l) (hc : cur[k]? = some c) : lfN s p G cur (k + 1) = lfS G b l c (lfN s p G cur k) := by
  rw [lfN, hb, hl, hc]
theorem wtS_zero (G B : List Int) (n : Nat) : wtS G (List.replicate n 0) B = 0 := by
  induction B with
  | nil => rfl
  | cons b t ih =>
    have e : wtS G (List.replicate n 0) (b :: t) = wt G (List.replicate n 0) b + wtS G (List.replicate n 0) t := by simp [wtS]
    have : wt G (List.replicate n 0) b = 0 := by
      unfold wt
      split
      · rw [List.getElem?_replicate]; split <;> rfl
      · rfl
    rw [e, this, ih]; rfl
/-- The row of a section's signs. -/
def sgX (s : Stn) (p : Pos) (lo : Nat) : List Int := (sgnR s.qs.length (memF s (resP p true) (grp s (resP p true)) lo (busN (grp s (resP p true)) lo (grp s (resP p true)).length))).1
theorem sgX_at {s : Stn} {p : Pos} (h : okP s p = true) {lo : Nat} (hlo : lo < s.bs.length) (hll : (grp s (resP p true))[lo]? = some (lo : Int)) {i : Nat} {b : By} {l : List Int} (hb : s.qs[i]? = some b) (hl : p.lk[i]? = some l) :
    (sgX s p lo)[i]? = some (if inB (1, (lo : Int)) (sid (grp s (resP p true)) b (l.map (resF 1))) = true then sgB (busN (grp s (resP p true)) lo (grp s (resP p true)).length) b else 0) := by
  have c1 := (okP_iff h).1
  have c2 := (okP_iff h).2
  have hF := fine_of c1
  have hok := okP_res c1 c2
  have hw : wfG s (resP p true) (grp s (resP p true)).length = true := by
    rw [show (grp s (resP p true)).length = s.bs.length from grpN_len _ _ _]
    exact wf_of (fine_of (okP_iff hok).1) (pfine_of (okP_iff hok).2)
  have hi : i < s.qs.length := (List.getElem?_eq_some_iff.1 hb).1
  have hl' : (resP p true).lk[i]? = some (l.map (resF 1)) := by simp [resP, hl, resZ]
  have hS : sidF s (resP p true) (grp s (resP p true)) i = some (sid (grp s (resP p true)) b (l.map (resF 1))) := by
    have hi2 : (0 : Int) ≤ (i : Int) ∧ (i : Int) < (s.qs.length : Int) := by omega
    simp [sidF, hw, hb, hl', hi2]
  have hn : nodF s (grp s (resP p true)) 1 (lo : Int) = some (1, (lo : Int)) := by
    have g : g0 (grp s (resP p true)) (lo : Int) = lo := by simp [g0, gAt, hll]
    have f1 : ilt (lo : Int) 0 = false := ilt_f (by omega)
    have f2 : ilt (lo : Int) (s.bs.length : Int) = true := ilt_t (by omega)
    simp [nodF, f1, f2, g, show ieq 1 1 = true from rfl]
  generalize hH : grp s (resP p true) = H at hw hS hn hll ⊢
  have hm : memF s (resP p true) H lo (busN H lo H.length) = ((List.range s.qs.length).filter (inBat s (resP p true) H (1, (lo : Int)))).map fun i : Nat => ((i : Int), sgAt s (busN H lo H.length) i) := by
    simp only [memF, hn, bndF, bndN, List.map_map]
    rfl
  have := (sgn_row (n := s.qs.length) hF.nq (inBat s (resP p true) H (1, (lo : Int))) (sgAt s (busN H lo H.length)) s.qs.length (Nat.le_refl _) i hi).1
  rw [sgX, hH, hm, this]
  have e1 : inBat s (resP p true) H (1, (lo : Int)) i = inB (1, (lo : Int)) (sid H b (l.map (resF 1))) := by rw [inBat, hS]
  have e2 : sgAt s (busN H lo H.length) (i : Int) = sgB (busN H lo H.length) b := by simp [sgAt, hb]
  rw [e1, e2]
  simp [hi]
theorem bal_sum {s : Stn} {p : Pos} (h : okP s p = true) {cur : List Int} (hc : cur.length = s.qs.length)
    {lo : Nat} (hlo : lo < s.bs.length) (hll : (grp s (resP p true))[lo]? = some (lo : Int)) : ∀ k, k ≤ s.qs.length → (∀ i b l c, i < k → s.qs[i]? = some b → p.lk[i]? = some l → cur[i]? = some c → (ieq b.kind 3 = true ∨ (fstN (grp s p) ((b.lks.zip l).find? hit)).1 = 1 ∨ c = 0)) →
    smN (sgX s p lo) cur k = wtS (grp s p) (lfN s p (grp s p) cur k) (busN (grp s (resP p true)) lo (grp s (resP p true)).length)
  | 0, _, _ => by rw [smN, lfN, wtS_zero]
  | k + 1, hk, hg => by
    have c1 := (okP_iff h).1
    have c2 := (okP_iff h).2
    have hF := fine_of c1
    have hP := pfine_of c2
    have hnk := hP.nk
    have hnk1 : (resP p true).lk.length = s.qs.length := by simp [resP, hnk]
    obtain ⟨b, hb, _⟩ := at_ex (l := s.qs) (i := k) (by omega)
    obtain ⟨l, hl, _⟩ := at_ex (l := p.lk) (i := k) (by omega)
    obtain ⟨c, hcc, _⟩ := at_ex (l := cur) (i := k) (by omega)
    have ih := bal_sum h hc hlo hll k (by omega) (fun i b l c hi => hg i b l c (by omega))
    have gg := gg_of hF hnk hnk1 (sub_res p)
    have hL := lfN_len s p (grp s p) cur k
    have hlk := hF.lk b (List.mem_of_getElem? hb)
    have hrow := (hP.row k b l hb hl).1
    have hl' : (resP p true).lk[k]? = some (l.map (resF 1)) := by simp [resP, hl, resZ]
    have hX := sgX_at h hlo hll hb hl
    rw [smN, hX, hcc, lfN_step hb hl hcc, bay_eq gg hL rfl (fun x hx => hlk.1 x hx) hlk.2.1 hlk.2.2.1 hlk.2.2.2 hrow (fun h3 a k' x y e1 e2 hx hy => grpN_join hF hnk1 hb hl' h3 e1 e2 hx hy s.qs.length (by omega) (Nat.le_refl _)) (hg k b l c (by omega) hb hl hcc), ih]
    rfl
end Go.Proofs.Ytjhmphkdkclbjaa
end
section
namespace Go.Proofs.Ytjhmphkdkclbjaa
open Go.Pv Go.RowKit
set_option linter.unusedSimpArgs false
set_option linter.unusedVariables false
set_option maxRecDepth 100000

def bdL (L : List Int) (M : Int) : Prop := ∀ (i : Nat) (x : Int), L[i]? = some x → -M ≤ x ∧ x ≤ M
theorem bd_ad {L : List Int} {M x c : Int} (h : bdL L M) (hM : 0 ≤ M) (hc : -1000 ≤ c ∧ c ≤ 1000) : bdL (adL L x c) (M + 1000) := by
  intro i y hy
  unfold adL at hy
  have hd : -M ≤ (L[x.toNat]?).getD 0 ∧ (L[x.toNat]?).getD 0 ≤ M := by
    cases e : L[x.toNat]? with
    | none => simp; omega
    | some z => simpa using h _ _ e
  rw [List.getElem?_set] at hy
  split at hy
  · split at hy
    · have := Option.some.inj hy; omega
    · cases hy
  · have := h i y hy; omega
theorem bd_mono {L : List Int} {M M' : Int} (h : bdL L M) (hM : M ≤ M') : bdL L M' := fun i x hx => by have := h i x hx; omega
theorem bd_lfS {G L : List Int} {b : By} {l : List Int} {c M : Int} (h : bdL L M) (hM : 0 ≤ M) (hc : -1000 ≤ c ∧ c ≤ 1000) : bdL (lfS G b l c L) (M + 2000) := by
  unfold lfS
  split
  · split
    · exact bd_mono (bd_ad (bd_ad h hM hc) (by omega) (by omega)) (by omega)
    · split
      · exact bd_mono (bd_ad h hM hc) (by omega)
      · exact bd_mono h (by omega)
  · exact bd_mono h (by omega)
theorem bd_lfN {s : Stn} {p : Pos} {G cur : List Int} : ∀ k : Nat, (∀ i c, i < k → cur[i]? = some c → -1000 ≤ c ∧ c ≤ 1000) → bdL (lfN s p G cur k) (2000 * (k : Int))
  | 0, _ => by
    intro i x hx
    simp only [lfN, List.getElem?_replicate] at hx
    split at hx
    · have := Option.some.inj hx; omega
    · cases hx
  | k + 1, hc => by
    have ih := bd_lfN (s := s) (p := p) (G := G) (cur := cur) k (fun i c hi => hc i c (by omega))
    unfold lfN
    split
    · rename_i b l c h1 h2 h3
      exact bd_mono (bd_lfS ih (by omega) (hc k c (by omega) h3)) (by omega)
    · exact bd_mono ih (by omega)
theorem bd_smN {S cur : List Int} (hS : bdL S 1) : ∀ k : Nat, (∀ i c, i < k → cur[i]? = some c → -1000 ≤ c ∧ c ≤ 1000) → -(1000 * (k : Int)) ≤ smN S cur k ∧ smN S cur k ≤ 1000 * (k : Int)
  | 0, _ => by simp [smN]
  | k + 1, hc => by
    have ih := bd_smN hS k (fun i c hi => hc i c (by omega))
    have hd : -1000 ≤ (cur[k]?).getD 0 ∧ (cur[k]?).getD 0 ≤ 1000 := by
      cases e : cur[k]? with
      | none => simp
      | some z => simpa using hc k z (by omega) e
    have hs : (S[k]?).getD 0 = -1 ∨ (S[k]?).getD 0 = 0 ∨ (S[k]?).getD 0 = 1 := by
      cases e : S[k]? with
      | none => simp
      | some z => have := hS k z e; simp only [Option.getD_some]; omega
    rw [smN]
    rcases hs with e | e | e <;> rw [e] <;> omega
theorem bd_sgX {s : Stn} {p : Pos} (h : okP s p = true) {lo : Nat} (hlo : lo < s.bs.length) (hll : (grp s (resP p true))[lo]? = some (lo : Int)) : bdL (sgX s p lo) 1 := by
  intro i x hx
  have hP := pfine_of (okP_iff h).2
  have hk := hP.nk
  have hi : i < s.qs.length := by
    have := (List.getElem?_eq_some_iff.1 hx).1
    rwa [show (sgX s p lo).length = s.qs.length from (sgnR_len _ _).1] at this
  obtain ⟨b, hb, _⟩ := at_ex (l := s.qs) (i := i) hi
  obtain ⟨l, hl, _⟩ := at_ex (l := p.lk) (i := i) (by omega)
  rw [sgX_at h hlo hll hb hl] at hx
  have := Option.some.inj hx
  have hs : ∀ B, sgB B b = 1 ∨ sgB B b = -1 := fun B => by
    unfold sgB
    split
    · split
      · split
        · exact .inl rfl
        · exact .inr rfl
      · exact .inl rfl
    · exact .inl rfl
  have h2 := hs (busN (grp s (resP p true)) lo (grp s (resP p true)).length)
  split at this <;> omega
theorem bd_wt {G L : List Int} {M : Int} (hM : 0 ≤ M) (hL : bdL L M) (b : Int) : -M ≤ wt G L b ∧ wt G L b ≤ M := by
  unfold wt
  split
  · cases e : L[b.toNat]? with
    | none => simp; omega
    | some z => simpa using hL _ _ e
  · omega
theorem bd_wtS {G L : List Int} {M : Int} (hM : 0 ≤ M) (hL : bdL L M) (B : List Int) : ∀ j : Nat, -(M * (j : Int)) ≤ wtS G L (B.take j) ∧ wtS G L (B.take j) ≤ M * (j : Int)
  | 0 => by simp [wtS]
  | j + 1 => by
    have ih := bd_wtS hM hL (G := G) B j
    have e : M * ((j + 1 : Nat) : Int) = M * (j : Int) + M := by rw [Int.natCast_add, Int.mul_add]; simp
    rw [e]
    cases hb : B[j]? with
    | none =>
      have : B.take (j + 1) = B.take j := by
        rw [List.take_of_length_le (by have := List.getElem?_eq_none_iff.1 hb; omega), List.take_of_length_le (List.getElem?_eq_none_iff.1 hb)]
      rw [this]; omega
    | some b =>
      rw [take_snoc hb]
      have e2 : wtS G L (B.take j ++ [b]) = wtS G L (B.take j) + wt G L b := by simp [wtS]
      have := bd_wt (G := G) hM hL b
      rw [e2]; omega
end Go.Proofs.Ytjhmphkdkclbjaa
end
section
namespace Go.Proofs.Ytjhmphkdkclbjaa
open Go.Pv Go.RowKit
set_option linter.unusedSimpArgs false
set_option linter.unusedVariables false
set_option maxRecDepth 100000
set_option maxHeartbeats 4000000
attribute [-simp] Tclo_at Tgrp_at Tchk Tpchk TcI TcB Tclo Tgrp Tsid Tnod Tlook Tbnd Tres TSd TBd Tix Tcon Tgps Tsg Tmv Tidx Tnms Tnmd Tobj Tlks Tbay Trck Trpc Trg Trf Trsd Trnd Tar Ttwo Tof Tnm Tat Trof Tsm Tsl Tk33 Tard Tsgs TSd_at
noncomputable section
theorem rsd2_tab : ∀ vs v, TSd vs = some v → PCall Try.prog 21 vs v := by
  intro vs v h; unfold TSd at h; split at h
  · split at h
    · rename_i h1 h2
      split at h
      · rename_i hl
        split at h
        · rename_i S hS
          cases h
          rw [unStn_inv _ _ h1, unPos_inv _ _ h2]
          exact rSides_ok hl _ _ hS
        · cases h
      · cases h
    · cases h
  · cases h
def HN : Tab := add 20 Tgps (add 21 TSd (HM))
theorem HN_at (f : FuncId) (vs : List V) : HN.at' f vs = if f = 20 then Tgps vs else if f = 21 then TSd vs else HM.at' f vs := rfl
theorem HN_fr (f : FuncId) : HN.fr f = if f = 20 then false else if f = 21 then false else HM.fr f := rfl
theorem HN_gb (f : FuncId) : HN.gb f = HM.gb f := rfl
theorem HN_gv (f : FuncId) (vs : List V) : HN.gv f vs = HM.gv f vs := rfl
attribute [simp] HN_at HN_fr HN_gb HN_gv TSd Tgps
theorem HN_ok : TabOK Try.prog HN := by
  refine add_ok (add_ok (HM_ok) (by kernel_rfl) ?_) (by kernel_rfl) ?_
  · exact rsd2_tab
  · exact rgps_tab
theorem balance_bad {s : Stn} {p : Pos} {cur : List Int} (hl : lenB s p = true) (h : ¬ (smallF s p = true ∧ chkF s = 0 ∧ posE s p = 0 ∧ cur.length = s.qs.length)) : PCall Try.prog 5 [.agg s.cs, .agg p.cs, .list 1 (cur.map i1)] (.bool true) := by
  have t1 := @Tsl_at s p
  have t2 : Tk33 [] = some (.bool true) := rfl
  obtain ⟨m, hm⟩ : ∃ m, cur.length = m := ⟨_, rfl⟩
  obtain ⟨n, hn⟩ : ∃ n, s.qs.length = n := ⟨_, rfl⟩
  rw [hm, hn] at h
  cases e0 : smallF s p
  · rw [e0] at t1
    refine pcall_cx HN_ok mixed (fun _ => none) Try.func5 rfl Try.ntmps5 Try.results5 (by simp) (by kernel_rfl) ?_
    repeat' first
      | (with_reducible refine gw_bool (fun _ => ?_) (fun _ => ?_))
      | (with_reducible refine condw_bool (fun _ => ?_) (fun _ => ?_))
      | simp [*, Stn.cs, Pos.cs]
  rw [e0] at t1
  cases e1 : ieq (chkF s) 0
  · refine pcall_cx HN_ok mixed (fun _ => none) Try.func5 rfl Try.ntmps5 Try.results5 (by simp) (by kernel_rfl) ?_
    repeat' first
      | (with_reducible refine gw_bool (fun _ => ?_) (fun _ => ?_))
      | (with_reducible refine condw_bool (fun _ => ?_) (fun _ => ?_))
      | simp [*, Stn.cs, Pos.cs]
  cases e2 : ieq (posE s p) 0
  · refine pcall_cx HN_ok mixed (fun _ => none) Try.func5 rfl Try.ntmps5 Try.results5 (by simp) (by kernel_rfl) ?_
    repeat' first
      | (with_reducible refine gw_bool (fun _ => ?_) (fun _ => ?_))
      | (with_reducible refine condw_bool (fun _ => ?_) (fun _ => ?_))
      | simp [*, Stn.cs, Pos.cs]
  cases e3 : ieq (m : Int) (n : Int)
  · refine pcall_cx HN_ok mixed (fun _ => none) Try.func5 rfl Try.ntmps5 Try.results5 (by simp) (by kernel_rfl) ?_
    repeat' first
      | (with_reducible refine gw_bool (fun _ => ?_) (fun _ => ?_))
      | (with_reducible refine condw_bool (fun _ => ?_) (fun _ => ?_))
      | simp [*, Stn.cs, Pos.cs]
  · exact absurd ⟨e0, ieq_iff.1 e1, ieq_iff.1 e2, by have := ieq_iff.1 e3; omega⟩ h
end
end Go.Proofs.Ytjhmphkdkclbjaa
end
section
namespace Go.Proofs.Ytjhmphkdkclbjaa
open Go.Pv Go.RowKit
set_option linter.unusedSimpArgs false
set_option linter.unusedVariables false
set_option maxRecDepth 100000
set_option maxHeartbeats 4000000
attribute [-simp] Tclo_at Tgrp_at Tchk Tpchk TcI TcB Tclo Tgrp Tsid Tnod Tlook Tbnd Tres TSd TBd Tix Tcon Tgps Tsg Tmv Tidx Tnms Tnmd Tobj Tlks Tbay Trck Trpc Trg Trf Trsd Trnd Tar Ttwo Tof Tnm Tat Trof Tsm Tsl Tk33 Tard Tsgs TSd_at

/-- What the law asks of the first k bays. -/
def gdB (s : Stn) (p : Pos) (cur : List Int) (k : Nat) : Prop := (∀ i c, i < k → cur[i]? = some c → -1000 ≤ c ∧ c ≤ 1000) ∧ ∀ i b l c, i < k → s.qs[i]? = some b → p.lk[i]? = some l → cur[i]? = some c → (ieq b.kind 3 = true ∨ (fstN (grp s p) ((b.lks.zip l).find? hit)).1 = 1 ∨ c = 0)
theorem gdB_zero (s : Stn) (p : Pos) (cur : List Int) : gdB s p cur 0 := ⟨fun i c h => absurd h (by omega), fun i b l c h => absurd h (by omega)⟩
theorem gdB_step {s : Stn} {p : Pos} {cur : List Int} {k : Nat} {b : By} {l : List Int} {c : Int} (h : gdB s p cur k) (hb : s.qs[k]? = some b) (hl : p.lk[k]? = some l) (hc : cur[k]? = some c) (h1 : -1000 ≤ c ∧ c ≤ 1000) (h2 : ieq b.kind 3 = true ∨ (fstN (grp s p) ((b.lks.zip l).find? hit)).1 = 1 ∨ c = 0) : gdB s p cur (k + 1) := by
  refine ⟨fun i c' hi hc' => ?_, fun i b' l' c' hi hb' hl' hc' => ?_⟩
  · by_cases e : i = k
    · subst e; rw [hc] at hc'; cases hc'; exact h1
    · exact h.1 i c' (by omega) hc'
  · by_cases e : i = k
    · subst e; rw [hc] at hc'; rw [hb] at hb'; rw [hl] at hl'; cases hc'; cases hb'; cases hl'; exact h2
    · exact h.2 i b' l' c' (by omega) hb' hl' hc'
/-- The sides of a bay, and what its step does. -/
theorem side_step {s : Stn} {p : Pos} (h : okP s p = true) {cur : List Int} {k : Nat} {b : By} {l : List Int} {c : Int} (hb : s.qs[k]? = some b) (hl : p.lk[k]? = some l) (hc : cur[k]? = some c) :
    ∃ a0 a1 c0 c1, sidF s p (grp s p) k = some [a0, a1, c0, c1] ∧
      (ieq b.kind 3 = true → (∃ u v : Nat, a1 = u ∧ c1 = v ∧ u < s.bs.length ∧ v < s.bs.length) ∧ lfN s p (grp s p) cur (k + 1) = adL (adL (lfN s p (grp s p) cur k) a1 c) c1 (-c)) ∧
      (ieq b.kind 3 = false → ieq a0 1 = true → (∃ u : Nat, a1 = u ∧ u < s.bs.length) ∧ lfN s p (grp s p) cur (k + 1) = adL (lfN s p (grp s p) cur k) a1 c ∧ (fstN (grp s p) ((b.lks.zip l).find? hit)).1 = 1) ∧
      (ieq b.kind 3 = false → ieq a0 1 = false → lfN s p (grp s p) cur (k + 1) = lfN s p (grp s p) cur k) := by
  have hF := fine_of (okP_iff h).1
  have hP := pfine_of (okP_iff h).2
  have gg := gg_of hF hP.nk hP.nk (fun i l l' h1 h2 => by
    rw [h1] at h2; cases h2
    exact ⟨rfl, fun j x y h1 h2 h3 => by rw [h1] at h2; cases h2; exact h3⟩)
  have hk : k < s.qs.length := (List.getElem?_eq_some_iff.1 hb).1
  obtain ⟨b', l', hb', hl', hS, h32⟩ := sid_at h hk
  rw [hb] at hb'; cases hb'
  rw [hl] at hl'; cases hl'
  have hlk := hF.lk b (List.mem_of_getElem? hb)
  rw [hS, lfN_step hb hl hc]
  cases h3 : ieq b.kind 3
  · have e : sid (grp s p) b l = [(fstN (grp s p) ((b.lks.zip l).find? hit)).1, (fstN (grp s p) ((b.lks.zip l).find? hit)).2, if ieq b.kind 1 = true then 2 else 3, b.ob] := by simp [sid, h3]
    refine ⟨_, _, _, _, by rw [e], fun hh => by simp at hh, fun _ h1 => ⟨?_, by simp only [lfS, e, h3, h1]; simp, ieq_iff.1 h1⟩, fun _ h1 => by simp only [lfS, e, h3, h1]; simp⟩
    cases hf : (b.lks.zip l).find? hit with
    | none => rw [hf] at h1; simp [fstN, ieq] at h1
    | some x =>
      obtain ⟨z, w⟩ := x
      have hm := List.mem_of_find?_eq_some hf
      have hz : z ∈ b.lks := (List.of_mem_zip hm).1
      have := gg.own z.bus (hlk.1 z hz).1 (hlk.1 z hz).2
      exact ⟨(g0 (grp s p) z.bus).toNat, by simp only [fstN]; omega, by omega⟩
  · have h2 := hlk.2.1 h3
    obtain ⟨lks, hlk2⟩ : ∃ lks, b.lks = lks := ⟨_, rfl⟩
    rw [hlk2] at h2
    match lks, h2 with
    | [a, d], _ =>
      have e : sid (grp s p) b l = [1, g0 (grp s p) a.bus, 1, g0 (grp s p) d.bus] := by simp [sid, h3, hlk2]
      have ha := gg.own a.bus (hlk.1 a (by simp [hlk2])).1 (hlk.1 a (by simp [hlk2])).2
      have hd := gg.own d.bus (hlk.1 d (by simp [hlk2])).1 (hlk.1 d (by simp [hlk2])).2
      refine ⟨_, _, _, _, by rw [e], fun _ => ⟨⟨(g0 (grp s p) a.bus).toNat, (g0 (grp s p) d.bus).toNat, by omega, by omega, by omega, by omega⟩, by simp only [lfS, e, h3]; simp⟩, fun hh => by simp at hh, fun hh => by simp at hh⟩
end Go.Proofs.Ytjhmphkdkclbjaa
end
section
namespace Go.Proofs.Ytjhmphkdkclbjaa
open Go.Pv Go.RowKit
set_option linter.unusedSimpArgs false
set_option linter.unusedVariables false
set_option maxRecDepth 100000

theorem sec_fact {s : Stn} {p : Pos} {cur : List Int} (hok : okP s p = true) (hs : smallSc (secF s p) = true) (hc : cur.length = s.qs.length) {k : Nat} {x : Sc} (hx : (secF s p)[k]? = some x) :
    ∃ S : List Int, Tsgs [.list 3 ((secF s p).map Sc.cs), .int .i64 k, .int .i64 s.qs.length] = some (.list 1 (S.map i1)) ∧ S.length = s.qs.length ∧ bdL S 1 ∧ (∀ y ∈ x.bu, 0 ≤ y ∧ y < s.bs.length) ∧ x.bu.length ≤ s.bs.length ∧
      (gdB s p cur s.qs.length → smN S cur s.qs.length = wtS (grp s p) (lfN s p (grp s p) cur s.qs.length) x.bu) := by
  have hF := fine_of (okP_iff hok).1
  have hnq := hF.nq
  have hlen : (grp s (resP p true)).length = s.bs.length := grpN_len _ _ _
  have hm := List.mem_of_getElem? hx
  simp only [secF, secN, List.mem_map, List.mem_filter, List.mem_range, beq_iff_eq] at hm
  obtain ⟨lo, ⟨hlo, hll⟩, hxe⟩ := hm
  have hbu : x.bu = busN (grp s (resP p true)) lo (grp s (resP p true)).length := by rw [← hxe]; rfl
  have hme : x.me = memF s (resP p true) (grp s (resP p true)) lo (busN (grp s (resP p true)) lo (grp s (resP p true)).length) := by rw [← hxe]; rfl
  refine ⟨sgX s p lo, ?_, (sgnR_len _ _).1, bd_sgX hok hlo hll, fun y hy => ?_, ?_, fun hg => ?_⟩
  · have e : sgn2 (secF s p) (k : Int) (s.qs.length : Int) = sgX s p lo := by
      rw [sgn2, if_neg (by omega)]
      simp only [sgnF, Int.toNat_natCast, hx, hme]
      rfl
    rw [Tsgs_at hs, e]
  · rw [hbu] at hy
    have := busN_nn y hy
    omega
  · have := busN_len (grp s (resP p true)) lo (grp s (resP p true)).length
    rw [hbu]; omega
  · rw [hbu]; exact bal_sum hok hc hlo hll _ (Nat.le_refl _) hg.2
end Go.Proofs.Ytjhmphkdkclbjaa
end
section
namespace Go.Proofs.Ytjhmphkdkclbjaa
open Go.Pv Go.RowKit
set_option linter.unusedSimpArgs false
set_option linter.unusedVariables false
set_option maxRecDepth 100000
set_option maxHeartbeats 4000000
attribute [-simp] Tclo_at Tgrp_at Tchk Tpchk TcI TcB Tclo Tgrp Tsid Tnod Tlook Tbnd Tres TSd TBd Tix Tcon Tgps Tsg Tmv Tidx Tnms Tnmd Tobj Tlks Tbay Trck Trpc Trg Trf Trsd Trnd Tar Ttwo Tof Tnm Tat Trof Tsm Tsl Tk33 Tard Tsgs TSd_at

theorem set_cells {L : List Int} {u : Nat} {x c z : Int} (hx : L[u]? = some x) (hz : z = x + c) : (L.map (V.int .i64)).set u (V.int .i64 z) = (adL L (u : Int) c).map (V.int .i64) := by
  simp [adL, hx, hz, List.map_set]
theorem balance_good {s : Stn} {p : Pos} {cur : List Int} (hl : lenB s p = true) (hs : smallF s p = true) (hok : okP s p = true) (hc : cur.length = s.qs.length) : PCall Try.prog 5 [.agg s.cs, .agg p.cs, .list 1 (cur.map i1)] (.bool true) := by
  have t1 := @Tsl_at s p
  rw [hs] at t1
  have t2 : Tk33 [] = some (.bool true) := rfl
  have c1 := (okP_iff hok).1
  have c2 := (okP_iff hok).2
  have hF := fine_of c1
  have hP := pfine_of c2
  have tO := Tof_at hl
  have hof : ofF s p = secF s p := by rw [ofF, if_pos hok]
  have hoe : ofE s p = 0 := by rw [ofE, if_pos c1, c2]
  rw [ofW, hof, hoe] at tO
  have tG := Tgps_at hok
  have hsc : smallSc (secF s p) = true := by have := ofF_small (p := p) hs; rwa [hof] at this
  have hsec : Hid (∀ (k : Nat) (x : Sc), (secF s p)[k]? = some x → _) := show _ from fun k x hx => sec_fact hok hsc hc hx
  have hRl : (secF s p).length ≤ 1000 := (smallSc_me hsc).1
  have hGl : (grp s p).length = s.bs.length := grpN_len _ _ _
  have hnq := hF.nq
  have hnb := hF.nb
  have hnk := hP.nk
  obtain ⟨n, hn⟩ : ∃ n, s.qs.length = n := ⟨_, rfl⟩
  obtain ⟨nb, hnbe⟩ : ∃ n, s.bs.length = n := ⟨_, rfl⟩
  have hst : Hid (∀ k b l c, s.qs[k]? = some b → p.lk[k]? = some l → cur[k]? = some c → _) := show _ from fun k b l c hb hl hc => side_step hok hb hl hc
  have hbd : Hid (∀ k, gdB s p cur k → bdL (lfN s p (grp s p) cur k) (2000 * (k : Int))) := show _ from fun k h => bd_lfN k h.1
  have hln : Hid (∀ k, (lfN s p (grp s p) cur k).length = nb) := show _ from fun k => by rw [← hnbe]; exact lfN_len _ _ _ _ _
  have hz : Hid (List.replicate nb (V.int .i64 0) = (lfN s p (grp s p) cur 0).map (V.int .i64)) := show _ = _ by rw [lfN, hnbe, List.map_replicate]
  have hri := repl_i nb
  rw [hn] at hc hnk hnq
  rw [hnbe] at hnb hGl
  rw [hn, hnbe] at hsec
  have f5 : 8 * (nb : Int) ≤ 281474976710656 := by omega
  have f6 : (nb : Int) ≤ 9223372036854775807 := by omega
  have tSd : Hid (∀ (k : Nat) (S : List Int), sidF s p (grp s p) (k : Int) = some S → _) := show _ from fun k S hS => TSd_at hok hS
  generalize secF s p = R at tO hsec hRl
  obtain ⟨m, hm⟩ : ∃ m, R.length = m := ⟨_, rfl⟩
  rw [hm] at hRl
  refine pcall_cx HN_ok mixed (fun _ => none) Try.func5 rfl Try.ntmps5 Try.results5 (by simp) (by kernel_rfl) ?_
  repeat' first
    | (with_reducible refine gw_bool (fun _ => ?_) (fun _ => ?_))
    | (with_reducible refine condw_bool (fun _ => ?_) (fun _ => ?_))
    | simp [*, Stn.cs, Pos.cs]
  refine lp_go (D := (fun _ => none)) HN_ok mixed (by kernel_rfl) [2, 3, 4, 7, 9, 10, 63, 64] [3, 4, 12, 13, 15] (α := Nat) (fun i e h => i ≤ n ∧ e 65 = .int .i64 i ∧ h 61 = some ⟨3, (lfN s p (grp s p) cur i).map (V.int .i64)⟩ ∧ gdB s p cur i) (fun i => n - i) 0 ?_ ?_
  · exact ⟨by omega, by simp, by rw [← hz.out]; simp [*], gdB_zero _ _ _⟩
  rintro i e h hk hkh ⟨hi, g65, g61, hgd⟩
  simp [Keep] at hk
  simp [KeepH] at hkh
  by_cases hlt : i < n
  · obtain ⟨b, hb, hb'⟩ := at_ex (l := s.qs) (i := i) (by omega)
    obtain ⟨l, hl2, hl2'⟩ := at_ex (l := p.lk) (i := i) (by omega)
    obtain ⟨c, hcc, hcc'⟩ := at_ex (l := cur) (i := i) (by omega)
    obtain ⟨a0, a1, d0, d1, hS, k3, k1, k0⟩ := hst.out i b l c hb hl2 hcc
    have tS := tSd.out i _ hS
    simp only [List.map_cons, List.map_nil] at tS
    have hbi := hbd.out i hgd
    have hli := hln.out i
    rw [hnbe] at k3 k1
    have f1 : ilt (i : Int) (n : Int) = true := ilt_t (by omega)
    have w1 : IntKind.i64.wrap ((i : Int) + 1) = ((i + 1 : Nat) : Int) := wrap_succ (by omega)
    have hnx : Hid (_) := fun (h1 : -1000 ≤ c ∧ c ≤ 1000) (h2 : ieq b.kind 3 = true ∨ (fstN (grp s p) ((b.lks.zip l).find? hit)).1 = 1 ∨ c = 0) => gdB_step hgd hb hl2 hcc h1 h2
    generalize hL0 : lfN s p (grp s p) cur i = L at g61 hbi hli k3 k1 k0
    clear hst hbd hln hz tSd hS hri tO tG
    cases q1 : ilt c (-1000)
    · cases q2 : ilt 1000 c
      · have hcb : -1000 ≤ c ∧ c ≤ 1000 := ⟨ilt_iff'.1 q1, ilt_iff'.1 q2⟩
        cases q3 : ieq b.kind 3
        · cases q4 : ieq a0 1
          · cases q5 : ieq c 0
            · skip
              repeat' first
                | (with_reducible refine gw_bool (fun _ => ?_) (fun _ => ?_))
                | (with_reducible refine condw_bool (fun _ => ?_) (fun _ => ?_))
                | simp [*, By.cs, i1, setsV]
            · have hE := k0 q3 q4
              have hg2 := hnx.out hcb (.inr (.inr (ieq_iff.1 q5)))
              clear hnx k3 k1 k0
              repeat' first
                | (with_reducible refine gw_bool (fun _ => ?_) (fun _ => ?_))
                | (with_reducible refine condw_bool (fun _ => ?_) (fun _ => ?_))
                | simp [*, By.cs, i1, setsV]
              refine nxt_go (i + 1) ((View.forget _ _ 12).trans ((View.forget _ _ 13))) (by omega) (by simp [*, Keep, St.forget, scr, scrC, usesC, usesA]) (by simp [*, KeepH, St.forget, scr, scrC]) ?_
              refine ⟨by omega, by simp [*, St.forget, scr, scrC], ?_, hg2⟩
              rw [hE]; simp [*, St.forget, scr, scrC, scrI_comp]
          · obtain ⟨⟨u, rfl, hu⟩, hE, hf⟩ := k1 q3 q4
            have hg2 := hnx.out hcb (.inr (.inl hf))
            obtain ⟨x, hx, hx'⟩ := at_ex (l := L) (i := u) (by omega)
            have hxb := hbi u x hx
            have w2 : IntKind.i64.wrap (x + c) = x + c := wrap_id (by omega) (by omega)
            have hM1 := set_cells (c := c) hx rfl
            clear hnx k3 k1 k0 hf
            have u1 : (u : Int) < nb := by omega
            have u2 : u + 1 ≤ nb := by omega
            repeat' first
              | (with_reducible refine gw_bool (fun _ => ?_) (fun _ => ?_))
              | (with_reducible refine condw_bool (fun _ => ?_) (fun _ => ?_))
              | simp [*, By.cs, i1, setsV]
            refine nxt_go (i + 1) ((View.forget _ _ 12).trans ((View.forget _ _ 13))) (by omega) (by simp [*, Keep, St.forget, scr, scrC, usesC, usesA]) (by simp [*, KeepH, St.forget, scr, scrC]) ?_
            refine ⟨by omega, by simp [*, St.forget, scr, scrC], ?_, hg2⟩
            rw [hE]; simp [*, St.forget, scr, scrC, scrI_comp, scr_i1]
        · obtain ⟨⟨u, v, rfl, rfl, hu, hv⟩, hE⟩ := k3 q3
          have hg2 := hnx.out hcb (.inl q3)
          obtain ⟨x, hx, hx'⟩ := at_ex (l := L) (i := u) (by omega)
          have hxb := hbi u x hx
          have w2 : IntKind.i64.wrap (x + c) = x + c := wrap_id (by omega) (by omega)
          have hM1 := set_cells (c := c) hx rfl
          have hb1 := bd_ad (x := (u : Int)) hbi (by omega) hcb
          have hl1 : (adL L (u : Int) c).length = nb := by rw [adL_len]; exact hli
          generalize adL L (u : Int) c = L1 at hM1 hE hb1 hl1
          obtain ⟨y, hy, hy'⟩ := at_ex (l := L1) (i := v) (by omega)
          have hyb := hb1 v y hy
          have w3 : IntKind.i64.wrap (y - c) = y - c := wrap_id (by omega) (by omega)
          have hM2 := set_cells (c := -c) hy (show y - c = y + -c by omega)
          clear hnx k3 k1 k0
          have u1 : (u : Int) < nb := by omega
          have u2 : u + 1 ≤ nb := by omega
          have v1 : (v : Int) < nb := by omega
          have v2 : v + 1 ≤ nb := by omega
          repeat' first
            | (with_reducible refine gw_bool (fun _ => ?_) (fun _ => ?_))
            | (with_reducible refine condw_bool (fun _ => ?_) (fun _ => ?_))
            | simp [*, By.cs, i1, setsV]
          refine nxt_go (i + 1) ((View.forget _ _ 12).trans ((View.forget _ _ 13))) (by omega) (by simp [*, Keep, St.forget, scr, scrC, usesC, usesA]) (by simp [*, KeepH, St.forget, scr, scrC]) ?_
          refine ⟨by omega, by simp [*, St.forget, scr, scrC], ?_, hg2⟩
          rw [hE]; simp [*, St.forget, scr, scrC, scrI_comp, scr_i1]
      · skip
        repeat' first
          | (with_reducible refine gw_bool (fun _ => ?_) (fun _ => ?_))
          | (with_reducible refine condw_bool (fun _ => ?_) (fun _ => ?_))
          | simp [*, By.cs, i1, setsV]
    · skip
      repeat' first
        | (with_reducible refine gw_bool (fun _ => ?_) (fun _ => ?_))
        | (with_reducible refine condw_bool (fun _ => ?_) (fun _ => ?_))
        | simp [*, By.cs, i1, setsV]
  · have f1 : ilt (i : Int) (n : Int) = false := ilt_f (by omega)
    have e1 : i = n := by omega
    subst e1
    have hbL := hbd.out i hgd
    have hlL := hln.out i
    replace hsec : Hid (∀ (k : Nat) (x : Sc), R[k]? = some x → ∃ S : List Int, Tsgs [.list 3 (R.map Sc.cs), .int .i64 k, .int .i64 i] = some (.list 1 (S.map i1)) ∧ S.length = i ∧ bdL S 1 ∧ (∀ y ∈ x.bu, 0 ≤ y ∧ y < (nb : Int)) ∧ x.bu.length ≤ nb ∧ smN S cur i = wtS (grp s p) (lfN s p (grp s p) cur i) x.bu) := show _ from fun k x hx => by
      obtain ⟨S, h1, h2, h3, h4, h5, h6⟩ := hsec.out k x hx
      exact ⟨S, h1, h2, h3, h4, h5, h6 hgd⟩
    obtain ⟨hcb, -⟩ := hgd
    replace hcb : Hid (_) := hcb
    generalize lfN s p (grp s p) cur i = L at g61 hbL hlL hsec
    generalize grp s p = G at hsec hGl hk
    clear hst hbd hln hz tSd hri tO tG
    repeat' first
      | (with_reducible refine gw_bool (fun _ => ?_) (fun _ => ?_))
      | (with_reducible refine condw_bool (fun _ => ?_) (fun _ => ?_))
      | simp [*]
    refine lp_go (D := (fun _ => none)) HN_ok mixed (by kernel_rfl) [2, 3, 7, 9, 10, 149, 150] [3, 4, 12, 13, 15, 61] (α := Nat) (fun k e h => k ≤ m ∧ e 151 = .int .i64 k) (fun k => m - k) 0 ?_ ?_
    · exact ⟨by omega, by simp⟩
    have hk0 := hk
    have hkh0 := hkh
    clear hk hkh g65
    rintro k e h hk hkh ⟨hkm, g151⟩
    simp [Keep, hk0, hkh0] at hk
    simp [KeepH, hk0, hkh0, g61] at hkh
    by_cases hkl : k < m
    · obtain ⟨x, hx, hx'⟩ := at_ex (l := R) (i := k) (by omega)
      obtain ⟨S, hT, hSl, hSb, hBr, hBl, hEq⟩ := hsec.out k x hx
      have f2 : ilt (k : Int) (m : Int) = true := ilt_t (by omega)
      have w1 : IntKind.i64.wrap ((k : Int) + 1) = ((k + 1 : Nat) : Int) := wrap_succ (by omega)
      obtain ⟨mb, hmb⟩ : ∃ n, x.bu.length = n := ⟨_, rfl⟩
      rw [hmb] at hBl
      replace hSb : Hid (_) := hSb
      replace hBr : Hid (_) := hBr
      replace hEq : Hid (_) := hEq
      replace hbL : Hid (_) := hbL
      clear hsec
      repeat' first
        | (with_reducible refine gw_bool (fun _ => ?_) (fun _ => ?_))
        | (with_reducible refine condw_bool (fun _ => ?_) (fun _ => ?_))
        | simp [*, Sc.cs]
      refine lp_go (D := (fun _ => none)) HN_ok mixed (by kernel_rfl) [2, 3, 7, 9, 10, 14, 15, 17, 18, 149, 150, 151, 152, 153, 154, 155, 156, 157, 158, 159, 160, 161, 162, 163, 164, 165, 166, 167, 168] [3, 4, 12, 13, 15, 61] (α := Nat) (fun j e h => j ≤ i ∧ e 169 = .int .i64 j ∧ e 16 = .int .i64 (smN S cur j)) (fun j => i - j) 0 ?_ ?_
      · exact ⟨by omega, by simp, by simp [smN]⟩
      have hk1 := hk
      have hkh1 := hkh
      have g1510 := g151
      clear hk hkh g151
      rintro j e h hk hkh ⟨hj, g169, g16⟩
      simp [Keep, hk1, hkh1, g1510] at hk
      simp [KeepH, hk1, hkh1] at hkh
      by_cases hjl : j < i
      · obtain ⟨y, hy, hy'⟩ := at_ex (l := S) (i := j) (by omega)
        obtain ⟨c, hc1, hc1'⟩ := at_ex (l := cur) (i := j) (by omega)
        have hyb := hSb.out j y hy
        have hcbj := hcb.out j c hjl hc1
        have hsmb := bd_smN hSb.out j (fun a c ha => hcb.out a c (by omega))
        have hsm : smN S cur (j + 1) = smN S cur j + y * c := by rw [smN, hy, hc1]; rfl
        have hyc : -1000 ≤ y * c ∧ y * c ≤ 1000 := by
          have : y = -1 ∨ y = 0 ∨ y = 1 := by omega
          rcases this with e | e | e <;> rw [e] <;> omega
        have f3 : ilt (j : Int) (i : Int) = true := ilt_t (by omega)
        have w3 : IntKind.i64.wrap ((j : Int) + 1) = ((j + 1 : Nat) : Int) := wrap_succ (by omega)
        have w4 : IntKind.i64.wrap (y * c) = y * c := wrap_id (by omega) (by omega)
        generalize smN S cur j = z at g16 hsmb hsm
        have w5 : IntKind.i64.wrap (z + y * c) = z + y * c := wrap_id (by omega) (by omega)
        replace hsm : Hid (_) := hsm
        repeat' first
          | (with_reducible refine gw_bool (fun _ => ?_) (fun _ => ?_))
          | (with_reducible refine condw_bool (fun _ => ?_) (fun _ => ?_))
          | simp [*, i1]
        refine nxt_go (j + 1) (View.refl _ _) (by omega) (by simp [*, Keep, St.forget, scr, scrC]) (by simp [*, KeepH, St.forget, scr, scrC]) ?_
        exact ⟨by omega, by simp [*], by rw [hsm.out]; simp [*]⟩
      · have f3 : ilt (j : Int) (i : Int) = false := ilt_f (by omega)
        have e2 : j = i := by omega
        rw [e2] at g16
        repeat' first
          | (with_reducible refine gw_bool (fun _ => ?_) (fun _ => ?_))
          | (with_reducible refine condw_bool (fun _ => ?_) (fun _ => ?_))
          | simp [*]
        refine lp_go (D := (fun _ => none)) HN_ok mixed (by kernel_rfl) [2, 3, 7, 9, 10, 14, 15, 16, 18, 19, 20, 149, 150, 151, 152, 153, 154, 155, 156, 157, 158, 159, 160, 161, 162, 163, 164, 165, 166, 167, 168, 169, 170, 171, 172, 173, 174, 175, 176, 177, 178, 179, 180, 181, 182, 183, 184, 185] [3, 4, 12, 13, 15, 61] (α := Nat) (fun q e h => q ≤ mb ∧ e 186 = .int .i64 q ∧ e 17 = .int .i64 (wtS G L (x.bu.take q))) (fun q => mb - q) 0 ?_ ?_
        · exact ⟨by omega, by simp, by simp [wtS, hk]⟩
        have hk2 := hk
        have hkh2 := hkh
        clear hk hkh g169
        rintro q e h hk hkh ⟨hq, g186, g17⟩
        simp [Keep, hk2, g16] at hk
        simp [KeepH, hk2, hkh2] at hkh
        by_cases hql : q < mb
        · obtain ⟨y, hy, hy'⟩ := at_ex (l := x.bu) (i := q) (by omega)
          obtain ⟨hy0, hy1⟩ := hBr.out y (List.mem_of_getElem? hy)
          obtain ⟨u, rfl⟩ := Int.eq_ofNat_of_zero_le hy0
          obtain ⟨gv, hgv, hgv'⟩ := at_ex (l := G) (i := u) (by omega)
          obtain ⟨lv, hlv, hlv'⟩ := at_ex (l := L) (i := u) (by omega)
          have hlb := hbL.out u lv hlv
          have hwb := bd_wtS (G := G) (by omega) hbL.out x.bu q
          have hqm : 2000 * (i : Int) * (q : Int) ≤ 1000000000 := by
            have : (2000 * (i : Int)) * (q : Int) ≤ 32000 * 4 := Int.mul_le_mul (by omega) (by omega) (by omega) (by omega)
            omega
          have hst : wtS G L (x.bu.take (q + 1)) = wtS G L (x.bu.take q) + (if ieq gv (u : Int) = true then lv else 0) := by
            rw [take_snoc hy]
            have : wt G L (u : Int) = if ieq gv (u : Int) = true then lv else 0 := by simp only [wt, g0, gAt, Int.toNat_natCast, hlv, hgv]; simp [hgv]
            simp [wtS, this]
          have f3 : ilt (q : Int) (mb : Int) = true := ilt_t (by omega)
          have w3 : IntKind.i64.wrap ((q : Int) + 1) = ((q + 1 : Nat) : Int) := wrap_succ (by omega)
          generalize wtS G L (x.bu.take q) = z at g17 hst hwb
          have w5 : IntKind.i64.wrap (z + lv) = z + lv := wrap_id (by omega) (by omega)
          have u0 : ilt (u : Int) 0 = false := ilt_f (by omega)
          have u1 : ilt (u : Int) (nb : Int) = true := ilt_t (by omega)
          have u2 : u + 1 ≤ nb := by omega
          have u3 : (u : Int) < nb := by omega
          replace hst : Hid (_) := hst
          cases q1 : ieq gv (u : Int)
          · rw [q1] at hst
            repeat' first
              | (with_reducible refine gw_bool (fun _ => ?_) (fun _ => ?_))
              | (with_reducible refine condw_bool (fun _ => ?_) (fun _ => ?_))
              | simp [*, i1]
            refine nxt_go (q + 1) (View.refl _ _) (by omega) (by simp [*, Keep, St.forget, scr, scrC]) (by simp [*, KeepH, St.forget, scr, scrC]) ?_
            exact ⟨by omega, by simp [*], by rw [hst.out]; simp [*]⟩
          · rw [q1] at hst
            repeat' first
              | (with_reducible refine gw_bool (fun _ => ?_) (fun _ => ?_))
              | (with_reducible refine condw_bool (fun _ => ?_) (fun _ => ?_))
              | simp [*, i1]
            refine nxt_go (q + 1) (View.refl _ _) (by omega) (by simp [*, Keep, St.forget, scr, scrC]) (by simp [*, KeepH, St.forget, scr, scrC]) ?_
            exact ⟨by omega, by simp [*], by rw [hst.out]; simp [*]⟩
        · have f3 : ilt (q : Int) (mb : Int) = false := ilt_f (by omega)
          have e4 : x.bu.take q = x.bu := List.take_of_length_le (by omega)
          rw [e4, ← hEq.out] at g17
          repeat' first
            | (with_reducible refine gw_bool (fun _ => ?_) (fun _ => ?_))
            | (with_reducible refine condw_bool (fun _ => ?_) (fun _ => ?_))
            | simp [*]
          refine nxt_go (k + 1) ((View.forget _ _ 15)) (by omega) (by simp [*, Keep, St.forget, scr, scrC, usesC, usesA]) (by simp [*, KeepH, St.forget, scr, scrC]) ?_
          exact ⟨by omega, by simp [*, St.forget, scr, scrC]⟩
    · have f2 : ilt (k : Int) (m : Int) = false := ilt_f (by omega)
      repeat' first
        | (with_reducible refine gw_bool (fun _ => ?_) (fun _ => ?_))
        | (with_reducible refine condw_bool (fun _ => ?_) (fun _ => ?_))
        | simp [*]
end Go.Proofs.Ytjhmphkdkclbjaa
end
section
namespace Go.Proofs.Ytjhmphkdkclbjaa.busimageBalanceDone
open Go.Pv Go.ChangeShapes Go.WideShapes Go.ChangeAt Go.RowKit
set_option linter.unusedVariables false

theorem law : ∀ us, HasAll [.struct [.str, .slice .str, .slice (.struct [.str, .struct [.int .i64, .int .i64], .struct [.int .i64, .int .i64]]), .slice (.struct [.str, .int .i64, .struct [.int .i64, .int .i64], .struct [.int .i64, .int .i64]]), .slice (.struct [.str, .int .i64, .int .i64, .int .i64, .struct [.int .i64, .int .i64], .slice (.struct [.int .i64, .int .i64]), .bool, .int .i64, .int .i64, .int .i64, .int .i64])], .struct [.slice .bool, .slice (.slice (.int .i64))], .slice (.int .i64)] us → PCall Try.prog 5 us (.bool true) := by
  rintro us ⟨a, _, rfl, ha, b, _, rfl, hb, c, _, rfl, hc, rfl⟩
  obtain ⟨s, rfl, h1, _, hlk⟩ := has_stnL ha
  obtain ⟨p, rfl, h2, _⟩ := has_pos hb
  obtain ⟨xs, rfl, hl, hx⟩ := has_slice hc
  obtain ⟨f, rfl⟩ := rows_of (enc := i1) fun x hx2 => has_i1 (hx x hx2)
  have hm : maxLen = 9223372036854775807 := by decide
  rw [hm] at h1 h2 hl
  have hlb : lenB s p = true := by
    simp only [lenB, Bool.and_eq_true, decide_eq_true_eq, List.all_eq_true]
    exact ⟨h1, h2⟩
  by_cases h : smallF s p = true ∧ chkF s = 0 ∧ posE s p = 0 ∧ f.length = s.qs.length
  · exact balance_good hlb h.1 (by simp [okP, h.2.1, h.2.2.1]) h.2.2.2
  · exact balance_bad hlb h

theorem own : ownKnob Try.prog.godebug = none := by kernel_rfl
theorem laidOut : laidOutB Try.prog = true := by kernel_rfl
theorem spec_at (H : Type) : ∀ ds : List (DataW H), ds.length = 3 → Rows.busimageBalanceSpec.fn H ds = { results := [.lit (.bool true)], args := ds } := by
  intro ds h
  rcases ds with _ | ⟨d0, _ | ⟨d1, _ | ⟨d2, _ | ⟨e, r⟩⟩⟩⟩
  all_goals first | rfl | (simp at h; done) | (simp at h; omega)

set_option maxRecDepth 100000 in
theorem lifted (os : Os) (started : os.Started) (H : Type) (enc : TypeId × Value → H) :
    ReturnsInHanded {} Try.checked os 5 .any (Rows.busimageBalanceSpec.pre6 enc Try.prog Try.f5 Rows.busimageBalanceRow.domain false) (Rows.busimageBalanceSpec.post enc Try.prog Try.f5 false true false false) :=
  lift (C := Try.checked) (m := 9) own laidOut started (by kernel_rfl) Try.func5
    (ChangeSpec.witness6 (enc := enc) (C := Try.checked) false ⟨#[], #[.agg #[.string ⟨#[]⟩, .slice none 0 0, .slice none 0 0, .slice none 0 0, .slice none 0 0], .agg #[.slice none 0 0, .slice none 0 0], .slice none 0 0], []⟩ 8 (by kernel_rfl) (by kernel_rfl) (by kernel_rfl) (by kernel_rfl))
    Try.params5 (by kernel_rfl) Try.underlying4 rfl (by kernel_rfl) (by kernel_rfl) (spec_at H) law

theorem over : Rows.busimageBalanceRow.holds Try.pinned (OpenSpec.ofChange Rows.busimageBalanceSpec) :=
  OpenClaim.holds_of_wide 5 Try.f5 rfl rfl rfl rfl rfl rfl rfl ⟨rfl, rfl, rfl, rfl, rfl⟩ rfl rfl rfl rfl rfl (by kernel_rfl) Try.func5 (by kernel_rfl)
    (of_decide_eq_true (by kernel_rfl)) (by unfold Func.isWrapper; first | (rw [if_pos (by decide +kernel)]; kernel_rfl) | (rw [if_neg (by decide +kernel)]; exact ⟨rfl, rfl⟩))
    (fun os started H enc _ => lifted os started H enc)

theorem proved : Rows.BusimageBalanceSaid := over
end Go.Proofs.Ytjhmphkdkclbjaa.busimageBalanceDone
end
