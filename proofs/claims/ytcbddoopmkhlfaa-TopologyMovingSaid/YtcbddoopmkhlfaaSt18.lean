/-
  The document's diagrams: names and ranges.
-/
import Derived.Test.YtcbddoopmkhlfaaSt14
import Derived.Laws.StructEq
namespace Go.Proofs.Ytcbddoopmkhlfaa
open Go.Pv Go.RowKit
set_option linter.unusedSimpArgs false
set_option linter.unusedVariables false
set_option maxRecDepth 100000
set_option maxHeartbeats 4000000
attribute [-simp] Tclo_at Tgrp_at Tchk Tpchk TcI TcB Tclo Tgrp Tsid Tnod Tlook Tbnd

theorem flat_s1 (l : List ByteArray) : (l.map s1).flatten = l.map V.str := by
  induction l with
  | nil => rfl
  | cons a l ih => simp [s1, ih]
theorem chunks_s1 (l : List ByteArray) : chunks 1 l.length (l.map V.str) = l.map s1 := by rw [← flat_s1]; exact flat_chunks (sz := 1) (fun _ => rfl) l
theorem pure_s1 (l : List ByteArray) : (l.map V.str).any ownC = false := by rw [← flat_s1]; exact flat_pure (fun _ => rfl) l
/-! ### names -/
theorem rname_ok (s : ByteArray) : PCall Try.prog 77 [.str s] (.bool (nameF s)) := by
  obtain ⟨n, hn⟩ : ∃ n, s.size = n := ⟨_, rfl⟩
  cases b1 : ilt (n : Int) 1
  · have b0 : ieq (n : Int) 0 = false := ieq_f (by have := ilt_iff'.1 b1; omega)
    cases b2 : ilt 12 (n : Int)
    · have hok : nameF s = (List.range n).all (gdN s) := by simp [nameF, hn, b0, b2]
      have hn12 : n ≤ 12 := by have := ilt_iff'.1 b2; omega
      rw [hok]
      refine pcall_cx noTab_ok mixed (fun _ => none) Try.func77 rfl Try.ntmps77 Try.results77 (by simp) (by kernel_rfl) ?_
      repeat' first
        | (with_reducible refine gw_bool (fun _ => ?_) (fun _ => ?_))
        | (with_reducible refine condw_bool (fun _ => ?_) (fun _ => ?_))
        | simp [*]
      refine lp_go (D := (fun _ => none)) noTab_ok mixed (by kernel_rfl) [0] [] (α := Nat) (fun i e h => i ≤ n ∧ e 3 = .int .i64 i ∧ Hid ((List.range i).all (gdN s) = true)) (fun i => n - i) 0 ?_ ?_
      · exact ⟨by omega, rfl, show _ = _ by simp⟩
      · rintro i e h hk hkh ⟨hi, g7, hinv⟩
        simp [Keep] at hk
        simp [KeepH] at hkh
        by_cases hlt : i < n
        · have hx := ba_at (s := s) (i := i) (by omega)
          obtain ⟨c, hc⟩ : ∃ c, s[i]'(by omega) = c := ⟨_, rfl⟩
          rw [hc] at hx
          obtain ⟨z, hz⟩ : ∃ z : Int, (c.toNat : Int) = z := ⟨_, rfl⟩
          have f1 : ilt (i : Int) (n : Int) = true := ilt_t (by omega)
          have w1 : IntKind.i64.wrap ((i : Int) + 1) = ((i + 1 : Nat) : Int) := wrap_succ (by omega)
          have hg : gdN s i = !badC i z := by simp [gdN, chN, hx, hz]
          have hnext : (List.range (i + 1)).all (gdN s) = gdN s i := by
            rw [List.range_succ, List.all_append, hinv.out]; simp
          have hbu : badC i z = (!letF z && (ieq i 0 || !othF z)) := rfl
          cases hb : badC i z
          · have hq : Hid ((List.range (i + 1)).all (gdN s) = true) := by rw [hg, hb] at hnext; exact hnext
            rw [hb] at hbu
            clear hinv hnext hg hb
            unfold letF othF at hbu
            replace hbu : Hid (false = (!((!ilt z 65 && !ilt 90 z) || (!ilt z 97 && !ilt 122 z)) && (ieq (i : Int) 0 || !((!ilt z 48 && !ilt 57 z) || ieq z 95)))) := hbu
            repeat' first
              | (with_reducible refine gw_bool (fun _ => ?_) (fun _ => ?_))
              | (with_reducible refine condw_bool (fun _ => ?_) (fun _ => ?_))
              | simp [*]
            all_goals first
              | (exfalso; have hbu := hbu.out; simp [*] at hbu; done)
              | skip
            all_goals refine nxt_go (i + 1) (View.refl _ _) (by omega) (by simp [*, Keep, St.forget, scr, scrC]) (by simp [*, KeepH, St.forget, scr, scrC]) ?_
            all_goals (refine ⟨by omega, ?_, hq⟩; simp [*])
          · have hall : (List.range n).all (gdN s) = false := by
              rw [Bool.eq_false_iff]
              intro hc
              have := List.all_eq_true.1 hc i (by simpa using hlt)
              rw [hg, hb] at this; cases this
            rw [hb] at hbu
            clear hinv hnext hg hb
            unfold letF othF at hbu
            replace hbu : Hid (true = (!((!ilt z 65 && !ilt 90 z) || (!ilt z 97 && !ilt 122 z)) && (ieq (i : Int) 0 || !((!ilt z 48 && !ilt 57 z) || ieq z 95)))) := hbu
            repeat' first
              | (with_reducible refine gw_bool (fun _ => ?_) (fun _ => ?_))
              | (with_reducible refine condw_bool (fun _ => ?_) (fun _ => ?_))
              | simp [*]
            all_goals (exfalso; have hbu := hbu.out; simp [*] at hbu; done)
        · have f1 : ilt (i : Int) (n : Int) = false := ilt_f (by omega)
          have e1 : i = n := by omega
          have hall : (List.range n).all (gdN s) = true := by
            have := hinv.out
            rwa [e1] at this
          clear hinv
          repeat' first
            | (with_reducible refine gw_bool (fun _ => ?_) (fun _ => ?_))
            | (with_reducible refine condw_bool (fun _ => ?_) (fun _ => ?_))
            | simp [*]
    · have hok : nameF s = false := by simp [nameF, hn, b0, b2]
      refine pcall_cx noTab_ok mixed (fun _ => none) Try.func77 rfl Try.ntmps77 Try.results77 (by simp) (by kernel_rfl) ?_
      repeat' first
        | (with_reducible refine gw_bool (fun _ => ?_) (fun _ => ?_))
        | (with_reducible refine condw_bool (fun _ => ?_) (fun _ => ?_))
        | simp [*]
  · have b0 : ieq (n : Int) 0 = true := ieq_t (by have := ilt_iff.1 b1; omega)
    have hok : nameF s = false := by simp [nameF, hn, b0]
    refine pcall_cx noTab_ok mixed (fun _ => none) Try.func77 rfl Try.ntmps77 Try.results77 (by simp) (by kernel_rfl) ?_
    repeat' first
      | (with_reducible refine gw_bool (fun _ => ?_) (fun _ => ?_))
      | (with_reducible refine condw_bool (fun _ => ?_) (fun _ => ?_))
      | simp [*]
def idxA : List ByteArray → ByteArray → Nat → Int
  | [], _, _ => -1
  | b :: L, s, i => if (s == b) = true then (i : Int) else idxA L s (i + 1)
theorem idx_neg (s : ByteArray) : ∀ (L : List ByteArray) (i : Nat), ilt (idxA L s i) 0 = !dupF L s
  | [], i => rfl
  | b :: L, i => by
    simp only [idxA, dupF, List.any_cons]
    cases h : s == b
    · rw [if_neg (by simp)]; simp only [Bool.false_or]; exact idx_neg s L (i + 1)
    · rw [if_pos rfl]; simp only [Bool.true_or, Bool.not_true]; exact ilt_f (by omega)
theorem rindex_ok (L : List ByteArray) (s : ByteArray) (hl : L.length ≤ 1000) : PCall Try.prog 93 [.list 1 (L.map s1), .str s] (.int .i64 (idxA L s 0)) := by
  obtain ⟨n, hn⟩ : ∃ n, L.length = n := ⟨_, rfl⟩
  rw [hn] at hl
  obtain ⟨R, hR⟩ : ∃ R, idxA L s 0 = R := ⟨_, rfl⟩
  rw [hR]
  replace hR : Hid (idxA (L.drop 0) s 0 = R) := hR
  refine pcall_cx noTab_ok mixed (fun _ => none) Try.func93 rfl Try.ntmps93 Try.results93 (by simp) (by kernel_rfl) ?_
  repeat' first
    | (with_reducible refine gw_bool (fun _ => ?_) (fun _ => ?_))
    | (with_reducible refine condw_bool (fun _ => ?_) (fun _ => ?_))
    | simp [*]
  refine lp_go (D := (fun _ => none)) noTab_ok mixed (by kernel_rfl) [0, 1] [] (α := Nat) (fun i e h => i ≤ n ∧ e 5 = .int .i64 i ∧ Hid (idxA (L.drop i) s i = R)) (fun i => n - i) 0 ?_ ?_
  · exact ⟨by omega, rfl, hR⟩
  · rintro i e h hk hkh ⟨hi, g7, hinv⟩
    simp [Keep] at hk
    simp [KeepH] at hkh
    clear hR
    by_cases hlt : i < n
    · obtain ⟨b, hb, hb'⟩ := at_ex (l := L) (i := i) (by omega)
      have f1 : ilt (i : Int) (n : Int) = true := ilt_t (by omega)
      have w1 : IntKind.i64.wrap ((i : Int) + 1) = ((i + 1 : Nat) : Int) := wrap_succ (by omega)
      have hd : L.drop i = b :: L.drop (i + 1) := by
        obtain ⟨hh, he⟩ := get_of hb
        rw [List.drop_eq_getElem_cons hh, he]
      have hin := hinv.out
      rw [hd] at hin
      simp only [idxA] at hin
      clear hinv hd
      have heq : (b.toList == s.toList) = (s == b) := by rw [← Go.beq_toListBytes, Bool.eq_iff_iff, ba_eq, ba_eq]; exact eq_comm
      cases hq : s == b
      · rw [hq, if_neg (by simp)] at hin
        rw [hq] at heq
        replace hin : Hid (idxA (L.drop (i + 1)) s (i + 1) = R) := hin
        clear hq
        repeat' first
          | (with_reducible refine gw_bool (fun _ => ?_) (fun _ => ?_))
          | (with_reducible refine condw_bool (fun _ => ?_) (fun _ => ?_))
          | simp [*, s1, binS]
        refine nxt_go (i + 1) (View.refl _ _) (by omega) (by simp [*, Keep, St.forget, scr, scrC]) (by simp [*, KeepH, St.forget, scr, scrC]) ?_
        refine ⟨by omega, by simp [*], hin⟩
      · rw [hq, if_pos rfl] at hin
        rw [hq] at heq
        clear hq
        subst hin
        repeat' first
          | (with_reducible refine gw_bool (fun _ => ?_) (fun _ => ?_))
          | (with_reducible refine condw_bool (fun _ => ?_) (fun _ => ?_))
          | simp [*, s1, binS]
    · have f1 : ilt (i : Int) (n : Int) = false := ilt_f (by omega)
      have hin := hinv.out
      rw [List.drop_eq_nil_of_le (by omega)] at hin
      simp only [idxA] at hin
      clear hinv
      subst hin
      repeat' first
        | (with_reducible refine gw_bool (fun _ => ?_) (fun _ => ?_))
        | (with_reducible refine condw_bool (fun _ => ?_) (fun _ => ?_))
        | simp [*]
def Tidx : List V → Option V
  | [.list 1 x, .str s] => (match decL unS1 x with
    | some L => if L.length ≤ 1000 then some (.int .i64 (idxA L s 0)) else none
    | none => none)
  | _ => none
theorem Tidx_at {L : List ByteArray} {s : ByteArray} (h : L.length ≤ 1000) : Tidx [.list 1 (L.map s1), .str s] = some (.int .i64 (idxA L s 0)) := by simp [Tidx, decL_map unS1_cs, h]
theorem idx_tab : ∀ vs v, Tidx vs = some v → PCall Try.prog 93 vs v := by
  intro vs v h; unfold Tidx at h; split at h
  · split at h
    · rename_i h1
      split at h
      · rename_i hl; cases h; rw [decL_inv unS1_inv _ _ h1]; exact rindex_ok _ _ hl
      · cases h
    · cases h
  · cases h
def E1 : Tab := add 77 Tname (add 93 Tidx (D5))
theorem E1_at (f : FuncId) (vs : List V) : E1.at' f vs = if f = 77 then Tname vs else if f = 93 then Tidx vs else D5.at' f vs := rfl
theorem E1_fr (f : FuncId) : E1.fr f = if f = 77 then false else if f = 93 then false else D5.fr f := rfl
theorem E1_gb (f : FuncId) : E1.gb f = D5.gb f := rfl
theorem E1_gv (f : FuncId) (vs : List V) : E1.gv f vs = D5.gv f vs := rfl
attribute [simp] E1_at E1_fr E1_gb E1_gv Tidx Tname
theorem E1_ok : TabOK Try.prog E1 := by
  refine add_ok (add_ok (D5_ok) (by kernel_rfl) ?_) (by kernel_rfl) ?_
  · exact idx_tab
  · intro vs v h; unfold Tname at h; split at h
    · cases h; apply rname_ok
    · cases h
attribute [-simp] Tidx
attribute [simp] Tidx_at
theorem rnamed_ok (L : List ByteArray) (s : ByteArray) (hl : L.length ≤ 1000) : PCall Try.prog 78 [.list 1 (L.map s1), .str s] (.int .i64 (nmE s (dupF L s))) := by
  have hi := idx_neg s L 0
  obtain ⟨x, hx⟩ : ∃ x, idxA L s 0 = x := ⟨_, rfl⟩
  rw [hx] at hi
  cases h1 : nameF s <;> cases h2 : dupF L s
  all_goals rw [h2] at hi
  all_goals simp only [Bool.not_true, Bool.not_false] at hi
  all_goals
    refine pcall_cx E1_ok mixed (fun _ => none) Try.func78 rfl Try.ntmps78 Try.results78 (by simp) (by kernel_rfl) ?_
  all_goals
    repeat' first
      | (with_reducible refine gw_bool (fun _ => ?_) (fun _ => ?_))
      | (with_reducible refine condw_bool (fun _ => ?_) (fun _ => ?_))
      | simp [*, nmE]
/-! ### ranges -/
theorem rbetween_ok (n lo hi : Int) : PCall Try.prog 94 [.int .i64 n, .int .i64 lo, .int .i64 hi] (.bool (withinF n lo hi)) := by
  refine pcall_cx noTab_ok mixed (fun _ => none) Try.func94 rfl Try.ntmps94 Try.results94 (by simp) (by kernel_rfl) ?_
  repeat' first
    | (with_reducible refine gw_bool (fun _ => ?_) (fun _ => ?_))
    | (with_reducible refine condw_bool (fun _ => ?_) (fun _ => ?_))
    | simp [*, withinF]
def E2 : Tab := add 94 Twithin (E1)
theorem E2_at (f : FuncId) (vs : List V) : E2.at' f vs = if f = 94 then Twithin vs else E1.at' f vs := rfl
theorem E2_fr (f : FuncId) : E2.fr f = if f = 94 then false else E1.fr f := rfl
theorem E2_gb (f : FuncId) : E2.gb f = E1.gb f := rfl
theorem E2_gv (f : FuncId) (vs : List V) : E2.gv f vs = E1.gv f vs := rfl
attribute [simp] E2_at E2_fr E2_gb E2_gv Twithin
theorem E2_ok : TabOK Try.prog E2 := by
  refine add_ok (E1_ok) (by kernel_rfl) ?_
  · intro vs v h; unfold Twithin at h; split at h
    · cases h; apply rbetween_ok
    · cases h
theorem rohms_ok (r x : Int) : PCall Try.prog 80 [.agg [.int .i64 r, .int .i64 x]] (.bool (impF r x)) := by
  refine pcall_cx E2_ok mixed (fun _ => none) Try.func80 rfl Try.ntmps80 Try.results80 (by simp) (by kernel_rfl) ?_
  repeat' first
    | (with_reducible refine gw_bool (fun _ => ?_) (fun _ => ?_))
    | (with_reducible refine condw_bool (fun _ => ?_) (fun _ => ?_))
    | simp [*, impF]
def E3 : Tab := add 80 Timp (E2)
theorem E3_at (f : FuncId) (vs : List V) : E3.at' f vs = if f = 80 then Timp vs else E2.at' f vs := rfl
theorem E3_fr (f : FuncId) : E3.fr f = if f = 80 then false else E2.fr f := rfl
theorem E3_gb (f : FuncId) : E3.gb f = E2.gb f := rfl
theorem E3_gv (f : FuncId) (vs : List V) : E3.gv f vs = E2.gv f vs := rfl
attribute [simp] E3_at E3_fr E3_gb E3_gv Timp
theorem E3_ok : TabOK Try.prog E3 := by
  refine add_ok (E2_ok) (by kernel_rfl) ?_
  · intro vs v h; unfold Timp at h; split at h
    · cases h; apply rohms_ok
    · cases h
def srcF (l : Sr) : Bool := withinF l.emf 1 1000000 && impF l.r1 l.x1 && impF l.r0 l.x0
theorem rsource_ok (l : Sr) : PCall Try.prog 81 [.agg l.cs] (.bool (srcF l)) := by
  cases h3 : withinF l.emf 1 1000000 <;> cases h1 : impF l.r1 l.x1 <;> cases h2 : impF l.r0 l.x0
  all_goals
    refine pcall_cx E3_ok mixed (fun _ => none) Try.func81 rfl Try.ntmps81 Try.results81 (by simp) (by kernel_rfl) ?_
  all_goals
    repeat' first
      | (with_reducible refine gw_bool (fun _ => ?_) (fun _ => ?_))
      | (with_reducible refine condw_bool (fun _ => ?_) (fun _ => ?_))
      | simp [*, srcF, Sr.cs]
/-! ### all names -/
def nms (s : Stn) (b l g q : Nat) : List ByteArray := s.bs.take b ++ (s.ls.take l).map Ln.nm ++ (s.ss.take g).map Sr.nm ++ (s.qs.take q).map By.nm
def nmsOk (s : Stn) (b l g q : Nat) : Bool := decide (b ≤ s.bs.length) && (decide (l ≤ s.ls.length) && (decide (g ≤ s.ss.length) && (decide (q ≤ s.qs.length) && (decide (s.bs.length ≤ 100) && (decide (s.ls.length ≤ 100) && (decide (s.ss.length ≤ 100) && decide (s.qs.length ≤ 100)))))))
theorem rnames_ok (s : Stn) (b l g q : Nat) (hok : nmsOk s b l g q = true) : PCall Try.prog 79 [.agg s.cs, .int .i64 b, .int .i64 l, .int .i64 g, .int .i64 q] (.list 1 ((nms s b l g q).map s1)) := by
  simp only [nmsOk, Bool.and_eq_true, decide_eq_true_eq] at hok
  obtain ⟨h1, h2, h3, h4, h5, h6, h7, h8⟩ := hok
  obtain ⟨nb, hnb⟩ : ∃ n, s.bs.length = n := ⟨_, rfl⟩
  obtain ⟨nl, hnl⟩ : ∃ n, s.ls.length = n := ⟨_, rfl⟩
  obtain ⟨ns, hns⟩ : ∃ n, s.ss.length = n := ⟨_, rfl⟩
  obtain ⟨nq, hnq⟩ : ∃ n, s.qs.length = n := ⟨_, rfl⟩
  have hch := chunks_s1 (nms s b l g q)
  have hpu := pure_s1 (nms s b l g q)
  obtain ⟨R, hR⟩ : ∃ R, nms s b l g q = R := ⟨_, rfl⟩
  rw [hR] at hch hpu ⊢
  replace hR : Hid (nms s b l g q = R) := hR
  have hsl : (bif decide (0 = b) then V.list 1 [] else V.list 1 (List.take b (List.map s1 s.bs))) = V.list 1 ((s.bs.take b).map s1) := by
    by_cases h0 : 0 = b
    · subst h0; simp
    · simp [h0, List.map_take]
  have hN0 : s.bs.take b = nms s b 0 0 0 := by simp [nms]
  rw [hN0] at hsl
  have hfl := flat_s1 (nms s b 0 0 0)
  have hon : ((nms s b 0 0 0).map V.str).all oneV = true := by simp [oneV]
  have hB : (nms s b 0 0 0).length = b := by simp [nms]; omega
  have hbl : b ≤ nb := by omega
  have hlen : ∀ b l g q, nmsOk s b l g q = true → (nms s b l g q).length ≤ 400 := fun b l g q hh => by
    simp only [nmsOk, Bool.and_eq_true, decide_eq_true_eq] at hh
    simp only [nms, List.length_append, List.length_map, List.length_take]; omega
  have hl1 : ∀ i, i ≤ l → (nms s b i 0 0).length ≤ 400 := fun i hi => hlen _ _ _ _ (by simp only [nmsOk, Bool.and_eq_true, decide_eq_true_eq]; omega)
  have hl2 : ∀ i, i ≤ g → (nms s b l i 0).length ≤ 400 := fun i hi => hlen _ _ _ _ (by simp only [nmsOk, Bool.and_eq_true, decide_eq_true_eq]; omega)
  have hl3 : ∀ i, i ≤ q → (nms s b l g i).length ≤ 400 := fun i hi => hlen _ _ _ _ (by simp only [nmsOk, Bool.and_eq_true, decide_eq_true_eq]; omega)
  replace hl1 : Hid (∀ i, i ≤ l → (nms s b i 0 0).length ≤ 400) := hl1
  replace hl2 : Hid (∀ i, i ≤ g → (nms s b l i 0).length ≤ 400) := hl2
  replace hl3 : Hid (∀ i, i ≤ q → (nms s b l g i).length ≤ 400) := hl3
  have f5 : b * 16 ≤ 140737488355328 := by omega
  have f6 : b ≤ 9223372036854775807 := by omega
  clear hlen
  rw [hnl] at h2
  rw [hns] at h3
  rw [hnq] at h4
  clear hN0
  generalize hN : nms s b 0 0 0 = N0 at hsl hfl hon hB
  replace hN : Hid (nms s b 0 0 0 = N0) := hN
  refine pcall_cx E3_ok mixed (fun _ => none) Try.func79 rfl Try.ntmps79 Try.results79 (by simp) (by kernel_rfl) ?_
  repeat' first
    | (with_reducible refine gw_bool (fun _ => ?_) (fun _ => ?_))
    | (with_reducible refine condw_bool (fun _ => ?_) (fun _ => ?_))
    | simp [*, Stn.cs, appendV, srcCells, St.forget, scr, scrC]
  refine lp_go (D := (fun _ => none)) E3_ok mixed (by kernel_rfl) [2, 3, 4, 5] [5, 20, 33, 34, 47, 48, 61, 62] (α := Nat) (fun i e h => i ≤ l ∧ e 12 = .int .i64 i ∧ e 11 = .sl 15 0 (nms s b i 0 0).length 1 ∧ h 15 = some ⟨9, (nms s b i 0 0).map V.str⟩) (fun i => l - i) 0 ?_ ?_
  · refine ⟨by omega, by simp, ?_, ?_⟩
    · rw [hN.out]; simp [hB]
    · rw [hN.out]; simp
  clear hN hsl hfl hon hB f5 f6
  rintro i e h hk hkh ⟨hi, g7, gs, gh⟩
  simp [Keep] at hk
  simp [KeepH] at hkh
  by_cases hlt : i < l
  · obtain ⟨x, hx, hx'⟩ := at_ex (l := s.ls) (i := i) (by omega)
    have f1 : ilt (i : Int) (l : Int) = true := ilt_t (by omega)
    have w1 : IntKind.i64.wrap ((i : Int) + 1) = ((i + 1 : Nat) : Int) := wrap_succ (by omega)
    have hst : Hid (nms s b (i + 1) 0 0 = nms s b i 0 0 ++ [x.nm]) := show _ = _ by simp [nms, take_snoc hx]
    have hcl := hl1.out i hi
    generalize nms s b i 0 0 = C at gs gh hst hcl
    have g5 : (C.length + 1) * 16 ≤ 140737488355328 := by omega
    have g6 : C.length + 1 ≤ 9223372036854775807 := by omega
    clear hR hch hpu
    repeat' first
      | (with_reducible refine gw_bool (fun _ => ?_) (fun _ => ?_))
      | (with_reducible refine condw_bool (fun _ => ?_) (fun _ => ?_))
      | simp [*, Ln.cs, appendV, srcCells, St.forget, scr, scrC]
    refine nxt_go (i + 1) ((View.forget _ _ 33)) (by omega) (by simp [*, Keep, St.forget, scr, scrC]) (by simp [*, KeepH, St.forget, scr, scrC]) ?_
    refine ⟨by omega, by simp [*, St.forget, scr, scrC], ?_, ?_⟩
    · rw [hst.out]; simp [*, St.forget, scr, scrC]
    · rw [hst.out]; simp [*, St.forget, scr, scrC]
  have f1 : ilt (i : Int) (l : Int) = false := ilt_f (by omega)
  have e1 : i = l := by omega
  subst e1
  clear hlt hi
  repeat' first
    | (with_reducible refine gw_bool (fun _ => ?_) (fun _ => ?_))
    | (with_reducible refine condw_bool (fun _ => ?_) (fun _ => ?_))
    | simp [*]
  refine lp_go (D := (fun _ => none)) E3_ok mixed (by kernel_rfl) [3, 4, 5] [5, 20, 33, 34, 47, 48, 61, 62] (α := Nat) (fun j e h => j ≤ g ∧ e 13 = .int .i64 j ∧ e 11 = .sl 15 0 (nms s b i j 0).length 1 ∧ h 15 = some ⟨9, (nms s b i j 0).map V.str⟩) (fun j => g - j) 0 ?_ ?_
  · refine ⟨by omega, by simp, by simp [*], by simp [*]⟩
  have hk0 := hk
  have hkh0 := hkh
  clear hk hkh g7 gs gh
  rintro j e h hk hkh ⟨hj, g7, gs, gh⟩
  simp [Keep, hk0, hkh0] at hk
  simp [KeepH, hk0, hkh0] at hkh
  by_cases hlt : j < g
  · obtain ⟨x, hx, hx'⟩ := at_ex (l := s.ss) (i := j) (by omega)
    have f1 : ilt (j : Int) (g : Int) = true := ilt_t (by omega)
    have w1 : IntKind.i64.wrap ((j : Int) + 1) = ((j + 1 : Nat) : Int) := wrap_succ (by omega)
    have hst : Hid (nms s b i (j + 1) 0 = nms s b i j 0 ++ [x.nm]) := show _ = _ by simp [nms, take_snoc hx]
    have hcl := hl2.out j hj
    generalize nms s b i j 0 = C at gs gh hst hcl
    have g5 : (C.length + 1) * 16 ≤ 140737488355328 := by omega
    have g6 : C.length + 1 ≤ 9223372036854775807 := by omega
    clear hR hch hpu
    repeat' first
      | (with_reducible refine gw_bool (fun _ => ?_) (fun _ => ?_))
      | (with_reducible refine condw_bool (fun _ => ?_) (fun _ => ?_))
      | simp [*, Sr.cs, appendV, srcCells, St.forget, scr, scrC]
    refine nxt_go (j + 1) ((View.forget _ _ 47)) (by omega) (by simp [*, Keep, St.forget, scr, scrC]) (by simp [*, KeepH, St.forget, scr, scrC]) ?_
    refine ⟨by omega, by simp [*, St.forget, scr, scrC], ?_, ?_⟩
    · rw [hst.out]; simp [*, St.forget, scr, scrC]
    · rw [hst.out]; simp [*, St.forget, scr, scrC]
  have f2 : ilt (j : Int) (g : Int) = false := ilt_f (by omega)
  have e2 : j = g := by omega
  subst e2
  clear hlt hj
  repeat' first
    | (with_reducible refine gw_bool (fun _ => ?_) (fun _ => ?_))
    | (with_reducible refine condw_bool (fun _ => ?_) (fun _ => ?_))
    | simp [*]
  refine lp_go (D := (fun _ => none)) E3_ok mixed (by kernel_rfl) [4, 5] [5, 20, 33, 34, 47, 48, 61, 62] (α := Nat) (fun k e h => k ≤ q ∧ e 14 = .int .i64 k ∧ e 11 = .sl 15 0 (nms s b i j k).length 1 ∧ h 15 = some ⟨9, (nms s b i j k).map V.str⟩) (fun k => q - k) 0 ?_ ?_
  · refine ⟨by omega, by simp, by simp [*], by simp [*]⟩
  have hk1 := hk
  have hkh1 := hkh
  clear hk hkh g7 gs gh hk0 hkh0
  rintro k e h hk hkh ⟨hk2, g7, gs, gh⟩
  simp [Keep, hk1, hkh1] at hk
  simp [KeepH, hk1, hkh1] at hkh
  by_cases hlt : k < q
  · obtain ⟨x, hx, hx'⟩ := at_ex (l := s.qs) (i := k) (by omega)
    have f1 : ilt (k : Int) (q : Int) = true := ilt_t (by omega)
    have w1 : IntKind.i64.wrap ((k : Int) + 1) = ((k + 1 : Nat) : Int) := wrap_succ (by omega)
    have hst : Hid (nms s b i j (k + 1) = nms s b i j k ++ [x.nm]) := show _ = _ by simp [nms, take_snoc hx]
    have hcl := hl3.out k hk2
    generalize nms s b i j k = C at gs gh hst hcl
    have g5 : (C.length + 1) * 16 ≤ 140737488355328 := by omega
    have g6 : C.length + 1 ≤ 9223372036854775807 := by omega
    clear hR hch hpu
    repeat' first
      | (with_reducible refine gw_bool (fun _ => ?_) (fun _ => ?_))
      | (with_reducible refine condw_bool (fun _ => ?_) (fun _ => ?_))
      | simp [*, By.cs, appendV, srcCells, St.forget, scr, scrC]
    refine nxt_go (k + 1) ((View.forget _ _ 61)) (by omega) (by simp [*, Keep, St.forget, scr, scrC]) (by simp [*, KeepH, St.forget, scr, scrC]) ?_
    refine ⟨by omega, by simp [*, St.forget, scr, scrC], ?_, ?_⟩
    · rw [hst.out]; simp [*, St.forget, scr, scrC]
    · rw [hst.out]; simp [*, St.forget, scr, scrC]
  have f3 : ilt (k : Int) (q : Int) = false := ilt_f (by omega)
  have e3 : k = q := by omega
  subst e3
  rw [hR.out] at gs gh
  clear hR hlt hk2
  repeat' first
    | (with_reducible refine gw_bool (fun _ => ?_) (fun _ => ?_))
    | (with_reducible refine condw_bool (fun _ => ?_) (fun _ => ?_))
    | simp [*]
def Tnms : List V → Option V
  | [.agg a, .int .i64 b, .int .i64 l, .int .i64 g, .int .i64 q] => (match unStn a with
    | some s => if 0 ≤ b ∧ 0 ≤ l ∧ 0 ≤ g ∧ 0 ≤ q ∧ nmsOk s b.toNat l.toNat g.toNat q.toNat = true then some (.list 1 ((nms s b.toNat l.toNat g.toNat q.toNat).map s1)) else none
    | none => none)
  | _ => none
theorem Tnms_at {s : Stn} {b l g q : Nat} (h : nmsOk s b l g q = true) : Tnms [.agg [.str s.nm, .list 1 (s.bs.map s1), .list 5 (s.ls.map Ln.cs), .list 6 (s.ss.map Sr.cs), .list 12 (s.qs.map By.cs)], .int .i64 b, .int .i64 l, .int .i64 g, .int .i64 q] = some (.list 1 ((nms s b l g q).map s1)) := by
  have e1 := unStn_cs s
  unfold Stn.cs at e1
  simp only [Tnms, e1]
  exact if_pos ⟨by omega, by omega, by omega, by omega, h⟩
theorem nms_tab : ∀ vs v, Tnms vs = some v → PCall Try.prog 79 vs v := by
  intro vs v h; unfold Tnms at h; split at h
  · split at h
    · rename_i h1
      split at h
      · rename_i hl; cases h; rw [unStn_inv _ _ h1]
        obtain ⟨p1, p2, p3, p4, p5⟩ := hl
        have := rnames_ok _ _ _ _ _ p5
        rwa [Int.toNat_of_nonneg p1, Int.toNat_of_nonneg p2, Int.toNat_of_nonneg p3, Int.toNat_of_nonneg p4] at this
      · cases h
    · cases h
  · cases h
def Tnmd : List V → Option V
  | [.list 1 x, .str s] => (match decL unS1 x with
    | some L => if L.length ≤ 1000 then some (.int .i64 (nmE s (dupF L s))) else none
    | none => none)
  | _ => none
theorem Tnmd_at {L : List ByteArray} {s : ByteArray} (h : L.length ≤ 1000) : Tnmd [.list 1 (L.map s1), .str s] = some (.int .i64 (nmE s (dupF L s))) := by simp [Tnmd, decL_map unS1_cs, h]
theorem nmd_tab : ∀ vs v, Tnmd vs = some v → PCall Try.prog 78 vs v := by
  intro vs v h; unfold Tnmd at h; split at h
  · split at h
    · rename_i h1
      split at h
      · rename_i hl; cases h; rw [decL_inv unS1_inv _ _ h1]; exact rnamed_ok _ _ hl
      · cases h
    · cases h
  · cases h
def Tsrc : List V → Option V
  | [.agg a] => (unSr a).map fun l => .bool (srcF l)
  | _ => none
theorem src_tab : ∀ vs v, Tsrc vs = some v → PCall Try.prog 81 vs v := by
  intro vs v h; unfold Tsrc at h; split at h
  · simp only [Option.map_eq_some_iff] at h
    obtain ⟨b, hb, rfl⟩ := h
    rw [unSr_inv _ _ hb]
    exact rsource_ok _
  · cases h
def E4 : Tab := add 79 Tnms (add 78 Tnmd (add 81 Tsrc (E3)))
theorem E4_at (f : FuncId) (vs : List V) : E4.at' f vs = if f = 79 then Tnms vs else if f = 78 then Tnmd vs else if f = 81 then Tsrc vs else E3.at' f vs := rfl
theorem E4_fr (f : FuncId) : E4.fr f = if f = 79 then false else if f = 78 then false else if f = 81 then false else E3.fr f := rfl
theorem E4_gb (f : FuncId) : E4.gb f = E3.gb f := rfl
theorem E4_gv (f : FuncId) (vs : List V) : E4.gv f vs = E3.gv f vs := rfl
attribute [simp] E4_at E4_fr E4_gb E4_gv Tnmd Tnms Tsrc
theorem E4_ok : TabOK Try.prog E4 := by
  refine add_ok (add_ok (add_ok (E3_ok) (by kernel_rfl) ?_) (by kernel_rfl) ?_) (by kernel_rfl) ?_
  · exact src_tab
  · exact nmd_tab
  · exact nms_tab
attribute [-simp] Tnms Tnmd
attribute [simp] Tnms_at Tnmd_at
end Go.Proofs.Ytcbddoopmkhlfaa
