/-
  RecloserClosings: the contract of Closings, and the walk.
-/
import Derived.Test.YtjecnmamoidijaaLoops
namespace Go.Proofs.Ytjecnmamoidijaa
open Go.Pv Go.RowKit
set_option linter.unusedSimpArgs false
set_option linter.unusedVariables false
set_option maxRecDepth 100000
set_option maxHeartbeats 4000000

def ip0 : Ip := ⟨false, false, false, false⟩
def cnt (s d r : Int) (l : List Ip) : Nat → Rc × Int
  | 0 => (rc0, 0)
  | k + 1 => ((stR s d r (cnt s d r l k).1 (l.getD k ip0)).1, (cnt s d r l k).2 + if (stR s d r (cnt s d r l k).1 (l.getD k ip0)).2 then 1 else 0)
theorem cnt_le (s d r : Int) (l : List Ip) : ∀ k : Nat, 0 ≤ (cnt s d r l k).2 ∧ (cnt s d r l k).2 ≤ k
  | 0 => by simp [cnt]
  | k + 1 => by have := cnt_le s d r l k; simp only [cnt]; split <;> omega
theorem cnt_next {s d r : Int} {l : List Ip} {k : Nat} {x y : Rc} {i : Ip} {n : Int} {c : Bool} (h : cnt s d r l k = (x, n)) (hi : l[k]? = some i) (hy : stR s d r x i = (y, c)) : cnt s d r l (k + 1) = (y, n + if c then 1 else 0) := by
  simp only [cnt, h, List.getD_eq_getElem?_getD, hi, Option.getD_some, hy]
theorem closings_ok (s d r : Int) (l : List Ip) (hl : l.length ≤ 1000) : PCall Try.prog 16 [.int .i64 s, .int .i64 d, .int .i64 r, .list 4 (l.map Ip.cs)] (.int .i64 (cnt s d r l l.length).2) := by
  obtain ⟨n, hn⟩ : ∃ n, l.length = n := ⟨_, rfl⟩
  rw [hn] at hl
  refine pcall_cx G5_ok mixed (fun _ => none) Try.func16 rfl Try.ntmps16 Try.results16 (by simp) (by kernel_rfl) ?_
  repeat' first
    | (refine gw_bool (fun _ => ?_) (fun _ => ?_))
    | (refine condw_bool (fun _ => ?_) (fun _ => ?_))
    | simp [*]
  refine lp_go (D := (fun _ => none)) G5_ok mixed (by kernel_rfl) [0, 1, 2, 9, 15, 16] [12, 13] (α := Nat × Rc × Int) (fun x e h => x.1 ≤ n ∧ e 17 = .int .i64 x.1 ∧ e 10 = .int .i64 x.2.2 ∧ h 9 = some ⟨25, [.int .i64 x.2.1.p, .int .i64 x.2.1.s, .int .i64 x.2.1.n]⟩ ∧ Hid (cnt s d r l x.1 = x.2)) (fun x => n - x.1) (0, rc0, 0) ?_ ?_
  · exact ⟨by simp, rfl, rfl, rfl, show _ = _ from rfl⟩
  · rintro ⟨i, ⟨p, q, m⟩, k⟩ e h hk hkh ⟨hi, g17, g10, q9, hinv⟩
    simp [Keep] at hk
    simp [KeepH] at hkh
    simp only at hi g17 g10 q9 hinv
    by_cases hlt : i < n
    · obtain ⟨⟨x1, x2, x3, x4⟩, hx, hx'⟩ := has_len hn hlt
      have f1 : ilt (i : Int) (n : Int) = true := ilt_t (by omega)
      have w1 : IntKind.i64.wrap ((i : Int) + 1) = ((i + 1 : Nat) : Int) := wrap_succ (by omega)
      obtain ⟨y, hr⟩ : ∃ y, stR s d r ⟨p, q, m⟩ ⟨x1, x2, x3, x4⟩ = y := ⟨_, rfl⟩
      obtain ⟨⟨p', q', m'⟩, c'⟩ := y
      have hle := cnt_le s d r l i
      rw [hinv.out] at hle
      simp only at hle
      have w2 : IntKind.i64.wrap (k + 1) = k + 1 := wrap_id (by omega) (by omega)
      have hz : Hid (cnt s d r l (i + 1) = (⟨p', q', m'⟩, k + if c' then 1 else 0)) := cnt_next hinv.out hx hr
      clear hle hinv
      cases c'
      · simp only [Bool.false_eq_true, if_false, Int.add_zero] at hz
        repeat' first
          | (refine gw_bool (fun _ => ?_) (fun _ => ?_))
          | (refine condw_bool (fun _ => ?_) (fun _ => ?_))
          | simp [*, vb, Rc.v, Ip.cs]
        refine nxt_go (i + 1, ⟨p', q', m'⟩, k) ((View.forget _ _ 12).trans ((View.forget _ _ 13))) (by simp only; omega) (by simp [*, Keep, St.forget, scr, scrC]) (by simp [*, KeepH, St.forget, scr, scrC]) ?_
        refine ⟨by simp only; omega, ?_, ?_, ?_, hz⟩
        all_goals simp [*, St.forget, scr, scrC]
      · simp only [if_true] at hz
        repeat' first
          | (refine gw_bool (fun _ => ?_) (fun _ => ?_))
          | (refine condw_bool (fun _ => ?_) (fun _ => ?_))
          | simp [*, vb, Rc.v, Ip.cs]
        refine nxt_go (i + 1, ⟨p', q', m'⟩, k + 1) ((View.forget _ _ 12).trans ((View.forget _ _ 13))) (by simp only; omega) (by simp [*, Keep, St.forget, scr, scrC]) (by simp [*, KeepH, St.forget, scr, scrC]) ?_
        refine ⟨by simp only; omega, ?_, ?_, ?_, hz⟩
        all_goals simp [*, St.forget, scr, scrC]
    · have f1 : ilt (i : Int) (n : Int) = false := ilt_f (by omega)
      have e1 : i = n := by omega
      have hz : (cnt s d r l n).2 = k := by rw [← e1, hinv.out]
      clear hinv
      repeat' first
        | (refine gw_bool (fun _ => ?_) (fun _ => ?_))
        | (refine condw_bool (fun _ => ?_) (fun _ => ?_))
        | simp [*]
def unIp : List V → Option Ip
  | [.bool a, .bool b, .bool c, .bool d] => some ⟨a, b, c, d⟩
  | _ => none
theorem unIp_cs (x : Ip) : unIp x.cs = some x := rfl
theorem unIp_inv : ∀ c a, unIp c = some a → c = Ip.cs a := by
  intro c a h; unfold unIp at h; split at h
  · cases h; rfl
  · cases h
def Tclos : List V → Option V
  | [.int .i64 s, .int .i64 d, .int .i64 r, .list 4 xs] => (match decL unIp xs with
    | some a => bif decide (a.length ≤ 1000) then some (.int .i64 (cnt s d r a a.length).2) else none
    | _ => none)
  | _ => none
theorem clos_tab : ∀ vs v, Tclos vs = some v → PCall Try.prog 16 vs v := by
  intro vs v h
  unfold Tclos at h
  split at h
  · split at h
    · rename_i a h1
      rw [decL_inv unIp_inv _ _ h1]
      simp only [cond_eq_ite, decide_eq_true_eq] at h
      split at h
      · rename_i hc
        cases h; exact closings_ok _ _ _ _ hc
      · cases h
    · cases h
  · cases h
def G6 : Tab := add 16 Tclos (G5)
theorem G6_at (f : FuncId) (vs : List V) : G6.at' f vs = if f = 16 then Tclos vs else G5.at' f vs := rfl
theorem G6_fr (f : FuncId) : G6.fr f = if f = 16 then false else G5.fr f := rfl
attribute [simp] G6_at G6_fr Tclos
theorem G6_ok : TabOK Try.prog G6 := by
  refine add_ok (G5_ok) (by kernel_rfl) ?_
  · exact clos_tab
theorem dec_ip (l : List Ip) : decL unIp (l.map Ip.cs) = some l := decL_map unIp_cs _
theorem closlaw_ok (s d r : Int) (l : List Ip) (hl : l.length ≤ maxLen) : PCall Try.prog 8 [.agg [.int .i64 s, .int .i64 d, .int .i64 r], .list 4 (l.map Ip.cs)] (.bool true) := by
  obtain ⟨n, hn⟩ : ∃ n, l.length = n := ⟨_, rfl⟩
  cases hbig : ilt 200 (n : Int)
  · have hle : n ≤ 200 := by have := ilt_iff'.1 hbig; omega
    have hle2 : n ≤ 1000 := by omega
    refine pcall_cx G6_ok mixed (fun _ => none) Try.func8 rfl Try.ntmps8 Try.results8 (by simp) (by kernel_rfl) ?_
    repeat' first
      | (refine gw_bool (fun _ => ?_) (fun _ => ?_))
      | (refine condw_bool (fun _ => ?_) (fun _ => ?_))
      | simp [*]
    refine lp_go (D := (fun _ => none)) G6_ok mixed (by kernel_rfl) [1, 2, 5, 15, 16] [2, 8] (α := Nat × Rc × Int) (fun x e h => x.1 ≤ n ∧ e 17 = .int .i64 x.1 ∧ e 6 = .int .i64 x.2.2 ∧ h 5 = some ⟨25, [.int .i64 x.2.1.p, .int .i64 x.2.1.s, .int .i64 x.2.1.n]⟩ ∧ Hid (cnt s d r l x.1 = x.2)) (fun x => n - x.1) (0, rc0, 0) ?_ ?_
    · exact ⟨by simp, rfl, rfl, rfl, show _ = _ from rfl⟩
    · rintro ⟨i, ⟨p, q, m⟩, k⟩ e h hk hkh ⟨hi, g17, g6, q5, hinv⟩
      simp [Keep] at hk
      simp [KeepH] at hkh
      simp only at hi g17 g6 q5 hinv
      by_cases hlt : i < n
      · obtain ⟨⟨x1, x2, x3, x4⟩, hx, hx'⟩ := has_len hn hlt
        have f1 : ilt (i : Int) (n : Int) = true := ilt_t (by omega)
        have w1 : IntKind.i64.wrap ((i : Int) + 1) = ((i + 1 : Nat) : Int) := wrap_succ (by omega)
        obtain ⟨y, hr⟩ : ∃ y, stR s d r ⟨p, q, m⟩ ⟨x1, x2, x3, x4⟩ = y := ⟨_, rfl⟩
        obtain ⟨⟨p', q', m'⟩, c'⟩ := y
        have hle := cnt_le s d r l i
        rw [hinv.out] at hle
        simp only at hle
        have w2 : IntKind.i64.wrap (k + 1) = k + 1 := wrap_id (by omega) (by omega)
        have hz : Hid (cnt s d r l (i + 1) = (⟨p', q', m'⟩, k + if c' then 1 else 0)) := cnt_next hinv.out hx hr
        clear hle hinv
        cases c'
        · simp only [Bool.false_eq_true, if_false, Int.add_zero] at hz
          repeat' first
            | (refine gw_bool (fun _ => ?_) (fun _ => ?_))
            | (refine condw_bool (fun _ => ?_) (fun _ => ?_))
            | simp [*, vb, Rc.v, Ip.cs]
          refine nxt_go (i + 1, ⟨p', q', m'⟩, k) ((View.forget _ _ 8)) (by simp only; omega) (by simp [*, Keep, St.forget, scr, scrC]) (by simp [*, KeepH, St.forget, scr, scrC]) ?_
          refine ⟨by simp only; omega, ?_, ?_, ?_, hz⟩
          all_goals simp [*, St.forget, scr, scrC]
        · simp only [if_true] at hz
          repeat' first
            | (refine gw_bool (fun _ => ?_) (fun _ => ?_))
            | (refine condw_bool (fun _ => ?_) (fun _ => ?_))
            | simp [*, vb, Rc.v, Ip.cs]
          refine nxt_go (i + 1, ⟨p', q', m'⟩, k + 1) ((View.forget _ _ 8)) (by simp only; omega) (by simp [*, Keep, St.forget, scr, scrC]) (by simp [*, KeepH, St.forget, scr, scrC]) ?_
          refine ⟨by simp only; omega, ?_, ?_, ?_, hz⟩
          all_goals simp [*, St.forget, scr, scrC]
      · have f1 : ilt (i : Int) (n : Int) = false := ilt_f (by omega)
        have e1 : i = n := by omega
        have hz : (cnt s d r l n).2 = k := by rw [← e1, hinv.out]
        clear hinv
        repeat' first
          | (refine gw_bool (fun _ => ?_) (fun _ => ?_))
          | (refine condw_bool (fun _ => ?_) (fun _ => ?_))
          | simp [*, dec_ip]
  · refine pcall_cx G6_ok mixed (fun _ => none) Try.func8 rfl Try.ntmps8 Try.results8 (by simp) (by kernel_rfl) ?_
    repeat' first
      | (refine gw_bool (fun _ => ?_) (fun _ => ?_))
      | (refine condw_bool (fun _ => ?_) (fun _ => ?_))
      | simp [*]
end Go.Proofs.Ytjecnmamoidijaa
