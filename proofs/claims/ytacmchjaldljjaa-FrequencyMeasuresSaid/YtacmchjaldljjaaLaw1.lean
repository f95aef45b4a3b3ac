/-
  Frequency: series within the range; the laws Within, Crossings.
-/
import Derived.Test.YtacmchjaldljjaaPer3
namespace Go.Proofs.Ytacmchjaldljjaa
open Go.Pv Go.RowKit
set_option linter.unusedSimpArgs false
set_option linter.unusedVariables false
set_option maxRecDepth 100000
set_option maxHeartbeats 4000000

def ilst (f : Nat → Int) (n : Nat) : List Int := (List.range n).map f
def icl (f : Nat → Int) (n : Nat) : List V := ((ilst f n).map il).flatten
theorem ilst_len (f : Nat → Int) (n : Nat) : (ilst f n).length = n := by simp [ilst]
theorem icl_len (f : Nat → Int) (n : Nat) : (icl f n).length = n := by
  rw [icl, flat_len (sz := 1) (fun _ => rfl), ilst_len]; omega
theorem icl_pure (f : Nat → Int) (n : Nat) : (icl f n).any ownC = false := flat_pure (fun _ => rfl) _
theorem icl_chunks (f : Nat → Int) (n : Nat) : chunks 1 n (icl f n) = (ilst f n).map il := by
  have := flat_chunks (enc := il) (sz := 1) (fun _ => rfl) (ilst f n)
  rwa [ilst_len] at this
theorem ilst_succ (f : Nat → Int) (n : Nat) : ilst f (n + 1) = ilst f n ++ [f n] := by simp [ilst, List.range_succ]
theorem icl_succ (f : Nat → Int) (n : Nat) : icl f (n + 1) = icl f n ++ [.int .i64 (f n)] := by
  rw [icl, ilst_succ, ← flat_snoc]; rfl
theorem icl_scr (f : Nat → Int) (n key : Nat) : (icl f n).map (scrC key) = icl f n := scrC_cells (icl_pure f n)
theorem icl_zero (f : Nat → Int) : icl f 0 = [] := rfl
theorem icl_set (f : Nat → Int) (n i : Nat) (x : Int) (h : i < n) : setsV (icl f n) i [.int .i64 x] = icl (fun j => if j = i then x else f j) n := by
  have := flat_set (enc := il) (sz := 1) (fun _ => rfl) (ilst f n) i x (by rw [ilst_len]; exact h)
  rw [Nat.mul_one] at this
  refine this.trans ?_
  unfold icl
  congr 2
  apply List.ext_getElem (by simp [ilst])
  intro j h1 h2
  simp only [ilst, List.getElem_set, List.getElem_map, List.getElem_range]
  by_cases e : i = j
  · subst e; simp
  · simp [e, show ¬ j = i from fun e' => e e'.symm]
theorem ilst_flat (f : Nat → Int) (n : Nat) : ((ilst f n).map il).all (fun c => c.all flatC) = true := rows_flat (fun _ => rfl) _
theorem ilst_congr {f g : Nat → Int} {n : Nat} (h : ∀ j, j < n → f j = g j) : ilst f n = ilst g n := by
  unfold ilst; exact List.map_congr_left fun j hj => h j (List.mem_range.1 hj)
attribute [simp] icl_len icl_pure icl_chunks icl_scr ilst_len ilst_flat

theorem ilst_getD (f : Nat → Int) {n i : Nat} (h : i < n) : (ilst f n).getD i 0 = f i := by
  refine gD ?_
  simp [ilst, h]
theorem ilst_get (f : Nat → Int) {n i : Nat} (h : i < n) : (ilst f n)[i]? = some (f i) := by simp [ilst, h]
def wsp (x : Int) : Int := x % 32767 - 16383
theorem wsp_b (x : Int) : -16383 ≤ wsp x ∧ wsp x ≤ 16383 := by unfold wsp; omega
theorem wsp_w (x : Int) : IntKind.i64.wrap (x % 32767 - 16383) = wsp x := by have := wsp_b x; exact wrap_id (by unfold wsp at *; omega) (by unfold wsp at *; omega)
def fnF (l : List Int) (i : Nat) : Int := wsp (l.getD i 0)
def fnL (l : List Int) : List Int := ilst (fnF l) (min l.length 240)
theorem okS_ilst {f : Nat → Int} {n : Nat} (hn : n ≤ 240) (hf : ∀ i, -16383 ≤ f i ∧ f i ≤ 16383) : okS (ilst f n) = true := by
  simp only [okS, Bool.and_eq_true, decide_eq_true_eq, ilst_len]
  refine ⟨hn, ?_⟩
  simp only [ilst, List.all_map, List.all_eq_true]
  intro i _; exact smp_of (hf i).1 (hf i).2
theorem okS_fn (l : List Int) : okS (fnL l) = true := okS_ilst (by omega) fun i => wsp_b _
theorem fine_len (l : List Int) : (fnL l).length ≤ 240 := okS_len (okS_fn l)
theorem Fine_ok (l : List Int) (hl : l.length ≤ maxLen) : PFresh Try.prog 9 [.list 1 (l.map il)] (.list 1 ((fnL l).map il)) := by
  have hmx : maxLen = 9223372036854775807 := by decide
  rw [hmx] at hl
  obtain ⟨N, hN⟩ : ∃ N, l.length = N := ⟨_, rfl⟩
  obtain ⟨M, hM⟩ : ∃ M, min N 240 = M := ⟨_, rfl⟩
  have hfl : fnL l = ilst (fnF l) M := by unfold fnL; rw [hN, hM]
  rw [hfl]
  rw [hN] at hl
  refine pfresh_cx G5_ok mixed (fun _ => none) Try.func9 rfl Try.ntmps9 Try.results9 (by simp) (by kernel_rfl) ?_
  repeat' first
    | (refine gw_bool (fun _ => ?_) (fun _ => ?_))
    | (refine condw_bool (fun _ => ?_) (fun _ => ?_))
    | simp [*]
  refine lp_view (View.nilOwn _ (t := 3) (key := 23) 1 3 rfl rfl) ?_
  refine lp_go (D := (fun _ => none)) G5_ok mixed (by kernel_rfl) [0] [22] (α := Nat) (fun i e h => i ≤ M ∧ e 4 = .int .i64 i ∧ e 3 = .sl 23 0 i 1 ∧ h 23 = some ⟨3, icl (fnF l) i⟩) (fun i => M - i) 0 ?_ ?_
  · simp [icl_zero]
  · rintro i e h hk hkh ⟨hi, g4, g3, q23⟩
    simp [Keep] at hk
    simp [KeepH] at hkh
    by_cases hlt : i < M
    · obtain ⟨x, hx, hx'⟩ := at_ex (show i < l.length by omega)
      have f1 : ilt (i : Int) (N : Int) = true := ilt_t (by omega)
      have f2 : ilt (i : Int) 240 = true := ilt_t (by omega)
      have w1 : IntKind.i64.wrap ((i : Int) + 1) = ((i + 1 : Nat) : Int) := wrap_succ (by omega)
      have hw := wsp_w x
      have hyi : fnF l i = wsp x := by unfold fnF; rw [gD hx]
      have f5 : (i + 1) * 8 ≤ 140737488355328 := by omega
      have f6 : i + 1 ≤ 9223372036854775807 := by omega
      have r1 := icl_succ (fnF l) i
      rw [hyi] at r1
      generalize wsp x = X at hw r1 hyi
      repeat' first
        | (refine gw_bool (fun _ => ?_) (fun _ => ?_))
        | (refine condw_bool (fun _ => ?_) (fun _ => ?_))
        | simp [*, il, appendV, srcCells, St.forget, scr, scrC]
      refine nxt_go (i + 1) ((View.forget _ _ 22)) (by omega) (by simp [*, Keep, St.forget, scr, scrC]) (by simp [*, KeepH, St.forget, scr, scrC]) ?_
      refine ⟨by omega, ?_, ?_, ?_⟩
      all_goals simp [*, St.forget, scr, scrC]
    · have f2 : i = M := by omega
      subst f2
      have f6 : ((ilst (fnF l) i).map il).all (fun c => c.all flatC) = true := ilst_flat _ _
      by_cases hlt2 : i < N
      · have f1 : ilt (i : Int) (N : Int) = true := ilt_t (by omega)
        have f2 : ilt (i : Int) 240 = false := ilt_f (by omega)
        clear hM hi hlt hlt2
        repeat' first
          | (refine gw_bool (fun _ => ?_) (fun _ => ?_))
          | (refine condw_bool (fun _ => ?_) (fun _ => ?_))
          | simp [*]
      · have f1 : ilt (i : Int) (N : Int) = false := ilt_f (by omega)
        clear hM hi hlt hlt2
        repeat' first
          | (refine gw_bool (fun _ => ?_) (fun _ => ?_))
          | (refine condw_bool (fun _ => ?_) (fun _ => ?_))
          | simp [*]
def Tfine : List V → Option V
  | [.list 1 xs] => (match decL unI xs with
    | some l => bif decide (l.length ≤ 9223372036854775807) then some (.list 1 ((fnL l).map il)) else none
    | none => none)
  | _ => none
theorem fineF_tab : ∀ vs v, Tfine vs = some v → PFresh Try.prog 9 vs v := by
  intro vs v h; unfold Tfine at h; split at h
  · split at h
    · rename_i l h1
      rw [decL_inv unI_inv _ _ h1]
      simp only [cond_eq_ite, decide_eq_true_eq] at h
      split at h
      · rename_i hc; cases h; exact Fine_ok _ hc
      · cases h
    · cases h
  · cases h
def Ttrue : List V → Option V
  | [] => some (.bool true)
  | _ => none
def G6 : Tab := add 8 Ttrue (addF 9 Tfine (G5))
theorem G6_at (f : FuncId) (vs : List V) : G6.at' f vs = if f = 8 then Ttrue vs else if f = 9 then Tfine vs else G5.at' f vs := rfl
theorem G6_fr (f : FuncId) : G6.fr f = if f = 8 then false else if f = 9 then true else G5.fr f := rfl
attribute [simp] G6_at G6_fr Tfine Ttrue
theorem G6_ok : TabOK Try.prog G6 := by
  refine add_ok (addF_ok (G5_ok) (by kernel_rfl) ?_) (by kernel_rfl) ?_
  · exact fineF_tab
  · intro vs v h; unfold Ttrue at h; split at h
    · cases h; apply known_ok
    · cases h
theorem inB_mono {p q a b : Int} (hp : 0 < p) (hab : a ≤ b) (h : inB p q a = true) : inB p q b = true := by
  simp only [inB, Bool.and_eq_true, Bool.not_eq_true', ilt_iff'] at h ⊢
  have h1 := Int.mul_le_mul_of_nonneg_right (show 50000 - b ≤ 50000 - a by omega) (Int.le_of_lt hp)
  have h2 := Int.mul_le_mul_of_nonneg_right (show 50000 + a ≤ 50000 + b by omega) (Int.le_of_lt hp)
  omega
theorem lawWithin (l : List Int) (dv more : Int) (hl : l.length ≤ maxLen) : PCall Try.prog 7 [.list 1 (l.map il), .int .i64 dv, .int .i64 more] (.bool true) := by
  have hmx : maxLen = 9223372036854775807 := by decide
  rw [hmx] at hl
  have hdec := dec_i l
  have hok := okS_fn l
  have hly := fine_len l
  obtain ⟨y, hy⟩ : ∃ y, fnL l = y := ⟨_, rfl⟩
  rw [hy] at hok hly
  have hdecy := dec_i y
  have hly' : y.length ≤ 9223372036854775807 := by omega
  obtain ⟨A, hA⟩ : ∃ A, dv % 50001 = A := ⟨_, rfl⟩
  obtain ⟨B, hB⟩ : ∃ B, more % 1000 = B := ⟨_, rfl⟩
  have a1 : 0 ≤ A := by omega
  have a2 : A ≤ 50000 := by omega
  have b1 : 0 ≤ B := by omega
  have b2 : B < 1000 := by omega
  have wC : IntKind.i64.wrap (A + B) = A + B := wrap_id (by omega) (by omega)
  obtain ⟨C, hC⟩ : ∃ C, min (A + B) 50000 = C := ⟨_, rfl⟩
  have c1 : A ≤ C := by omega
  have c2 : C ≤ 50000 := by omega
  have i1 : ilt A 0 = false := ilt_f (by omega)
  have i2 : ilt 50000 A = false := ilt_f (by omega)
  have i3 : ilt C 0 = false := ilt_f (by omega)
  have i4 : ilt 50000 C = false := ilt_f (by omega)
  rcases perF_cases y with ⟨h, hp⟩ | ⟨_, hp⟩ | ⟨_, p, q, hp, p1, p2, q1, q2⟩
  · rw [hok] at h; cases h
  · have wA : wiF y A = (false, 18) := by simp [wiF, hok, i1, i2, hp]
    have wB : wiF y C = (false, 18) := by simp [wiF, hok, i3, i4, hp]
    clear a1 a2 b1 b2 c1 c2 i1 i2 i3 i4 hok
    refine pcall_cx G6_ok mixed (fun _ => none) Try.func7 rfl Try.ntmps7 Try.results7 (by simp) (by kernel_rfl) ?_
    repeat' first
      | (refine gw_bool (fun _ => ?_) (fun _ => ?_))
      | (refine condw_bool (fun _ => ?_) (fun _ => ?_))
      | simp [*, vF, vW]
  · have wA : wiF y A = (inB p q A, 0) := by simp [wiF, hok, i1, i2, hp]
    have wB : wiF y C = (inB p q C, 0) := by simp [wiF, hok, i3, i4, hp]
    have hmono : inB p q A = true → inB p q C = true := inB_mono p1 c1
    obtain ⟨u1, u2, u3⟩ := within_b p1 p2 q1 q2 a1 a2
    have hin : inB p q A = (!ilt (600000 * q) ((50000 - A) * p) && !ilt ((50000 + A) * p) (600000 * q)) := rfl
    obtain ⟨X, hX⟩ : ∃ A, 600000 * q = A := ⟨_, rfl⟩
    obtain ⟨Y, hY⟩ : ∃ Z, (50000 - A) * p = Z := ⟨_, rfl⟩
    obtain ⟨Z, hZ⟩ : ∃ Z, (50000 + A) * p = Z := ⟨_, rfl⟩
    rw [hX] at u1 hin
    rw [hY] at u2 hin
    rw [hZ] at u3 hin
    obtain ⟨ia, hia⟩ : ∃ b, inB p q A = b := ⟨_, rfl⟩
    obtain ⟨ib, hib⟩ : ∃ b, inB p q C = b := ⟨_, rfl⟩
    rw [hia] at wA hmono hin
    rw [hib] at wB hmono
    clear a1 a2 b1 b2 c1 c2 i1 i2 i3 i4 hok hia hib p1 p2 q1 q2
    cases j1 : ilt X Y
    · cases j2 : ilt Z X
      · have : ia = true := by simpa [j1, j2] using hin
        subst this
        have := hmono rfl
        subst this
        clear hmono hin
        refine pcall_cx G6_ok mixed (fun _ => none) Try.func7 rfl Try.ntmps7 Try.results7 (by simp) (by kernel_rfl) ?_
        repeat' first
          | (refine gw_bool (fun _ => ?_) (fun _ => ?_))
          | (refine condw_bool (fun _ => ?_) (fun _ => ?_))
          | simp [*, vF, vW, wrap_ml, wrap_mr]
      · have : ia = false := by simpa [j1, j2] using hin
        subst this
        clear hmono hin
        refine pcall_cx G6_ok mixed (fun _ => none) Try.func7 rfl Try.ntmps7 Try.results7 (by simp) (by kernel_rfl) ?_
        repeat' first
          | (refine gw_bool (fun _ => ?_) (fun _ => ?_))
          | (refine condw_bool (fun _ => ?_) (fun _ => ?_))
          | simp [*, vF, vW, wrap_ml, wrap_mr]
    · have : ia = false := by simpa [j1] using hin
      subst this
      clear hmono hin
      refine pcall_cx G6_ok mixed (fun _ => none) Try.func7 rfl Try.ntmps7 Try.results7 (by simp) (by kernel_rfl) ?_
      repeat' first
        | (refine gw_bool (fun _ => ?_) (fun _ => ?_))
        | (refine condw_bool (fun _ => ?_) (fun _ => ?_))
        | simp [*, vF, vW, wrap_ml, wrap_mr]
end Go.Proofs.Ytacmchjaldljjaa
