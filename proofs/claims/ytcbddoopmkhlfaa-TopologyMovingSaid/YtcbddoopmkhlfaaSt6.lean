/-
  Stations: the first error that a method of the builder finds in a list.
-/
import Derived.Test.YtcbddoopmkhlfaaSt5
import Derived.TacticsInMore
namespace Go.Proofs.Ytcbddoopmkhlfaa
open Go.Pv Go.RowKit
set_option linter.unusedSimpArgs false
set_option linter.unusedVariables false
set_option maxRecDepth 100000
set_option maxHeartbeats 1000000

/-- The first error of some. -/
def firstN (errs : Nat → Int) : Nat → Int
  | 0 => 0
  | n + 1 => if firstN errs n = 0 then errs n else firstN errs n
theorem firstN_stop {errs : Nat → Int} {k : Nat} (h0 : firstN errs k = 0) (h1 : errs k ≠ 0) : ∀ {n : Nat}, k < n → firstN errs n = errs k
  | 0, h => by omega
  | n + 1, h => by
    by_cases e : k = n
    · subst e; simp [firstN, h0]
    · rw [firstN, firstN_stop h0 h1 (show k < n by omega), if_neg h1]
/-- What a method of the builder does to the elements of a list, one by one. -/
def PFst (F G : Nat) (L : V) (n : Nat) (errs : Nat → Int) (Ss : Nat → BS) : Prop :=
  ∀ (bb n0 : Nat) (ro : Nat → Prop) (W : World) (X : Value), Bd bb n0 ro (Ss 0) W → (∀ b, ro b → b < n0) → R0 W ro L X → Calls Try.prog F #[X, .func (.func G) #[.pointer (some ⟨bb, 0, none⟩)] #[]] W fun e W' => Below n0 W W' ∧ e = .returned (.int .i64 (firstN errs n)) ∧ (firstN errs n = 0 → Bd bb n0 ro (Ss n) W')
/-- A value that determines the memory that it reads. -/
def Rig (W : World) (ro : Nat → Prop) (v : V) : Prop := ∀ (w1 : World) (ro1 : Nat → Prop) (lam1 : Lam) (x : Value), (∀ b, ro b → w1.heap[b]? = W.heap[b]?) → R w1 ro1 lam1 v x → R0 w1 ro v x
theorem ownC_flat {v : V} (h : flatC v = true) : ownC v = false := by cases v <;> first | rfl | simp [flatC] at h
theorem any_flat {p q : V → Bool} (hpq : ∀ v, p v = true → q v = false) {l : List V} (h : l.all p = true) : l.any q = false := by
  rw [List.any_eq_false]
  intro x hx
  rw [hpq x (List.all_eq_true.1 h x hx)]; simp
theorem ownA_flat {v : V} (h : flatA v = true) : ownA v = false := by
  cases v with
  | agg cs => exact any_flat (fun v => ownC_flat) h
  | _ => first | rfl | simp [flatA, flatC] at h
theorem ownT_flat {v : V} (h : flatT v = true) : ownT v = false := by
  cases v with
  | tup vs => exact any_flat (fun v => ownA_flat) h
  | agg cs => exact any_flat (fun v => ownC_flat) h
  | _ => first | rfl | simp [flatT, flatA, flatC] at h
theorem rig_flat {W : World} {ro : Nat → Prop} {v : V} (h : flatT v = true) : Rig W ro v := fun w1 ro1 lam1 x hk hr => (hr.pureT (ownT_flat h)).flatT h
theorem rig_as {W : World} {ro : Nat → Prop} {x : Value} {sz : Nat} {xs : List (List V)} (h : R0 W ro (.list sz xs) x) : Rig W ro (.as x sz xs) := fun w1 ro1 lam1 y hk hr => by
  have hr := hr.pureC rfl
  cases hr
  exact .as _ _ _ (h.mono hk (fun _ h => h))
theorem rig_vrp {W : World} {ro : Nat → Prop} {a : Addr} {cs : List V} (h : R0 W ro (.vrp a cs) (.pointer (some a))) : Rig W ro (.vrp a cs) := fun w1 ro1 lam1 y hk hr => by
  cases hr with
  | pure _ _ hr => cases hr with | vrp _ _ g h1 h2 h3 => exact h.mono hk (fun _ h => h)
theorem rig_agg {W : World} {ro : Nat → Prop} {cs : List V} (h : ∀ c ∈ cs, Rig W ro c) : Rig W ro (.agg cs) := fun w1 ro1 lam1 y hk hr => by
  obtain ⟨arr, rfl, h1, h2⟩ := hr.agg_inv
  exact .agg _ _ h1 fun j c x hc hx => h c (List.mem_of_getElem? hc) w1 ro1 lam1 x hk (h2 j c x hc hx)
theorem Rig.at {W : World} {ro : Nat → Prop} {x : Value} {sz : Nat} {xs : List (List V)} (_ : Rig W ro (.as x sz xs)) (h : R0 W ro (.list sz xs) x) {w : World} (hk : ∀ b, ro b → w.heap[b]? = W.heap[b]?) : R0 w ro (.as x sz xs) x := .as _ _ _ (h.mono hk (fun _ h => h))
theorem r0_as {w : World} {ro : Nat → Prop} {x y : Value} {sz : Nat} {xs : List (List V)} (h : R0 w ro (.as x sz xs) y) : y = x := by cases h; rfl
theorem r0_val {w : World} {ro : Nat → Prop} {x y : Value} (h : R0 w ro (.val x) y) : y = x := by cases h; rfl
theorem r0_int {w : World} {ro : Nat → Prop} {k : IntKind} {i : Int} {y : Value} (h : R0 w ro (.int k i) y) : y = .int k i := by cases h; rfl
/-- What the frame keeps, by a list. -/
def envL : List (Nat × V) → Nat → V
  | [] => fun _ => .junk
  | (t, v) :: r => upd (envL r) t v
def HasE (e : Nat → V) : List (Nat × V) → Prop
  | [] => True
  | (t, v) :: r => e t = v ∧ HasE e r
def RigE (W : World) (ro : Nat → Prop) : List (Nat × V) → Prop
  | [] => True
  | (_, v) :: r => Rig W ro v ∧ RigE W ro r
/-- Between two statements of a function that holds the builder. -/
structure FG (n bb n0 : Nat) (ro : Nat → Prop) (W : World) (L : List (Nat × V)) (S : Option BS) (a : Act) (w : World) : Prop where
  dfr : a.defers = []
  size : n ≤ a.tmps.size
  env : ∀ t, R0 w ro (envL L t) (a.tmps.getD t Go.undef)
  kept : Below n0 W w
  nle : n0 ≤ w.heap.size
  got : ∀ S', S = some S' → Bd bb n0 ro S' w
section
variable {n bb n0 : Nat} {ro ro1 : Nat → Prop} {W w w1 : World} {L L' : List (Nat × V)} {S S1 : Option BS} {a a1 : Act} {lam1 : Lam} {s1 : St}
theorem Bd.size {S : BS} (h : Bd bb n0 ro S w) : n0 ≤ w.heap.size := by obtain ⟨_, _, _, _, _, _, _, _, h⟩ := h; exact h
theorem Bd.grow {S : BS} (h : Bd bb n0 ro S w) (hb : Below w.heap.size w w1) : Bd bb n0 ro S w1 := by
  obtain ⟨ro', lam, h, hs, hB, hm, ho, hr, hw⟩ := h
  have := hs.move (W' := w1) hb.size (fun b h => hb.block b (hs.rolt b h)) (fun b ⟨key, h⟩ => hb.block b (hs.ob h).2.1)
  exact ⟨ro', lam, h, this, hB, hm, ho, hr, Nat.le_trans hw hb.size⟩
theorem FG.sim (hg : FG n bb n0 ro W L S a w) (hro : ∀ b, ro b → b < n0) : Sim (.of w) n ro (fun _ => none) ⟨envL L, fun _ => none⟩ a w :=
  sim_mk hg.dfr hg.size (fun b hb => Nat.lt_of_lt_of_le (hro b hb) hg.nle) hg.env
theorem FG.start {S : BS} {args : Array Value} (hn : args.size ≤ n) (hro : ∀ b, ro b → b < n0) (hB : Bd bb n0 ro S W) (he : ∀ t, R0 W ro (envL L t) (args.getD t Go.undef)) :
    FG n bb n0 ro W L (some S) { tmps := args ++ Array.replicate (n - args.size) Go.undef, defers := [] } W := by
  refine ⟨rfl, by simp; omega, fun t => ?_, Below.refl _ _, hB.size, fun S' h => by cases h; exact hB⟩
  have h0 := he t
  have : (args ++ Array.replicate (n - args.size) Go.undef).getD t Go.undef = args.getD t Go.undef := by
    simp only [Array.getD_eq_getD_getElem?]
    by_cases ht : t < args.size
    · rw [Array.getElem?_append_left ht]
    · rw [Array.getElem?_append_right (by omega), Array.getElem?_replicate, Array.getElem?_eq_none (by omega)]
      split <;> rfl
  show R0 W ro (envL L t) ((args ++ Array.replicate (n - args.size) Go.undef).getD t Go.undef)
  rw [this]; exact h0
theorem envL_sim (hk : ∀ b, ro b → w1.heap[b]? = W.heap[b]?) {w0 : Base} (hs : Sim w0 n ro1 lam1 s1 a1 w1) : ∀ (L' : List (Nat × V)), HasE s1.env L' → RigE W ro L' → ∀ t, R0 w1 ro (envL L' t) (a1.tmps.getD t Go.undef)
  | [], _, _, t => .junk _
  | (t', v) :: r, hE, hR, t => by
    simp only [envL]
    by_cases ht : t = t'
    · subst ht
      rw [upd_same]
      have := hs.env t
      rw [hE.1] at this
      exact hR.1 w1 ro1 lam1 _ hk this
    · rw [upd_ne _ _ ht]
      exact envL_sim hk hs r hE.2 hR.2 t
theorem FG.step (hg : FG n bb n0 ro W L S a w) (hro : ∀ b, ro b → b < n0) (hs : Sim (.of w) n ro1 lam1 s1 a1 w1) (hE : HasE s1.env L') (hR : RigE W ro L') : FG n bb n0 ro W L' S a1 w1 := by
  have hb : Below w.heap.size w w1 := hs.below.below
  have hk : Below n0 W w1 := ⟨hb.os.trans hg.kept.os, hb.tape.trans hg.kept.tape, hb.output.trans hg.kept.output, Nat.le_trans hg.kept.size hb.size, fun k hk => (hb.block k (Nat.lt_of_lt_of_le hk hg.nle)).trans (hg.kept.block k hk)⟩
  exact ⟨hs.dfr, hs.size, envL_sim (fun b h => hk.block b (hro b h)) hs L' hE hR, hk, Nat.le_trans hg.nle hb.size, fun S' h => (hg.got S' h).grow hb⟩
theorem FG.next (hg : FG n bb n0 ro W L S a w) (hro : ∀ b, ro b → b < n0) {d : Nat} {v : V} {x : Value} (hd : d < n) (hb : Below n0 w w1) (hx : ∀ w' : World, (∀ b, ro b → w'.heap[b]? = W.heap[b]?) → R0 w' ro v x) (hS : ∀ S', S1 = some S' → Bd bb n0 ro S' w1) : FG n bb n0 ro W ((d, v) :: L) S1 (a.put (some d) x) w1 := by
  have hk : Below n0 W w1 := ⟨hb.os.trans hg.kept.os, hb.tape.trans hg.kept.tape, hb.output.trans hg.kept.output, Nat.le_trans hg.kept.size hb.size, fun k hk => (hb.block k hk).trans (hg.kept.block k hk)⟩
  refine ⟨hg.dfr, by simpa [Act.put] using hg.size, fun t => ?_, hk, Nat.le_trans hg.nle hb.size, hS⟩
  rw [getD_put (Nat.lt_of_lt_of_le hd hg.size)]
  simp only [envL, upd]
  split
  · exact hx w1 (fun b h => hk.block b (hro b h))
  · exact (hg.env t).mono (fun b h => hb.block b (hro b h)) (fun _ h => h)
theorem FG.drop (hg : FG n bb n0 ro W L S a w) : FG n bb n0 ro W L none a w := ⟨hg.dfr, hg.size, hg.env, hg.kept, hg.nle, fun S' h => by cases h⟩
end
theorem move_in {m : Nat} {o : Oper} {t : Nat} {a : Act} {w : World} {next : Act → World → Prop} {Q : Exit → Act → World → Prop} (ho : o.op = .move (.tmp t)) (h : next (a.put o.dst (a.tmps.getD t Go.undef)) w) : o.wpIn Fence.wide m Try.prog a w next Q := by
  refine oper_in ?_
  unfold Oper.wp execOp
  simp only [ho, Sem.run_pure, Oper.upon]
  exact h
def muF (a : Act) (_ : World) : Nat := 1001 - (match a.tmps.getD 10 Go.undef with
  | .int _ k => k.toNat
  | _ => 0)
theorem FG.mu {n bb n0 : Nat} {ro : Nat → Prop} {W w : World} {S : Option BS} {a : Act} {v1 v8 v9 : V} {k : Nat} (hg : FG n bb n0 ro W [(1, v1), (8, v8), (9, v9), (10, .int .i64 k)] S a w) : muF a w = 1001 - k := by
  have := r0_int (hg.env 10)
  simp [muF, this]
theorem res_one {fn : Func} {t : Nat} {x : Value} (h : fn.results = #[.tmp t]) {tmps : Array Value} {w : World} (hx : tmps.getD t Go.undef = x) : (results fn tmps).run Try.prog w = .ok x w := by
  have := results_run (P := Try.prog) fn tmps w (zs := [x]) (by rw [h]; simp [resS, hx])
  simpa using this
/-- A bay's cells; its links by their value. -/
def By.csA (b : By) (z : Value) : List V := [.str b.nm, .int .i64 b.kind, .int .i64 b.ob, .int .i64 b.en, .int .i64 b.zr, .int .i64 b.zx, .as z 2 (b.lks.map Lk.cs), .bool b.cl, .int .i64 b.ct, .int .i64 b.vt, .int .i64 b.sat, .int .i64 b.tr]
theorem csA_at {b : By} {z : Value} {j : Nat} {c : V} (h : (b.csA z)[j]? = some c) : ∃ d, b.cs[j]? = some d ∧ ((j ≠ 6 ∧ c = d) ∨ (j = 6 ∧ d = .list 2 (b.lks.map Lk.cs) ∧ c = .as z 2 (b.lks.map Lk.cs))) := by
  match j with
  | 0 => exact ⟨_, rfl, .inl ⟨by decide, by simpa [By.csA] using h.symm⟩⟩
  | 1 => exact ⟨_, rfl, .inl ⟨by decide, by simpa [By.csA] using h.symm⟩⟩
  | 2 => exact ⟨_, rfl, .inl ⟨by decide, by simpa [By.csA] using h.symm⟩⟩
  | 3 => exact ⟨_, rfl, .inl ⟨by decide, by simpa [By.csA] using h.symm⟩⟩
  | 4 => exact ⟨_, rfl, .inl ⟨by decide, by simpa [By.csA] using h.symm⟩⟩
  | 5 => exact ⟨_, rfl, .inl ⟨by decide, by simpa [By.csA] using h.symm⟩⟩
  | 6 => exact ⟨_, rfl, .inr ⟨rfl, rfl, by simpa [By.csA] using h.symm⟩⟩
  | 7 => exact ⟨_, rfl, .inl ⟨by decide, by simpa [By.csA] using h.symm⟩⟩
  | 8 => exact ⟨_, rfl, .inl ⟨by decide, by simpa [By.csA] using h.symm⟩⟩
  | 9 => exact ⟨_, rfl, .inl ⟨by decide, by simpa [By.csA] using h.symm⟩⟩
  | 10 => exact ⟨_, rfl, .inl ⟨by decide, by simpa [By.csA] using h.symm⟩⟩
  | 11 => exact ⟨_, rfl, .inl ⟨by decide, by simpa [By.csA] using h.symm⟩⟩
  | j + 12 => simp [By.csA] at h
theorem byRows {w : World} {ro : Nat → Prop} {xs : List By} {X : Value} (h : R0 w ro (.list 12 (xs.map By.cs)) X) : ∃ z : Nat → Value, R0 w ro (.list 12 (xs.mapIdx fun k (q : By) => q.csA (z k))) X := by
  rcases (R.pure (lam := fun _ => none) _ _ h).list_inv with ⟨h0, ad, cap, rfl⟩ | ⟨ad, cap, g, rfl, hro, hsz, hcap, hg, hr⟩
  · have hx : xs = [] := by simpa using h0
    subst hx
    exact ⟨fun _ => Go.undef, .list0 _ _ _⟩
  · refine ⟨fun k => g k 6, ?_⟩
    have hlen : (xs.map By.cs).length = (xs.mapIdx fun k (q : By) => q.csA (g k 6)).length := by simp
    rw [hlen]
    have hat : ∀ i c, (xs.mapIdx fun k (q : By) => q.csA (g k 6))[i]? = some c → ∃ q : By, xs[i]? = some q ∧ c = q.csA (g i 6) := fun i c hc => by
      simp only [List.getElem?_mapIdx, Option.map_eq_some_iff] at hc
      obtain ⟨q, hq, rfl⟩ := hc
      exact ⟨q, hq, rfl⟩
    refine .list 12 _ ad cap g hro (fun c hc => ?_) (by rw [← hlen]; exact hcap) (fun i j c y hi hj => ?_) (fun i j c y hi hj => ?_)
    · obtain ⟨i, hi, rfl⟩ := List.mem_iff_getElem.1 hc
      obtain ⟨q, _, e⟩ := hat i _ (List.getElem?_eq_getElem hi)
      rw [e]; rfl
    · obtain ⟨q, hq, rfl⟩ := hat i c hi
      obtain ⟨d, hd, _⟩ := csA_at hj
      exact hg i j q.cs d (by simp [hq]) hd
    · obtain ⟨q, hq, rfl⟩ := hat i c hi
      obtain ⟨d, hd, ⟨_, rfl⟩ | ⟨rfl, rfl, rfl⟩⟩ := csA_at hj
      · exact hr i j q.cs y (by simp [hq]) hd
      · exact .as _ _ _ (hr i 6 q.cs _ (by simp [hq]) hd)
theorem as_list {w : World} {ro : Nat → Prop} {x y : Value} {sz : Nat} {xs : List (List V)} (h : R0 w ro (.as x sz xs) y) : R0 w ro (.list sz xs) y := by cases h; assumption
theorem byRig {w : World} {ro : Nat → Prop} {xs : List By} {X : Value} {z : Nat → Value} (h : R0 w ro (.list 12 (xs.mapIdx fun k (q : By) => q.csA (z k))) X) {k : Nat} {x : By} (hx : xs[k]? = some x) : Rig w ro (.agg (x.csA (z k))) := by
  have hk : R0 w ro (.list 2 (x.lks.map Lk.cs)) (z k) := by
    rcases (R.pure (lam := fun _ => none) _ _ h).list_inv with ⟨h0, ad, cap, rfl⟩ | ⟨ad, cap, g, rfl, hro, hsz, hcap, hg, hr⟩
    · have hx0 : xs = [] := by simpa using h0
      subst hx0; simp at hx
    · have := hr k 6 (x.csA (z k)) (.as (z k) 2 (x.lks.map Lk.cs)) (by simp [hx]) rfl
      have e := r0_as this
      rw [e] at this
      exact as_list this
  refine rig_agg fun c hc => ?_
  simp only [By.csA, List.mem_cons, List.not_mem_nil, or_false] at hc
  rcases hc with rfl | rfl | rfl | rfl | rfl | rfl | rfl | rfl | rfl | rfl | rfl | rfl
  all_goals first | exact rig_flat rfl | exact rig_as hk
theorem byList {w : World} {ro : Nat → Prop} {x : By} {z y : Value} (h : R0 w ro (.agg (x.csA z)) y) : R0 w ro (.agg x.cs) y := by
  cases h with
  | agg _ arr hl hr =>
    refine .agg _ _ hl fun j c v hc hv => ?_
    have hj : j < (x.csA z).length := (List.getElem?_eq_some_iff.1 hc).1
    obtain ⟨d, hd, ⟨_, e⟩ | ⟨rfl, e1, e2⟩⟩ := csA_at (List.getElem?_eq_getElem hj)
    · rw [hc] at hd; cases hd
      have := hr j _ v (List.getElem?_eq_getElem hj) hv
      rwa [e] at this
    · rw [hc] at hd; cases hd
      have := hr 6 _ v (List.getElem?_eq_getElem hj) hv
      rw [e2] at this
      rw [e1]
      exact as_list this

theorem firstS_ok {G : FuncId} (hc : callable Try.prog G = true) (xs : List ByteArray) (hl : xs.length ≤ 1000) (errs : Nat → Int) (Ss : Nat → BS) (hm : ∀ k x, xs[k]? = some x → PEff G (.str x) (errs k) (Ss k) (Ss (k + 1))) : PFst 69 G (.list 1 (xs.map s1)) xs.length errs Ss := by
  intro bb n0 ro W X hB hro hX
  obtain ⟨Y, hY⟩ : ∃ Y : Value, Y = .func (.func G) #[.pointer (some ⟨bb, 0, none⟩)] #[] := ⟨_, rfl⟩
  rw [← hY]
  have hn0 := hB.size
  have hX' : Rig W ro (.as X 1 (xs.map s1)) := rig_as hX
  refine callsIn_wide.1 (callsIn_of_wp (n := 0) Try.func69 rfl trivial ?_ rfl)
  rw [Try.ntmps69]
  have hg0 : FG 21 bb n0 ro W [(0, (.as X 1 (xs.map s1))), (1, .val Y)] (some (Ss 0)) _ W := FG.start (S := Ss 0) (args := #[X, Y]) (n := 21) (by simp) hro hB (by
    intro t
    match t with
    | 0 => exact (.as _ _ _ hX)
    | 1 => exact (.val _)
    | t + 2 => simp [envL, upd]; exact .junk _)
  refine wpIn_seq (wpIn_mono (cw_in (CW.of_cx (D := fun _ => none) C3_ok mixed _ (fun e s => e = .normal ∧ HasE s.env [(0, (.as X 1 (xs.map s1))), (1, .val Y)]) _ (by kernel_rfl) ?_) (hg0.sim hro)) ?_)
  · skip
    repeat' first
      | (with_reducible refine gw_bool (fun _ => ?_) (fun _ => ?_))
      | (with_reducible refine condw_bool (fun _ => ?_) (fun _ => ?_))
      | simp [*, envL, HasE]
  rintro e a w ⟨q1, ro1, lam1, ⟨rfl, hE⟩, -, hs1⟩
  have hg1 := hg0.step hro hs1 hE ⟨hX', rig_flat rfl, trivial⟩
  clear hg0 hs1 hE
  refine wpIn_seq (wpIn_mono (wpIn_seq (Q := fun e a' w' => (e = .normal ∧ firstN errs xs.length = 0 ∧ FG 21 bb n0 ro W [] (some (Ss xs.length)) a' w') ∨ (e = .ret ∧ firstN errs xs.length ≠ 0 ∧ FG 21 bb n0 ro W [(4, .int .i64 (firstN errs xs.length))] none a' w')) ?_) ?_)
  rotate_left
  · rintro e a2 w2 (⟨rfl, hf2, hg2⟩ | ⟨rfl, hf2, hg2⟩)
    · refine wpIn_mono (cw_in (CW.of_cx (D := fun _ => none) C3_ok mixed _ (fun e s => e = .ret ∧ HasE s.env [(4, .int .i64 0)]) _ (by kernel_rfl) ?_) (hg2.sim hro)) ?_
      · skip
        repeat' first
          | (with_reducible refine gw_bool (fun _ => ?_) (fun _ => ?_))
          | (with_reducible refine condw_bool (fun _ => ?_) (fun _ => ?_))
          | simp [*, envL, HasE]
      rintro e a7 w7 ⟨s7, ro7, lam7, ⟨rfl, hE7⟩, -, hs7⟩
      have hg7 := hg2.step hro hs7 hE7 ⟨rig_flat rfl, trivial⟩
      refine ⟨hg7.dfr, _, res_one rfl (r0_int (hg7.env 4)), hg7.kept, by rw [hf2], fun _ => hg7.got _ rfl⟩
    · exact ⟨hg2.dfr, _, res_one rfl (r0_int (hg2.env 4)), hg2.kept, rfl, fun h => absurd h hf2⟩
  refine wpIn_region_list ?_
  refine wpListIn_plain rfl fun K hK => ?_
  refine move_in (t := 0) rfl (hK _ _ ?_)
  have hv0 : a.tmps.getD 0 Go.undef = X := r0_as (hg1.env 0)
  rw [hv0]
  have hg2 : FG 21 bb n0 ro W _ (some (Ss 0)) (a.put (some 8) X) w := hg1.next hro (d := 8) (v := (.as X 1 (xs.map s1))) (by decide) (Below.refl _ _) (fun w' hk => hX'.at hX hk) (fun S' h => hg1.got S' h)
  clear hg1 hK
  refine eg_in (rest := []) C3_ok (K := fun s => HasE s.env [(1, .val Y), (8, (.as X 1 (xs.map s1))), (9, .int .i64 xs.length), (10, .int .i64 0)]) [_, _] _ _ _ _ _ (by kernel_rfl) ?_ (hg2.sim hro) ?_
  · skip
    repeat' first
      | (with_reducible refine gw_bool (fun _ => ?_) (fun _ => ?_))
      | (with_reducible refine condw_bool (fun _ => ?_) (fun _ => ?_))
      | simp [*, envL, HasE]
  rintro s3 a3 ro3 lam3 w3 hE hs3
  have hg3 := hg2.step hro hs3 hE ⟨rig_flat rfl, hX', rig_flat rfl, rig_flat rfl, trivial⟩
  clear hg2 hs3 hE
  refine wpIn_block ?_
  · refine wpIn_loop (fun a w => ∃ k : Nat, k ≤ xs.length ∧ firstN errs k = 0 ∧ FG 21 bb n0 ro W [(1, .val Y), (8, (.as X 1 (xs.map s1))), (9, .int .i64 xs.length), (10, .int .i64 k)] (some (Ss k)) a w) muF ⟨0, by omega, rfl, hg3⟩ ?_
    clear hg3 a w a3 w3 s3 ro3 lam3 q1 ro1 lam1 hv0
    rintro a w ⟨k, hk, hf, hg⟩
    refine wpIn_seq ?_
    by_cases hlt : k < xs.length
    · obtain ⟨n, hn⟩ : ∃ n, xs.length = n := ⟨_, rfl⟩
      rw [hn] at hlt hg ⊢
      have f1 : ilt (k : Int) (n : Int) = true := ilt_t (by omega)
      have w1 : IntKind.i64.wrap ((k : Int) + 1) = ((k + 1 : Nat) : Int) := wrap_succ (by omega)
      obtain ⟨x, hx, hx'⟩ := at_ex (show k < xs.length by omega)
      refine wpIn_mono (cw_in (CW.of_cx (D := fun _ => none) C3_ok mixed _ (fun e s => e = .normal ∧ HasE s.env [(1, .val Y), (8, (.as X 1 (xs.map s1))), (9, .int .i64 n), (10, .int .i64 k), (11, .bool true)]) _ (by kernel_rfl) ?_) (hg.sim hro)) ?_
      · clear hg hm
        repeat' first
          | (with_reducible refine gw_bool (fun _ => ?_) (fun _ => ?_))
          | (with_reducible refine condw_bool (fun _ => ?_) (fun _ => ?_))
          | simp [*, envL, HasE]
      rintro e a0 w0' ⟨s0, ro0, lam0, ⟨rfl, hE⟩, -, hs0⟩
      have hg0 := hg.step hro hs0 hE ⟨rig_flat rfl, hX', rig_flat rfl, rig_flat rfl, rig_flat rfl, trivial⟩
      have hmu := hg.mu
      clear hg hs0 hE
      refine wpIn_seq ?_
      refine wpIn_mono (cw_in (CW.of_cx (D := fun _ => none) C3_ok mixed _ (fun e s => e = .normal ∧ HasE s.env [(1, .val Y), (8, (.as X 1 (xs.map s1))), (9, .int .i64 n), (10, .int .i64 k)]) _ (by kernel_rfl) ?_) (hg0.sim hro)) ?_
      · clear hg0 hm hmu
        repeat' first
          | (with_reducible refine gw_bool (fun _ => ?_) (fun _ => ?_))
          | (with_reducible refine condw_bool (fun _ => ?_) (fun _ => ?_))
          | simp [*, envL, HasE]
      rintro e a1 w1' ⟨q1, ro1, lam1, ⟨rfl, hE⟩, -, hs1⟩
      have hg1 := hg0.step hro hs1 hE ⟨rig_flat rfl, hX', rig_flat rfl, rig_flat rfl, trivial⟩
      clear hg0 hs1 hE
      refine wpIn_seq (wpIn_mono (wpIn_block (Q := fun e a' w' => (e = .normal ∧ firstN errs (k + 1) = 0 ∧ FG 21 bb n0 ro W [(1, .val Y), (8, (.as X 1 (xs.map s1))), (9, .int .i64 n), (10, .int .i64 k)] (some (Ss (k + 1))) a' w') ∨ (e = .ret ∧ firstN errs n ≠ 0 ∧ FG 21 bb n0 ro W [(4, .int .i64 (firstN errs n))] none a' w')) ?_) ?_)
      · refine wpIn_seq ?_
        refine wpIn_mono (cw_in (CW.of_cx (D := fun _ => none) C3_ok mixed _ (fun e s => e = .normal ∧ HasE s.env [(1, .val Y), (8, (.as X 1 (xs.map s1))), (9, .int .i64 n), (10, .int .i64 k), (6, (.str x))]) _ (by kernel_rfl) ?_) (hg1.sim hro)) ?_
        · clear hg1 hm hmu hf
          repeat' first
            | (with_reducible refine gw_bool (fun _ => ?_) (fun _ => ?_))
            | (with_reducible refine condw_bool (fun _ => ?_) (fun _ => ?_))
            | simp [*, envL, HasE, s1]
        rintro e a2 w2 ⟨s2, ro2, lam2, ⟨rfl, hE2⟩, -, hs2⟩
        refine wpIn_seq ?_
        refine wpIn_region_list ?_
        rw [← List.take_append_drop 2 (Array.toList _)]
        refine eg_in C3_ok (K := fun s => HasE s.env [(1, .val Y), (8, (.as X 1 (xs.map s1))), (9, .int .i64 n), (10, .int .i64 k), (14, .val Y), (15, (.str x))]) _ _ _ _ _ _ (by kernel_rfl) ?_ hs2 ?_
        · clear hg1 hm hmu hs2 hf
          obtain ⟨en, he⟩ := s2
          simp [HasE] at hE2
          repeat' first
            | (with_reducible refine gw_bool (fun _ => ?_) (fun _ => ?_))
            | (with_reducible refine condw_bool (fun _ => ?_) (fun _ => ?_))
            | simp [*, HasE, s1]
        rintro s4 a4 ro4 lam4 w4 hE4 hs4
        have hz : Rig W ro (.str x) := rig_flat rfl
        have hg4 := hg1.step hro hs4 hE4 ⟨rig_flat rfl, hX', rig_flat rfl, rig_flat rfl, rig_flat rfl, hz, trivial⟩
        clear hg1 hs4 hE4 hs2 hE2
        refine wpListIn_plain rfl fun K hK => oper_in (callv_wp (g := G) (fs := #[.pointer (some ⟨bb, 0, none⟩)]) (cs := #[]) rfl ?_ hc ?_)
        · rw [← hY]; exact r0_val (hg4.env 14)
        obtain ⟨Z, hZ⟩ : ∃ Z, a4.tmps.getD 15 Go.undef = Z := ⟨_, rfl⟩
        have hZr : R0 w4 ro (.str x) Z := by
          have := hg4.env 15
          rw [hZ] at this
          exact this
        have hargs : (#[Value.pointer (some ⟨bb, 0, none⟩)] ++ (#[Operand.tmp 15] : Array Operand).map a4.eval ++ #[]) = #[.pointer (some ⟨bb, 0, none⟩), Z] := by
          rw [← hZ]; simp [Act.eval]
        rw [hargs]
        refine (hm k x hx bb n0 ro w4 Z (hg4.got _ rfl) hZr).mono ?_
        rintro e w5 ⟨hb5, rfl, hB5⟩
        refine ⟨_, rfl, hK _ _ ?_⟩
        clear hK
        have hg5 : FG 21 bb n0 ro W _ (if errs k = 0 then some (Ss (k + 1)) else none) (a4.put (some 16) (.int .i64 (errs k))) w5 := hg4.next hro (d := 16) (v := .int .i64 (errs k)) (by decide) hb5 (fun _ _ => .int _ _) (fun S' h => by
          split at h
          · rename_i h0; cases h; exact hB5 h0
          · cases h)
        clear hg4
        refine eg_in (rest := []) C3_ok (K := fun s => HasE s.env [(1, .val Y), (8, (.as X 1 (xs.map s1))), (9, .int .i64 n), (10, .int .i64 k), (7, .int .i64 (errs k))]) [_] _ _ _ _ _ (by kernel_rfl) ?_ (hg5.sim hro) ?_
        · clear hg5 hm hmu hf
          repeat' first
            | (with_reducible refine gw_bool (fun _ => ?_) (fun _ => ?_))
            | (with_reducible refine condw_bool (fun _ => ?_) (fun _ => ?_))
            | simp [*, envL, HasE]
        rintro s6 a6 ro6 lam6 w6 hE6 hs6
        have hg6 := hg5.step hro hs6 hE6 ⟨rig_flat rfl, hX', rig_flat rfl, rig_flat rfl, rig_flat rfl, trivial⟩
        clear hg5 hs6 hE6
        cases h0 : ieq (errs k) 0
        · have hne : errs k ≠ 0 := by simpa [ieq] using h0
          have hfn : firstN errs n = errs k := firstN_stop hf hne hlt
          refine wpIn_mono (cw_in (CW.of_cx (D := fun _ => none) C3_ok mixed _ (fun e s => e = .ret ∧ HasE s.env [(4, .int .i64 (errs k))]) _ (by kernel_rfl) ?_) (hg6.sim hro)) ?_
          · clear hg6 hm hmu hf hfn hne
            repeat' first
              | (with_reducible refine gw_bool (fun _ => ?_) (fun _ => ?_))
              | (with_reducible refine condw_bool (fun _ => ?_) (fun _ => ?_))
              | simp [*, envL, HasE]
          rintro e a7 w7 ⟨s7, ro7, lam7, ⟨rfl, hE7⟩, -, hs7⟩
          have hg7 := (hg6.step hro hs7 hE7 ⟨rig_flat rfl, trivial⟩).drop
          exact .inr ⟨rfl, by rw [hfn]; exact hne, by rw [hfn]; exact hg7⟩
        · have hz0 : errs k = 0 := by simpa [ieq] using h0
          refine wpIn_mono (cw_in (CW.of_cx (D := fun _ => none) C3_ok mixed _ (fun e s => e = .normal ∧ HasE s.env [(1, .val Y), (8, (.as X 1 (xs.map s1))), (9, .int .i64 n), (10, .int .i64 k)]) _ (by kernel_rfl) ?_) (hg6.sim hro)) ?_
          · clear hg6 hm hmu hf hz0
            repeat' first
              | (with_reducible refine gw_bool (fun _ => ?_) (fun _ => ?_))
              | (with_reducible refine condw_bool (fun _ => ?_) (fun _ => ?_))
              | simp [*, envL, HasE]
          rintro e a7 w7 ⟨s7, ro7, lam7, ⟨rfl, hE7⟩, -, hs7⟩
          have hg7 := hg6.step hro hs7 hE7 ⟨rig_flat rfl, hX', rig_flat rfl, rig_flat rfl, trivial⟩
          rw [if_pos hz0] at hg7
          exact .inl ⟨rfl, by simp [firstN, hf, hz0], hg7⟩
      · rintro e a2 w2 (⟨rfl, hf2, hg2⟩ | ⟨rfl, hf2, hg2⟩)
        · refine wpIn_mono (cw_in (CW.of_cx (D := fun _ => none) C3_ok mixed _ (fun e s => e = .normal ∧ HasE s.env [(1, .val Y), (8, (.as X 1 (xs.map s1))), (9, .int .i64 n), (10, .int .i64 ((k + 1 : Nat) : Int))]) _ (by kernel_rfl) ?_) (hg2.sim hro)) ?_
          · clear hg2 hg1 hm hmu hf hf2
            repeat' first
              | (with_reducible refine gw_bool (fun _ => ?_) (fun _ => ?_))
              | (with_reducible refine condw_bool (fun _ => ?_) (fun _ => ?_))
              | simp [*, envL, HasE]
          rintro e a7 w7 ⟨s7, ro7, lam7, ⟨rfl, hE7⟩, -, hs7⟩
          have hg7 := hg2.step hro hs7 hE7 ⟨rig_flat rfl, hX', rig_flat rfl, rig_flat rfl, trivial⟩
          refine ⟨⟨k + 1, by omega, hf2, hg7⟩, ?_⟩
          rw [hmu, hg7.mu]; omega
        · exact .inr ⟨rfl, hf2, hg2⟩
    · have hkn : k = xs.length := by omega
      subst hkn
      refine wpIn_mono (cw_in (CW.of_cx (D := fun _ => none) C3_ok mixed _ (fun e s => e = .normal ∧ HasE s.env [(11, .bool false)]) _ (by kernel_rfl) ?_) (hg.sim hro)) ?_
      · clear hg hm
        repeat' first
          | (with_reducible refine gw_bool (fun _ => ?_) (fun _ => ?_))
          | (with_reducible refine condw_bool (fun _ => ?_) (fun _ => ?_))
          | simp [*, envL, HasE]
      rintro e a0 w0' ⟨s0, ro0, lam0, ⟨rfl, hE⟩, -, hs0⟩
      have hg0 := hg.step hro hs0 hE ⟨rig_flat rfl, trivial⟩
      clear hg hs0 hE
      refine wpIn_seq ?_
      refine wpIn_mono (cw_in (CW.of_cx (D := fun _ => none) C3_ok mixed _ (fun e s => e = .exit 0 ∧ HasE s.env []) _ (by kernel_rfl) ?_) (hg0.sim hro)) ?_
      · clear hg0 hm
        repeat' first
          | (with_reducible refine gw_bool (fun _ => ?_) (fun _ => ?_))
          | (with_reducible refine condw_bool (fun _ => ?_) (fun _ => ?_))
          | simp [*, envL, HasE]
      rintro e a7 w7 ⟨s7, ro7, lam7, ⟨rfl, hE7⟩, -, hs7⟩
      exact .inl ⟨rfl, hf, hg0.step hro hs7 hE7 trivial⟩

theorem firstL_ok {G : FuncId} (hc : callable Try.prog G = true) (xs : List Ln) (hl : xs.length ≤ 1000) (errs : Nat → Int) (Ss : Nat → BS) (hm : ∀ k x, xs[k]? = some x → PEff G (.agg x.cs) (errs k) (Ss k) (Ss (k + 1))) : PFst 71 G (.list 5 (xs.map Ln.cs)) xs.length errs Ss := by
  intro bb n0 ro W X hB hro hX
  obtain ⟨Y, hY⟩ : ∃ Y : Value, Y = .func (.func G) #[.pointer (some ⟨bb, 0, none⟩)] #[] := ⟨_, rfl⟩
  rw [← hY]
  have hn0 := hB.size
  have hX' : Rig W ro (.as X 5 (xs.map Ln.cs)) := rig_as hX
  refine callsIn_wide.1 (callsIn_of_wp (n := 0) Try.func71 rfl trivial ?_ rfl)
  rw [Try.ntmps71]
  have hg0 : FG 21 bb n0 ro W [(0, (.as X 5 (xs.map Ln.cs))), (1, .val Y)] (some (Ss 0)) _ W := FG.start (S := Ss 0) (args := #[X, Y]) (n := 21) (by simp) hro hB (by
    intro t
    match t with
    | 0 => exact (.as _ _ _ hX)
    | 1 => exact (.val _)
    | t + 2 => simp [envL, upd]; exact .junk _)
  refine wpIn_seq (wpIn_mono (cw_in (CW.of_cx (D := fun _ => none) C3_ok mixed _ (fun e s => e = .normal ∧ HasE s.env [(0, (.as X 5 (xs.map Ln.cs))), (1, .val Y)]) _ (by kernel_rfl) ?_) (hg0.sim hro)) ?_)
  · skip
    repeat' first
      | (with_reducible refine gw_bool (fun _ => ?_) (fun _ => ?_))
      | (with_reducible refine condw_bool (fun _ => ?_) (fun _ => ?_))
      | simp [*, envL, HasE]
  rintro e a w ⟨q1, ro1, lam1, ⟨rfl, hE⟩, -, hs1⟩
  have hg1 := hg0.step hro hs1 hE ⟨hX', rig_flat rfl, trivial⟩
  clear hg0 hs1 hE
  refine wpIn_seq (wpIn_mono (wpIn_seq (Q := fun e a' w' => (e = .normal ∧ firstN errs xs.length = 0 ∧ FG 21 bb n0 ro W [] (some (Ss xs.length)) a' w') ∨ (e = .ret ∧ firstN errs xs.length ≠ 0 ∧ FG 21 bb n0 ro W [(4, .int .i64 (firstN errs xs.length))] none a' w')) ?_) ?_)
  rotate_left
  · rintro e a2 w2 (⟨rfl, hf2, hg2⟩ | ⟨rfl, hf2, hg2⟩)
    · refine wpIn_mono (cw_in (CW.of_cx (D := fun _ => none) C3_ok mixed _ (fun e s => e = .ret ∧ HasE s.env [(4, .int .i64 0)]) _ (by kernel_rfl) ?_) (hg2.sim hro)) ?_
      · skip
        repeat' first
          | (with_reducible refine gw_bool (fun _ => ?_) (fun _ => ?_))
          | (with_reducible refine condw_bool (fun _ => ?_) (fun _ => ?_))
          | simp [*, envL, HasE]
      rintro e a7 w7 ⟨s7, ro7, lam7, ⟨rfl, hE7⟩, -, hs7⟩
      have hg7 := hg2.step hro hs7 hE7 ⟨rig_flat rfl, trivial⟩
      refine ⟨hg7.dfr, _, res_one rfl (r0_int (hg7.env 4)), hg7.kept, by rw [hf2], fun _ => hg7.got _ rfl⟩
    · exact ⟨hg2.dfr, _, res_one rfl (r0_int (hg2.env 4)), hg2.kept, rfl, fun h => absurd h hf2⟩
  refine wpIn_region_list ?_
  refine wpListIn_plain rfl fun K hK => ?_
  refine move_in (t := 0) rfl (hK _ _ ?_)
  have hv0 : a.tmps.getD 0 Go.undef = X := r0_as (hg1.env 0)
  rw [hv0]
  have hg2 : FG 21 bb n0 ro W _ (some (Ss 0)) (a.put (some 8) X) w := hg1.next hro (d := 8) (v := (.as X 5 (xs.map Ln.cs))) (by decide) (Below.refl _ _) (fun w' hk => hX'.at hX hk) (fun S' h => hg1.got S' h)
  clear hg1 hK
  refine eg_in (rest := []) C3_ok (K := fun s => HasE s.env [(1, .val Y), (8, (.as X 5 (xs.map Ln.cs))), (9, .int .i64 xs.length), (10, .int .i64 0)]) [_, _] _ _ _ _ _ (by kernel_rfl) ?_ (hg2.sim hro) ?_
  · skip
    repeat' first
      | (with_reducible refine gw_bool (fun _ => ?_) (fun _ => ?_))
      | (with_reducible refine condw_bool (fun _ => ?_) (fun _ => ?_))
      | simp [*, envL, HasE]
  rintro s3 a3 ro3 lam3 w3 hE hs3
  have hg3 := hg2.step hro hs3 hE ⟨rig_flat rfl, hX', rig_flat rfl, rig_flat rfl, trivial⟩
  clear hg2 hs3 hE
  refine wpIn_block ?_
  · refine wpIn_loop (fun a w => ∃ k : Nat, k ≤ xs.length ∧ firstN errs k = 0 ∧ FG 21 bb n0 ro W [(1, .val Y), (8, (.as X 5 (xs.map Ln.cs))), (9, .int .i64 xs.length), (10, .int .i64 k)] (some (Ss k)) a w) muF ⟨0, by omega, rfl, hg3⟩ ?_
    clear hg3 a w a3 w3 s3 ro3 lam3 q1 ro1 lam1 hv0
    rintro a w ⟨k, hk, hf, hg⟩
    refine wpIn_seq ?_
    by_cases hlt : k < xs.length
    · obtain ⟨n, hn⟩ : ∃ n, xs.length = n := ⟨_, rfl⟩
      rw [hn] at hlt hg ⊢
      have f1 : ilt (k : Int) (n : Int) = true := ilt_t (by omega)
      have w1 : IntKind.i64.wrap ((k : Int) + 1) = ((k + 1 : Nat) : Int) := wrap_succ (by omega)
      obtain ⟨x, hx, hx'⟩ := at_ex (show k < xs.length by omega)
      refine wpIn_mono (cw_in (CW.of_cx (D := fun _ => none) C3_ok mixed _ (fun e s => e = .normal ∧ HasE s.env [(1, .val Y), (8, (.as X 5 (xs.map Ln.cs))), (9, .int .i64 n), (10, .int .i64 k), (11, .bool true)]) _ (by kernel_rfl) ?_) (hg.sim hro)) ?_
      · clear hg hm
        repeat' first
          | (with_reducible refine gw_bool (fun _ => ?_) (fun _ => ?_))
          | (with_reducible refine condw_bool (fun _ => ?_) (fun _ => ?_))
          | simp [*, envL, HasE]
      rintro e a0 w0' ⟨s0, ro0, lam0, ⟨rfl, hE⟩, -, hs0⟩
      have hg0 := hg.step hro hs0 hE ⟨rig_flat rfl, hX', rig_flat rfl, rig_flat rfl, rig_flat rfl, trivial⟩
      have hmu := hg.mu
      clear hg hs0 hE
      refine wpIn_seq ?_
      refine wpIn_mono (cw_in (CW.of_cx (D := fun _ => none) C3_ok mixed _ (fun e s => e = .normal ∧ HasE s.env [(1, .val Y), (8, (.as X 5 (xs.map Ln.cs))), (9, .int .i64 n), (10, .int .i64 k)]) _ (by kernel_rfl) ?_) (hg0.sim hro)) ?_
      · clear hg0 hm hmu
        repeat' first
          | (with_reducible refine gw_bool (fun _ => ?_) (fun _ => ?_))
          | (with_reducible refine condw_bool (fun _ => ?_) (fun _ => ?_))
          | simp [*, envL, HasE]
      rintro e a1 w1' ⟨q1, ro1, lam1, ⟨rfl, hE⟩, -, hs1⟩
      have hg1 := hg0.step hro hs1 hE ⟨rig_flat rfl, hX', rig_flat rfl, rig_flat rfl, trivial⟩
      clear hg0 hs1 hE
      refine wpIn_seq (wpIn_mono (wpIn_block (Q := fun e a' w' => (e = .normal ∧ firstN errs (k + 1) = 0 ∧ FG 21 bb n0 ro W [(1, .val Y), (8, (.as X 5 (xs.map Ln.cs))), (9, .int .i64 n), (10, .int .i64 k)] (some (Ss (k + 1))) a' w') ∨ (e = .ret ∧ firstN errs n ≠ 0 ∧ FG 21 bb n0 ro W [(4, .int .i64 (firstN errs n))] none a' w')) ?_) ?_)
      · refine wpIn_seq ?_
        refine wpIn_mono (cw_in (CW.of_cx (D := fun _ => none) C3_ok mixed _ (fun e s => e = .normal ∧ HasE s.env [(1, .val Y), (8, (.as X 5 (xs.map Ln.cs))), (9, .int .i64 n), (10, .int .i64 k), (6, .ptr 6 0)] ∧ s.heap 6 = some ⟨108, x.cs⟩) _ (by kernel_rfl) ?_) (hg1.sim hro)) ?_
        · clear hg1 hm hmu hf
          repeat' first
            | (with_reducible refine gw_bool (fun _ => ?_) (fun _ => ?_))
            | (with_reducible refine condw_bool (fun _ => ?_) (fun _ => ?_))
            | simp [*, envL, HasE, Ln.cs]
        rintro e a2 w2 ⟨s2, ro2, lam2, ⟨rfl, hE2⟩, -, hs2⟩
        refine wpIn_seq ?_
        refine wpIn_region_list ?_
        rw [← List.take_append_drop 2 (Array.toList _)]
        refine eg_in C3_ok (K := fun s => HasE s.env [(1, .val Y), (8, (.as X 5 (xs.map Ln.cs))), (9, .int .i64 n), (10, .int .i64 k), (14, .val Y), (15, (.agg x.cs))]) _ _ _ _ _ _ (by kernel_rfl) ?_ hs2 ?_
        · clear hg1 hm hmu hs2 hf
          obtain ⟨en, he⟩ := s2
          simp [HasE] at hE2
          repeat' first
            | (with_reducible refine gw_bool (fun _ => ?_) (fun _ => ?_))
            | (with_reducible refine condw_bool (fun _ => ?_) (fun _ => ?_))
            | simp [*, HasE, Ln.cs]
        rintro s4 a4 ro4 lam4 w4 hE4 hs4
        have hz : Rig W ro (.agg x.cs) := rig_flat rfl
        have hg4 := hg1.step hro hs4 hE4 ⟨rig_flat rfl, hX', rig_flat rfl, rig_flat rfl, rig_flat rfl, hz, trivial⟩
        clear hg1 hs4 hE4 hs2 hE2
        refine wpListIn_plain rfl fun K hK => oper_in (callv_wp (g := G) (fs := #[.pointer (some ⟨bb, 0, none⟩)]) (cs := #[]) rfl ?_ hc ?_)
        · rw [← hY]; exact r0_val (hg4.env 14)
        obtain ⟨Z, hZ⟩ : ∃ Z, a4.tmps.getD 15 Go.undef = Z := ⟨_, rfl⟩
        have hZr : R0 w4 ro (.agg x.cs) Z := by
          have := hg4.env 15
          rw [hZ] at this
          exact this
        have hargs : (#[Value.pointer (some ⟨bb, 0, none⟩)] ++ (#[Operand.tmp 15] : Array Operand).map a4.eval ++ #[]) = #[.pointer (some ⟨bb, 0, none⟩), Z] := by
          rw [← hZ]; simp [Act.eval]
        rw [hargs]
        refine (hm k x hx bb n0 ro w4 Z (hg4.got _ rfl) hZr).mono ?_
        rintro e w5 ⟨hb5, rfl, hB5⟩
        refine ⟨_, rfl, hK _ _ ?_⟩
        clear hK
        have hg5 : FG 21 bb n0 ro W _ (if errs k = 0 then some (Ss (k + 1)) else none) (a4.put (some 16) (.int .i64 (errs k))) w5 := hg4.next hro (d := 16) (v := .int .i64 (errs k)) (by decide) hb5 (fun _ _ => .int _ _) (fun S' h => by
          split at h
          · rename_i h0; cases h; exact hB5 h0
          · cases h)
        clear hg4
        refine eg_in (rest := []) C3_ok (K := fun s => HasE s.env [(1, .val Y), (8, (.as X 5 (xs.map Ln.cs))), (9, .int .i64 n), (10, .int .i64 k), (7, .int .i64 (errs k))]) [_] _ _ _ _ _ (by kernel_rfl) ?_ (hg5.sim hro) ?_
        · clear hg5 hm hmu hf
          repeat' first
            | (with_reducible refine gw_bool (fun _ => ?_) (fun _ => ?_))
            | (with_reducible refine condw_bool (fun _ => ?_) (fun _ => ?_))
            | simp [*, envL, HasE]
        rintro s6 a6 ro6 lam6 w6 hE6 hs6
        have hg6 := hg5.step hro hs6 hE6 ⟨rig_flat rfl, hX', rig_flat rfl, rig_flat rfl, rig_flat rfl, trivial⟩
        clear hg5 hs6 hE6
        cases h0 : ieq (errs k) 0
        · have hne : errs k ≠ 0 := by simpa [ieq] using h0
          have hfn : firstN errs n = errs k := firstN_stop hf hne hlt
          refine wpIn_mono (cw_in (CW.of_cx (D := fun _ => none) C3_ok mixed _ (fun e s => e = .ret ∧ HasE s.env [(4, .int .i64 (errs k))]) _ (by kernel_rfl) ?_) (hg6.sim hro)) ?_
          · clear hg6 hm hmu hf hfn hne
            repeat' first
              | (with_reducible refine gw_bool (fun _ => ?_) (fun _ => ?_))
              | (with_reducible refine condw_bool (fun _ => ?_) (fun _ => ?_))
              | simp [*, envL, HasE]
          rintro e a7 w7 ⟨s7, ro7, lam7, ⟨rfl, hE7⟩, -, hs7⟩
          have hg7 := (hg6.step hro hs7 hE7 ⟨rig_flat rfl, trivial⟩).drop
          exact .inr ⟨rfl, by rw [hfn]; exact hne, by rw [hfn]; exact hg7⟩
        · have hz0 : errs k = 0 := by simpa [ieq] using h0
          refine wpIn_mono (cw_in (CW.of_cx (D := fun _ => none) C3_ok mixed _ (fun e s => e = .normal ∧ HasE s.env [(1, .val Y), (8, (.as X 5 (xs.map Ln.cs))), (9, .int .i64 n), (10, .int .i64 k)]) _ (by kernel_rfl) ?_) (hg6.sim hro)) ?_
          · clear hg6 hm hmu hf hz0
            repeat' first
              | (with_reducible refine gw_bool (fun _ => ?_) (fun _ => ?_))
              | (with_reducible refine condw_bool (fun _ => ?_) (fun _ => ?_))
              | simp [*, envL, HasE]
          rintro e a7 w7 ⟨s7, ro7, lam7, ⟨rfl, hE7⟩, -, hs7⟩
          have hg7 := hg6.step hro hs7 hE7 ⟨rig_flat rfl, hX', rig_flat rfl, rig_flat rfl, trivial⟩
          rw [if_pos hz0] at hg7
          exact .inl ⟨rfl, by simp [firstN, hf, hz0], hg7⟩
      · rintro e a2 w2 (⟨rfl, hf2, hg2⟩ | ⟨rfl, hf2, hg2⟩)
        · refine wpIn_mono (cw_in (CW.of_cx (D := fun _ => none) C3_ok mixed _ (fun e s => e = .normal ∧ HasE s.env [(1, .val Y), (8, (.as X 5 (xs.map Ln.cs))), (9, .int .i64 n), (10, .int .i64 ((k + 1 : Nat) : Int))]) _ (by kernel_rfl) ?_) (hg2.sim hro)) ?_
          · clear hg2 hg1 hm hmu hf hf2
            repeat' first
              | (with_reducible refine gw_bool (fun _ => ?_) (fun _ => ?_))
              | (with_reducible refine condw_bool (fun _ => ?_) (fun _ => ?_))
              | simp [*, envL, HasE]
          rintro e a7 w7 ⟨s7, ro7, lam7, ⟨rfl, hE7⟩, -, hs7⟩
          have hg7 := hg2.step hro hs7 hE7 ⟨rig_flat rfl, hX', rig_flat rfl, rig_flat rfl, trivial⟩
          refine ⟨⟨k + 1, by omega, hf2, hg7⟩, ?_⟩
          rw [hmu, hg7.mu]; omega
        · exact .inr ⟨rfl, hf2, hg2⟩
    · have hkn : k = xs.length := by omega
      subst hkn
      refine wpIn_mono (cw_in (CW.of_cx (D := fun _ => none) C3_ok mixed _ (fun e s => e = .normal ∧ HasE s.env [(11, .bool false)]) _ (by kernel_rfl) ?_) (hg.sim hro)) ?_
      · clear hg hm
        repeat' first
          | (with_reducible refine gw_bool (fun _ => ?_) (fun _ => ?_))
          | (with_reducible refine condw_bool (fun _ => ?_) (fun _ => ?_))
          | simp [*, envL, HasE]
      rintro e a0 w0' ⟨s0, ro0, lam0, ⟨rfl, hE⟩, -, hs0⟩
      have hg0 := hg.step hro hs0 hE ⟨rig_flat rfl, trivial⟩
      clear hg hs0 hE
      refine wpIn_seq ?_
      refine wpIn_mono (cw_in (CW.of_cx (D := fun _ => none) C3_ok mixed _ (fun e s => e = .exit 0 ∧ HasE s.env []) _ (by kernel_rfl) ?_) (hg0.sim hro)) ?_
      · clear hg0 hm
        repeat' first
          | (with_reducible refine gw_bool (fun _ => ?_) (fun _ => ?_))
          | (with_reducible refine condw_bool (fun _ => ?_) (fun _ => ?_))
          | simp [*, envL, HasE]
      rintro e a7 w7 ⟨s7, ro7, lam7, ⟨rfl, hE7⟩, -, hs7⟩
      exact .inl ⟨rfl, hf, hg0.step hro hs7 hE7 trivial⟩

theorem firstR_ok {G : FuncId} (hc : callable Try.prog G = true) (xs : List Sr) (hl : xs.length ≤ 1000) (errs : Nat → Int) (Ss : Nat → BS) (hm : ∀ k x, xs[k]? = some x → PEff G (.agg x.cs) (errs k) (Ss k) (Ss (k + 1))) : PFst 73 G (.list 6 (xs.map Sr.cs)) xs.length errs Ss := by
  intro bb n0 ro W X hB hro hX
  obtain ⟨Y, hY⟩ : ∃ Y : Value, Y = .func (.func G) #[.pointer (some ⟨bb, 0, none⟩)] #[] := ⟨_, rfl⟩
  rw [← hY]
  have hn0 := hB.size
  have hX' : Rig W ro (.as X 6 (xs.map Sr.cs)) := rig_as hX
  refine callsIn_wide.1 (callsIn_of_wp (n := 0) Try.func73 rfl trivial ?_ rfl)
  rw [Try.ntmps73]
  have hg0 : FG 21 bb n0 ro W [(0, (.as X 6 (xs.map Sr.cs))), (1, .val Y)] (some (Ss 0)) _ W := FG.start (S := Ss 0) (args := #[X, Y]) (n := 21) (by simp) hro hB (by
    intro t
    match t with
    | 0 => exact (.as _ _ _ hX)
    | 1 => exact (.val _)
    | t + 2 => simp [envL, upd]; exact .junk _)
  refine wpIn_seq (wpIn_mono (cw_in (CW.of_cx (D := fun _ => none) C3_ok mixed _ (fun e s => e = .normal ∧ HasE s.env [(0, (.as X 6 (xs.map Sr.cs))), (1, .val Y)]) _ (by kernel_rfl) ?_) (hg0.sim hro)) ?_)
  · skip
    repeat' first
      | (with_reducible refine gw_bool (fun _ => ?_) (fun _ => ?_))
      | (with_reducible refine condw_bool (fun _ => ?_) (fun _ => ?_))
      | simp [*, envL, HasE]
  rintro e a w ⟨q1, ro1, lam1, ⟨rfl, hE⟩, -, hs1⟩
  have hg1 := hg0.step hro hs1 hE ⟨hX', rig_flat rfl, trivial⟩
  clear hg0 hs1 hE
  refine wpIn_seq (wpIn_mono (wpIn_seq (Q := fun e a' w' => (e = .normal ∧ firstN errs xs.length = 0 ∧ FG 21 bb n0 ro W [] (some (Ss xs.length)) a' w') ∨ (e = .ret ∧ firstN errs xs.length ≠ 0 ∧ FG 21 bb n0 ro W [(4, .int .i64 (firstN errs xs.length))] none a' w')) ?_) ?_)
  rotate_left
  · rintro e a2 w2 (⟨rfl, hf2, hg2⟩ | ⟨rfl, hf2, hg2⟩)
    · refine wpIn_mono (cw_in (CW.of_cx (D := fun _ => none) C3_ok mixed _ (fun e s => e = .ret ∧ HasE s.env [(4, .int .i64 0)]) _ (by kernel_rfl) ?_) (hg2.sim hro)) ?_
      · skip
        repeat' first
          | (with_reducible refine gw_bool (fun _ => ?_) (fun _ => ?_))
          | (with_reducible refine condw_bool (fun _ => ?_) (fun _ => ?_))
          | simp [*, envL, HasE]
      rintro e a7 w7 ⟨s7, ro7, lam7, ⟨rfl, hE7⟩, -, hs7⟩
      have hg7 := hg2.step hro hs7 hE7 ⟨rig_flat rfl, trivial⟩
      refine ⟨hg7.dfr, _, res_one rfl (r0_int (hg7.env 4)), hg7.kept, by rw [hf2], fun _ => hg7.got _ rfl⟩
    · exact ⟨hg2.dfr, _, res_one rfl (r0_int (hg2.env 4)), hg2.kept, rfl, fun h => absurd h hf2⟩
  refine wpIn_region_list ?_
  refine wpListIn_plain rfl fun K hK => ?_
  refine move_in (t := 0) rfl (hK _ _ ?_)
  have hv0 : a.tmps.getD 0 Go.undef = X := r0_as (hg1.env 0)
  rw [hv0]
  have hg2 : FG 21 bb n0 ro W _ (some (Ss 0)) (a.put (some 8) X) w := hg1.next hro (d := 8) (v := (.as X 6 (xs.map Sr.cs))) (by decide) (Below.refl _ _) (fun w' hk => hX'.at hX hk) (fun S' h => hg1.got S' h)
  clear hg1 hK
  refine eg_in (rest := []) C3_ok (K := fun s => HasE s.env [(1, .val Y), (8, (.as X 6 (xs.map Sr.cs))), (9, .int .i64 xs.length), (10, .int .i64 0)]) [_, _] _ _ _ _ _ (by kernel_rfl) ?_ (hg2.sim hro) ?_
  · skip
    repeat' first
      | (with_reducible refine gw_bool (fun _ => ?_) (fun _ => ?_))
      | (with_reducible refine condw_bool (fun _ => ?_) (fun _ => ?_))
      | simp [*, envL, HasE]
  rintro s3 a3 ro3 lam3 w3 hE hs3
  have hg3 := hg2.step hro hs3 hE ⟨rig_flat rfl, hX', rig_flat rfl, rig_flat rfl, trivial⟩
  clear hg2 hs3 hE
  refine wpIn_block ?_
  · refine wpIn_loop (fun a w => ∃ k : Nat, k ≤ xs.length ∧ firstN errs k = 0 ∧ FG 21 bb n0 ro W [(1, .val Y), (8, (.as X 6 (xs.map Sr.cs))), (9, .int .i64 xs.length), (10, .int .i64 k)] (some (Ss k)) a w) muF ⟨0, by omega, rfl, hg3⟩ ?_
    clear hg3 a w a3 w3 s3 ro3 lam3 q1 ro1 lam1 hv0
    rintro a w ⟨k, hk, hf, hg⟩
    refine wpIn_seq ?_
    by_cases hlt : k < xs.length
    · obtain ⟨n, hn⟩ : ∃ n, xs.length = n := ⟨_, rfl⟩
      rw [hn] at hlt hg ⊢
      have f1 : ilt (k : Int) (n : Int) = true := ilt_t (by omega)
      have w1 : IntKind.i64.wrap ((k : Int) + 1) = ((k + 1 : Nat) : Int) := wrap_succ (by omega)
      obtain ⟨x, hx, hx'⟩ := at_ex (show k < xs.length by omega)
      refine wpIn_mono (cw_in (CW.of_cx (D := fun _ => none) C3_ok mixed _ (fun e s => e = .normal ∧ HasE s.env [(1, .val Y), (8, (.as X 6 (xs.map Sr.cs))), (9, .int .i64 n), (10, .int .i64 k), (11, .bool true)]) _ (by kernel_rfl) ?_) (hg.sim hro)) ?_
      · clear hg hm
        repeat' first
          | (with_reducible refine gw_bool (fun _ => ?_) (fun _ => ?_))
          | (with_reducible refine condw_bool (fun _ => ?_) (fun _ => ?_))
          | simp [*, envL, HasE]
      rintro e a0 w0' ⟨s0, ro0, lam0, ⟨rfl, hE⟩, -, hs0⟩
      have hg0 := hg.step hro hs0 hE ⟨rig_flat rfl, hX', rig_flat rfl, rig_flat rfl, rig_flat rfl, trivial⟩
      have hmu := hg.mu
      clear hg hs0 hE
      refine wpIn_seq ?_
      refine wpIn_mono (cw_in (CW.of_cx (D := fun _ => none) C3_ok mixed _ (fun e s => e = .normal ∧ HasE s.env [(1, .val Y), (8, (.as X 6 (xs.map Sr.cs))), (9, .int .i64 n), (10, .int .i64 k)]) _ (by kernel_rfl) ?_) (hg0.sim hro)) ?_
      · clear hg0 hm hmu
        repeat' first
          | (with_reducible refine gw_bool (fun _ => ?_) (fun _ => ?_))
          | (with_reducible refine condw_bool (fun _ => ?_) (fun _ => ?_))
          | simp [*, envL, HasE]
      rintro e a1 w1' ⟨q1, ro1, lam1, ⟨rfl, hE⟩, -, hs1⟩
      have hg1 := hg0.step hro hs1 hE ⟨rig_flat rfl, hX', rig_flat rfl, rig_flat rfl, trivial⟩
      clear hg0 hs1 hE
      refine wpIn_seq (wpIn_mono (wpIn_block (Q := fun e a' w' => (e = .normal ∧ firstN errs (k + 1) = 0 ∧ FG 21 bb n0 ro W [(1, .val Y), (8, (.as X 6 (xs.map Sr.cs))), (9, .int .i64 n), (10, .int .i64 k)] (some (Ss (k + 1))) a' w') ∨ (e = .ret ∧ firstN errs n ≠ 0 ∧ FG 21 bb n0 ro W [(4, .int .i64 (firstN errs n))] none a' w')) ?_) ?_)
      · refine wpIn_seq ?_
        refine wpIn_mono (cw_in (CW.of_cx (D := fun _ => none) C3_ok mixed _ (fun e s => e = .normal ∧ HasE s.env [(1, .val Y), (8, (.as X 6 (xs.map Sr.cs))), (9, .int .i64 n), (10, .int .i64 k), (6, .ptr 6 0)] ∧ s.heap 6 = some ⟨75, x.cs⟩) _ (by kernel_rfl) ?_) (hg1.sim hro)) ?_
        · clear hg1 hm hmu hf
          repeat' first
            | (with_reducible refine gw_bool (fun _ => ?_) (fun _ => ?_))
            | (with_reducible refine condw_bool (fun _ => ?_) (fun _ => ?_))
            | simp [*, envL, HasE, Sr.cs]
        rintro e a2 w2 ⟨s2, ro2, lam2, ⟨rfl, hE2⟩, -, hs2⟩
        refine wpIn_seq ?_
        refine wpIn_region_list ?_
        rw [← List.take_append_drop 2 (Array.toList _)]
        refine eg_in C3_ok (K := fun s => HasE s.env [(1, .val Y), (8, (.as X 6 (xs.map Sr.cs))), (9, .int .i64 n), (10, .int .i64 k), (14, .val Y), (15, (.agg x.cs))]) _ _ _ _ _ _ (by kernel_rfl) ?_ hs2 ?_
        · clear hg1 hm hmu hs2 hf
          obtain ⟨en, he⟩ := s2
          simp [HasE] at hE2
          repeat' first
            | (with_reducible refine gw_bool (fun _ => ?_) (fun _ => ?_))
            | (with_reducible refine condw_bool (fun _ => ?_) (fun _ => ?_))
            | simp [*, HasE, Sr.cs]
        rintro s4 a4 ro4 lam4 w4 hE4 hs4
        have hz : Rig W ro (.agg x.cs) := rig_flat rfl
        have hg4 := hg1.step hro hs4 hE4 ⟨rig_flat rfl, hX', rig_flat rfl, rig_flat rfl, rig_flat rfl, hz, trivial⟩
        clear hg1 hs4 hE4 hs2 hE2
        refine wpListIn_plain rfl fun K hK => oper_in (callv_wp (g := G) (fs := #[.pointer (some ⟨bb, 0, none⟩)]) (cs := #[]) rfl ?_ hc ?_)
        · rw [← hY]; exact r0_val (hg4.env 14)
        obtain ⟨Z, hZ⟩ : ∃ Z, a4.tmps.getD 15 Go.undef = Z := ⟨_, rfl⟩
        have hZr : R0 w4 ro (.agg x.cs) Z := by
          have := hg4.env 15
          rw [hZ] at this
          exact this
        have hargs : (#[Value.pointer (some ⟨bb, 0, none⟩)] ++ (#[Operand.tmp 15] : Array Operand).map a4.eval ++ #[]) = #[.pointer (some ⟨bb, 0, none⟩), Z] := by
          rw [← hZ]; simp [Act.eval]
        rw [hargs]
        refine (hm k x hx bb n0 ro w4 Z (hg4.got _ rfl) hZr).mono ?_
        rintro e w5 ⟨hb5, rfl, hB5⟩
        refine ⟨_, rfl, hK _ _ ?_⟩
        clear hK
        have hg5 : FG 21 bb n0 ro W _ (if errs k = 0 then some (Ss (k + 1)) else none) (a4.put (some 16) (.int .i64 (errs k))) w5 := hg4.next hro (d := 16) (v := .int .i64 (errs k)) (by decide) hb5 (fun _ _ => .int _ _) (fun S' h => by
          split at h
          · rename_i h0; cases h; exact hB5 h0
          · cases h)
        clear hg4
        refine eg_in (rest := []) C3_ok (K := fun s => HasE s.env [(1, .val Y), (8, (.as X 6 (xs.map Sr.cs))), (9, .int .i64 n), (10, .int .i64 k), (7, .int .i64 (errs k))]) [_] _ _ _ _ _ (by kernel_rfl) ?_ (hg5.sim hro) ?_
        · clear hg5 hm hmu hf
          repeat' first
            | (with_reducible refine gw_bool (fun _ => ?_) (fun _ => ?_))
            | (with_reducible refine condw_bool (fun _ => ?_) (fun _ => ?_))
            | simp [*, envL, HasE]
        rintro s6 a6 ro6 lam6 w6 hE6 hs6
        have hg6 := hg5.step hro hs6 hE6 ⟨rig_flat rfl, hX', rig_flat rfl, rig_flat rfl, rig_flat rfl, trivial⟩
        clear hg5 hs6 hE6
        cases h0 : ieq (errs k) 0
        · have hne : errs k ≠ 0 := by simpa [ieq] using h0
          have hfn : firstN errs n = errs k := firstN_stop hf hne hlt
          refine wpIn_mono (cw_in (CW.of_cx (D := fun _ => none) C3_ok mixed _ (fun e s => e = .ret ∧ HasE s.env [(4, .int .i64 (errs k))]) _ (by kernel_rfl) ?_) (hg6.sim hro)) ?_
          · clear hg6 hm hmu hf hfn hne
            repeat' first
              | (with_reducible refine gw_bool (fun _ => ?_) (fun _ => ?_))
              | (with_reducible refine condw_bool (fun _ => ?_) (fun _ => ?_))
              | simp [*, envL, HasE]
          rintro e a7 w7 ⟨s7, ro7, lam7, ⟨rfl, hE7⟩, -, hs7⟩
          have hg7 := (hg6.step hro hs7 hE7 ⟨rig_flat rfl, trivial⟩).drop
          exact .inr ⟨rfl, by rw [hfn]; exact hne, by rw [hfn]; exact hg7⟩
        · have hz0 : errs k = 0 := by simpa [ieq] using h0
          refine wpIn_mono (cw_in (CW.of_cx (D := fun _ => none) C3_ok mixed _ (fun e s => e = .normal ∧ HasE s.env [(1, .val Y), (8, (.as X 6 (xs.map Sr.cs))), (9, .int .i64 n), (10, .int .i64 k)]) _ (by kernel_rfl) ?_) (hg6.sim hro)) ?_
          · clear hg6 hm hmu hf hz0
            repeat' first
              | (with_reducible refine gw_bool (fun _ => ?_) (fun _ => ?_))
              | (with_reducible refine condw_bool (fun _ => ?_) (fun _ => ?_))
              | simp [*, envL, HasE]
          rintro e a7 w7 ⟨s7, ro7, lam7, ⟨rfl, hE7⟩, -, hs7⟩
          have hg7 := hg6.step hro hs7 hE7 ⟨rig_flat rfl, hX', rig_flat rfl, rig_flat rfl, trivial⟩
          rw [if_pos hz0] at hg7
          exact .inl ⟨rfl, by simp [firstN, hf, hz0], hg7⟩
      · rintro e a2 w2 (⟨rfl, hf2, hg2⟩ | ⟨rfl, hf2, hg2⟩)
        · refine wpIn_mono (cw_in (CW.of_cx (D := fun _ => none) C3_ok mixed _ (fun e s => e = .normal ∧ HasE s.env [(1, .val Y), (8, (.as X 6 (xs.map Sr.cs))), (9, .int .i64 n), (10, .int .i64 ((k + 1 : Nat) : Int))]) _ (by kernel_rfl) ?_) (hg2.sim hro)) ?_
          · clear hg2 hg1 hm hmu hf hf2
            repeat' first
              | (with_reducible refine gw_bool (fun _ => ?_) (fun _ => ?_))
              | (with_reducible refine condw_bool (fun _ => ?_) (fun _ => ?_))
              | simp [*, envL, HasE]
          rintro e a7 w7 ⟨s7, ro7, lam7, ⟨rfl, hE7⟩, -, hs7⟩
          have hg7 := hg2.step hro hs7 hE7 ⟨rig_flat rfl, hX', rig_flat rfl, rig_flat rfl, trivial⟩
          refine ⟨⟨k + 1, by omega, hf2, hg7⟩, ?_⟩
          rw [hmu, hg7.mu]; omega
        · exact .inr ⟨rfl, hf2, hg2⟩
    · have hkn : k = xs.length := by omega
      subst hkn
      refine wpIn_mono (cw_in (CW.of_cx (D := fun _ => none) C3_ok mixed _ (fun e s => e = .normal ∧ HasE s.env [(11, .bool false)]) _ (by kernel_rfl) ?_) (hg.sim hro)) ?_
      · clear hg hm
        repeat' first
          | (with_reducible refine gw_bool (fun _ => ?_) (fun _ => ?_))
          | (with_reducible refine condw_bool (fun _ => ?_) (fun _ => ?_))
          | simp [*, envL, HasE]
      rintro e a0 w0' ⟨s0, ro0, lam0, ⟨rfl, hE⟩, -, hs0⟩
      have hg0 := hg.step hro hs0 hE ⟨rig_flat rfl, trivial⟩
      clear hg hs0 hE
      refine wpIn_seq ?_
      refine wpIn_mono (cw_in (CW.of_cx (D := fun _ => none) C3_ok mixed _ (fun e s => e = .exit 0 ∧ HasE s.env []) _ (by kernel_rfl) ?_) (hg0.sim hro)) ?_
      · clear hg0 hm
        repeat' first
          | (with_reducible refine gw_bool (fun _ => ?_) (fun _ => ?_))
          | (with_reducible refine condw_bool (fun _ => ?_) (fun _ => ?_))
          | simp [*, envL, HasE]
      rintro e a7 w7 ⟨s7, ro7, lam7, ⟨rfl, hE7⟩, -, hs7⟩
      exact .inl ⟨rfl, hf, hg0.step hro hs7 hE7 trivial⟩

theorem firstB_ok {G : FuncId} (hc : callable Try.prog G = true) (xs : List By) (hl : xs.length ≤ 1000) (errs : Nat → Int) (Ss : Nat → BS) (hm : ∀ k x, xs[k]? = some x → PEff G (.agg x.cs) (errs k) (Ss k) (Ss (k + 1))) : PFst 75 G (.list 12 (xs.map By.cs)) xs.length errs Ss := by
  intro bb n0 ro W X hB hro hX
  obtain ⟨z, hX⟩ := byRows hX
  obtain ⟨Y, hY⟩ : ∃ Y : Value, Y = .func (.func G) #[.pointer (some ⟨bb, 0, none⟩)] #[] := ⟨_, rfl⟩
  rw [← hY]
  have hn0 := hB.size
  have hX' : Rig W ro (.as X 12 (xs.mapIdx fun k (q : By) => q.csA (z k))) := rig_as hX
  refine callsIn_wide.1 (callsIn_of_wp (n := 0) Try.func75 rfl trivial ?_ rfl)
  rw [Try.ntmps75]
  have hg0 : FG 21 bb n0 ro W [(0, (.as X 12 (xs.mapIdx fun k (q : By) => q.csA (z k)))), (1, .val Y)] (some (Ss 0)) _ W := FG.start (S := Ss 0) (args := #[X, Y]) (n := 21) (by simp) hro hB (by
    intro t
    match t with
    | 0 => exact (.as _ _ _ hX)
    | 1 => exact (.val _)
    | t + 2 => simp [envL, upd]; exact .junk _)
  refine wpIn_seq (wpIn_mono (cw_in (CW.of_cx (D := fun _ => none) C3_ok mixed _ (fun e s => e = .normal ∧ HasE s.env [(0, (.as X 12 (xs.mapIdx fun k (q : By) => q.csA (z k)))), (1, .val Y)]) _ (by kernel_rfl) ?_) (hg0.sim hro)) ?_)
  · skip
    repeat' first
      | (with_reducible refine gw_bool (fun _ => ?_) (fun _ => ?_))
      | (with_reducible refine condw_bool (fun _ => ?_) (fun _ => ?_))
      | simp [*, envL, HasE]
  rintro e a w ⟨q1, ro1, lam1, ⟨rfl, hE⟩, -, hs1⟩
  have hg1 := hg0.step hro hs1 hE ⟨hX', rig_flat rfl, trivial⟩
  clear hg0 hs1 hE
  refine wpIn_seq (wpIn_mono (wpIn_seq (Q := fun e a' w' => (e = .normal ∧ firstN errs xs.length = 0 ∧ FG 21 bb n0 ro W [] (some (Ss xs.length)) a' w') ∨ (e = .ret ∧ firstN errs xs.length ≠ 0 ∧ FG 21 bb n0 ro W [(4, .int .i64 (firstN errs xs.length))] none a' w')) ?_) ?_)
  rotate_left
  · rintro e a2 w2 (⟨rfl, hf2, hg2⟩ | ⟨rfl, hf2, hg2⟩)
    · refine wpIn_mono (cw_in (CW.of_cx (D := fun _ => none) C3_ok mixed _ (fun e s => e = .ret ∧ HasE s.env [(4, .int .i64 0)]) _ (by kernel_rfl) ?_) (hg2.sim hro)) ?_
      · skip
        repeat' first
          | (with_reducible refine gw_bool (fun _ => ?_) (fun _ => ?_))
          | (with_reducible refine condw_bool (fun _ => ?_) (fun _ => ?_))
          | simp [*, envL, HasE]
      rintro e a7 w7 ⟨s7, ro7, lam7, ⟨rfl, hE7⟩, -, hs7⟩
      have hg7 := hg2.step hro hs7 hE7 ⟨rig_flat rfl, trivial⟩
      refine ⟨hg7.dfr, _, res_one rfl (r0_int (hg7.env 4)), hg7.kept, by rw [hf2], fun _ => hg7.got _ rfl⟩
    · exact ⟨hg2.dfr, _, res_one rfl (r0_int (hg2.env 4)), hg2.kept, rfl, fun h => absurd h hf2⟩
  refine wpIn_region_list ?_
  refine wpListIn_plain rfl fun K hK => ?_
  refine move_in (t := 0) rfl (hK _ _ ?_)
  have hv0 : a.tmps.getD 0 Go.undef = X := r0_as (hg1.env 0)
  rw [hv0]
  have hg2 : FG 21 bb n0 ro W _ (some (Ss 0)) (a.put (some 8) X) w := hg1.next hro (d := 8) (v := (.as X 12 (xs.mapIdx fun k (q : By) => q.csA (z k)))) (by decide) (Below.refl _ _) (fun w' hk => hX'.at hX hk) (fun S' h => hg1.got S' h)
  clear hg1 hK
  refine eg_in (rest := []) C3_ok (K := fun s => HasE s.env [(1, .val Y), (8, (.as X 12 (xs.mapIdx fun k (q : By) => q.csA (z k)))), (9, .int .i64 xs.length), (10, .int .i64 0)]) [_, _] _ _ _ _ _ (by kernel_rfl) ?_ (hg2.sim hro) ?_
  · skip
    repeat' first
      | (with_reducible refine gw_bool (fun _ => ?_) (fun _ => ?_))
      | (with_reducible refine condw_bool (fun _ => ?_) (fun _ => ?_))
      | simp [*, envL, HasE, List.length_mapIdx]
  rintro s3 a3 ro3 lam3 w3 hE hs3
  have hg3 := hg2.step hro hs3 hE ⟨rig_flat rfl, hX', rig_flat rfl, rig_flat rfl, trivial⟩
  clear hg2 hs3 hE
  refine wpIn_block ?_
  · refine wpIn_loop (fun a w => ∃ k : Nat, k ≤ xs.length ∧ firstN errs k = 0 ∧ FG 21 bb n0 ro W [(1, .val Y), (8, (.as X 12 (xs.mapIdx fun k (q : By) => q.csA (z k)))), (9, .int .i64 xs.length), (10, .int .i64 k)] (some (Ss k)) a w) muF ⟨0, by omega, rfl, hg3⟩ ?_
    clear hg3 a w a3 w3 s3 ro3 lam3 q1 ro1 lam1 hv0
    rintro a w ⟨k, hk, hf, hg⟩
    refine wpIn_seq ?_
    by_cases hlt : k < xs.length
    · obtain ⟨n, hn⟩ : ∃ n, xs.length = n := ⟨_, rfl⟩
      rw [hn] at hlt hg ⊢
      have f1 : ilt (k : Int) (n : Int) = true := ilt_t (by omega)
      have w1 : IntKind.i64.wrap ((k : Int) + 1) = ((k + 1 : Nat) : Int) := wrap_succ (by omega)
      obtain ⟨x, hx, hx'⟩ := at_ex (show k < xs.length by omega)
      refine wpIn_mono (cw_in (CW.of_cx (D := fun _ => none) C3_ok mixed _ (fun e s => e = .normal ∧ HasE s.env [(1, .val Y), (8, (.as X 12 (xs.mapIdx fun k (q : By) => q.csA (z k)))), (9, .int .i64 n), (10, .int .i64 k), (11, .bool true)]) _ (by kernel_rfl) ?_) (hg.sim hro)) ?_
      · clear hg hm
        repeat' first
          | (with_reducible refine gw_bool (fun _ => ?_) (fun _ => ?_))
          | (with_reducible refine condw_bool (fun _ => ?_) (fun _ => ?_))
          | simp [*, envL, HasE]
      rintro e a0 w0' ⟨s0, ro0, lam0, ⟨rfl, hE⟩, -, hs0⟩
      have hg0 := hg.step hro hs0 hE ⟨rig_flat rfl, hX', rig_flat rfl, rig_flat rfl, rig_flat rfl, trivial⟩
      have hmu := hg.mu
      clear hg hs0 hE
      refine wpIn_seq ?_
      refine wpIn_mono (cw_in (CW.of_cx (D := fun _ => none) C3_ok mixed _ (fun e s => e = .normal ∧ HasE s.env [(1, .val Y), (8, (.as X 12 (xs.mapIdx fun k (q : By) => q.csA (z k)))), (9, .int .i64 n), (10, .int .i64 k)]) _ (by kernel_rfl) ?_) (hg0.sim hro)) ?_
      · clear hg0 hm hmu
        repeat' first
          | (with_reducible refine gw_bool (fun _ => ?_) (fun _ => ?_))
          | (with_reducible refine condw_bool (fun _ => ?_) (fun _ => ?_))
          | simp [*, envL, HasE]
      rintro e a1 w1' ⟨q1, ro1, lam1, ⟨rfl, hE⟩, -, hs1⟩
      have hg1 := hg0.step hro hs1 hE ⟨rig_flat rfl, hX', rig_flat rfl, rig_flat rfl, trivial⟩
      clear hg0 hs1 hE
      refine wpIn_seq (wpIn_mono (wpIn_block (Q := fun e a' w' => (e = .normal ∧ firstN errs (k + 1) = 0 ∧ FG 21 bb n0 ro W [(1, .val Y), (8, (.as X 12 (xs.mapIdx fun k (q : By) => q.csA (z k)))), (9, .int .i64 n), (10, .int .i64 k)] (some (Ss (k + 1))) a' w') ∨ (e = .ret ∧ firstN errs n ≠ 0 ∧ FG 21 bb n0 ro W [(4, .int .i64 (firstN errs n))] none a' w')) ?_) ?_)
      · refine wpIn_seq ?_
        refine wpIn_mono (cw_in (CW.of_cx (D := fun _ => none) C3_ok mixed _ (fun e s => e = .normal ∧ HasE s.env [(1, .val Y), (8, (.as X 12 (xs.mapIdx fun k (q : By) => q.csA (z k)))), (9, .int .i64 n), (10, .int .i64 k), (6, .ptr 6 0)] ∧ s.heap 6 = some ⟨73, x.csA (z k)⟩) _ (by kernel_rfl) ?_) (hg1.sim hro)) ?_
        · clear hg1 hm hmu hf
          repeat' first
            | (with_reducible refine gw_bool (fun _ => ?_) (fun _ => ?_))
            | (with_reducible refine condw_bool (fun _ => ?_) (fun _ => ?_))
            | simp [*, envL, HasE, By.csA, By.cs]
        rintro e a2 w2 ⟨s2, ro2, lam2, ⟨rfl, hE2⟩, -, hs2⟩
        refine wpIn_seq ?_
        refine wpIn_region_list ?_
        rw [← List.take_append_drop 2 (Array.toList _)]
        refine eg_in C3_ok (K := fun s => HasE s.env [(1, .val Y), (8, (.as X 12 (xs.mapIdx fun k (q : By) => q.csA (z k)))), (9, .int .i64 n), (10, .int .i64 k), (14, .val Y), (15, (.agg (x.csA (z k))))]) _ _ _ _ _ _ (by kernel_rfl) ?_ hs2 ?_
        · clear hg1 hm hmu hs2 hf
          obtain ⟨en, he⟩ := s2
          simp [HasE] at hE2
          repeat' first
            | (with_reducible refine gw_bool (fun _ => ?_) (fun _ => ?_))
            | (with_reducible refine condw_bool (fun _ => ?_) (fun _ => ?_))
            | simp [*, HasE, By.csA, By.cs]
        rintro s4 a4 ro4 lam4 w4 hE4 hs4
        have hz : Rig W ro (.agg (x.csA (z k))) := byRig hX hx
        have hg4 := hg1.step hro hs4 hE4 ⟨rig_flat rfl, hX', rig_flat rfl, rig_flat rfl, rig_flat rfl, hz, trivial⟩
        clear hg1 hs4 hE4 hs2 hE2
        refine wpListIn_plain rfl fun K hK => oper_in (callv_wp (g := G) (fs := #[.pointer (some ⟨bb, 0, none⟩)]) (cs := #[]) rfl ?_ hc ?_)
        · rw [← hY]; exact r0_val (hg4.env 14)
        obtain ⟨Z, hZ⟩ : ∃ Z, a4.tmps.getD 15 Go.undef = Z := ⟨_, rfl⟩
        have hZr : R0 w4 ro (.agg x.cs) Z := by
          have := hg4.env 15
          rw [hZ] at this
          exact byList this
        have hargs : (#[Value.pointer (some ⟨bb, 0, none⟩)] ++ (#[Operand.tmp 15] : Array Operand).map a4.eval ++ #[]) = #[.pointer (some ⟨bb, 0, none⟩), Z] := by
          rw [← hZ]; simp [Act.eval]
        rw [hargs]
        refine (hm k x hx bb n0 ro w4 Z (hg4.got _ rfl) hZr).mono ?_
        rintro e w5 ⟨hb5, rfl, hB5⟩
        refine ⟨_, rfl, hK _ _ ?_⟩
        clear hK
        have hg5 : FG 21 bb n0 ro W _ (if errs k = 0 then some (Ss (k + 1)) else none) (a4.put (some 16) (.int .i64 (errs k))) w5 := hg4.next hro (d := 16) (v := .int .i64 (errs k)) (by decide) hb5 (fun _ _ => .int _ _) (fun S' h => by
          split at h
          · rename_i h0; cases h; exact hB5 h0
          · cases h)
        clear hg4
        refine eg_in (rest := []) C3_ok (K := fun s => HasE s.env [(1, .val Y), (8, (.as X 12 (xs.mapIdx fun k (q : By) => q.csA (z k)))), (9, .int .i64 n), (10, .int .i64 k), (7, .int .i64 (errs k))]) [_] _ _ _ _ _ (by kernel_rfl) ?_ (hg5.sim hro) ?_
        · clear hg5 hm hmu hf
          repeat' first
            | (with_reducible refine gw_bool (fun _ => ?_) (fun _ => ?_))
            | (with_reducible refine condw_bool (fun _ => ?_) (fun _ => ?_))
            | simp [*, envL, HasE]
        rintro s6 a6 ro6 lam6 w6 hE6 hs6
        have hg6 := hg5.step hro hs6 hE6 ⟨rig_flat rfl, hX', rig_flat rfl, rig_flat rfl, rig_flat rfl, trivial⟩
        clear hg5 hs6 hE6
        cases h0 : ieq (errs k) 0
        · have hne : errs k ≠ 0 := by simpa [ieq] using h0
          have hfn : firstN errs n = errs k := firstN_stop hf hne hlt
          refine wpIn_mono (cw_in (CW.of_cx (D := fun _ => none) C3_ok mixed _ (fun e s => e = .ret ∧ HasE s.env [(4, .int .i64 (errs k))]) _ (by kernel_rfl) ?_) (hg6.sim hro)) ?_
          · clear hg6 hm hmu hf hfn hne
            repeat' first
              | (with_reducible refine gw_bool (fun _ => ?_) (fun _ => ?_))
              | (with_reducible refine condw_bool (fun _ => ?_) (fun _ => ?_))
              | simp [*, envL, HasE]
          rintro e a7 w7 ⟨s7, ro7, lam7, ⟨rfl, hE7⟩, -, hs7⟩
          have hg7 := (hg6.step hro hs7 hE7 ⟨rig_flat rfl, trivial⟩).drop
          exact .inr ⟨rfl, by rw [hfn]; exact hne, by rw [hfn]; exact hg7⟩
        · have hz0 : errs k = 0 := by simpa [ieq] using h0
          refine wpIn_mono (cw_in (CW.of_cx (D := fun _ => none) C3_ok mixed _ (fun e s => e = .normal ∧ HasE s.env [(1, .val Y), (8, (.as X 12 (xs.mapIdx fun k (q : By) => q.csA (z k)))), (9, .int .i64 n), (10, .int .i64 k)]) _ (by kernel_rfl) ?_) (hg6.sim hro)) ?_
          · clear hg6 hm hmu hf hz0
            repeat' first
              | (with_reducible refine gw_bool (fun _ => ?_) (fun _ => ?_))
              | (with_reducible refine condw_bool (fun _ => ?_) (fun _ => ?_))
              | simp [*, envL, HasE]
          rintro e a7 w7 ⟨s7, ro7, lam7, ⟨rfl, hE7⟩, -, hs7⟩
          have hg7 := hg6.step hro hs7 hE7 ⟨rig_flat rfl, hX', rig_flat rfl, rig_flat rfl, trivial⟩
          rw [if_pos hz0] at hg7
          exact .inl ⟨rfl, by simp [firstN, hf, hz0], hg7⟩
      · rintro e a2 w2 (⟨rfl, hf2, hg2⟩ | ⟨rfl, hf2, hg2⟩)
        · refine wpIn_mono (cw_in (CW.of_cx (D := fun _ => none) C3_ok mixed _ (fun e s => e = .normal ∧ HasE s.env [(1, .val Y), (8, (.as X 12 (xs.mapIdx fun k (q : By) => q.csA (z k)))), (9, .int .i64 n), (10, .int .i64 ((k + 1 : Nat) : Int))]) _ (by kernel_rfl) ?_) (hg2.sim hro)) ?_
          · clear hg2 hg1 hm hmu hf hf2
            repeat' first
              | (with_reducible refine gw_bool (fun _ => ?_) (fun _ => ?_))
              | (with_reducible refine condw_bool (fun _ => ?_) (fun _ => ?_))
              | simp [*, envL, HasE]
          rintro e a7 w7 ⟨s7, ro7, lam7, ⟨rfl, hE7⟩, -, hs7⟩
          have hg7 := hg2.step hro hs7 hE7 ⟨rig_flat rfl, hX', rig_flat rfl, rig_flat rfl, trivial⟩
          refine ⟨⟨k + 1, by omega, hf2, hg7⟩, ?_⟩
          rw [hmu, hg7.mu]; omega
        · exact .inr ⟨rfl, hf2, hg2⟩
    · have hkn : k = xs.length := by omega
      subst hkn
      refine wpIn_mono (cw_in (CW.of_cx (D := fun _ => none) C3_ok mixed _ (fun e s => e = .normal ∧ HasE s.env [(11, .bool false)]) _ (by kernel_rfl) ?_) (hg.sim hro)) ?_
      · clear hg hm
        repeat' first
          | (with_reducible refine gw_bool (fun _ => ?_) (fun _ => ?_))
          | (with_reducible refine condw_bool (fun _ => ?_) (fun _ => ?_))
          | simp [*, envL, HasE]
      rintro e a0 w0' ⟨s0, ro0, lam0, ⟨rfl, hE⟩, -, hs0⟩
      have hg0 := hg.step hro hs0 hE ⟨rig_flat rfl, trivial⟩
      clear hg hs0 hE
      refine wpIn_seq ?_
      refine wpIn_mono (cw_in (CW.of_cx (D := fun _ => none) C3_ok mixed _ (fun e s => e = .exit 0 ∧ HasE s.env []) _ (by kernel_rfl) ?_) (hg0.sim hro)) ?_
      · clear hg0 hm
        repeat' first
          | (with_reducible refine gw_bool (fun _ => ?_) (fun _ => ?_))
          | (with_reducible refine condw_bool (fun _ => ?_) (fun _ => ?_))
          | simp [*, envL, HasE]
      rintro e a7 w7 ⟨s7, ro7, lam7, ⟨rfl, hE7⟩, -, hs7⟩
      exact .inl ⟨rfl, hf, hg0.step hro hs7 hE7 trivial⟩

end Go.Proofs.Ytcbddoopmkhlfaa
