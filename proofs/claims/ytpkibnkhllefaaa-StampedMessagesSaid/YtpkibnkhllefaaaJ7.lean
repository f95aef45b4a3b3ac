/-
  A function with a deferred closure that recovers nothing.
  tlv.Decode of a message; the parts of message.Decode.
  message.Decode.
-/
import Derived.Test.YtpkibnkhllefaaaJ6
import Derived.Recover
section
namespace Go.Pv
open Go.RowKit
set_option linter.unusedSimpArgs false
set_option linter.unusedVariables false
section
variable {P : Program} {n : Nat} {w0 : Base} {ro ro' : Nat → Prop} {lam lam' : Lam} {st st' : St} {a a' : Act} {w w' W : World} {h : Nat → Option Blk}
theorem Sim.defer (hs : Sim w0 n ro lam st a w) (d : Deferred) : Sim ⟨w, ownB lam, d :: a.defers⟩ n ro lam st { a with defers := d :: a.defers } w :=
  ⟨Base.Keeps.refl _ _ _, rfl, hs.size, hs.rolt, hs.env, hs.heap, hs.dead, fun key b m h => ⟨.inl ⟨key, .inl ⟨m, h⟩⟩, (hs.own key b m h).2⟩, hs.inj, fun key b h => ⟨⟨.inl ⟨key, .inr h⟩, (hs.maps key b h).1.2⟩, (hs.maps key b h).2⟩⟩
theorem mkfunc_wp {o : Oper} {f : FuncId} {cs : Array Operand} {K : Act → World → Prop} {QQ : Exit → Act → World → Prop} (ho : o.op = .makeFunc (.func f) #[] cs) (h : K (a.put o.dst (.func (.func f) #[] (cs.map a.eval))) w) : o.wp P a w K QQ := by
  have hrun : (execOp a.eval o).run P w = .ok (.value (.func (.func f) #[] (cs.map a.eval))) w := by simp [execOp, ho, Instr.makeFunc]
  unfold Oper.wp; rw [hrun]; exact h
theorem defer_wp {o : Oper} {f : FuncId} {x : Operand} {ts : Array TypeId} {cs : Array Value} {K : Act → World → Prop} {QQ : Exit → Act → World → Prop} (ho : o.op = .defer { callee := .value x, args := #[], argTypes := ts }) (hx : a.eval x = .func (.func f) #[] cs)
    (h : K ({ a with defers := { target := .fn (.func f) cs, args := #[] } :: a.defers }.put o.dst Go.undef) w) : o.wp P a w K QQ := by
  have hrun : (execOp a.eval o).run P w = .ok (.defer { target := .fn (.func f) cs, args := #[] }) w := by simp [execOp, ho, resolve, hx, Deferred.ofValue]
  unfold Oper.wp; rw [hrun]; exact h
/-- The end of a function with one deferred closure, which does nothing to the memory that there is. -/
theorem leave_defer {fn : Func} {v : V} {W0 w1 w4 : World} {st1 st4 : St} {ro1 ro4 : Nat → Prop} {lam1 lam4 : Lam} {a1 a4 : Act} {d : Deferred} {e : Exit}
    (hro : ∀ b, ro b → ro1 b) (hro2 : ∀ b, ro1 b → ro b ∨ W0.heap.size ≤ b) (s1 : Sim (.of W0) n ro1 lam1 st1 a1 w1) (he : Fin P fn.results.toList (fun u => u = v) e st4) (x4 : Ext ⟨w1, ownB lam1, [d]⟩ ro1 ro4) (s4 : Sim ⟨w1, ownB lam1, [d]⟩ n ro4 lam4 st4 a4 w4)
    {fv : Fn} {cap dargs args : Array Value} {f : FuncId} (hd : d = { target := .fn fv cap, args := dargs }) (hi : ∀ w, (invoke (.fn fv cap) dargs).run P w = .ok (.enter f args) w)
    (hc : ∀ w, CallsD P f args .returning w fun e u' w' => (∃ v, e = .returned v) ∧ u' = .returning ∧ Below w.heap.size w w') :
    bodyPostD P fn (fun e w' => ∃ rv ro', e = Ending.returned rv ∧ Below W0.heap.size W0 w' ∧ (∀ b, ro b → ro' b) ∧ (∀ b, ro' b → ro b ∨ W0.heap.size ≤ b) ∧ (∀ b, ro' b → b < w'.heap.size) ∧ R0 w' ro' v rv) e a4 w4 := by
  have key : Leaves P fn a4.tmps (fun e w' => ∃ rv ro', e = Ending.returned rv ∧ Below W0.heap.size W0 w' ∧ (∀ b, ro b → ro' b) ∧ (∀ b, ro' b → ro b ∨ W0.heap.size ≤ b) ∧ (∀ b, ro' b → b < w'.heap.size) ∧ R0 w' ro' v rv) a4.defers .returning w4 := by
    rw [s4.dfr]
    show Leaves P fn a4.tmps _ [d] .returning w4
    rw [hd]
    refine leaves_cons (by simp) (hi w4) ((hc w4).mono fun e u' w5 hh => ?_)
    obtain ⟨⟨z, rfl⟩, rfl, hb⟩ := hh
    have s5 := s4.world hb
    obtain ⟨he', us, ws, h1, h2, h3⟩ := he
    obtain ⟨zs, hz, hra⟩ := resL_sound s5 _ us h1
    obtain ⟨hlen, hat⟩ := lendAs_RA s5 h2 hra
    have hrun := results_run fn a4.tmps w5 hz
    have hk : Base.Keeps (.of W0) w5 := s1.below.but s5.below.os s5.below.tape s5.below.output s5.below.size (fun k hk hf => s5.below.block k hk (fun ⟨key, h⟩ => hf (s1.ob h).1))
    have hfree : ∀ b, Base.Free ⟨w1, ownB lam1, [d]⟩ b → W0.heap.size ≤ b := fun b h => by
      rcases h with ⟨k, h⟩ | h
      · exact (s1.ob h).1.resolve_left (fun h => h)
      · exact Nat.le_trans s1.below.size h
    show Leaves P fn a4.tmps _ [] .returning w5
    refine ⟨_, hrun, _, roOwn ro4 lam4, rfl, hk.below, fun b hb => .inl (x4.1 b (hro b hb)), fun b hb => ?_, fun b hb => ?_, ?_⟩
    · rcases hb with hb | ⟨key, hb⟩
      · rcases x4.2 b hb with h | h
        · exact hro2 b h
        · exact .inr (hfree b h)
      · exact .inr (hfree b (s5.ob hb).1)
    · rcases hb with hb | ⟨key, hb⟩
      · exact s5.rolt b hb
      · exact (s5.ob hb).2.1
    · subst h3
      by_cases hone : zs.length = 1
      · obtain ⟨x, rfl⟩ := List.length_eq_one_iff.1 hone
        obtain ⟨y, rfl⟩ := List.length_eq_one_iff.1 (hlen.trans hone)
        simp only [List.size_toArray, List.length_cons, List.length_nil, dite_true, one]
        exact hat 0 y x rfl rfl
      · have : one ws = .tup ws := by
          unfold one
          split
          · rename_i y; rw [← hlen] at hone; simp at hone
          · rfl
        rw [this, dif_neg (by simpa using hone)]
        exact .tup _ _ (by simpa using hlen.symm) fun j c x hc hx => hat j c x hc (by simpa using hx)
  rcases he.1 with rfl | rfl
  · exact key
  · exact key
end
end Go.Pv
namespace Go.Proofs.Ytpkibnkhllefaaa
open Go.Pv Go.RowKit
set_option linter.unusedSimpArgs false
set_option linter.unusedVariables false
set_option maxRecDepth 100000
set_option maxHeartbeats 4000000
theorem dec_def (x y : Value) (w : World) : CallsD Try.prog 23 #[x, y] .returning w fun e u' w' => (∃ v, e = .returned v) ∧ u' = .returning ∧ Below w.heap.size w w' := by
  refine callsD_of_wpS Try.func23 rfl fun c₀ cs hu => ?_
  refine wpS_seq (wpS_region ?_)
  simp [wpOpsS, go_sem, recoverD, hu, Try.ntmps23, Exit.thenS]
  refine wpS_of_wp (wp_block (wp_seq (wp_region_list (wpList_plain rfl fun K1 hK1 => ?_))))
  simp [Oper.wp, Oper.upon, execOp, Act.eval, Act.put, go_sem]
  refine hK1 _ _ ?_
  refine wp_cond_true (by simp [Act.eval]) (wp_region_list (wpList_plain rfl fun K2 hK2 => ?_))
  simp [Oper.wp, Oper.upon, execOp, Act.eval, Act.put, go_sem]
  refine hK2 _ _ ?_
  simp [wpList, Exit.inBlock, bodyPostS, results, Try.results23]
  exact ⟨.returning, by rw [← hu], rfl, Below.refl _ _⟩
end Go.Proofs.Ytpkibnkhllefaaa
end
section
namespace Go.Proofs.Ytpkibnkhllefaaa
open Go.Pv Go.RowKit
set_option linter.unusedSimpArgs false
set_option linter.unusedVariables false
set_option maxRecDepth 100000
set_option maxHeartbeats 4000000

theorem L1_pos (n : Int) (ks bs) : ∀ x ∈ L1 n, x.ok ks bs ∧ 0 < x.bs.length := fun x hx => ⟨L1_ok n ks bs x hx, by
  simp only [L1, List.mem_singleton] at hx; subst hx; simp [Nd.bs]⟩
theorem L8_pos (p t s f q st se r n : Int) : ∀ x ∈ L8 p t s f q st se r n, x.ok ((L1 n).map Nd.cs) (enc (L1 n)) ∧ 0 < x.bs.length := fun x hx => ⟨L8_ok p t s f q st se r n x hx, by
  simp only [L8, List.mem_cons, List.not_mem_nil, or_false] at hx
  rcases hx with rfl | rfl | rfl | rfl | rfl | rfl | rfl | rfl
  all_goals first | simp [Nd.bs, mb]; done | (simp only [Nd.bs]; rw [enc1]; decide)⟩
theorem rea1 (n : Int) : ReaOk ((L1 n).map Nd.cs) (enc (L1 n)) 2 := rea_gen (L1 n) 2 (by decide) [] [] (rea_nil _) (L1_pos n _ _) (by rw [enc1]; decide) (by simp [L1])
theorem rea8 (p t s f q st se r n : Int) : ReaOk ((L8 p t s f q st se r n).map Nd.cs) (enc (L8 p t s f q st se r n)) 1 := rea_gen _ 1 (by decide) _ _ (rea1 n) (L8_pos p t s f q st se r n) (by rw [enc8]; decide) (by simp [L8])
def L0 (p t s f q st se r n : Int) : List Nd := [.k 97 ((L8 p t s f q st se r n).map Nd.cs) (enc (L8 p t s f q st se r n))]
theorem L0_pos (p t s f q st se r n : Int) : ∀ x ∈ L0 p t s f q st se r n, x.ok ((L8 p t s f q st se r n).map Nd.cs) (enc (L8 p t s f q st se r n)) ∧ 0 < x.bs.length := fun x hx => by
  simp only [L0, List.mem_singleton] at hx
  subst hx
  exact ⟨⟨⟨by decide, by rw [enc8]; decide⟩, rfl, rfl⟩, by simp only [Nd.bs]; rw [enc8]; decide⟩
theorem enc0 (p t s f q st se r n : Int) : enc (L0 p t s f q st se r n) = msB p t s f q st se r n := rfl
theorem msB_len (p t s f q st se r n : Int) : (msB p t s f q st se r n).length = 35 := rfl
theorem rea0 (p t s f q st se r n : Int) : ReaOk [[.int .i64 97, .nils, .list 3 ((L8 p t s f q st se r n).map Nd.cs)]] (msB p t s f q st se r n) 0 := rea_gen (L0 p t s f q st se r n) 0 (by decide) _ _ (rea8 p t s f q st se r n) (L0_pos p t s f q st se r n) (by rw [enc0, msB_len]; decide) (by simp [L0])
theorem tdec_ok (p t s f q st se r n : Int) : PCall Try.prog 24 [.list 1 ((msB p t s f q st se r n).map u1)] (.tup [.list 3 [[.int .i64 97, .nils, .list 3 ((L8 p t s f q st se r n).map Nd.cs)]], .int .i64 0]) := by
  have h := rea0 p t s f q st se r n
  unfold ReaOk at h
  have hl : ((msB p t s f q st se r n).map u1).length = 35 := by simp [msB_len]
  generalize (msB p t s f q st se r n).map u1 = X at *
  generalize (L8 p t s f q st se r n).map Nd.cs = R8 at *
  have HX_ok := H1_ok h (by kernel_rfl)
  have t1 := T1_at [.list 1 X, .int .i64 0] (.tup [.list 3 [[.int .i64 97, .nils, .list 3 R8]], .int .i64 0])
  refine pcall_cx HX_ok mixed (fun _ => none) Try.func24 rfl Try.ntmps24 Try.results24 (by simp) (by kernel_rfl) ?_
  repeat' first
    | (with_reducible refine gw_bool (fun _ => ?_) (fun _ => ?_))
    | (with_reducible refine condw_bool (fun _ => ?_) (fun _ => ?_))
    | simp [*]
/-- The nodes of a message, as they are read. -/
def rows8 (p t st se r n : Int) (b0 b1 b2 b3 b4 b5 b6 b7 : Int) : List (List V) :=
  [n1 128 p, n1 129 t, n8 130 b0 b1 b2 b3 b4 b5 b6 b7, n1 131 st, n1 132 se, n1 133 0, n1 134 r, [.int .i64 167, .nils, .list 3 [n1 133 n]]]
theorem ord_ok (p t st se r n : Int) (b0 b1 b2 b3 b4 b5 b6 b7 : Int) : PCall Try.prog 26 [.list 3 (rows8 p t st se r n b0 b1 b2 b3 b4 b5 b6 b7)] (.bool true) := by
  refine pcall_cx noTab_ok mixed (fun _ => none) Try.func26 rfl Try.ntmps26 Try.results26 (by simp) (by kernel_rfl) ?_
  repeat' first
    | (with_reducible refine gw_bool (fun _ => ?_) (fun _ => ?_))
    | (with_reducible refine condw_bool (fun _ => ?_) (fun _ => ?_))
    | (refine lp_unroll (D := (fun _ => none)) noTab_ok mixed (by kernel_rfl) ?_)
    | simp [*, rows8, n1, n8]
end Go.Proofs.Ytpkibnkhllefaaa
end
section
namespace Go.Proofs.Ytpkibnkhllefaaa
open Go.Pv Go.RowKit
set_option linter.unusedSimpArgs false
set_option linter.unusedVariables false
set_option maxRecDepth 100000
set_option maxHeartbeats 4000000

def Tfield : List V → Option V
  | [.agg [.int .i64 _, .list 1 [[.int .u8 a]], .nils], .int .i64 k] => if k = 2 then (if 0 ≤ a ∧ a < 128 then some (.agg (vI a)) else none) else if k = 1 then (if a = 0 then some (.agg (vB a)) else none) else none
  | [.agg [.int .i64 _, .list 1 [[.int .u8 a], [.int .u8 b], [.int .u8 c], [.int .u8 d], [.int .u8 e], [.int .u8 f], [.int .u8 g], [.int .u8 h]], .nils], .int .i64 k] => if k = 5 then (if by8 a b c d e f g h then some (.agg (vT (jn (jn (jn a b) c) d) (jn (jn e f) g) h)) else none) else none
  | _ => none
theorem field_tab : ∀ vs u, Tfield vs = some u → PCall Try.prog 27 vs u := by
  intro vs u h; unfold Tfield at h; split at h
  · split at h
    · rename_i hk; subst hk
      split at h
      · rename_i hc; cases h; exact fieldI_ok _ _ hc.1 hc.2
      · cases h
    · split at h
      · rename_i hk; subst hk
        split at h
        · rename_i hc; cases h; subst hc; exact fieldB_ok _ _ (.inl rfl)
        · cases h
      · cases h
  · split at h
    · rename_i hk; subst hk
      split at h
      · rename_i hc; cases h; exact fieldT_ok _ _ _ _ _ _ _ _ _ hc
      · cases h
    · cases h
  · cases h
def Tref : List V → Option V
  | [.int .i64 n] => if n = 0 then some (.tup []) else none
  | _ => none
theorem ref_tab : ∀ vs u, Tref vs = some u → PCall Try.prog 25 vs u := by
  intro vs u h; unfold Tref at h; split at h
  · split at h
    · rename_i hc; cases h; subst hc; exact refuse_ok
    · cases h
  · cases h
def G50 : Tab := add 25 Tref (add 27 Tfield (addF 21 Thd (addF 28 Tvalues (noTab))))
theorem G50_at (f : FuncId) (vs : List V) : G50.at' f vs = if f = 25 then Tref vs else if f = 27 then Tfield vs else if f = 21 then Thd vs else if f = 28 then Tvalues vs else noTab.at' f vs := rfl
theorem G50_fr (f : FuncId) : G50.fr f = if f = 25 then false else if f = 27 then false else if f = 21 then true else if f = 28 then true else noTab.fr f := rfl
theorem G50_gb (f : FuncId) : G50.gb f = noTab.gb f := rfl
theorem G50_gv (f : FuncId) (vs : List V) : G50.gv f vs = noTab.gv f vs := rfl
attribute [simp] G50_at G50_fr G50_gb G50_gv Tfield Thd Tref Tvalues
theorem G50_ok : TabOK Try.prog G50 := by
  refine add_ok (add_ok (addF_ok (addF_ok (noTab_ok) (by kernel_rfl) ?_) (by kernel_rfl) ?_) (by kernel_rfl) ?_) (by kernel_rfl) ?_
  · exact values_tab
  · exact hd_tab
  · exact field_tab
  · exact ref_tab
noncomputable def HC (vs : List V) (u : V) : Tab := add 25 Tref (H1 19 vs u)
theorem HC_at (vs : List V) (u : V) (g : FuncId) (ws : List V) : (HC vs u).at' g ws = if g = 25 then Tref ws else (H1 19 vs u).at' g ws := rfl
theorem HC_fr (vs : List V) (u : V) (g : FuncId) : (HC vs u).fr g = if g = 25 then false else (H1 19 vs u).fr g := rfl
theorem HC_gb (vs : List V) (u : V) (g : FuncId) : (HC vs u).gb g = noTab.gb g := rfl
theorem HC_gv (vs : List V) (u : V) (g : FuncId) (ws : List V) : (HC vs u).gv g ws = noTab.gv g ws := rfl
attribute [simp] HC_at HC_fr HC_gb HC_gv
def vI0 : List V := [.int .i64 0, .int .i64 0, .str ⟨#[]⟩, .int .i64 0, .int .i64 0, .int .i64 0]
def mz : List V := msC 0 0 0 0 0 0 0 false 0 .nils
theorem decm_ok (p t st se r n b0 b1 b2 b3 b4 b5 b6 b7 : Int) (X : List (List V)) (hb : by8 b0 b1 b2 b3 b4 b5 b6 b7) (hm : okM p t (jn (jn (jn b0 b1) b2) b3) (jn (jn b4 b5) b6) b7 st se r) (hn : 0 ≤ n ∧ n < 128)
    (hd : PCall Try.prog 24 [.list 1 X] (.tup [.list 3 [[.int .i64 97, .nils, .list 3 (rows8 p t st se r n b0 b1 b2 b3 b4 b5 b6 b7)]], .int .i64 0])) :
    PCall Try.prog 12 [.list 1 X] (.tup [.agg (msC p t (jn (jn (jn b0 b1) b2) b3) (jn (jn b4 b5) b6) b7 st se false r (.list 6 [vI n])), .int .i64 0]) := by
  intro w ro args hro hsz hr
  refine calls_of_wp_defers Try.func12 rfl ?_
  have hs := sim_ini (n := 97) hro hsz (by simp) hr
  refine wp_seq (wp_mono ((?_ : CW Try.prog 97 _ (fun e s => e = .normal ∧ (s.env 0 = .list 1 X ∧ s.env 2 = .ptr 2 0 ∧ s.env 3 = .ptr 3 0 ∧ s.heap = upd (upd (fun _ => none) 2 (some ⟨50, mz⟩)) 3 (some ⟨32, [.int .i64 0]⟩))) _) (.of w) ro _ _ w hs) fun e a1 w1 hh => ?_)
  · refine CW.of_cx (D := (fun _ => none)) noTab_ok mixed _ _ _ (by kernel_rfl) ?_
    repeat' first
      | (with_reducible refine gw_bool (fun _ => ?_) (fun _ => ?_))
      | (with_reducible refine condw_bool (fun _ => ?_) (fun _ => ?_))
      | simp [*, mz, msC]
  obtain ⟨st1, ro1, lam1, ⟨rfl, k0, k2, k3, kh⟩, x1, s1⟩ := hh
  obtain ⟨C, hC⟩ : ∃ C : Array Value, (#[.tmp 2, .tmp 3] : Array Operand).map a1.eval = C := ⟨_, rfl⟩
  refine wp_seq (wp_region_list (wpList_plain rfl fun K1 hK1 => mkfunc_wp (f := 23) (cs := #[.tmp 2, .tmp 3]) rfl (hK1 _ _ (wpList_plain rfl fun K2 hK2 => defer_wp (f := 23) (cs := C) rfl ?_ (hK2 _ _ ?_)))))
  · have h9 := s1.size
    show ((a1.put (some 10) _).tmps.getD 10 Go.undef) = _
    rw [getD_put (by omega), hC]
    simp
  rw [hC]
  have hs1 : Sim (.of w) 97 ro1 lam1 (st1.put (some 10) .junk) (a1.put (some 10) (.func (.func 23) #[] C)) w1 := s1.put rfl (.pure _ _ (.junk _))
  have hd1 : a1.defers = [] := s1.dfr
  have hs2 := (hs1.defer { target := .fn (.func 23) C, args := #[] })
  have e9 : (a1.put (some 10) (.func (.func 23) #[] C)).defers = [] := hd1
  show Code.wp _ _ _ _ _
  refine wp_mono ((?_ : CW Try.prog 97 _ (Fin Try.prog Try.f12.results.toList (fun u => u = .tup [.agg (msC p t (jn (jn (jn b0 b1) b2) b3) (jn (jn b4 b5) b6) b7 st se false r (.list 6 [vI n])), .int .i64 0])) (st1.put (some 10) .junk)) _ _ _ _ _ hs2) fun e a4 w4 hh => ?_
  case' refine_2 =>
    obtain ⟨st4, ro4, lam4, f4, x4, s4⟩ := hh
    rw [e9] at x4 s4
    have hC2 : C = #[a1.eval (.tmp 2), a1.eval (.tmp 3)] := by rw [← hC]; simp
    rw [hC2] at x4 s4
    refine leave_defer (d := { target := .fn (.func 23) #[a1.eval (.tmp 2), a1.eval (.tmp 3)], args := #[] }) (fun b hb => x1.1 b hb) (fun b hb => (x1.2 b hb).imp id (fun h => h.resolve_left (fun h => h))) s1 f4 x4 s4 rfl (fun w' => ?_) (fun w5 => dec_def (a1.eval (.tmp 2)) (a1.eval (.tmp 3)) w5)
    simp [invoke, callFunc_run (P := Try.prog) (f := 23) (by kernel_rfl)]
  clear hK1 hK2 hs1 hs2 e9 hd1 hC s1 x1 hs hr hsz hro
  obtain ⟨e, h⟩ := st1
  simp only at k0 k2 k3 kh
  subst kh
  simp only [St.put]
  have tH := T1_at [.list 1 X] (.tup [.list 3 [[.int .i64 97, .nils, .list 3 (rows8 p t st se r n b0 b1 b2 b3 b4 b5 b6 b7)]], .int .i64 0])
  have hO := ord_ok p t st se r n b0 b1 b2 b3 b4 b5 b6 b7
  have tO := T1_at [.list 3 (rows8 p t st se r n b0 b1 b2 b3 b4 b5 b6 b7)] (.bool true)
  refine cut (K := fun s => (s.env 2 = .ptr 2 0 ∧ s.env 3 = .ptr 3 0 ∧ s.heap 2 = some ⟨50, mz⟩ ∧ s.heap 3 = some ⟨32, [.int .i64 0]⟩ ∧ s.heap 8 = none) ∧ s.heap 6 = none ∧ s.env 4 = .list 3 [[.int .i64 97, .nils, .list 3 (rows8 p t st se r n b0 b1 b2 b3 b4 b5 b6 b7)]]) ?_ ?_
  · have HX_ok := H1_ok hd (by kernel_rfl)
    refine CW.of_cx (D := (fun _ => none)) HX_ok mixed _ _ _ (by kernel_rfl) ?_
    repeat' first
      | (with_reducible refine gw_bool (fun _ => ?_) (fun _ => ?_))
      | (with_reducible refine condw_bool (fun _ => ?_) (fun _ => ?_))
      | simp [*]
  rintro ⟨e, h⟩ ⟨⟨g2, g3, q2, q3, q8⟩, q6, g4⟩
  simp only at g2 g3 q2 q3 q6 q8 g4
  refine cut (K := fun s => (s.env 2 = .ptr 2 0 ∧ s.env 3 = .ptr 3 0 ∧ s.heap 2 = some ⟨50, mz⟩ ∧ s.heap 3 = some ⟨32, [.int .i64 0]⟩ ∧ s.heap 8 = none) ∧ s.heap 6 = none ∧ s.env 4 = .list 3 [[.int .i64 97, .nils, .list 3 (rows8 p t st se r n b0 b1 b2 b3 b4 b5 b6 b7)]]) ?_ ?_
  · refine CW.of_cx (D := (fun _ => none)) G50_ok mixed _ _ _ (by kernel_rfl) ?_
    repeat' first
      | (with_reducible refine gw_bool (fun _ => ?_) (fun _ => ?_))
      | (with_reducible refine condw_bool (fun _ => ?_) (fun _ => ?_))
      | simp [*]
  clear g2 g3 q2 q3 q6 q8 g4 tH hd
  rintro ⟨e, h⟩ ⟨⟨g2, g3, q2, q3, q8⟩, q6, g4⟩
  simp only at g2 g3 q2 q3 q6 q8 g4
  refine cut (K := fun s => (s.env 2 = .ptr 2 0 ∧ s.env 3 = .ptr 3 0 ∧ s.heap 2 = some ⟨50, mz⟩ ∧ s.heap 3 = some ⟨32, [.int .i64 0]⟩ ∧ s.heap 8 = none) ∧ s.heap 6 = none ∧ s.env 4 = .list 3 [[.int .i64 97, .nils, .list 3 (rows8 p t st se r n b0 b1 b2 b3 b4 b5 b6 b7)]]) ?_ ?_
  · have HX_ok := H1_ok hO (by kernel_rfl)
    refine CW.of_cx (D := (fun _ => none)) HX_ok mixed _ _ _ (by kernel_rfl) ?_
    repeat' first
      | (with_reducible refine gw_bool (fun _ => ?_) (fun _ => ?_))
      | (with_reducible refine condw_bool (fun _ => ?_) (fun _ => ?_))
      | simp [*]
  clear g2 g3 q2 q3 q6 q8 g4 tO hO
  rintro ⟨e, h⟩ ⟨⟨g2, g3, q2, q3, q8⟩, q6, g4⟩
  simp only at g2 g3 q2 q3 q6 q8 g4
  refine cut (K := fun s => (s.env 2 = .ptr 2 0 ∧ s.env 3 = .ptr 3 0 ∧ s.heap 2 = some ⟨50, mz⟩ ∧ s.heap 3 = some ⟨32, [.int .i64 0]⟩ ∧ s.heap 8 = none) ∧ s.heap 6 = none ∧ s.env 5 = .list 3 (rows8 p t st se r n b0 b1 b2 b3 b4 b5 b6 b7)) ?_ ?_
  · refine CW.of_cx (D := (fun _ => none)) G50_ok mixed _ _ _ (by kernel_rfl) ?_
    repeat' first
      | (with_reducible refine gw_bool (fun _ => ?_) (fun _ => ?_))
      | (with_reducible refine condw_bool (fun _ => ?_) (fun _ => ?_))
      | simp [*]
  clear g2 g3 q2 q3 q6 q8 g4
  rintro ⟨e, h⟩ ⟨⟨g2, g3, q2, q3, q8⟩, q6, g5⟩
  simp only at g2 g3 q2 q3 q6 q8 g5
  refine cut (K := fun s => (s.env 2 = .ptr 2 0 ∧ s.env 3 = .ptr 3 0 ∧ s.heap 2 = some ⟨50, mz⟩ ∧ s.heap 3 = some ⟨32, [.int .i64 0]⟩ ∧ s.heap 8 = none) ∧ s.heap 6 = some ⟨75, vI0 ++ vI0 ++ vI0 ++ vI0 ++ vI0 ++ vI0 ++ vI0⟩ ∧ s.env 6 = .ptr 6 0 ∧ s.env 5 = .list 3 (rows8 p t st se r n b0 b1 b2 b3 b4 b5 b6 b7)) ?_ ?_
  · refine CW.of_cx (D := (fun _ => none)) G50_ok mixed _ _ _ (by kernel_rfl) ?_
    repeat' first
      | (with_reducible refine gw_bool (fun _ => ?_) (fun _ => ?_))
      | (with_reducible refine condw_bool (fun _ => ?_) (fun _ => ?_))
      | simp [*, vI0]
  clear g2 g3 q2 q3 q6 q8 g5
  rintro ⟨e, h⟩ ⟨⟨g2, g3, q2, q3, q8⟩, q6, g6, g5⟩
  simp only at g2 g3 q2 q3 q6 q8 g5 g6
  obtain ⟨S, hS⟩ : ∃ S, jn (jn (jn b0 b1) b2) b3 = S := ⟨_, rfl⟩
  obtain ⟨F, hF⟩ : ∃ F, jn (jn b4 b5) b6 = F := ⟨_, rfl⟩
  rw [hS, hF] at hm ⊢
  refine cut (K := fun s => (s.env 2 = .ptr 2 0 ∧ s.env 3 = .ptr 3 0 ∧ s.heap 2 = some ⟨50, mz⟩ ∧ s.heap 3 = some ⟨32, [.int .i64 0]⟩ ∧ s.heap 8 = none) ∧ s.heap 6 = some ⟨75, vI p ++ vI t ++ vT S F b7 ++ vI st ++ vI se ++ vB 0 ++ vI r⟩ ∧ s.env 6 = .ptr 6 0 ∧ s.env 5 = .list 3 (rows8 p t st se r n b0 b1 b2 b3 b4 b5 b6 b7)) ?_ ?_
  · simp only [vI0, List.cons_append, List.nil_append] at q6
    obtain ⟨⟨a1, ⟨a20, a21⟩, a3⟩, ⟨a40, a41⟩, a5, a6⟩ := hm
    have a2 : 0 ≤ t ∧ t < 128 := ⟨by omega, a21⟩
    have a4 : 0 ≤ st ∧ st < 128 := ⟨by omega, a41⟩
    clear a20 a21 a40 a41
    refine CW.of_cx (D := (fun _ => none)) G50_ok mixed _ _ _ (by kernel_rfl) ?_
    repeat' first
      | (with_reducible refine gw_bool (fun _ => ?_) (fun _ => ?_))
      | (with_reducible refine condw_bool (fun _ => ?_) (fun _ => ?_))
      | simp [*]
    refine lp_unroll (D := (fun _ => none)) G50_ok mixed (by kernel_rfl) ?_
    repeat' first
      | (with_reducible refine gw_bool (fun _ => ?_) (fun _ => ?_))
      | (with_reducible refine condw_bool (fun _ => ?_) (fun _ => ?_))
      | simp [*, rows8, n1, n8, hdV, vI, vT, vB, St.forget, scr, scrC, usesC, usesA]
    refine lp_view (View.forget _ _ 8) ?_
    refine lp_unroll (D := (fun _ => none)) G50_ok mixed (by kernel_rfl) ?_
    repeat' first
      | (with_reducible refine gw_bool (fun _ => ?_) (fun _ => ?_))
      | (with_reducible refine condw_bool (fun _ => ?_) (fun _ => ?_))
      | simp [*, rows8, n1, n8, hdV, vI, vT, vB, St.forget, scr, scrC, usesC, usesA]
    refine lp_view (View.forget _ _ 8) ?_
    refine lp_unroll (D := (fun _ => none)) G50_ok mixed (by kernel_rfl) ?_
    repeat' first
      | (with_reducible refine gw_bool (fun _ => ?_) (fun _ => ?_))
      | (with_reducible refine condw_bool (fun _ => ?_) (fun _ => ?_))
      | simp [*, rows8, n1, n8, hdV, vI, vT, vB, St.forget, scr, scrC, usesC, usesA]
    refine lp_view (View.forget _ _ 8) ?_
    refine lp_unroll (D := (fun _ => none)) G50_ok mixed (by kernel_rfl) ?_
    repeat' first
      | (with_reducible refine gw_bool (fun _ => ?_) (fun _ => ?_))
      | (with_reducible refine condw_bool (fun _ => ?_) (fun _ => ?_))
      | simp [*, rows8, n1, n8, hdV, vI, vT, vB, St.forget, scr, scrC, usesC, usesA]
    refine lp_view (View.forget _ _ 8) ?_
    refine lp_unroll (D := (fun _ => none)) G50_ok mixed (by kernel_rfl) ?_
    repeat' first
      | (with_reducible refine gw_bool (fun _ => ?_) (fun _ => ?_))
      | (with_reducible refine condw_bool (fun _ => ?_) (fun _ => ?_))
      | simp [*, rows8, n1, n8, hdV, vI, vT, vB, St.forget, scr, scrC, usesC, usesA]
    refine lp_view (View.forget _ _ 8) ?_
    refine lp_unroll (D := (fun _ => none)) G50_ok mixed (by kernel_rfl) ?_
    repeat' first
      | (with_reducible refine gw_bool (fun _ => ?_) (fun _ => ?_))
      | (with_reducible refine condw_bool (fun _ => ?_) (fun _ => ?_))
      | simp [*, rows8, n1, n8, hdV, vI, vT, vB, St.forget, scr, scrC, usesC, usesA]
    refine lp_view (View.forget _ _ 8) ?_
    refine lp_unroll (D := (fun _ => none)) G50_ok mixed (by kernel_rfl) ?_
    repeat' first
      | (with_reducible refine gw_bool (fun _ => ?_) (fun _ => ?_))
      | (with_reducible refine condw_bool (fun _ => ?_) (fun _ => ?_))
      | simp [*, rows8, n1, n8, hdV, vI, vT, vB, St.forget, scr, scrC, usesC, usesA]
    refine lp_view (View.forget _ _ 8) ?_
    refine lp_unroll (D := (fun _ => none)) G50_ok mixed (by kernel_rfl) ?_
    repeat' first
      | (with_reducible refine gw_bool (fun _ => ?_) (fun _ => ?_))
      | (with_reducible refine condw_bool (fun _ => ?_) (fun _ => ?_))
      | simp [*, rows8, n1, n8, hdV, vI, vT, vB, St.forget, scr, scrC, usesC, usesA]
    rfl
  clear g2 g3 q2 q3 q6 q8 g6 g5
  rintro ⟨e, h⟩ ⟨⟨g2, g3, q2, q3, q8⟩, q6, g6, g5⟩
  simp only at g2 g3 q2 q3 q6 q8 g5 g6
  refine cut (K := fun s => (s.env 2 = .ptr 2 0 ∧ s.env 3 = .ptr 3 0 ∧ s.heap 2 = some ⟨50, mz⟩ ∧ s.heap 3 = some ⟨32, [.int .i64 0]⟩) ∧ (s.heap 6 = some ⟨75, vI p ++ vI t ++ vT S F b7 ++ vI st ++ vI se ++ vB 0 ++ vI r⟩ ∧ s.env 6 = .ptr 6 0) ∧ s.env 9 = .list 6 [vI n]) ?_ ?_
  · refine CW.of_cx (D := (fun _ => none)) G50_ok mixed _ _ _ (by kernel_rfl) ?_
    repeat' first
      | (with_reducible refine gw_bool (fun _ => ?_) (fun _ => ?_))
      | (with_reducible refine condw_bool (fun _ => ?_) (fun _ => ?_))
      | simp [*, rows8, n1, vI]
  clear g2 g3 q2 q3 q6 q8 g6 g5
  rintro ⟨e, h⟩ ⟨⟨g2, g3, q2, q3⟩, ⟨q6, g6⟩, g9⟩
  simp only at g2 g3 q2 q3 q6 g6 g9
  refine cut (K := fun s => (s.env 2 = .ptr 2 0 ∧ s.env 3 = .ptr 3 0 ∧ s.heap 2 = some ⟨50, mz⟩ ∧ s.heap 3 = some ⟨32, [.int .i64 0]⟩) ∧ (s.heap 6 = some ⟨75, vI p ++ vI t ++ vT S F b7 ++ vI st ++ vI se ++ vB 0 ++ vI r⟩ ∧ s.env 6 = .ptr 6 0) ∧ s.env 9 = .list 6 [vI n]) ?_ ?_
  · refine CW.of_cx (D := (fun _ => none)) G50_ok mixed _ _ _ (by kernel_rfl) ?_
    repeat' first
      | (with_reducible refine gw_bool (fun _ => ?_) (fun _ => ?_))
      | (with_reducible refine condw_bool (fun _ => ?_) (fun _ => ?_))
      | simp [*]
  clear g2 g3 q2 q3 q6 g6 g9
  rintro ⟨e, h⟩ ⟨⟨g2, g3, q2, q3⟩, ⟨q6, g6⟩, g9⟩
  simp only at g2 g3 q2 q3 q6 g6 g9
  refine cut (K := fun s => s.env 2 = .ptr 2 0 ∧ s.env 3 = .ptr 3 0 ∧ s.heap 2 = some ⟨50, msC p t S F b7 st se false r (.list 6 [vI n])⟩ ∧ s.heap 3 = some ⟨32, [.int .i64 0]⟩) ?_ ?_
  · simp only [vI, vT, vB, mz, msC, List.cons_append, List.nil_append] at q6 q2
    refine CW.of_cx (D := (fun _ => none)) G50_ok mixed _ _ _ (by kernel_rfl) ?_
    repeat' first
      | (with_reducible refine gw_bool (fun _ => ?_) (fun _ => ?_))
      | (with_reducible refine condw_bool (fun _ => ?_) (fun _ => ?_))
      | simp [*, msC, vI]
  clear g2 g3 q2 q3 q6 g6 g9
  rintro ⟨e, h⟩ ⟨g2, g3, q2, q3⟩
  simp only at g2 g3 q2 q3
  have hck := check_ok p t S F b7 st se r n hm
  have hlM : (msC p t S F b7 st se false r (.list 6 [vI n])).length = 10 := rfl
  have hpM : (msC p t S F b7 st se false r (.list 6 [vI n])).any ownC = false := by simp [msC, ownC]
  have tC := T1_at [.agg (msC p t S F b7 st se false r (.list 6 [vI n]))] (.int .i64 0)
  obtain ⟨M, hM⟩ : ∃ M, msC p t S F b7 st se false r (.list 6 [vI n]) = M := ⟨_, rfl⟩
  rw [hM] at hck tC q2 hlM hpM ⊢
  refine cut (K := fun s => s.env 2 = .ptr 2 0 ∧ s.env 3 = .ptr 3 0 ∧ s.heap 2 = some ⟨50, M⟩ ∧ s.heap 3 = some ⟨32, [.int .i64 0]⟩) ?_ ?_
  · have HX_ok : TabOK Try.prog (HC [.agg M] (.int .i64 0)) := add_ok (H1_ok hck (by kernel_rfl)) (by kernel_rfl) ref_tab
    refine CW.of_cx (D := (fun _ => none)) HX_ok mixed _ _ _ (by kernel_rfl) ?_
    subst hM
    simp only [msC] at q2 tC ⊢
    repeat' first
      | (with_reducible refine gw_bool (fun _ => ?_) (fun _ => ?_))
      | (with_reducible refine condw_bool (fun _ => ?_) (fun _ => ?_))
      | simp [*]
  clear g2 g3 q2 q3 tC hck
  rintro ⟨e, h⟩ ⟨g2, g3, q2, q3⟩
  simp only at g2 g3 q2 q3
  subst hM
  simp only [msC] at q2 ⊢
  refine CW.of_cx (D := (fun _ => none)) noTab_ok mixed _ _ _ (by kernel_rfl) ?_
  repeat' first
    | (with_reducible refine gw_bool (fun _ => ?_) (fun _ => ?_))
    | (with_reducible refine condw_bool (fun _ => ?_) (fun _ => ?_))
    | simp [*, Try.f12, vI]
  done
end Go.Proofs.Ytpkibnkhllefaaa
end
