/-
  A call that gets memory of the caller's own and gives back what is read only.
  tlv.Encode of one nested node.
  message.Check; the nodes of a message.
  message.Encode.
  Reading nodes.
  Reading lists of nodes.
-/
import Derived.Test.YtpkibnkhllefaaaJ5
import Derived.Test.YtpkibnkhllefaaaJ3
section
namespace Go.Pv
open Go.RowKit
set_option linter.unusedSimpArgs false
set_option linter.unusedVariables false
section
variable {P : Program} {n : Nat} {w0 : Base} {ro ro' : Nat → Prop} {lam lam' : Lam} {st st' : St} {a a' : Act} {w w' W : World} {h : Nat → Option Blk}
theorem effL_cx {Γ : Tab} (hΓ : TabOK P Γ) (hm : P.follows .mixedOrders = true) (D : Nat → Option Ann) {f : FuncId} {fn : Func} {c : Code} {vs : List V} {v : V} {rs : Array ResultVar} (hf : P.funcs[f]? = some fn) (hb : fn.body = some c) (hn : fn.ntmps = n) (hrs : fn.results = rs)
    (hvs : vs.length ≤ n) (ok : okC n D c = true) (hc : cx P Γ n D c (Fin P rs.toList (fun u => u = v)) ⟨ini 0 vs, h⟩) (hs : HS W ro lam h) {args : Array Value} (hsz : args.size = vs.length) (hr : ∀ (j : Nat) (c : V) (x : Value), vs[j]? = some c → args[j]? = some x → R W ro lam c x) :
    Calls P f args W fun e W' => ∃ rv ro', e = .returned rv ∧ Base.Keeps ⟨W, ownB lam, []⟩ W' ∧ Ext ⟨W, ownB lam, []⟩ ro ro' ∧ (∀ b, ro' b → b < W'.heap.size) ∧ R0 W' ro' v rv := by
  subst hn; subst hrs
  refine calls_of_wp hf hb ?_
  refine wp_mono (CW.of_cx hΓ hm c _ _ ok hc ⟨W, ownB lam, []⟩ ro lam _ W (hs.sim hsz hvs hr)) fun e a' w' hh => ?_
  obtain ⟨st', ro', lam', ⟨he, us, ws, h1, h2, h3⟩, hext, hs'⟩ := hh
  obtain ⟨zs, hz, hra⟩ := resL_sound hs' _ us h1
  obtain ⟨hlen, hat⟩ := lendAs_RA hs' h2 hra
  have hrun := results_run fn a'.tmps w' hz
  have hfin : a'.defers = [] ∧ ∃ v', (results fn a'.tmps).run P w' = .ok v' w' ∧
      (fun e W' => ∃ rv ro', e = Ending.returned rv ∧ Base.Keeps ⟨W, ownB lam, []⟩ W' ∧ Ext ⟨W, ownB lam, []⟩ ro ro' ∧ (∀ b, ro' b → b < W'.heap.size) ∧ R0 W' ro' v rv) (.returned v') w' := by
    refine ⟨hs'.dfr, _, hrun, _, roOwn ro' lam', rfl, hs'.below, ⟨fun b hb => .inl (hext.1 b hb), fun b hb => ?_⟩, fun b hb => ?_, ?_⟩
    · rcases hb with hb | ⟨key, hb⟩
      · exact hext.2 b hb
      · exact .inr (hs'.ob hb).1
    · rcases hb with hb | ⟨key, hb⟩
      · exact hs'.rolt b hb
      · exact (hs'.ob hb).2.1
    · subst h3
      by_cases hone : zs.length = 1
      · obtain ⟨x, rfl⟩ := List.length_eq_one_iff.1 hone
        obtain ⟨y, rfl⟩ := List.length_eq_one_iff.1 (hlen.trans hone)
        simp only [List.size_toArray, List.length_cons, List.length_nil, dite_true, one]
        exact hat 0 y x rfl rfl
      · have : one ws = .tup ws := by
          unfold one
          split
          · rename_i y; rw [← hlen] at hone; simp at hone
          · rfl
        rw [this, dif_neg (by simpa using hone)]
        exact .tup _ _ (by simpa using hlen.symm) fun j c x hc hx => hat j c x hc (by simpa using hx)
  rcases he with rfl | rfl
  · exact hfin
  · exact hfin
/-- All memory of the caller's own is forgotten. -/
def St.bare (st : St) : St := ⟨fun t => if ownT (st.env t) = true then .junk else st.env t, fun _ => none⟩
theorem call_lend {o : Oper} {f : FuncId} {args : Array Operand} {ts : Array TypeId} {K : Act → World → Prop} {QQ : Exit → Act → World → Prop} {v : V} (ho : o.op = .call { callee := .value (.func f), args := args, argTypes := ts }) (hcl : callable P f = true) (hd : fits n o.dst = true) (hs : Sim w0 n ro lam st a w)
    (h : Calls P f (args.map a.eval) w fun e W' => ∃ rv ro', e = .returned rv ∧ Base.Keeps ⟨w, ownB lam, []⟩ W' ∧ Ext ⟨w, ownB lam, []⟩ ro ro' ∧ (∀ b, ro' b → b < W'.heap.size) ∧ R0 W' ro' v rv)
    (hK : ∀ a' ro' w', Ext w0 ro ro' → Sim w0 n ro' (fun _ => none) (st.bare.put o.dst v) a' w' → K a' w') : o.wp P a w K QQ := by
  refine call_wp ho hcl (h.mono fun e W' hh => ?_)
  obtain ⟨rv, ro', rfl, hb, hx, hlt, hr⟩ := hh
  refine ⟨rv, rfl, ?_⟩
  have hx0 : Ext w0 ro ro' := ⟨hx.1, fun b hb => (hx.2 b hb).imp id (fun h => h.elim (fun ⟨k, h'⟩ => (hs.ob h').1) (fun h => .inr (Nat.le_trans hs.below.size h)))⟩
  have hs' : Sim w0 n ro' (fun _ => none) st.bare a W' := by
    refine ⟨hs.below.but hb.os hb.tape hb.output hb.size (fun k hk hf => hb.block k hk (fun ⟨key, h⟩ => hf (hs.ob h).1)), hs.dfr, hs.size, hlt, fun t => ?_, fun key blk hk => (by cases hk), fun _ _ => rfl, fun key b m h => (by cases h), fun k1 k2 b m1 m2 h => (by cases h), fun key b h => (by cases h)⟩
    show R W' ro' _ (if ownT (st.env t) = true then .junk else st.env t) _
    split
    · exact .pure _ _ (.junk _)
    · rename_i hp
      have hp' : ownT (st.env t) = false := by simpa using hp
      exact .pure _ _ (((hs.env t).pureT hp').mono (fun b hbb => hb.block b (hs.rolt b hbb) (fun ⟨k, h⟩ => (hs.ob h).2.2 hbb)) hx.1)
  exact hK _ ro' W' hx0 (hs'.put hd (.pure _ _ hr))
end
end Go.Pv
end
section
namespace Go.Proofs.Ytpkibnkhllefaaa
open Go.Pv Go.RowKit
set_option linter.unusedSimpArgs false
set_option linter.unusedVariables false
set_option maxRecDepth 100000
set_option maxHeartbeats 4000000

def h17 : Nat → Option Blk := upd (fun _ => none) 17 (some ⟨5, []⟩)
theorem wtop (ks : List (List V)) (bs : List Int) (h0 : WriOk ks bs) (hb : bs.length < 128) {W : World} {ro : Nat → Prop} {lam : Lam} (hs : HS W ro lam h17) {args : Array Value} (hsz : args.size = 2)
    (hr : ∀ (j : Nat) (c : V) (x : Value), [V.sl 17 0 0 1, .list 3 [[.int .i64 97, .nils, .list 3 ks]]][j]? = some c → args[j]? = some x → R W ro lam c x) :
    Calls Try.prog 36 args W fun e W' => ∃ rv ro', e = .returned rv ∧ Base.Keeps ⟨W, ownB lam, []⟩ W' ∧ Ext ⟨W, ownB lam, []⟩ ro ro' ∧ (∀ b, ro' b → b < W'.heap.size) ∧ R0 W' ro' (.list 1 ((97 :: (bs.length : Int) :: bs).map u1)) rv := by
  have HX_ok := HW_ok h0
  clear h0
  refine effL_cx HX_ok mixed (fun _ => none) Try.func36 rfl Try.ntmps36 Try.results36 (by simp) (by kernel_rfl) ?_ hs (by simpa using hsz) hr
  clear hr hs hsz
  have hT1 : T1 [.nils, .list 3 ks] (.list 1 (bs.map u1)) [.nils, .list 3 ks] = some (.list 1 (bs.map u1)) := T1_at _ _
  have hB0 := u1_flat bs
  have hB1 := u8s_pure bs
  have hB2 := u8s_one bs
  have hB3 : (u8s bs).length = bs.length := by simp [u8s]
  have hB4 : (bs.map u1).length = bs.length := by simp
  have hC := u1_chunks (97 :: (bs.length : Int) :: bs)
  obtain ⟨m, hm⟩ : ∃ m, bs.length = m := ⟨_, rfl⟩
  simp only [u8s, List.map_cons, List.length_cons] at hC
  rw [show bs.map (V.int .u8) = u8s bs from rfl, hm] at hC
  rw [hm] at hb hB3 hB4
  have q1 : (m : Int) < 128 := by omega
  have hm2 : Hid (_) := hm
  simp only [List.map_cons, hm]
  clear hm
  generalize u8s bs = B at *
  generalize bs.map u1 = X at *
  have hBs : ∀ k, B.map (scrC k) = B := fun k => scrC_cells hB1
  have q2 := u8_in (n := 97) (by decide) (by decide)
  have p5 : 1 + 1 + m ≤ 140737488355328 := by omega
  have p6 : 1 + 1 + m ≤ 9223372036854775807 := by omega
  have p7 : 2 + m ≤ 140737488355328 := by omega
  have p8 : 2 + m ≤ 9223372036854775807 := by omega
  have k1 : ¬ ptag 97 := by decide
  have k2 : ktag 97 := by decide
  have z1 : (0 : Int) ≤ 2 + (m : Int) := by omega
  have z2 : (2 + (m : Int)).toNat = 2 + m := by omega
  have z3 : ¬ (0 = 2 + m) := by omega
  rw [show m + 1 + 1 = 2 + m by omega] at hC
  have z4 : 2 + m ≤ m + 1 + 1 := by omega
  unfold h17
  repeat' first
    | (with_reducible refine gw_bool (fun _ => ?_) (fun _ => ?_))
    | (with_reducible refine condw_bool (fun _ => ?_) (fun _ => ?_))
    | (refine lp_unroll (D := (fun _ => none)) HX_ok mixed (by kernel_rfl) ?_)
    | simp [*, appendV, srcCells, St.forget, scr, scrC, usesC, usesA, chunks, oneV, u1]
theorem encode_ok (ks : List (List V)) (bs : List Int) (h0 : WriOk ks bs) (h1 : MeaOk ks bs 1) (hb : bs.length < 128) : PCall Try.prog 22 [.list 3 [[.int .i64 97, .nils, .list 3 ks]]] (.tup [.list 1 ((97 :: (bs.length : Int) :: bs).map u1), .int .i64 0]) := by
  have hM := mea_gen [.k 97 ks bs] 0 (by decide) ks bs h1 (fun x hx => by simp only [List.mem_singleton] at hx; subst hx; exact ⟨⟨by decide, hb⟩, rfl, rfl⟩) (by simp [enc, Nd.out, Nd.bs]; omega) (by simp)
  simp only [List.map_cons, List.map_nil, Nd.cs, enc, List.flatMap_cons, List.flatMap_nil, List.append_nil, Nd.out, Nd.tag, Nd.bs, MeaOk] at hM
  obtain ⟨N, hN⟩ : ∃ N, (97 :: (bs.length : Int) :: bs).length = N := ⟨_, rfl⟩
  rw [hN] at hM
  have hN2 : N ≤ 1000 := by simp at hN; omega
  have hT1 := T1_at [V.list 3 [[V.int .i64 97, V.nils, V.list 3 ks]], .int .i64 0] (.tup [.int .i64 (N : Int), .int .i64 0])
  have HX_ok := H1_ok hM (by kernel_rfl)
  generalize hr : (97 :: (bs.length : Int) :: bs).map u1 = X
  clear h1
  refine pcall_of2 Try.func22 rfl Try.ntmps22 Try.results22 (by simp) ?_
  refine cut (K := fun s => s.env 0 = .list 3 [[.int .i64 97, .nils, .list 3 ks]] ∧ s.heap = fun _ => none) ?_ ?_
  · refine CW.of_cx (D := (fun _ => none)) HX_ok mixed _ _ _ (by kernel_rfl) ?_
    repeat' first
      | (with_reducible refine gw_bool (fun _ => ?_) (fun _ => ?_))
      | (with_reducible refine condw_bool (fun _ => ?_) (fun _ => ?_))
      | simp [*]
  rintro ⟨e, h⟩ ⟨g0, hh⟩
  simp only at g0 hh; subst hh
  refine cut (K := fun s => s.env 0 = .list 3 [[.int .i64 97, .nils, .list 3 ks]] ∧ s.env 4 = .int .i64 N ∧ s.env 5 = .int .i64 0 ∧ s.heap = fun _ => none) ?_ ?_
  · refine CW.of_cx (D := (fun _ => none)) HX_ok mixed _ _ _ (by kernel_rfl) ?_
    repeat' first
      | (with_reducible refine gw_bool (fun _ => ?_) (fun _ => ?_))
      | (with_reducible refine condw_bool (fun _ => ?_) (fun _ => ?_))
      | simp [*]
  rintro ⟨e, h⟩ ⟨g0, g4, g5, hh⟩
  simp only at g0 g4 g5 hh; subst hh
  refine cut (K := fun s => s.env 0 = .list 3 [[.int .i64 97, .nils, .list 3 ks]] ∧ s.env 4 = .int .i64 N ∧ s.heap = fun _ => none) ?_ ?_
  · refine CW.of_cx (D := (fun _ => none)) HX_ok mixed _ _ _ (by kernel_rfl) ?_
    repeat' first
      | (with_reducible refine gw_bool (fun _ => ?_) (fun _ => ?_))
      | (with_reducible refine condw_bool (fun _ => ?_) (fun _ => ?_))
      | simp [*]
  rintro ⟨e, h⟩ ⟨g0, g4, hh⟩
  simp only at g0 g4 hh; subst hh
  refine cut (K := fun s => s.env 0 = .list 3 [[.int .i64 97, .nils, .list 3 ks]] ∧ s.env 4 = .int .i64 N ∧ s.heap = fun _ => none) ?_ ?_
  · have f1 : ilt 1500 (N : Int) = false := ilt_f (by omega)
    refine CW.of_cx (D := (fun _ => none)) HX_ok mixed _ _ _ (by kernel_rfl) ?_
    repeat' first
      | (with_reducible refine gw_bool (fun _ => ?_) (fun _ => ?_))
      | (with_reducible refine condw_bool (fun _ => ?_) (fun _ => ?_))
      | simp [*]
  rintro ⟨e, h⟩ ⟨g0, g4, hh⟩
  simp only at g0 g4 hh; subst hh
  refine cut (K := fun s => s.env 2 = .list 1 X ∧ s.env 3 = .int .i64 0 ∧ s.heap = fun _ => none) ?_ ?_
  case' refine_2 =>
    rintro ⟨e, h⟩ ⟨g2, g3, hh⟩
    simp only at g2 g3 hh; subst hh
    refine CW.of_cx (D := (fun _ => none)) HX_ok mixed _ _ _ (by kernel_rfl) ?_
    repeat' first
      | (with_reducible refine gw_bool (fun _ => ?_) (fun _ => ?_))
      | (with_reducible refine condw_bool (fun _ => ?_) (fun _ => ?_))
      | simp [*]
  intro w0 ro lam a w hs
  refine wp_region_list ?_
  have n1 : (N : Int) ≤ 281474976710656 := by omega
  have n2 : (N : Int) ≤ 9223372036854775807 := by omega
  refine eg_wp0 (K := fun s => s.env 17 = .sl 17 0 0 1 ∧ s.env 18 = .list 3 [[.int .i64 97, .nils, .list 3 ks]] ∧ s.heap = h17) HX_ok (n := 20) [_, _, _] _ _ _ _ _ (by kernel_rfl) ?_ hs fun st5 a5 ro5 lam5 w5 k5 x5 s5 => ?_
  · clear hs
    simp [*, h17]
  obtain ⟨k17, k18, kh⟩ := k5
  refine wpList_plain rfl fun K1 hK1 => call_lend (v := .list 1 X) rfl (by kernel_rfl) rfl s5 ?_ fun a6 ro6 w6 x6 s6 => hK1 _ _ ?_
  · have hs6 := HS.of s5
    rw [kh] at hs6
    rw [← hr]
    refine wtop ks bs h0 hb hs6 (by simp) fun j c x hc hx => ?_
    match j with
    | 0 => simp at hc hx; subst hc; subst hx; have := s5.env 17; rw [k17] at this; exact this
    | 1 => simp at hc hx; subst hc; subst hx; have := s5.env 18; rw [k18] at this; exact this
    | j + 2 => simp at hc
  refine eg_end (K := fun s => s.env 2 = .list 1 X ∧ s.env 3 = .int .i64 0 ∧ s.heap = fun _ => none) HX_ok (n := 20) _ _ _ _ _ _ (by kernel_rfl) ?_ s6 fun st7 a7 ro7 lam7 w7 k7 x7 s7 => ?_
  · simp [St.put, upd, St.bare]
  · exact ⟨st7, ro7, lam7, ⟨rfl, k7⟩, (x5.trans x6).trans x7, s7⟩
end Go.Proofs.Ytpkibnkhllefaaa
end
section
namespace Go.Proofs.Ytpkibnkhllefaaa
open Go.Pv Go.RowKit
set_option linter.unusedSimpArgs false
set_option linter.unusedVariables false
set_option maxRecDepth 100000
set_option maxHeartbeats 4000000

theorem wri_nil : WriOk [] [] := by
  unfold WriOk
  refine pcall_cx G33_ok mixed (fun _ => none) Try.func36 rfl Try.ntmps36 Try.results36 (by simp) (by kernel_rfl) ?_
  repeat' first
    | (with_reducible refine gw_bool (fun _ => ?_) (fun _ => ?_))
    | (with_reducible refine condw_bool (fun _ => ?_) (fun _ => ?_))
    | simp [*]
  refine lp_view (View.nilOwn _ (t := 0) (key := 27) 1 5 rfl rfl) ?_
  refine lp_unroll (D := (fun _ => none)) G33_ok mixed (by kernel_rfl) ?_
  repeat' first
    | (with_reducible refine gw_bool (fun _ => ?_) (fun _ => ?_))
    | (with_reducible refine condw_bool (fun _ => ?_) (fun _ => ?_))
    | simp [*]
def mb (s f q : Int) : List Int := [s / 16777216 % 256, s / 65536 % 256, s / 256 % 256, s % 256, f / 65536 % 256, f / 256 % 256, f % 256, q % 256]
def L1 (n : Int) : List Nd := [.p 133 [n % 256]]
def L8 (p t s f q st se r n : Int) : List Nd := [.p 128 [p % 256], .p 129 [t % 256], .p 130 (mb s f q), .p 131 [st % 256], .p 132 [se % 256], .p 133 [0], .p 134 [r % 256], .k 167 ((L1 n).map Nd.cs) (enc (L1 n))]
theorem enc1 (n : Int) : (enc (L1 n)).length = 3 := rfl
theorem L1_ok (n : Int) (ks bs) : ∀ x ∈ L1 n, x.ok ks bs := by
  intro x hx; simp only [L1, List.mem_singleton] at hx; subst hx; exact ⟨by decide, by simp⟩
theorem L8_ok (p t s f q st se r n : Int) : ∀ x ∈ L8 p t s f q st se r n, x.ok ((L1 n).map Nd.cs) (enc (L1 n)) := by
  intro x hx
  simp only [L8, List.mem_cons, List.not_mem_nil, or_false] at hx
  rcases hx with rfl | rfl | rfl | rfl | rfl | rfl | rfl | rfl
  all_goals first | exact ⟨by decide, by simp [mb]⟩ | exact ⟨⟨by decide, by rw [enc1]; decide⟩, rfl, rfl⟩
theorem enc8 (p t s f q st se r n : Int) : (enc (L8 p t s f q st se r n)).length = 33 := rfl
theorem wri1 (n : Int) : WriOk ((L1 n).map Nd.cs) (enc (L1 n)) := wri_gen (L1 n) [] [] wri_nil (L1_ok n _ _) (by rw [enc1]; decide) (by simp [L1]) (by rw [enc1]; decide)
theorem mea1 (n : Int) : MeaOk ((L1 n).map Nd.cs) (enc (L1 n)) 2 := mea_gen (L1 n) 2 (by decide) [] [] (mea_nil _) (L1_ok n _ _) (by rw [enc1]; decide) (by simp [L1])
theorem wri8 (p t s f q st se r n : Int) : WriOk ((L8 p t s f q st se r n).map Nd.cs) (enc (L8 p t s f q st se r n)) := wri_gen _ _ _ (wri1 n) (L8_ok p t s f q st se r n) (by rw [enc8]; decide) (by simp [L8]) (by rw [enc8]; decide)
theorem mea8 (p t s f q st se r n : Int) : MeaOk ((L8 p t s f q st se r n).map Nd.cs) (enc (L8 p t s f q st se r n)) 1 := mea_gen _ 1 (by decide) _ _ (mea1 n) (L8_ok p t s f q st se r n) (by rw [enc8]; decide) (by simp [L8])
/-- The bytes of a message. -/
def msB (p t s f q st se r n : Int) : List Int := 97 :: 33 :: enc (L8 p t s f q st se r n)
theorem enc_msg (p t s f q st se r n : Int) : PCall Try.prog 22 [.list 3 [[.int .i64 97, .nils, .list 3 ((L8 p t s f q st se r n).map Nd.cs)]]] (.tup [.list 1 ((msB p t s f q st se r n).map u1), .int .i64 0]) := by
  have := encode_ok _ _ (wri8 p t s f q st se r n) (mea8 p t s f q st se r n) (by rw [enc8]; decide)
  rw [enc8] at this
  exact this
/-! ### Check -/
def okM (p t s f q st se r : Int) : Prop := ((0 ≤ p ∧ p < 128) ∧ (1 ≤ t ∧ t < 128) ∧ stB s f q) ∧ (1 ≤ st ∧ st < 128) ∧ (0 ≤ se ∧ se < 128) ∧ (0 ≤ r ∧ r < 128)
instance (p t s f q st se r : Int) : Decidable (okM p t s f q st se r) := by unfold okM; infer_instance
def G40 : Tab := add 31 Tchk (noTab)
theorem G40_at (f : FuncId) (vs : List V) : G40.at' f vs = if f = 31 then Tchk vs else noTab.at' f vs := rfl
theorem G40_fr (f : FuncId) : G40.fr f = if f = 31 then false else noTab.fr f := rfl
theorem G40_gb (f : FuncId) : G40.gb f = noTab.gb f := rfl
theorem G40_gv (f : FuncId) (vs : List V) : G40.gv f vs = noTab.gv f vs := rfl
attribute [simp] G40_at G40_fr G40_gb G40_gv Tchk
theorem G40_ok : TabOK Try.prog G40 := by
  refine add_ok (noTab_ok) (by kernel_rfl) ?_
  · exact chk_tab
theorem check_ok (p t s f q st se r n : Int) (h : okM p t s f q st se r) : PCall Try.prog 19 [.agg (msC p t s f q st se false r (.list 6 [vI n]))] (.int .i64 0) := by
  obtain ⟨⟨⟨a1, a2⟩, ⟨a3, a4⟩, h3⟩, ⟨a5, a6⟩, ⟨a7, a8⟩, a9, a10⟩ := h
  have e1 : ilt p 0 = false := ilt_f a1
  have e2 : ilt 999 p = false := ilt_f (by omega)
  have e3 : ilt t 1 = false := ilt_f a3
  have e4 : ilt 65535 t = false := ilt_f (by omega)
  have e5 : ilt st 1 = false := ilt_f a5
  have e6 : ilt 4294967295 st = false := ilt_f (by omega)
  have e7 : ilt se 0 = false := ilt_f a7
  have e8 : ilt 4294967295 se = false := ilt_f (by omega)
  have e9 : ilt r 0 = false := ilt_f a9
  have e10 : ilt 4294967295 r = false := ilt_f (by omega)
  clear a1 a2 a3 a4 a5 a6 a7 a8 a9 a10
  refine pcall_cx G40_ok mixed (fun _ => none) Try.func19 rfl Try.ntmps19 Try.results19 (by simp) (by kernel_rfl) ?_
  repeat' first
    | (with_reducible refine gw_bool (fun _ => ?_) (fun _ => ?_))
    | (with_reducible refine condw_bool (fun _ => ?_) (fun _ => ?_))
    | (refine lp_unroll (D := (fun _ => none)) G40_ok mixed (by kernel_rfl) ?_)
    | simp [*, msC, vI, unDv, Dv.fit, appendV, srcCells, St.forget, scr, scrC, usesC, usesA, chunks, oneV]
end Go.Proofs.Ytpkibnkhllefaaa
end
section
namespace Go.Proofs.Ytpkibnkhllefaaa
open Go.Pv Go.RowKit
set_option linter.unusedSimpArgs false
set_option linter.unusedVariables false
set_option maxRecDepth 100000
set_option maxHeartbeats 4000000

open Classical in
noncomputable def TG1 (vs : List V) (r : V × List (Nat × Blk)) (vs' : List V) : Option (V × List (Nat × Blk)) := if vs' = vs then some r else none
theorem TG1_at (vs : List V) (r : V × List (Nat × Blk)) : TG1 vs r vs = some r := if_pos rfl
def Thd : List V → Option V
  | [.agg [.int .i64 p, .int .i64 t, .int .i64 s, .int .i64 f, .int .i64 q, .int .i64 st, .int .i64 se, .bool te, .int .i64 r, c]] => some (.list 6 (hdV p t s f q st se te r))
  | _ => none
theorem hd_tab : ∀ vs u, Thd vs = some u → PFresh Try.prog 21 vs u := by
  intro vs u h; unfold Thd at h; split at h
  · cases h; exact header_ok _ _ _ _ _ _ _ _ _ _
  · cases h
def G42 : Tab := addF 21 Thd (noTab)
theorem G42_at (f : FuncId) (vs : List V) : G42.at' f vs = if f = 21 then Thd vs else noTab.at' f vs := rfl
theorem G42_fr (f : FuncId) : G42.fr f = if f = 21 then true else noTab.fr f := rfl
theorem G42_gb (f : FuncId) : G42.gb f = noTab.gb f := rfl
theorem G42_gv (f : FuncId) (vs : List V) : G42.gv f vs = noTab.gv f vs := rfl
attribute [simp] G42_at G42_fr G42_gb G42_gv Thd
theorem G42_ok : TabOK Try.prog G42 := by
  refine addF_ok (noTab_ok) (by kernel_rfl) ?_
  · exact hd_tab
noncomputable def HN (vs : List V) (r : V × List (Nat × Blk)) : Tab := addG 20 (TG1 vs r) G42
theorem HN_at (vs : List V) (r : V × List (Nat × Blk)) (g : FuncId) (ws : List V) : (HN vs r).at' g ws = G42.at' g ws := rfl
theorem HN_fr (vs : List V) (r : V × List (Nat × Blk)) (g : FuncId) : (HN vs r).fr g = G42.fr g := rfl
theorem HN_gb (vs : List V) (r : V × List (Nat × Blk)) (g : FuncId) : (HN vs r).gb g = if g = 20 then true else G42.gb g := rfl
theorem HN_gv (vs : List V) (r : V × List (Nat × Blk)) (g : FuncId) (ws : List V) : (HN vs r).gv g ws = if g = 20 then TG1 vs r ws else G42.gv g ws := rfl
attribute [simp] HN_at HN_fr HN_gb HN_gv
theorem HN_ok {vs : List V} {r : V × List (Nat × Blk)} (h : PGive Try.prog 20 vs r.1 r.2) : TabOK Try.prog (HN vs r) :=
  addG_ok G42_ok (by kernel_rfl) fun ws u bl hw => by
    unfold TG1 at hw
    split at hw
    · rename_i e; cases hw; rw [e]; exact h
    · cases hw
def hdD (p t s f q st se r : Int) : List Dv := [.i p, .i t, .t s f q, .i st, .i se, .b 0, .i r]
theorem hdD_cs (p t s f q st se r : Int) : (hdD p t s f q st se r).map Dv.cs = hdV p t s f q st se false r := rfl
def hdN (p t s f q st se r : Int) : List V := [.int .i64 133, .list 1 [by1 p], .nils, .int .i64 133, .list 1 [by1 t], .nils, .int .i64 145, .list 1 (mB s f q), .nils, .int .i64 133, .list 1 [by1 st], .nils, .int .i64 133, .list 1 [by1 se], .nils, .int .i64 131, .list 1 [by1 0], .nils, .int .i64 133, .list 1 [by1 r], .nils]
def kdN (p t s f q st se r : Int) : List V := [.int .i64 128, .list 1 [by1 p], .nils, .int .i64 129, .list 1 [by1 t], .nils, .int .i64 130, .list 1 (mB s f q), .nils, .int .i64 131, .list 1 [by1 st], .nils, .int .i64 132, .list 1 [by1 se], .nils, .int .i64 133, .list 1 [by1 0], .nils, .int .i64 134, .list 1 [by1 r], .nils]
theorem hdN_eq (p t s f q st se r : Int) : ndL (hdD p t s f q st se r) 7 = hdN p t s f q st se r := rfl
theorem hd_nodes (p t s f q st se r : Int) (h : okM p t s f q st se r) : PGive Try.prog 20 [.list 6 (hdV p t s f q st se false r)] (.tup [.sl 12 0 7 3, .int .i64 0]) [(12, ⟨68, hdN p t s f q st se r⟩)] := by
  obtain ⟨⟨a1, a2, a3⟩, a4, a5, a6⟩ := h
  rw [← hdD_cs, ← hdN_eq]
  refine nodes_ok (hdD p t s f q st se r) ?_ (by simp [hdD])
  intro v hv
  simp only [hdD, List.mem_cons, List.not_mem_nil, or_false] at hv
  rcases hv with rfl | rfl | rfl | rfl | rfl | rfl | rfl
  · exact a1
  · exact ⟨by omega, a2.2⟩
  · exact a3
  · exact ⟨by omega, a4.2⟩
  · exact a5
  · exact .inl rfl
  · exact a6
theorem encm_ok (p t s f q st se r n : Int) (h : okM p t s f q st se r) (hn : 0 ≤ n ∧ n < 128) : PCall Try.prog 11 [.agg (msC p t s f q st se false r (.list 6 [vI n]))] (.tup [.list 1 ((msB p t s f q st se r n).map u1), .int .i64 0]) := by
  have c1 := check_ok p t s f q st se r n h
  have c2 := hd_nodes p t s f q st se r h
  have c3 := nodes1_ok n hn
  have c4 := enc_msg p t s f q st se r n
  have H1_ := H1_ok c1 (by kernel_rfl)
  have HX_ok := HN_ok (r := (_, _)) c2
  have t1 := T1_at [.agg (msC p t s f q st se false r (.list 6 [vI n]))] (.int .i64 0)
  have t2 := TG1_at [.list 6 (hdV p t s f q st se false r)] (.tup [.sl 12 0 7 3, .int .i64 0], [(12, ⟨68, hdN p t s f q st se r⟩)])
  clear c1 c2
  generalize hM : msC p t s f q st se false r (.list 6 [vI n]) = M at *
  refine pcall_of2 Try.func11 rfl Try.ntmps11 Try.results11 (by simp) ?_
  refine cut (K := fun u => u.env 1 = .ptr 1 0 ∧ u.heap = upd (fun _ => none) 1 (some ⟨50, M⟩)) ?_ ?_
  · subst hM
    refine CW.of_cx (D := (fun _ => none)) noTab_ok mixed _ _ _ (by kernel_rfl) ?_
    repeat' first
      | (with_reducible refine gw_bool (fun _ => ?_) (fun _ => ?_))
      | (with_reducible refine condw_bool (fun _ => ?_) (fun _ => ?_))
      | simp [*, msC]
  rintro ⟨e, h⟩ ⟨g1, hh⟩
  simp only at g1 hh; subst hh
  refine cut (K := fun u => u.env 1 = .ptr 1 0 ∧ u.env 4 = .int .i64 0 ∧ u.heap = upd (fun _ => none) 1 (some ⟨50, M⟩)) ?_ ?_
  · refine CW.of_cx (D := fun _ => none) H1_ mixed _ _ _ (by kernel_rfl) ?_
    subst hM
    simp only [msC] at t1 ⊢
    repeat' first
      | (with_reducible refine gw_bool (fun _ => ?_) (fun _ => ?_))
      | (with_reducible refine condw_bool (fun _ => ?_) (fun _ => ?_))
      | simp [*]
  rintro ⟨e, h⟩ ⟨g1, g4, hh⟩
  simp only at g1 g4 hh; subst hh
  refine cut (K := fun u => u.env 1 = .ptr 1 0 ∧ u.env 5 = .sl 180012 0 7 3 ∧ u.env 6 = .int .i64 0 ∧ u.heap = upd (upd (fun _ => none) 1 (some ⟨50, M⟩)) 180012 (some ⟨68, hdN p t s f q st se r⟩)) ?_ ?_
  · refine CW.of_cx (D := fun _ => none) HX_ok mixed _ _ _ (by kernel_rfl) ?_
    subst hM
    simp only [msC, hdN] at t2 ⊢
    repeat' first
      | (with_reducible refine gw_bool (fun _ => ?_) (fun _ => ?_))
      | (with_reducible refine condw_bool (fun _ => ?_) (fun _ => ?_))
      | simp [*, KeepBl, closedB, inT, inA, inC, blkOf, hdN]
  clear t2 HX_ok H1_ t1
  rintro ⟨e, h⟩ ⟨g1, g5, g6, hh⟩
  simp only at g1 g5 g6 hh; subst hh
  refine cut (K := fun u => u.env 1 = .ptr 1 0 ∧ u.env 5 = .sl 180012 0 7 3 ∧ u.heap = upd (upd (fun _ => none) 1 (some ⟨50, M⟩)) 180012 (some ⟨68, hdN p t s f q st se r⟩)) ?_ ?_
  · refine CW.of_cx (D := (fun _ => none)) noTab_ok mixed _ _ _ (by kernel_rfl) ?_
    repeat' first
      | (with_reducible refine gw_bool (fun _ => ?_) (fun _ => ?_))
      | (with_reducible refine condw_bool (fun _ => ?_) (fun _ => ?_))
      | simp [*]
  rintro ⟨e, h⟩ ⟨g1, g5, hh⟩
  simp only at g1 g5 hh; subst hh
  refine cut (K := fun u => u.env 1 = .ptr 1 0 ∧ u.env 5 = .sl 180012 0 7 3 ∧ u.heap 1 = some ⟨50, M⟩ ∧ u.heap 180012 = some ⟨68, kdN p t s f q st se r⟩ ∧ u.heap 47 = none ∧ u.heap 48 = none ∧ u.heap 51 = none) ?_ ?_
  · refine CW.of_cx (D := (fun _ => none)) noTab_ok mixed _ _ _ (by kernel_rfl) ?_
    repeat' first
      | (with_reducible refine gw_bool (fun _ => ?_) (fun _ => ?_))
      | (with_reducible refine condw_bool (fun _ => ?_) (fun _ => ?_))
      | (refine lp_unroll (D := (fun _ => none)) noTab_ok mixed (by kernel_rfl) ?_)
      | simp [*, hdN, kdN]
  rintro ⟨e, h⟩ ⟨g1, g5, q1, q2, q3, q4, q5⟩
  simp only at g1 g5 q1 q2 q3 q4 q5
  refine cut (K := fun u => u.env 8 = .list 3 [ndI n] ∧ u.env 5 = .sl 180012 0 7 3 ∧ u.env 6 = .int .i64 0 ∧ u.heap = h) ?_ ?_
  · have HX_ok := H1_ok c3 (by kernel_rfl)
    have t1 := T1_at [.list 6 [vI n]] (.tup [.list 3 [ndI n], .int .i64 0])
    clear c3 c4
    subst hM
    simp only [msC] at q1
    refine CW.of_cx (D := (fun _ => none)) HX_ok mixed _ _ _ (by kernel_rfl) ?_
    repeat' first
      | (with_reducible refine gw_bool (fun _ => ?_) (fun _ => ?_))
      | (with_reducible refine condw_bool (fun _ => ?_) (fun _ => ?_))
      | simp [*]
  rintro ⟨e, h⟩ ⟨g8, g5, g6, hh⟩
  simp only at g8 g5 g6 hh; subst hh
  refine cut (K := fun u => u.env 8 = .list 3 [ndI n] ∧ u.env 5 = .sl 180012 0 7 3 ∧ u.heap = h) ?_ ?_
  · refine CW.of_cx (D := (fun _ => none)) noTab_ok mixed _ _ _ (by kernel_rfl) ?_
    repeat' first
      | (with_reducible refine gw_bool (fun _ => ?_) (fun _ => ?_))
      | (with_reducible refine condw_bool (fun _ => ?_) (fun _ => ?_))
      | simp [*]
  rintro ⟨e, h⟩ ⟨g8, g5, hh⟩
  simp only at g8 g5 hh; subst hh
  refine cut (K := fun u => u.env 5 = .sl 180012 0 8 3 ∧ u.heap 180012 = some ⟨68, kdN p t s f q st se r ++ [.int .i64 167, .nils, .list 3 [ndI n]]⟩ ∧ u.heap 51 = none) ?_ ?_
  · refine CW.of_cx (D := (fun _ => none)) noTab_ok mixed _ _ _ (by kernel_rfl) ?_
    repeat' first
      | (with_reducible refine gw_bool (fun _ => ?_) (fun _ => ?_))
      | (with_reducible refine condw_bool (fun _ => ?_) (fun _ => ?_))
      | simp [*, kdN, appendV, srcCells, St.forget, scr, scrC, usesC, usesA, chunks, oneV]
  clear c3 q1 q2 q3 q4 q5
  rintro ⟨e, h⟩ ⟨g5, q2, q5⟩
  simp only at g5 q2 q5
  have hp : (kdN p t s f q st se r ++ [V.int .i64 167, .nils, .list 3 [ndI n]]).any ownC = false := by simp [kdN, ownC]
  have hrows : chunks 3 8 (kdN p t s f q st se r ++ [V.int .i64 167, .nils, .list 3 [ndI n]]) = (L8 p t s f q st se r n).map Nd.cs := rfl
  have hCl : (kdN p t s f q st se r ++ [V.int .i64 167, .nils, .list 3 [ndI n]]).length = 24 := rfl
  have HX_ok := H1_ok c4 (by kernel_rfl)
  generalize kdN p t s f q st se r ++ [V.int .i64 167, .nils, .list 3 [ndI n]] = C at *
  generalize (L8 p t s f q st se r n).map Nd.cs = R8 at *
  generalize (msB p t s f q st se r n).map u1 = X at *
  refine cw_view (View.pub _ (key := 180012) (blk := ⟨68, C⟩) q2 hp) ?_
  refine cut (K := fun u => u.env 2 = .list 1 X ∧ u.env 3 = .int .i64 0) ?_ ?_
  case' refine_2 =>
    rintro ⟨e, h⟩ ⟨g2, g3⟩
    simp only at g2 g3
    refine CW.of_cx (D := (fun _ => none)) noTab_ok mixed _ _ _ (by kernel_rfl) ?_
    repeat' first
      | (with_reducible refine gw_bool (fun _ => ?_) (fun _ => ?_))
      | (with_reducible refine condw_bool (fun _ => ?_) (fun _ => ?_))
      | simp [*]
  intro w0 ro lam a w hs
  refine wp_region_list ?_
  refine eg_wp0 (K := fun s => s.env 51 = .sl 51 0 1 3 ∧ s.heap 51 = some ⟨68, [.int .i64 97, .nils, .list 3 R8]⟩) noTab_ok (n := 55) [_, _, _] _ _ _ _ _ (by kernel_rfl) ?_ hs fun st5 a5 ro5 lam5 w5 k5 x5 s5 => ?_
  · clear hs
    simp [*, St.pub, pubT, pubA, pubC, -chunks]
  obtain ⟨k51, kh⟩ := k5
  obtain ⟨ro6, lam6, x6, s6⟩ := View.pub 55 (key := 51) kh (by simp [ownC]) _ _ _ _ _ s5
  refine eg_end (K := fun s => s.env 2 = .list 1 X ∧ s.env 3 = .int .i64 0) HX_ok (n := 55) _ _ _ _ _ _ (by kernel_rfl) ?_ s6 fun st7 a7 ro7 lam7 w7 k7 x7 s7 => ?_
  · simp [St.put, upd, St.pub, pubT, pubA, pubC, k51, chunks]
    done
  · exact ⟨st7, ro7, lam7, ⟨rfl, k7⟩, (x5.trans x6).trans x7, s7⟩
end Go.Proofs.Ytpkibnkhllefaaa
end
section
namespace Go.Proofs.Ytpkibnkhllefaaa
open Go.Pv Go.RowKit
set_option linter.unusedSimpArgs false
set_option linter.unusedVariables false
set_option maxRecDepth 100000
set_option maxHeartbeats 4000000

def isU1 : List V → Bool
  | [.int .u8 _] => true
  | _ => false
theorem isU1_ex : ∀ (xs : List (List V)), xs.all isU1 = true → ∃ b : List Int, xs = b.map u1
  | [], _ => ⟨[], rfl⟩
  | x :: xs, h => by
    simp only [List.all_cons, Bool.and_eq_true] at h
    obtain ⟨b, hb⟩ := isU1_ex xs h.2
    have h1 := h.1
    unfold isU1 at h1
    split at h1
    · rename_i n; exact ⟨n :: b, by simp [u1, hb]⟩
    · cases h1
theorem isU1_map (b : List Int) : (b.map u1).all isU1 = true := by simp [u1, isU1]
theorem clone_ok (x : Int) (b : List Int) (hl : b.length < 1000) : PCall Try.prog 47 [.list 1 ([.int .u8 x] :: b.map u1)] (.list 1 ([.int .u8 x] :: b.map u1)) := by
  have hB0 := u1_flat b
  have hB1 := u8s_pure b
  have hB2 := u8s_one b
  have hB3 : (u8s b).length = b.length := by simp [u8s]
  have hB4 : (b.map u1).length = b.length := by simp
  have hC := u1_chunks b
  obtain ⟨m, hm⟩ : ∃ m, b.length = m := ⟨_, rfl⟩
  rw [hm] at hl hB3 hB4 hC
  clear hm
  have hB5 : Hid (_) := hB0
  generalize u8s b = B at *
  generalize b.map u1 = X at *
  have hBs : ∀ k, B.map (scrC k) = B := fun k => scrC_cells hB1
  have p1 : m + 1 ≤ 140737488355328 := by omega
  have p2 : m + 1 ≤ 9223372036854775807 := by omega
  refine pcall_cx noTab_ok mixed (fun _ => none) Try.func47 rfl Try.ntmps47 Try.results47 (by simp) (by kernel_rfl) ?_
  repeat' first
    | (with_reducible refine gw_bool (fun _ => ?_) (fun _ => ?_))
    | (with_reducible refine condw_bool (fun _ => ?_) (fun _ => ?_))
    | simp [*, appendV, srcCells, St.forget, scr, scrC, usesC, usesA, oneV]
def Tclone : List V → Option V
  | [.list 1 xs] => if xs.all isU1 = true ∧ 0 < xs.length ∧ xs.length < 1000 then some (.list 1 xs) else none
  | _ => none
theorem clone_tab : ∀ vs u, Tclone vs = some u → PCall Try.prog 47 vs u := by
  intro vs u h; unfold Tclone at h; split at h
  · split at h
    · rename_i hc; cases h
      obtain ⟨b, rfl⟩ := isU1_ex _ hc.1
      obtain ⟨_, h1, h2⟩ := hc
      cases b with
      | nil => simp at h1
      | cons x b => exact clone_ok x b (by simp at h2; omega)
    · cases h
  · cases h
theorem rl_ok (t m : Int) (Z : List (List V)) (h0 : 0 ≤ m) (h1 : m < 128) (hZ : Z.length < 1000) : PCall Try.prog 46 [.list 1 ([.int .u8 t] :: [.int .u8 m] :: Z)] (.tup [.int .i64 2, .int .i64 m, .int .i64 0]) := by
  have e1 := wrap_in (n := m) (by omega) (by omega)
  have e2 : ilt m 128 = true := ilt_t h1
  obtain ⟨z, hz⟩ : ∃ z, Z.length = z := ⟨_, rfl⟩
  have e3 : ilt ((z : Int) + 1 + 1) 2 = false := ilt_f (by omega)
  refine pcall_cx noTab_ok mixed (fun _ => none) Try.func46 rfl Try.ntmps46 Try.results46 (by simp) (by kernel_rfl) ?_
  repeat' first
    | (with_reducible refine gw_bool (fun _ => ?_) (fun _ => ?_))
    | (with_reducible refine condw_bool (fun _ => ?_) (fun _ => ?_))
    | simp [*]
def Trl : List V → Option V
  | [.list 1 ([.int .u8 t] :: [.int .u8 m] :: Z)] => if (0 ≤ m ∧ m < 128) ∧ Z.length < 1000 then some (.tup [.int .i64 2, .int .i64 m, .int .i64 0]) else none
  | _ => none
theorem rl_tab : ∀ vs u, Trl vs = some u → PCall Try.prog 46 vs u := by
  intro vs u h; unfold Trl at h; split at h
  · split at h
    · rename_i hc; cases h; exact rl_ok _ _ _ hc.1.1 hc.1.2 hc.2
    · cases h
  · cases h
end Go.Proofs.Ytpkibnkhllefaaa
end
section
namespace Go.Proofs.Ytpkibnkhllefaaa
open Go.Pv Go.RowKit
set_option linter.unusedSimpArgs false
set_option linter.unusedVariables false
set_option maxRecDepth 100000
set_option maxHeartbeats 4000000

def G45 : Tab := add 43 Tnest (add 44 Ttag (add 46 Trl (add 47 Tclone (noTab))))
theorem G45_at (f : FuncId) (vs : List V) : G45.at' f vs = if f = 43 then Tnest vs else if f = 44 then Ttag vs else if f = 46 then Trl vs else if f = 47 then Tclone vs else noTab.at' f vs := rfl
theorem G45_fr (f : FuncId) : G45.fr f = if f = 43 then false else if f = 44 then false else if f = 46 then false else if f = 47 then false else noTab.fr f := rfl
theorem G45_gb (f : FuncId) : G45.gb f = noTab.gb f := rfl
theorem G45_gv (f : FuncId) (vs : List V) : G45.gv f vs = noTab.gv f vs := rfl
attribute [simp] G45_at G45_fr G45_gb G45_gv Tclone Tnest Trl Ttag
theorem G45_ok : TabOK Try.prog G45 := by
  refine add_ok (add_ok (add_ok (add_ok (noTab_ok) (by kernel_rfl) ?_) (by kernel_rfl) ?_) (by kernel_rfl) ?_) (by kernel_rfl) ?_
  · exact clone_tab
  · exact rl_tab
  · exact tag_tab
  · exact nest_tab
noncomputable def HR (ks0 X0 : List (List V)) (d : Int) : Tab := add 37 (T1 [.list 1 X0, .int .i64 (d + 1)] (.tup [.list 3 ks0, .int .i64 0])) G45
section
variable (ks0 X0 : List (List V)) (d : Int)
theorem HR_at (g : FuncId) (ws : List V) : (HR ks0 X0 d).at' g ws = if g = 37 then T1 [.list 1 X0, .int .i64 (d + 1)] (.tup [.list 3 ks0, .int .i64 0]) ws else G45.at' g ws := rfl
theorem HR_fr (g : FuncId) : (HR ks0 X0 d).fr g = if g = 37 then false else G45.fr g := rfl
theorem HR_gb (g : FuncId) : (HR ks0 X0 d).gb g = G45.gb g := rfl
theorem HR_gv (g : FuncId) (ws : List V) : (HR ks0 X0 d).gv g ws = G45.gv g ws := rfl
end
attribute [simp] HR_at HR_fr HR_gb HR_gv
def ReaOk (ks0 : List (List V)) (bs0 : List Int) (d : Int) : Prop := PCall Try.prog 37 [.list 1 (bs0.map u1), .int .i64 d] (.tup [.list 3 ks0, .int .i64 0])
theorem HR_ok {ks0 : List (List V)} {bs0 : List Int} {d : Int} (h : ReaOk ks0 bs0 (d + 1)) : TabOK Try.prog (HR ks0 (bs0.map u1) d) :=
  add_ok G45_ok (by kernel_rfl) fun ws w hw => by
    unfold T1 at hw
    split at hw
    · rename_i e; cases hw; rw [e]; exact h
    · cases hw
theorem rea_nil (d : Int) : ReaOk [] [] d := by
  unfold ReaOk
  refine pcall_cx G45_ok mixed (fun _ => none) Try.func37 rfl Try.ntmps37 Try.results37 (by simp) (by kernel_rfl) ?_
  repeat' first
    | (with_reducible refine gw_bool (fun _ => ?_) (fun _ => ?_))
    | (with_reducible refine condw_bool (fun _ => ?_) (fun _ => ?_))
    | simp [*]
  refine lp_view (View.nilOwn _ (t := 6) (key := 75) 3 68 rfl rfl) ?_
  refine lp_unroll (D := (fun _ => none)) G45_ok mixed (by kernel_rfl) ?_
  repeat' first
    | (with_reducible refine gw_bool (fun _ => ?_) (fun _ => ?_))
    | (with_reducible refine condw_bool (fun _ => ?_) (fun _ => ?_))
    | simp [*]
  done
theorem cs_len (v : Nd) : v.cs.length = 3 := by cases v <;> rfl
theorem cs_pure (v : Nd) : v.cs.any ownC = false := by cases v <;> simp [Nd.cs, ownC]
def csL (L : List Nd) : List V := L.flatMap Nd.cs
theorem csL_succ {L : List Nd} {i : Nat} {v : Nd} (h : L[i]? = some v) : csL (L.take (i + 1)) = csL (L.take i) ++ v.cs := by
  unfold csL; rw [List.take_add_one, h]; simp
theorem csL_len : ∀ (L : List Nd), (csL L).length = L.length * 3
  | [] => rfl
  | x :: L => by
    have := csL_len L
    simp only [csL, List.flatMap_cons, List.length_append, cs_len, List.length_cons] at this ⊢
    omega
theorem csL_pure (L : List Nd) : (csL L).any ownC = false := by
  rw [List.any_eq_false]; intro c hc
  obtain ⟨v, _, hv⟩ := List.mem_flatMap.1 hc
  have := List.any_eq_false.1 (cs_pure v) c hv
  simpa using this
theorem csL_chunks : ∀ (L : List Nd), chunks 3 L.length (csL L) = L.map Nd.cs
  | [] => rfl
  | x :: L => by
    have := csL_chunks L
    have h3 := cs_len x
    simp only [csL, List.flatMap_cons, List.length_cons, chunks, List.map_cons] at this ⊢
    rw [List.take_left' h3, List.drop_left' h3, this]
theorem enc_drop {L : List Nd} {i : Nat} {v : Nd} (h : L[i]? = some v) : enc (L.drop i) = v.out ++ enc (L.drop (i + 1)) := by
  obtain ⟨hi, hv⟩ := List.getElem?_eq_some_iff.1 h
  rw [List.drop_eq_getElem_cons hi, hv]
  simp [enc]
theorem rea_gen (L : List Nd) (d : Int) (hd : 0 ≤ d ∧ d ≤ 5) (ks0 : List (List V)) (bs0 : List Int) (h0 : ReaOk ks0 bs0 (d + 1)) (hL : ∀ x ∈ L, x.ok ks0 bs0 ∧ 0 < x.bs.length) (hn : (enc L).length ≤ 900) (hl : L.length ≤ 1000) : ReaOk (L.map Nd.cs) (enc L) d := by
  unfold ReaOk
  have HX_ok := HR_ok h0
  clear h0
  replace hL : Hid (_) := hL
  obtain ⟨n, hln⟩ : ∃ n, L.length = n := ⟨_, rfl⟩
  have hn' : n ≤ 1000 := by omega
  have hE : Hid (∀ i, (enc (L.drop i)).length ≤ 900) := show ∀ i, _ from fun i => by
    have e : enc L = enc (L.take i) ++ enc (L.drop i) := by unfold enc; rw [← List.flatMap_append, List.take_append_drop]
    rw [e, List.length_append] at hn; omega
  have hln' : Hid (_) := hln
  have hCh : Hid (_) := csL_chunks L
  clear hl hn
  have d1 : ilt 6 d = false := ilt_f (by omega)
  have d2 : IntKind.i64.wrap (d + 1) = d + 1 := wrap_in (by omega) (by omega)
  have d3 : Hid (_) := hd
  clear hd
  obtain ⟨R, hR⟩ : ∃ R, L.map Nd.cs = R := ⟨_, rfl⟩
  rw [hR]
  obtain ⟨Y0, hY0⟩ : ∃ Y0, (enc L).map u1 = Y0 := ⟨_, rfl⟩
  rw [hY0]
  replace hY0 : Hid (_) := hY0
  replace hR : Hid (_) := hR
  refine pcall_cx HX_ok mixed (fun _ => none) Try.func37 rfl Try.ntmps37 Try.results37 (by simp) (by kernel_rfl) ?_
  repeat' first
    | (with_reducible refine gw_bool (fun _ => ?_) (fun _ => ?_))
    | (with_reducible refine condw_bool (fun _ => ?_) (fun _ => ?_))
    | simp [*]
  refine lp_view (View.nilOwn _ (t := 6) (key := 75) 3 68 rfl rfl) ?_
  refine lp_go (D := (fun _ => none)) HX_ok mixed (by kernel_rfl) [1] [9, 74] (α := Nat) (fun i e h => i ≤ n ∧ e 0 = .list 1 ((enc (L.drop i)).map u1) ∧ e 6 = .sl 75 0 i 3 ∧ h 75 = some ⟨68, csL (L.take i)⟩) (fun i => n - i) 0 ?_ ?_
  · exact ⟨by omega, by simp [hY0.out], by simp, by simp [csL]⟩
  rintro i e h hk hkh ⟨hi, g0, g6, g75⟩
  simp [Keep] at hk
  simp [KeepH] at hkh
  have hVp := csL_pure (L.take i)
  have hVl := csL_len (L.take i)
  rw [List.length_take, Nat.min_eq_left (by omega)] at hVl
  by_cases hlt : i < n
  · obtain ⟨v, hv⟩ : ∃ v, L[i]? = some v := ⟨L[i], List.getElem?_eq_getElem (by omega)⟩
    have hV' : Hid (_) := csL_succ hv
    have hD := enc_drop hv
    obtain ⟨hvd, hpos⟩ := hL.out v (List.mem_of_getElem? hv)
    have hb := hE.out i
    rw [hD] at g0 hb
    obtain ⟨Y, hY⟩ : ∃ Y, (enc (L.drop (i + 1))).map u1 = Y := ⟨_, rfl⟩
    have hYl : Y.length = (enc (L.drop (i + 1))).length := by rw [← hY]; simp
    rw [List.length_append, ← hYl] at hb
    rw [List.map_append, hY] at g0
    replace hY : Hid (_) := hY
    clear hv hD hYl
    generalize csL (L.take i) = W at *
    have hWs : ∀ k, W.map (scrC k) = W := fun k => scrC_cells hVp
    have p7 : (i + 1) * 56 ≤ 140737488355328 := by omega
    have p9 : i + 1 ≤ 9223372036854775807 := by omega
    cases v with
    | p t b =>
      obtain ⟨hp, hbl⟩ := hvd
      simp only [Nd.out, Nd.tag, Nd.bs, List.map_cons, List.length_cons, List.cons_append, u1] at g0 hb hpos
      have hI := isU1_map b
      have hXl : (b.map u1).length = b.length := by simp
      obtain ⟨m, hm⟩ : ∃ m, b.length = m := ⟨_, rfl⟩
      rw [hm] at hbl g0 hb hpos hXl
      have hXe : Hid (_) := (rfl : b.map u1 = b.map u1)
      clear hm
      generalize hX : b.map u1 = X at g0 hI hXl
      have q0 : (b.map u1 ++ Y).take m = X := by rw [hX]; exact List.take_left' hXl
      have q00 : (b.map u1 ++ Y).drop m = Y := by rw [hX]; exact List.drop_left' hXl
      rw [hX] at q0 q00
      obtain ⟨Z, hZ⟩ : ∃ Z, X ++ Y = Z := ⟨_, rfl⟩
      rw [hZ] at g0 q0 q00
      have hZl : Z.length = m + Y.length := by rw [← hZ, List.length_append, hXl]
      obtain ⟨y, hy⟩ : ∃ y, Y.length = y := ⟨_, rfl⟩
      rw [hy] at hZl hb
      have q1 : (m : Int) < 128 := by omega
      have q2 := wrap_in (n := t) (by unfold ptag at hp; omega) (by unfold ptag at hp; omega)
      have hZ2 : m < 1000 := by omega
      obtain ⟨z, hz⟩ : ∃ z, Z.length = z := ⟨_, rfl⟩
      rw [hz] at hZl
      have z1 : z < 1000 := by omega
      have z2 : ilt 0 ((z : Int) + 1 + 1) = true := ilt_t (by omega)
      have z3 : IntKind.i64.wrap ((z : Int) + 1 + 1 - 2) = z := by rw [wrap_in (by omega) (by omega)]; omega
      have z4 : ilt (z : Int) m = false := ilt_f (by omega)
      have z5 : IntKind.i64.wrap (2 + (m : Int)) = ((m + 2 : Nat) : Int) := by rw [wrap_in (by omega) (by omega)]; omega
      have w1 : (0 : Int) ≤ (m : Int) + 2 := by omega
      have w2 : ((m : Int) + 2).toNat = m + 2 := by omega
      have w3 : m + 2 ≤ z + 1 + 1 := by omega
      have w4 : ¬ (m = 0) := by omega
      have w5 : z + 1 + 1 - (m + 2) = y := by omega
      have w6 : z - m = y := by omega
      have w7 : Y.take y = Y := List.take_of_length_le (by omega)
      replace hZ : Hid (_) := hZ
      replace hX : Hid (_) := hX
      by_cases hy0 : y = 0
      · have w9 : Y = [] := List.eq_nil_of_length_eq_zero (by omega)
        obtain rfl : m = z := by omega
        replace hZl : Hid (_) := hZl
        repeat' first
          | (with_reducible refine gw_bool (fun _ => ?_) (fun _ => ?_))
          | (with_reducible refine condw_bool (fun _ => ?_) (fun _ => ?_))
          | simp [*, appendV, srcCells, St.forget, scr, scrC, usesC, usesA, chunks, oneV]
        refine nxt_go (i + 1) ((View.forget _ _ 9).trans ((View.forget _ _ 74))) (by omega) (by simp [*, Keep, St.forget, scr, scrC]) (by simp [*, KeepH, St.forget, scr, scrC]) ?_
        refine ⟨by omega, ?_, by simp [*, St.forget, scr, scrC], ?_⟩
        · rw [hY.out]; simp [*, St.forget, scr, scrC]
        · rw [hV'.out]; simp only [Nd.cs, hX.out]; simp [*, St.forget, scr, scrC]
      · have w8 : ¬ (m + 2 = z + 1 + 1) := by omega
        have w10 : ¬ (m = z) := by omega
        replace hZl : Hid (_) := hZl
        repeat' first
          | (with_reducible refine gw_bool (fun _ => ?_) (fun _ => ?_))
          | (with_reducible refine condw_bool (fun _ => ?_) (fun _ => ?_))
          | simp [*, appendV, srcCells, St.forget, scr, scrC, usesC, usesA, chunks, oneV]
        refine nxt_go (i + 1) ((View.forget _ _ 9).trans ((View.forget _ _ 74))) (by omega) (by simp [*, Keep, St.forget, scr, scrC]) (by simp [*, KeepH, St.forget, scr, scrC]) ?_
        refine ⟨by omega, ?_, by simp [*, St.forget, scr, scrC], ?_⟩
        · rw [hY.out]; simp [*, St.forget, scr, scrC]
        · rw [hV'.out]; simp only [Nd.cs, hX.out]; simp [*, St.forget, scr, scrC]
    | k t ks b =>
      obtain ⟨⟨hp, hbl⟩, rfl, rfl⟩ := hvd
      have hnp : ¬ ptag t := by unfold ptag; unfold ktag at hp; omega
      simp only [Nd.out, Nd.tag, Nd.bs, List.map_cons, List.length_cons, List.cons_append, u1] at g0 hb hpos
      have hI := isU1_map b
      have hXl : (b.map u1).length = b.length := by simp
      obtain ⟨m, hm⟩ : ∃ m, b.length = m := ⟨_, rfl⟩
      rw [hm] at hbl g0 hb hpos hXl
      have hXe : Hid (_) := (rfl : b.map u1 = b.map u1)
      clear hm
      generalize hX : b.map u1 = X at g0 hI hXl HX_ok
      have hT1 := T1_at [.list 1 X, .int .i64 (d + 1)] (.tup [.list 3 ks, .int .i64 0])
      have q0 : (b.map u1 ++ Y).take m = X := by rw [hX]; exact List.take_left' hXl
      have q00 : (b.map u1 ++ Y).drop m = Y := by rw [hX]; exact List.drop_left' hXl
      rw [hX] at q0 q00
      obtain ⟨Z, hZ⟩ : ∃ Z, X ++ Y = Z := ⟨_, rfl⟩
      rw [hZ] at g0 q0 q00
      have hZl : Z.length = m + Y.length := by rw [← hZ, List.length_append, hXl]
      obtain ⟨y, hy⟩ : ∃ y, Y.length = y := ⟨_, rfl⟩
      rw [hy] at hZl hb
      have q1 : (m : Int) < 128 := by omega
      have q2 := wrap_in (n := t) (by unfold ktag at hp; omega) (by unfold ktag at hp; omega)
      have hZ2 : m < 1000 := by omega
      obtain ⟨z, hz⟩ : ∃ z, Z.length = z := ⟨_, rfl⟩
      rw [hz] at hZl
      have z1 : z < 1000 := by omega
      have z2 : ilt 0 ((z : Int) + 1 + 1) = true := ilt_t (by omega)
      have z3 : IntKind.i64.wrap ((z : Int) + 1 + 1 - 2) = z := by rw [wrap_in (by omega) (by omega)]; omega
      have z4 : ilt (z : Int) m = false := ilt_f (by omega)
      have z5 : IntKind.i64.wrap (2 + (m : Int)) = ((m + 2 : Nat) : Int) := by rw [wrap_in (by omega) (by omega)]; omega
      have w1 : (0 : Int) ≤ (m : Int) + 2 := by omega
      have w2 : ((m : Int) + 2).toNat = m + 2 := by omega
      have w3 : m + 2 ≤ z + 1 + 1 := by omega
      have w4 : ¬ (m = 0) := by omega
      have w5 : z + 1 + 1 - (m + 2) = y := by omega
      have w6 : z - m = y := by omega
      have w7 : Y.take y = Y := List.take_of_length_le (by omega)
      replace hZ : Hid (_) := hZ
      replace hX : Hid (_) := hX
      by_cases hy0 : y = 0
      · have w9 : Y = [] := List.eq_nil_of_length_eq_zero (by omega)
        obtain rfl : m = z := by omega
        replace hZl : Hid (_) := hZl
        repeat' first
          | (with_reducible refine gw_bool (fun _ => ?_) (fun _ => ?_))
          | (with_reducible refine condw_bool (fun _ => ?_) (fun _ => ?_))
          | simp [*, appendV, srcCells, St.forget, scr, scrC, usesC, usesA, chunks, oneV]
        refine nxt_go (i + 1) ((View.forget _ _ 9).trans ((View.forget _ _ 74))) (by omega) (by simp [*, Keep, St.forget, scr, scrC]) (by simp [*, KeepH, St.forget, scr, scrC]) ?_
        refine ⟨by omega, ?_, by simp [*, St.forget, scr, scrC], ?_⟩
        · rw [hY.out]; simp [*, St.forget, scr, scrC]
        · rw [hV'.out]; simp only [Nd.cs, hX.out]; simp [*, St.forget, scr, scrC]
      · have w8 : ¬ (m + 2 = z + 1 + 1) := by omega
        have w10 : ¬ (m = z) := by omega
        replace hZl : Hid (_) := hZl
        repeat' first
          | (with_reducible refine gw_bool (fun _ => ?_) (fun _ => ?_))
          | (with_reducible refine condw_bool (fun _ => ?_) (fun _ => ?_))
          | simp [*, appendV, srcCells, St.forget, scr, scrC, usesC, usesA, chunks, oneV]
        refine nxt_go (i + 1) ((View.forget _ _ 9).trans ((View.forget _ _ 74))) (by omega) (by simp [*, Keep, St.forget, scr, scrC]) (by simp [*, KeepH, St.forget, scr, scrC]) ?_
        refine ⟨by omega, ?_, by simp [*, St.forget, scr, scrC], ?_⟩
        · rw [hY.out]; simp [*, St.forget, scr, scrC]
        · rw [hV'.out]; simp only [Nd.cs, hX.out]; simp [*, St.forget, scr, scrC]
  · have e3 : i = n := by omega
    have e4 : L.take n = L := List.take_of_length_le (by rw [hln'.out]; exact Nat.le_refl _)
    have e5 : L.drop n = [] := List.drop_of_length_le (by rw [hln'.out]; exact Nat.le_refl _)
    have hC := hCh.out
    rw [hR.out, hln] at hC
    subst e3
    rw [e4] at g75 hVl hVp
    rw [e5] at g0
    simp only [enc, List.flatMap_nil, List.map_nil] at g0
    clear hln
    generalize csL L = W at *
    repeat' first
      | (with_reducible refine gw_bool (fun _ => ?_) (fun _ => ?_))
      | (with_reducible refine condw_bool (fun _ => ?_) (fun _ => ?_))
      | simp [*]
end Go.Proofs.Ytpkibnkhllefaaa
end
