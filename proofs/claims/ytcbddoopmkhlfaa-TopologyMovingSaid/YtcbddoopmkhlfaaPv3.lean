/-
  Part 3: the operations that look at no memory, one by one, and that each yields what its pure form says.
-/
import Derived.Test.YtcbddoopmkhlfaaPv2
namespace Go.Pv
open Go.RowKit
set_option linter.unusedSimpArgs false

/-! ### arithmetic -/
/-- The tests on integers: two atoms that simp leaves alone. -/
def ilt (a b : Int) : Bool := decide (a < b)
def ieq (a b : Int) : Bool := a == b
def binI (op : BinOp) (k : IntKind) (a : Int) (k' : IntKind) (b : Int) : Option V :=
  match op with
  | .shl => bif decide (0 ≤ b) then some (.int k (k.wrap (a * 2 ^ (min b.toNat k.bits)))) else none
  | .shr => bif decide (0 ≤ b) then some (.int k (a.fdiv (2 ^ (min b.toNat k.bits)))) else none
  | .add => bif decide (k = k') then some (.int k (k.wrap (a + b))) else none
  | .sub => bif decide (k = k') then some (.int k (k.wrap (a - b))) else none
  | .mul => bif decide (k = k') then some (.int k (k.wrap (a * b))) else none
  | .quo => bif decide (k = k') && decide (b ≠ 0) then some (.int k (k.wrap (a.tdiv b))) else none
  | .rem => bif decide (k = k') && decide (b ≠ 0) then some (.int k (a.tmod b)) else none
  | .and => bif decide (k = k') then some (.int k (k.wrap (BitVec.ofInt k.bits a &&& BitVec.ofInt k.bits b).toNat)) else none
  | .or => bif decide (k = k') then some (.int k (k.wrap (BitVec.ofInt k.bits a ||| BitVec.ofInt k.bits b).toNat)) else none
  | .xor => bif decide (k = k') then some (.int k (k.wrap (BitVec.ofInt k.bits a ^^^ BitVec.ofInt k.bits b).toNat)) else none
  | .eql => bif decide (k = k') then some (.bool (ieq a b)) else none
  | .neq => bif decide (k = k') then some (.bool (!ieq a b)) else none
  | .lss => bif decide (k = k') then some (.bool (ilt a b)) else none
  | .leq => bif decide (k = k') then some (.bool (!ilt b a)) else none
  | .gtr => bif decide (k = k') then some (.bool (ilt b a)) else none
  | .geq => bif decide (k = k') then some (.bool (!ilt a b)) else none
  | _ => none
def binS (op : BinOp) (a b : ByteArray) : Option V :=
  match op with
  | .eql => some (.bool (a.toList == b.toList))
  | .neq => some (.bool !(a.toList == b.toList))
  | .lss => some (.bool (Op.bytesLess a.toList b.toList))
  | .leq => some (.bool (Op.bytesLess a.toList b.toList || a.toList == b.toList))
  | .gtr => some (.bool !(Op.bytesLess a.toList b.toList || a.toList == b.toList))
  | .geq => some (.bool !(Op.bytesLess a.toList b.toList))
  | _ => none
def bin (P : Program) (op : BinOp) (t : TypeId) (x y : V) : Option V :=
  match x, y with
  | .int k a, .int k' b => binI op k a k' b
  | .bool a, .bool b => (match op, td P t with
    | .eql, some d => bif d.isBool then some (.bool (a == b)) else none
    | .neq, some d => bif d.isBool then some (.bool (a != b)) else none
    | _, _ => none)
  | .str a, .str b => binS op a b
  | .agg xs, .agg ys => (match op, td P t with
    | .eql, some d => bif d.eqg then none else (eqV P 6 t (.agg xs) (.agg ys)).map .bool
    | .neq, some d => bif d.eqg then none else (eqV P 6 t (.agg xs) (.agg ys)).map (fun b => .bool !b)
    | _, _ => none)
  | .list _ (_ :: _), .nils => (match op, td P t with
    | .eql, some d => bif d.slc.isSome then some (.bool false) else none
    | .neq, some d => bif d.slc.isSome then some (.bool true) else none
    | _, _ => none)
  | .val (.slice a _ _), .nils => (match op, td P t with
    | .eql, some d => bif d.slc.isSome then some (.bool a.isNone) else none
    | .neq, some d => bif d.slc.isSome then some (.bool (!a.isNone)) else none
    | _, _ => none)
  | _, _ => none
def un (op : UnOp) (x : V) : Option V :=
  match op, x with
  | .not, .bool b => some (.bool !b)
  | .neg, .int k a => some (.int k (k.wrap (0 - a)))
  | .xor, .int k a => some (.int k (k.wrap (BitVec.ofInt k.bits (if k.signed then -1 else k.max) ^^^ BitVec.ofInt k.bits a).toNat))
  | _, _ => none

section
variable {w0 : Base} {n : Nat} {ro : Nat → Prop} {lam : Lam} {st : St} {a : Act} {w : World} {P : Program}

theorem td_some {t : TypeId} {d : Td} (h : td P t = some d) : ∃ i D, P.info? t = some i ∧ P.underlying t = some D := by
  unfold td at h
  split at h
  · rename_i i D h1 h2; exact ⟨i, D, h1, h2⟩
  · cases h

theorem td_bool {t : TypeId} {d : Td} (h : td P t = some d) (hb : d.isBool = true) : P.underlying t = some .bool := by
  obtain ⟨i, D, h1, h2⟩ := td_some h
  simp only [td, h1, h2, Option.some.injEq] at h
  subst h
  cases D <;> simp at hb
  exact h2
theorem td_eqg {t : TypeId} {d : Td} (h : td P t = some d) (hb : d.eqg = false) : P.eqGuardType P.depth t = false := by
  obtain ⟨i, D, h1, h2⟩ := td_some h
  simp only [td, h1, h2, Option.some.injEq] at h
  subst h
  exact hb

theorem run_eqGuard_int (op : BinOp) (t : TypeId) (ox oy : Operand) (k k' : IntKind) (i j : Int) : (eqGuard op t ox oy (.int k i) (.int k' j)).run P w = .ok () w := by
  cases op <;> simp [eqGuard]
theorem run_eqGuard_bool (op : BinOp) (t : TypeId) (ox oy : Operand) (i j : Bool) : (eqGuard op t ox oy (.bool i) (.bool j)).run P w = .ok () w := by
  cases op <;> simp [eqGuard]
theorem run_eqGuard_str (op : BinOp) (t : TypeId) (ox oy : Operand) (i j : ByteArray) : (eqGuard op t ox oy (.string i) (.string j)).run P w = .ok () w := by
  cases op <;> simp [eqGuard]

theorem binI_sound {op : BinOp} {t : TypeId} {k k' : IntKind} {i j : Int} {v : V} (h : binI op k i k' j = some v) : ∃ z, (binOp op t (.int k i) (.int k' j)).run P w = .ok z w ∧ R w ro lam v z := by
  cases op <;> simp only [binI, reduceCtorEq] at h <;> simp only [cond_eq_ite] at h <;> (try split at h) <;> (try cases h) <;>
    rename_i hc <;> (try simp only [decide_eq_true_eq, Bool.and_eq_true] at hc) <;>
    first
      | (subst hc; exact ⟨_, by simp [binOp, Op.intArith, Op.intBits, Op.intCmp], .pure _ _ (.int _ _)⟩)
      | (subst hc; refine ⟨_, ?_, .pure _ _ (.bool _)⟩; first | (simp [binOp, Op.intArith, Op.intBits, Op.intCmp, ilt, ieq, bne]; done) | (simp [binOp, Op.intCmp, ilt]; rw [Bool.eq_iff_iff]; simp))
      | (obtain ⟨rfl, hz⟩ := hc; exact ⟨_, by simp [binOp, Op.intDiv, hz], .pure _ _ (.int _ _)⟩)
      | (have hn : ¬ j < 0 := by omega
         exact ⟨_, by simp [binOp, Op.shift, hn], .pure _ _ (.int _ _)⟩)
theorem binS_sound {op : BinOp} {t : TypeId} {i j : ByteArray} {v : V} (h : binS op i j = some v) : ∃ z, (binOp op t (.string i) (.string j)).run P w = .ok z w ∧ R w ro lam v z := by
  cases op <;> simp only [binS, reduceCtorEq, Option.some.injEq] at h <;> subst h <;>
    exact ⟨_, by simp [binOp, Op.stringOp], .pure _ _ (.bool _)⟩

theorem td_slcN {t : TypeId} {d : Td} (h : td P t = some d) (hb : d.slc.isSome = true) : ∃ e, P.underlying t = some (.slice e) := by
  obtain ⟨i, D, h1, h2⟩ := td_some h
  simp only [td, h1, h2, Option.some.injEq] at h
  subst h
  cases D with
  | slice e => exact ⟨e, h2⟩
  | _ => simp at hb
theorem run_equal_nilN (w : World) (t e : TypeId) (a : Option Addr) (l c : Nat) (h : P.underlying t = some (.slice e)) : (Op.equal t (.slice a l c) (.slice none 0 0)).run P w = .ok a.isNone w := by
  have key : ∀ d, (Op.equalIn (d + 1) t (.slice a l c) (.slice none 0 0)).run P w = .ok a.isNone w := fun d => by cases a <;> simp [Op.equalIn, run_underlying h]
  exact key 9999
theorem run_eql_nilN (w : World) (t e : TypeId) (ox oy : Operand) (a : Option Addr) (l c : Nat) (h : P.underlying t = some (.slice e)) : (do eqGuard .eql t ox oy (.slice a l c) (.slice none 0 0); binOp .eql t (.slice a l c) (.slice none 0 0)).run P w = .ok (.bool a.isNone) w := by
  have := run_equal_nilN w t e a l c h
  simp [eqGuard, binOp, this]
theorem run_neq_nilN (w : World) (t e : TypeId) (ox oy : Operand) (a : Option Addr) (l c : Nat) (h : P.underlying t = some (.slice e)) : (do eqGuard .neq t ox oy (.slice a l c) (.slice none 0 0); binOp .neq t (.slice a l c) (.slice none 0 0)).run P w = .ok (.bool (!a.isNone)) w := by
  have := run_equal_nilN w t e a l c h
  simp [eqGuard, binOp, this]
theorem bin_sound {op : BinOp} {t : TypeId} {x y v : V} {X Y : Value} (ox oy : Operand) (h : bin P op t x y = some v) (hx : R w ro lam x X) (hy : R w ro lam y Y) :
    ∃ z, (do eqGuard op t ox oy X Y; binOp op t X Y).run P w = .ok z w ∧ R w ro lam v z := by
  unfold bin at h
  split at h
  · have := hx.int_inv; subst this
    have := hy.int_inv; subst this
    obtain ⟨z, hz, hr⟩ := binI_sound (P := P) (w := w) (ro := ro) (lam := lam) (t := t) h
    exact ⟨z, by simp only [Sem.run_bind, run_eqGuard_int, Result.andThen_ok, hz], hr⟩
  · have := hx.bool_inv; subst this
    have := hy.bool_inv; subst this
    split at h
    · rename_i d hd
      simp only [cond_eq_ite] at h
      split at h
      · rename_i hb
        simp only [Option.some.injEq] at h; subst h
        have hu := td_bool hd hb
        refine ⟨_, ?_, .pure _ _ (.bool _)⟩
        simp only [Sem.run_bind, run_eqGuard_bool, Result.andThen_ok]
        simp [binOp, run_equal_bool w t _ _ hu]
      · cases h
    · rename_i d hd
      simp only [cond_eq_ite] at h
      split at h
      · rename_i hb
        simp only [Option.some.injEq] at h; subst h
        have hu := td_bool hd hb
        refine ⟨_, ?_, .pure _ _ (.bool _)⟩
        simp only [Sem.run_bind, run_eqGuard_bool, Result.andThen_ok]
        simp [binOp, run_equal_bool w t _ _ hu, bne]
      · cases h
    · cases h
  · have := hx.str_inv; subst this
    have := hy.str_inv; subst this
    obtain ⟨z, hz, hr⟩ := binS_sound (P := P) (w := w) (ro := ro) (lam := lam) (t := t) h
    exact ⟨z, by simp only [Sem.run_bind, run_eqGuard_str, Result.andThen_ok, hz], hr⟩
  · obtain ⟨ax, rfl, _, _⟩ := hx.agg_inv
    obtain ⟨ay, rfl, _, _⟩ := hy.agg_inv
    split at h
    · rename_i d hd
      simp only [cond_eq_ite] at h
      split at h
      · cases h
      · rename_i hg
        have hg' := td_eqg hd (by simpa using hg)
        simp only [Option.map_eq_some_iff] at h
        obtain ⟨b, hb, rfl⟩ := h
        have he := eqV_sound (P := P) 9994 6 t _ _ b _ _ hb hx hy w
        exact ⟨.bool b, by simp only [Sem.run_bind, run_eqGuard_agg w _ _ _ _ _ _ hg', Result.andThen_ok, run_eql_struct, he], .pure _ _ (.bool _)⟩
    · rename_i d hd
      simp only [cond_eq_ite] at h
      split at h
      · cases h
      · rename_i hg
        have hg' := td_eqg hd (by simpa using hg)
        simp only [Option.map_eq_some_iff] at h
        obtain ⟨b, hb, rfl⟩ := h
        have he := eqV_sound (P := P) 9994 6 t _ _ b _ _ hb hx hy w
        exact ⟨.bool (!b), by simp only [Sem.run_bind, run_eqGuard_agg w _ _ _ _ _ _ hg', Result.andThen_ok, run_neq_struct, he], .pure _ _ (.bool _)⟩
    · cases h
  · have := hy.nils_inv; subst this
    rcases hx.list_inv with ⟨h0, _⟩ | ⟨ad, cap, g, rfl, _⟩
    · cases h0
    · split at h
      · rename_i d hd
        simp only [cond_eq_ite] at h
        split at h
        · rename_i hb
          simp only [Option.some.injEq] at h; subst h
          obtain ⟨e, hu⟩ := td_slcN hd hb
          exact ⟨_, run_eql_nilN w t e ox oy (some ad) _ _ hu, .pure _ _ (.bool _)⟩
        · cases h
      · rename_i d hd
        simp only [cond_eq_ite] at h
        split at h
        · rename_i hb
          simp only [Option.some.injEq] at h; subst h
          obtain ⟨e, hu⟩ := td_slcN hd hb
          exact ⟨_, run_neq_nilN w t e ox oy (some ad) _ _ hu, .pure _ _ (.bool _)⟩
        · cases h
      · cases h
  · rename_i A l c
    have := hy.nils_inv; subst this
    have hX : X = .slice A l c := by cases hx with | pure _ _ hx => cases hx; rfl
    subst hX
    split at h
    · rename_i d hd
      simp only [cond_eq_ite] at h
      split at h
      · rename_i hb
        simp only [Option.some.injEq] at h; subst h
        obtain ⟨e, hu⟩ := td_slcN hd hb
        exact ⟨_, run_eql_nilN w t e ox oy A l c hu, .pure _ _ (.bool _)⟩
      · cases h
    · rename_i d hd
      simp only [cond_eq_ite] at h
      split at h
      · rename_i hb
        simp only [Option.some.injEq] at h; subst h
        obtain ⟨e, hu⟩ := td_slcN hd hb
        exact ⟨_, run_neq_nilN w t e ox oy A l c hu, .pure _ _ (.bool _)⟩
      · cases h
    · cases h
  · cases h

theorem un_sound {op : UnOp} {x v : V} {X : Value} (h : un op x = some v) (hx : R w ro lam x X) : ∃ z, (Op.unary op X).run P w = .ok z w ∧ R w ro lam v z := by
  unfold un at h
  split at h
  · have := hx.bool_inv; subst this
    simp only [Option.some.injEq] at h; subst h
    exact ⟨_, by simp [Op.unary], .pure _ _ (.bool _)⟩
  · have := hx.int_inv; subst this
    simp only [Option.some.injEq] at h; subst h
    exact ⟨_, by simp [Op.unary, Op.intArith], .pure _ _ (.int _ _)⟩
  · have := hx.int_inv; subst this
    simp only [Option.some.injEq] at h; subst h
    exact ⟨_, by simp only [Op.unary, Op.intBits]; rfl, .pure _ _ (.int _ _)⟩
  · cases h

/-! ### len, min, max -/
def lenV (P : Program) (t : TypeId) (x : V) : Option V := match td P t with
  | some d => (match x with
    | .list _ xs => bif d.slc.isSome then some (.int .i64 xs.length) else none
    | .sl _ _ len _ => bif d.slc.isSome then some (.int .i64 len) else none
    | .nils => bif d.slc.isSome then some (.int .i64 0) else none
    | .str s => bif d.isStr then some (.int .i64 s.size) else none
    | _ => none)
  | none => none
theorem td_slc {t : TypeId} {d : Td} (h : td P t = some d) (hb : d.slc.isSome = true) : ∃ e, P.underlying t = some (.slice e) := by
  obtain ⟨i, D, h1, h2⟩ := td_some h
  simp only [td, h1, h2, Option.some.injEq] at h
  subst h
  cases D <;> simp at hb
  exact ⟨_, h2⟩
theorem td_slc' {t e : TypeId} {s : Nat} {d : Td} (h : td P t = some d) (hb : d.slc = some (e, s)) : P.underlying t = some (.slice e) ∧ ∃ ag, partD P e = some (s, ag) := by
  obtain ⟨i, D, h1, h2⟩ := td_some h
  simp only [td, h1, h2, Option.some.injEq] at h
  subst h
  cases D with
  | slice e' =>
    simp only [Option.map_eq_some_iff, Prod.mk.injEq] at hb
    obtain ⟨p, hp, rfl, rfl⟩ := hb
    exact ⟨h2, p.2, hp⟩
  | _ => simp at hb
theorem td_str {t : TypeId} {d : Td} (h : td P t = some d) (hb : d.isStr = true) : P.underlying t = some .string := by
  obtain ⟨i, D, h1, h2⟩ := td_some h
  simp only [td, h1, h2, Option.some.injEq] at h
  subst h
  cases D <;> simp at hb
  exact h2
theorem lenV_sound {t ty : TypeId} {x v : V} {X : Value} (h : lenV P t x = some v) (hx : R w ro lam x X) : ∃ z, (Builtin.len_ #[t] ty #[X]).run P w = .ok z w ∧ R w ro lam v z := by
  unfold lenV at h
  split at h
  · rename_i d hd
    split at h <;> (try simp only [cond_eq_ite] at h) <;> (try split at h) <;> (try cases h)
    · rename_i hs
      obtain ⟨e, hu⟩ := td_slc hd hs
      rcases hx.list_inv with ⟨rfl, ad, cap, rfl⟩ | ⟨ad, cap, g, rfl, _⟩
      · exact ⟨_, by simp [Builtin.len_, run_underlying hu, goInt], .pure _ _ (.int _ _)⟩
      · exact ⟨_, by simp [Builtin.len_, run_underlying hu, goInt], .pure _ _ (.int _ _)⟩
    · rename_i hs
      obtain ⟨e, hu⟩ := td_slc hd hs
      rcases hx.sl_inv with ⟨_, rfl, rfl, rfl⟩ | ⟨b, m, cap, _, _, _, _, rfl⟩
      · exact ⟨_, by simp [Builtin.len_, run_underlying hu, goInt], .pure _ _ (.int _ _)⟩
      · exact ⟨_, by simp [Builtin.len_, run_underlying hu, goInt], .pure _ _ (.int _ _)⟩
    · rename_i hs
      obtain ⟨e, hu⟩ := td_slc hd hs
      have := hx.nils_inv; subst this
      exact ⟨_, by simp [Builtin.len_, run_underlying hu, goInt], .pure _ _ (.int _ _)⟩
    · rename_i hs
      have hu := td_str hd hs
      have := hx.str_inv; subst this
      exact ⟨_, by simp [Builtin.len_, run_underlying hu, goInt], .pure _ _ (.int _ _)⟩
  · cases h

def minV : V → List V → Option V
  | v, [] => some v
  | .int k x, .int _ y :: rest => minV (.int k (min x y)) rest
  | _, _ :: _ => none
def maxV : V → List V → Option V
  | v, [] => some v
  | .int k x, .int _ y :: rest => maxV (.int k (max x y)) rest
  | _, _ :: _ => none
theorem minV_sound : ∀ (xs : List V) (x v : V) (Xs : List Value) (X : Value), minV x xs = some v → R w ro lam x X → Xs.length = xs.length →
    (∀ (j : Nat) (c : V) (y : Value), xs[j]? = some c → Xs[j]? = some y → R w ro lam c y) → ∃ z, (Xs.foldlM Builtin.min2 X).run P w = .ok z w ∧ R w ro lam v z
  | [], x, v, Xs, X, h, hx, hl, _ => by
    have : Xs = [] := List.eq_nil_of_length_eq_zero (by simpa using hl)
    subst this
    simp only [minV, Option.some.injEq] at h; subst h
    exact ⟨X, by simp, hx⟩
  | y :: xs, x, v, Xs, X, h, hx, hl, hr => by
    obtain ⟨Y, Ys, rfl⟩ : ∃ Y Ys, Xs = Y :: Ys := by cases Xs with | nil => simp at hl | cons Y Ys => exact ⟨Y, Ys, rfl⟩
    have hy := hr 0 y Y rfl rfl
    unfold minV at h
    split at h
    · rename_i h0; cases h0
    · rename_i k i k' j rest heq
      simp only [List.cons.injEq] at heq
      obtain ⟨rfl, rfl⟩ := heq
      have := hx.int_inv; subst this
      have := hy.int_inv; subst this
      obtain ⟨z, hz, hzr⟩ := minV_sound xs _ v Ys (.int k (min i j)) h (.pure _ _ (.int _ _)) (by simpa using hl) (fun j c y hc hy => hr (j + 1) c y (by simpa using hc) (by simpa using hy))
      have e : (if j < i then j else i) = min i j := by omega
      exact ⟨z, by simpa [List.foldlM_cons, Builtin.min2, e] using hz, hzr⟩
    · cases h
theorem maxV_sound : ∀ (xs : List V) (x v : V) (Xs : List Value) (X : Value), maxV x xs = some v → R w ro lam x X → Xs.length = xs.length →
    (∀ (j : Nat) (c : V) (y : Value), xs[j]? = some c → Xs[j]? = some y → R w ro lam c y) → ∃ z, (Xs.foldlM Builtin.max2 X).run P w = .ok z w ∧ R w ro lam v z
  | [], x, v, Xs, X, h, hx, hl, _ => by
    have : Xs = [] := List.eq_nil_of_length_eq_zero (by simpa using hl)
    subst this
    simp only [maxV, Option.some.injEq] at h; subst h
    exact ⟨X, by simp, hx⟩
  | y :: xs, x, v, Xs, X, h, hx, hl, hr => by
    obtain ⟨Y, Ys, rfl⟩ : ∃ Y Ys, Xs = Y :: Ys := by cases Xs with | nil => simp at hl | cons Y Ys => exact ⟨Y, Ys, rfl⟩
    have hy := hr 0 y Y rfl rfl
    unfold maxV at h
    split at h
    · rename_i h0; cases h0
    · rename_i k i k' j rest heq
      simp only [List.cons.injEq] at heq
      obtain ⟨rfl, rfl⟩ := heq
      have := hx.int_inv; subst this
      have := hy.int_inv; subst this
      obtain ⟨z, hz, hzr⟩ := maxV_sound xs _ v Ys (.int k (max i j)) h (.pure _ _ (.int _ _)) (by simpa using hl) (fun j c y hc hy => hr (j + 1) c y (by simpa using hc) (by simpa using hy))
      have e : (if i < j then j else i) = max i j := by omega
      exact ⟨z, by simpa [List.foldlM_cons, Builtin.max2, e] using hz, hzr⟩
    · cases h

/-! ### places -/
def fieldAddrV (P : Program) (s : TypeId) (x : V) (f : Nat) : Option V := match td P s with
  | some d => (match d.fields[f]? with
    | some (some (off, size, _)) => bif decide (size = 0) then none else (match x with
      | .ptr key o => some (.ptr key (o + off))
      | .rp cs => some (.rp (cs.drop off))
      | _ => none)
    | _ => none)
  | none => none
theorem td_field {s : TypeId} {d : Td} {f off size : Nat} {ag : Bool} (h : td P s = some d) (hf : d.fields[f]? = some (some (off, size, ag))) :
    ∃ fs fl, P.underlying s = some (.struct fs) ∧ fs[f]? = some fl ∧ fl.offset = off ∧ partD P fl.type = some (size, ag) := by
  obtain ⟨i, D, h1, h2⟩ := td_some h
  simp only [td, h1, h2, Option.some.injEq] at h
  subst h
  cases D with
  | struct fs =>
    simp only [List.getElem?_map, Array.getElem?_toList, Option.map_eq_some_iff] at hf
    obtain ⟨fl, hfl, p, hp, hpe⟩ := hf
    simp only [Prod.mk.injEq] at hpe
    obtain ⟨rfl, rfl, rfl⟩ := hpe
    exact ⟨fs, fl, h2, hfl, rfl, by rw [hp]⟩
  | _ => simp at hf
theorem add_lit (b o j : Nat) : (⟨b, o, none⟩ : Addr).add j = ⟨b, o + j, none⟩ := by unfold Addr.add; split <;> simp_all
theorem add_add (ad : Addr) (i j : Nat) : (ad.add i).add j = ad.add (i + j) := by
  unfold Addr.add
  by_cases hi : i = 0 <;> by_cases hj : j = 0 <;> simp [hi, hj, Nat.add_assoc]
theorem rp_drop {cs : List V} {ad : Addr} {g : Nat → Value} (hro : ro ad.block) (hg : ∀ (j : Nat) (c : V), cs[j]? = some c → w.cell? (ad.add j) = some (g j)) (hr : ∀ (j : Nat) (c : V), cs[j]? = some c → R0 w ro c (g j)) (off : Nat) :
    R w ro lam (.rp (cs.drop off)) (.pointer (some (ad.add off))) :=
  .pure _ _ (.rp _ _ (fun j => g (off + j)) (by rw [block_add]; exact hro) (fun j c hc => by rw [add_add]; exact hg _ c (by simpa using hc)) (fun j c hc => hr _ c (by simpa using hc)))
theorem fieldAddrV_sound {s : TypeId} {x v : V} {X : Value} {f : Nat} (h : fieldAddrV P s x f = some v) (hx : R w ro lam x X) : ∃ z, (Instr.fieldAt s X f).run P w = .ok z w ∧ R w ro lam v z := by
  unfold fieldAddrV at h
  split at h
  · rename_i d hd
    split at h
    · rename_i off size ag hf
      obtain ⟨fs, fl, hu, hfl, rfl, hp⟩ := td_field hd hf
      obtain ⟨i, dd, h1, h2, h3, h4⟩ := partD_some hp
      simp only [cond_eq_ite, decide_eq_true_eq] at h
      split at h
      · cases h
      · rename_i hsz
        have hpl : ∀ ad : Addr, (fieldPlace ad fl).run P w = .ok (ad.add fl.offset) w := fun ad => by simp [fieldPlace, run_sizeOf' h1, h3, hsz]
        split at h
        · simp only [Option.some.injEq] at h; subst h
          obtain ⟨b, m, hl, rfl⟩ := hx.ptr_inv
          exact ⟨_, by simp [Instr.fieldAt, run_underlying hu, hfl, Instr.sureAddr, hpl, add_lit], .ptr _ _ b m hl⟩
        · simp only [Option.some.injEq] at h; subst h
          obtain ⟨ad, g, rfl, hro, hg, hr⟩ := hx.rp_inv
          exact ⟨_, by simp [Instr.fieldAt, run_underlying hu, hfl, Instr.sureAddr, hpl], rp_drop hro hg hr _⟩
        · cases h
    · cases h
  · cases h

def fieldV (P : Program) (s : TypeId) (x : V) (f : Nat) : Option V := match td P s with
  | some d => (match d.fields[f]?, x with
    | some (some (off, size, ag)), .agg cs => partV cs off size ag
    | _, _ => none)
  | none => none
theorem fieldV_sound {s : TypeId} {x v : V} {X : Value} {f : Nat} (h : fieldV P s x f = some v) (hx : R w ro lam x X) : ∃ z, (Instr.field s X f).run P w = .ok z w ∧ R w ro lam v z := by
  unfold fieldV at h
  split at h
  · rename_i d hd
    split at h
    · rename_i off size ag cs hf
      obtain ⟨fs, fl, hu, hfl, rfl, hp⟩ := td_field hd hf
      obtain ⟨arr, rfl, hl, hr⟩ := hx.agg_inv
      obtain ⟨z, hz, hzr⟩ := part_sound hp hl hr h
      exact ⟨z, by simp [Instr.field, run_underlying hu, hfl, asAgg, hz], hzr⟩
    · cases h
  · cases h

def indexAddrV (P : Program) (t : TypeId) (x i : V) : Option V := match td P t, i with
  | some d, .int _ iv => (match x with
    | .list sz xs => (match d.slc with
      | some (_, s) => bif decide (s = sz) && decide (0 ≤ iv) then xs[iv.toNat]?.map .rp else none
      | none => none)
    | .sl key off len sz => (match d.slc with
      | some (_, s) => bif decide (s = sz) && (decide (0 ≤ iv) && decide (iv < len)) then some (.ptr key (off + iv.toNat * sz)) else none
      | none => none)
    | .ptr key off => (match d.arr with
      | some (m, s, _) => bif decide (0 ≤ iv) && decide (iv < m) then some (.ptr key (off + iv.toNat * s)) else none
      | none => none)
    | .rp cs => (match d.arr with
      | some (m, s, _) => bif decide (0 ≤ iv) && decide (iv < m) then some (.rp (cs.drop (iv.toNat * s))) else none
      | none => none)
    | _ => none)
  | _, _ => none
theorem td_arr {t : TypeId} {d : Td} {m s : Nat} {ag : Bool} (h : td P t = some d) (hf : d.arr = some (m, s, ag)) :
    ∃ e, P.underlying t = some (.array m e) ∧ partD P e = some (s, ag) := by
  obtain ⟨i, D, h1, h2⟩ := td_some h
  simp only [td, h1, h2, Option.some.injEq] at h
  subst h
  cases D with
  | array m' e =>
    simp only [Option.map_eq_some_iff, Prod.mk.injEq] at hf
    obtain ⟨p, hp, rfl, rfl, rfl⟩ := hf
    exact ⟨e, h2, hp⟩
  | _ => simp at hf
theorem indexAddrV_sound {t : TypeId} {x i v : V} {X I : Value} (h : indexAddrV P t x i = some v) (hx : R w ro lam x X) (hi : R w ro lam i I) : ∃ z, (Instr.indexAt t X I).run P w = .ok z w ∧ R w ro lam v z := by
  unfold indexAddrV at h
  split at h
  · rename_i d k iv hd
    have := hi.int_inv; subst this
    split at h
    · rename_i sz xs
      split at h
      · rename_i e s hs
        simp only [cond_eq_ite, Bool.and_eq_true, decide_eq_true_eq] at h
        split at h
        · rename_i hc
          obtain ⟨rfl, h0⟩ := hc
          obtain ⟨hu, ag, hp⟩ := td_slc' hd hs
          obtain ⟨ie, de, h1, h2, h3, h4⟩ := partD_some hp
          simp only [Option.map_eq_some_iff] at h
          obtain ⟨c, hc, rfl⟩ := h
          rcases hx.list_inv with ⟨rfl, ad, cap, rfl⟩ | ⟨ad, cap, g, rfl, hro, hsz, hcap, hg, hr⟩
          · simp at hc
          · have hlt : iv.toNat < xs.length := (List.getElem?_eq_some_iff.1 hc).1
            have hi2 : iv < (xs.length : Int) := by omega
            refine ⟨.pointer (some (ad.add (iv.toNat * s))), by simp [Instr.indexAt, asIntOf, run_underlying hu, h0, hi2, run_sizeOf' h1, h3], .pure _ _ ?_⟩
            refine .rp c _ (fun j => g iv.toNat j) (by rw [block_add]; exact hro) (fun j y hy => ?_) (fun j y hy => hr _ j c y hc hy)
            rw [add_add]; exact hg _ j c y hc hy
        · cases h
      · cases h
    · rename_i key off len sz
      split at h
      · rename_i e s hs
        simp only [cond_eq_ite, Bool.and_eq_true, decide_eq_true_eq] at h
        split at h
        · rename_i hc
          obtain ⟨rfl, h0, hlt⟩ := hc
          obtain ⟨hu, ag, hp⟩ := td_slc' hd hs
          obtain ⟨ie, de, h1, h2, h3, h4⟩ := partD_some hp
          simp only [Option.some.injEq] at h; subst h
          rcases hx.sl_inv with ⟨_, rfl, rfl, rfl⟩ | ⟨b, m, cap, hl, _, _, _, rfl⟩
          · omega
          · exact ⟨_, by simp [Instr.indexAt, asIntOf, run_underlying hu, h0, hlt, run_sizeOf' h1, h3, add_lit], .ptr _ _ b m hl⟩
        · cases h
      · cases h
    · rename_i key off
      split at h
      · rename_i m s ag hs
        simp only [cond_eq_ite, Bool.and_eq_true, decide_eq_true_eq] at h
        split at h
        · rename_i hc
          obtain ⟨h0, hlt⟩ := hc
          obtain ⟨e, hu, hp⟩ := td_arr hd hs
          obtain ⟨ie, de, h1, h2, h3, h4⟩ := partD_some hp
          simp only [Option.some.injEq] at h; subst h
          obtain ⟨b, m', hl, rfl⟩ := hx.ptr_inv
          exact ⟨_, by simp [Instr.indexAt, asIntOf, run_underlying hu, h0, hlt, run_sizeOf' h1, h3, add_lit, Instr.sureAddr], .ptr _ _ b m' hl⟩
        · cases h
      · cases h
    · rename_i cs
      split at h
      · rename_i m s ag hs
        simp only [cond_eq_ite, Bool.and_eq_true, decide_eq_true_eq] at h
        split at h
        · rename_i hc
          obtain ⟨h0, hlt⟩ := hc
          obtain ⟨e, hu, hp⟩ := td_arr hd hs
          obtain ⟨ie, de, h1, h2, h3, h4⟩ := partD_some hp
          simp only [Option.some.injEq] at h; subst h
          obtain ⟨ad, g, rfl, hro, hg, hr⟩ := hx.rp_inv
          exact ⟨_, by simp [Instr.indexAt, asIntOf, run_underlying hu, h0, hlt, run_sizeOf' h1, h3, Instr.sureAddr], rp_drop hro hg hr _⟩
        · cases h
      · cases h
    · cases h
  · cases h

def indexV (P : Program) (t : TypeId) (x i : V) : Option V := match td P t, i with
  | some d, .int _ iv => (match x with
    | .agg cs => (match d.arr with
      | some (m, s, ag) => bif decide (0 ≤ iv) && decide (iv < m) then partV cs (iv.toNat * s) s ag else none
      | none => none)
    | .str b => bif d.isStr && decide (0 ≤ iv) then b[iv.toNat]?.map (fun c => .int .u8 c.toNat) else none
    | _ => none)
  | _, _ => none
theorem indexV_sound {t : TypeId} {x i v : V} {X I : Value} (h : indexV P t x i = some v) (hx : R w ro lam x X) (hi : R w ro lam i I) : ∃ z, (Instr.index t X I).run P w = .ok z w ∧ R w ro lam v z := by
  unfold indexV at h
  split at h
  · rename_i d k iv hd
    have := hi.int_inv; subst this
    split at h
    · rename_i cs
      split at h
      · rename_i m s ag hs
        simp only [cond_eq_ite, Bool.and_eq_true, decide_eq_true_eq] at h
        split at h
        · rename_i hc
          obtain ⟨h0, hlt⟩ := hc
          obtain ⟨e, hu, hp⟩ := td_arr hd hs
          obtain ⟨ie, de, h1, h2, h3, h4⟩ := partD_some hp
          obtain ⟨arr, rfl, hl, hr⟩ := hx.agg_inv
          obtain ⟨z, hz, hzr⟩ := part_sound hp hl hr h
          exact ⟨z, by simp [Instr.index, asIntOf, run_underlying hu, h0, hlt, run_sizeOf' h1, h3, hz], hzr⟩
        · cases h
      · cases h
    · rename_i b
      simp only [cond_eq_ite, Bool.and_eq_true, decide_eq_true_eq] at h
      split at h
      · rename_i hc
        obtain ⟨hs, h0⟩ := hc
        have hu := td_str hd hs
        have := hx.str_inv; subst this
        simp only [Option.map_eq_some_iff] at h
        obtain ⟨c, hc, rfl⟩ := h
        exact ⟨_, by simp [Instr.index, asIntOf, run_underlying hu, h0, hc], .pure _ _ (.int _ _)⟩
      · cases h
    · cases h
  · cases h

def extractV (x : V) (i : Nat) : Option V := match x with
  | .tup vs => vs[i]?
  | _ => none
theorem extractV_sound {x v : V} {X : Value} {i : Nat} (h : extractV x i = some v) (hx : R w ro lam x X) : ∃ z, (Instr.extract X i).run P w = .ok z w ∧ R w ro lam v z := by
  unfold extractV at h
  split at h
  · obtain ⟨arr, rfl, hl, hr⟩ := hx.tup_inv
    have hlt : i < arr.size := by rw [hl]; exact (List.getElem?_eq_some_iff.1 h).1
    exact ⟨arr[i], by simp [Instr.extract, Array.getElem?_eq_getElem hlt], hr i v _ h (Array.getElem?_eq_getElem hlt)⟩
  · cases h

def convertV (P : Program) (src dst : TypeId) (x : V) : Option V := match td P src, td P dst, x with
  | some _, some d, .int _ m => (match d.int with | some k => some (.int k (k.wrap m)) | none => none)
  | _, _, _ => none
theorem td_int {t : TypeId} {d : Td} {k : IntKind} (h : td P t = some d) (hb : d.int = some k) : P.underlying t = some (.int k) := by
  obtain ⟨i, D, h1, h2⟩ := td_some h
  simp only [td, h1, h2, Option.some.injEq] at h
  subst h
  cases D <;> simp at hb
  subst hb
  exact h2
theorem convertV_sound {s t : TypeId} {x v : V} {X : Value} (h : convertV P s t x = some v) (hx : R w ro lam x X) : ∃ z, (convert s t X).run P w = .ok z w ∧ R w ro lam v z := by
  unfold convertV at h
  split at h
  · rename_i ds d k m hds hd
    have := hx.int_inv; subst this
    split at h
    · rename_i k' hk
      have hu := td_int hd hk
      obtain ⟨i, D, h1, h2⟩ := td_some hds
      simp only [Option.some.injEq] at h; subst h
      exact ⟨_, by simp [convert, run_underlying hu, run_underlying h2, Conv.intToInt], .pure _ _ (.int _ _)⟩
    · cases h
  · cases h

/-- A slice's rows as one array. -/
def toArrV (P : Program) (t : TypeId) (x : V) : Option V := match td P t with
  | some d => (match d.arr with
    | some (m, _, _) => (match x with
      | .list _ xs => bif decide (0 < m) && decide (m ≤ xs.length) then some (.rp xs.flatten) else none
      | .sl key off len _ => bif decide (0 < m) && decide (m ≤ len) then some (.ptr key off) else none
      | _ => none)
    | none => none)
  | none => none
theorem flatten_cell {sz : Nat} : ∀ (xs : List (List V)) (_ : ∀ c ∈ xs, c.length = sz) (j : Nat) (x : V), xs.flatten[j]? = some x → ∃ c, xs[j / sz]? = some c ∧ c[j % sz]? = some x
  | [], _, j, x, h => by simp at h
  | c :: xs, hl, j, x, h => by
    have hc : c.length = sz := hl c (by simp)
    rw [List.flatten_cons] at h
    by_cases hj : j < sz
    · rw [List.getElem?_append_left (by omega)] at h
      exact ⟨c, by rw [Nat.div_eq_of_lt hj]; rfl, by rw [Nat.mod_eq_of_lt hj]; exact h⟩
    · rw [List.getElem?_append_right (by omega), hc] at h
      by_cases h0 : sz = 0
      · exfalso
        have hz : xs.flatten = [] := by
          rw [List.flatten_eq_nil_iff]; intro y hy; exact List.length_eq_zero_iff.1 ((hl y (by simp [hy])).trans h0)
        rw [hz] at h; simp at h
      · obtain ⟨y, h1, h2⟩ := flatten_cell xs (fun y hy => hl y (by simp [hy])) (j - sz) x h
        have e : j = (j - sz) + sz := by omega
        refine ⟨y, ?_, ?_⟩
        · rw [e, Nat.add_div_right _ (by omega)]; exact h1
        · rw [e, Nat.add_mod_right]; exact h2
theorem toArrV_sound {t : TypeId} {x v : V} {X : Value} (h : toArrV P t x = some v) (hx : R w ro lam x X) : ∃ z, (Instr.arrayAt t X).run P w = .ok z w ∧ R w ro lam v z := by
  unfold toArrV at h
  split at h
  · rename_i d hd
    split at h
    · rename_i m s ag ha
      obtain ⟨e, hu, _⟩ := td_arr hd ha
      split at h
      · rename_i sz xs
        simp only [cond_eq_ite, Bool.and_eq_true, decide_eq_true_eq] at h
        split at h
        · rename_i hc
          simp only [Option.some.injEq] at h; subst h
          rcases hx.list_inv with ⟨rfl, ad, cap, rfl⟩ | ⟨ad, cap, g, rfl, hro, hsz, hcap, hg, hr⟩
          · simp at hc; omega
          · refine ⟨.pointer (some ad), by simp [Instr.arrayAt, run_underlying hu, show ¬ xs.length < m by omega], .pure _ _ ?_⟩
            refine .rp _ _ (fun j => g (j / sz) (j % sz)) hro (fun j y hy => ?_) (fun j y hy => ?_)
            · obtain ⟨c, h1, h2⟩ := flatten_cell xs hsz j y hy
              have := hg _ _ c y h1 h2
              rwa [Nat.mul_comm, Nat.div_add_mod] at this
            · obtain ⟨c, h1, h2⟩ := flatten_cell xs hsz j y hy
              exact hr _ _ c y h1 h2
        · cases h
      · rename_i key off len sz
        simp only [cond_eq_ite, Bool.and_eq_true, decide_eq_true_eq] at h
        split at h
        · rename_i hc
          simp only [Option.some.injEq] at h; subst h
          rcases hx.sl_inv with ⟨_, _, h0, _⟩ | ⟨b, mm, cap, hl, _, _, _, rfl⟩
          · omega
          · exact ⟨_, by simp [Instr.arrayAt, run_underlying hu, show ¬ len < m by omega], .ptr _ _ b mm hl⟩
        · cases h
      · cases h
    · cases h
  · cases h
end
end Go.Pv
