/-
  Part 2: operations that look at no memory.
-/
import Derived.Test.YtcbddoopmkhlfaaPv1
import Derived.ChangeKeysEq
import Derived.Laws.Tables
import Derived.Laws.StructEq
namespace Go.Pv
open Go.RowKit

/-! ### constants and operands -/
def cv1 : Value → V
  | .bool b => .bool b
  | .int k n => .int k n
  | .string s => .str s
  | .slice none 0 0 => .nils
  | _ => .junk
def cv : Value → V
  | .agg cs => .agg (cs.toList.map cv1)
  | .map none => .val (.map none)
  | v => cv1 v
def norm : V → V
  | .vptr _ key off => .ptr key off
  | .as _ sz xs => .list sz xs
  | .vrp _ cs => .rp cs
  | v => v
def ev (st : St) : Operand → V
  | .tmp t => norm (st.env t)
  | .const v => cv v
  | _ => .junk

section
variable {w0 : Base} {n : Nat} {ro : Nat → Prop} {lam : Lam} {st : St} {a : Act} {w : World} {P : Program}

theorem R0_cv1 (v : Value) : R0 w ro (cv1 v) v := by
  unfold cv1
  split
  · exact .bool _
  · exact .int _ _
  · exact .str _
  · exact .nils
  · exact .junk _
theorem R0_cv (v : Value) : R0 w ro (cv v) v := by
  unfold cv
  split
  · rename_i cs
    refine .agg _ _ (by simp) fun j c x hc hx => ?_
    simp only [List.getElem?_map, Array.getElem?_toList, hx, Option.map_some, Option.some.injEq] at hc
    subst hc
    exact R0_cv1 _
  · exact .val _
  · exact R0_cv1 _
theorem R.norm {v : V} {x : Value} (h : R w ro lam v x) : R w ro lam (norm v) x := by
  cases h with
  | vptr key off b m h => exact .ptr key off b m h
  | pure v x h =>
    cases h with
    | as x sz xs h => exact .pure _ _ h
    | vrp cs ad g h1 h2 h3 => exact .pure _ _ (.rp _ _ g h1 h2 h3)
    | _ => exact .pure _ _ (by constructor <;> assumption)
  | slv key sz h => exact .slv key sz h
  | sl key off len sz b m cap h h1 h2 h3 => exact .sl key off len sz b m cap h h1 h2 h3
  | ptr key off b m h => exact .ptr key off b m h
  | mp key b h => exact .mp key b h
  | agg cells arr hl hr => exact .agg cells arr hl hr
  | tup vs arr hl hr => exact .tup vs arr hl hr
theorem Sim.ev (h : Sim w0 n ro lam st a w) (x : Operand) : R w ro lam (ev st x) (a.eval x) := by
  cases x with
  | tmp t => exact (h.env t).norm
  | const v => exact .pure _ _ (R0_cv v)
  | global g => exact .pure _ _ (.junk _)
  | func f => exact .pure _ _ (.junk _)

/-! ### what a value is -/
theorem R.bool_inv {b : Bool} {x : Value} (h : R w ro lam (.bool b) x) : x = .bool b := by cases h with | pure _ _ h => cases h; rfl
theorem R.int_inv {k : IntKind} {m : Int} {x : Value} (h : R w ro lam (.int k m) x) : x = .int k m := by cases h with | pure _ _ h => cases h; rfl
theorem R.str_inv {s : ByteArray} {x : Value} (h : R w ro lam (.str s) x) : x = .string s := by cases h with | pure _ _ h => cases h; rfl
theorem R.nils_inv {x : Value} (h : R w ro lam .nils x) : x = .slice none 0 0 := by cases h with | pure _ _ h => cases h; rfl
theorem R.undef_inv {x : Value} (h : R w ro lam .undef x) : x = Go.undef := by cases h with | pure _ _ h => cases h; rfl
theorem R.agg_inv {cs : List V} {x : Value} (h : R w ro lam (.agg cs) x) : ∃ arr : Array Value, x = .agg arr ∧ arr.size = cs.length ∧ ∀ (j : Nat) (c : V) (y : Value), cs[j]? = some c → arr[j]? = some y → R w ro lam c y := by
  cases h with
  | pure _ _ h => cases h with | agg _ arr hl hr => exact ⟨arr, rfl, hl, fun j c y hc hy => .pure _ _ (hr j c y hc hy)⟩
  | agg _ arr hl hr => exact ⟨arr, rfl, hl, hr⟩
theorem R.tup_inv {cs : List V} {x : Value} (h : R w ro lam (.tup cs) x) : ∃ arr : Array Value, x = .tuple arr ∧ arr.size = cs.length ∧ ∀ (j : Nat) (c : V) (y : Value), cs[j]? = some c → arr[j]? = some y → R w ro lam c y := by
  cases h with
  | pure _ _ h => cases h with | tup _ arr hl hr => exact ⟨arr, rfl, hl, fun j c y hc hy => .pure _ _ (hr j c y hc hy)⟩
  | tup _ arr hl hr => exact ⟨arr, rfl, hl, hr⟩
theorem R.ptr_inv {key off : Nat} {x : Value} (h : R w ro lam (.ptr key off) x) : ∃ b m, lam key = some (some b, m) ∧ x = .pointer (some ⟨b, off, none⟩) := by
  cases h with
  | pure _ _ h => cases h
  | ptr _ _ b m h => exact ⟨b, m, h, rfl⟩
theorem R.mp_inv {key : Nat} {x : Value} (h : R w ro lam (.mp key) x) : ∃ b, lam key = some (none, b + 1) ∧ x = .map (some b) := by
  cases h with
  | pure _ _ h => cases h
  | mp _ b h => exact ⟨b, h, rfl⟩
theorem R.vrp_rp {ad : Addr} {cells : List V} {x : Value} (h : R w ro lam (.vrp ad cells) x) : x = .pointer (some ad) ∧ R w ro lam (.rp cells) x := by
  cases h with
  | pure _ _ h => cases h with | vrp _ _ g h1 h2 h3 => exact ⟨rfl, .pure _ _ (.rp _ _ g h1 h2 h3)⟩
theorem R.rp_inv {cells : List V} {x : Value} (h : R w ro lam (.rp cells) x) : ∃ (ad : Addr) (g : Nat → Value), x = .pointer (some ad) ∧ ro ad.block ∧
    (∀ (j : Nat) (c : V), cells[j]? = some c → w.cell? (ad.add j) = some (g j)) ∧ ∀ (j : Nat) (c : V), cells[j]? = some c → R0 w ro c (g j) := by
  cases h with
  | pure _ _ h => cases h with | rp _ ad g h1 h2 h3 => exact ⟨ad, g, rfl, h1, h2, h3⟩
theorem R.sl_inv {key off len sz : Nat} {x : Value} (h : R w ro lam (.sl key off len sz) x) :
    (lam key = some (none, 0) ∧ off = 0 ∧ len = 0 ∧ x = .slice none 0 0) ∨
    ∃ b m cap, lam key = some (some b, m) ∧ off + cap * sz ≤ m ∧ len ≤ cap ∧ cap ≤ maxLen ∧ x = .slice (some ⟨b, off, none⟩) len cap := by
  cases h with
  | pure _ _ h => cases h
  | slv _ _ h => exact .inl ⟨h, rfl, rfl, rfl⟩
  | sl _ _ _ _ b m cap h h1 h2 h3 => exact .inr ⟨b, m, cap, h, h1, h2, h3, rfl⟩
theorem R.list_inv {sz : Nat} {xs : List (List V)} {x : Value} (h : R w ro lam (.list sz xs) x) :
    (xs = [] ∧ ∃ ad cap, x = .slice ad 0 cap) ∨
    ∃ (ad : Addr) (cap : Nat) (g : Nat → Nat → Value), x = .slice (some ad) xs.length cap ∧ ro ad.block ∧ (∀ c ∈ xs, c.length = sz) ∧ xs.length ≤ cap ∧
      (∀ (i j : Nat) (c : List V) (y : V), xs[i]? = some c → c[j]? = some y → w.cell? (ad.add (i * sz + j)) = some (g i j)) ∧
      ∀ (i j : Nat) (c : List V) (y : V), xs[i]? = some c → c[j]? = some y → R0 w ro y (g i j) := by
  cases h with
  | pure _ _ h =>
    cases h with
    | list0 _ ad cap => exact .inl ⟨rfl, ad, cap, rfl⟩
    | list _ _ ad cap g h1 h2 h3 h4 h5 => exact .inr ⟨ad, cap, g, rfl, h1, h2, h3, h4, h5⟩

/-! ### types -/
structure Td where
  size : Nat
  bytes : Nat
  agg : Bool
  strct : Bool
  zero : Option (List V)
  fields : List (Option (Nat × Nat × Bool))
  arr : Option (Nat × Nat × Bool)
  slc : Option (TypeId × Nat)
  int : Option IntKind
  isBool : Bool
  isStr : Bool
  eqg : Bool

def isAggD : TypeDesc → Bool
  | .struct _ | .array .. => true
  | _ => false

def partD (P : Program) (t : TypeId) : Option (Nat × Bool) := match P.info? t, P.underlying t with
  | some i, some d => some (i.size, isAggD d)
  | _, _ => none

def td (P : Program) (t : TypeId) : Option Td := match P.info? t, P.underlying t with
  | some i, some d => some {
      size := i.size, bytes := i.bytes, agg := isAggD d, strct := (match d with | .struct _ => true | _ => false), zero := i.zero.map (fun z => z.cells.toList.map cv1),
      fields := (match d with | .struct fs => fs.toList.map (fun f => (partD P f.type).map (fun p => (f.offset, p.1, p.2))) | _ => []),
      arr := (match d with | .array n e => (partD P e).map (fun p => (n, p.1, p.2)) | _ => none),
      slc := (match d with | .slice e => (partD P e).map (fun p => (e, p.1)) | _ => none),
      int := (match d with | .int k => some k | _ => none),
      isBool := (match d with | .bool => true | _ => false),
      isStr := (match d with | .string => true | _ => false),
      eqg := P.eqGuardType P.depth t }
  | _, _ => none

theorem run_isAgg {t : TypeId} {d : TypeDesc} (h : P.underlying t = some d) (w : World) : (isAgg t).run P w = .ok (isAggD d) w := by
  cases d <;> simp [isAgg, run_underlying h, isAggD]
theorem run_sizeOf' {t : TypeId} {i : TypeInfo} (h : P.info? t = some i) (w : World) : (sizeOf t).run P w = .ok i.size w := by
  simp [sizeOf, typeInfo, h]
theorem partD_some {t : TypeId} {s : Nat} {ag : Bool} (h : partD P t = some (s, ag)) : ∃ i d, P.info? t = some i ∧ P.underlying t = some d ∧ i.size = s ∧ isAggD d = ag := by
  unfold partD at h
  split at h
  · rename_i i d h1 h2
    simp only [Option.some.injEq, Prod.mk.injEq] at h
    exact ⟨i, d, h1, h2, h.1, h.2⟩
  · cases h

/-! ### parts of an aggregate -/
def partV (cs : List V) (off size : Nat) (ag : Bool) : Option V :=
  bif ag then (bif off + size ≤ cs.length then some (.agg ((cs.drop off).take size)) else none) else cs[off]?

theorem part_sound {cs : List V} {arr : Array Value} {t : TypeId} {off size : Nat} {ag : Bool} {v : V} (hp : partD P t = some (size, ag)) (hl : arr.size = cs.length)
    (hr : ∀ (j : Nat) (c : V) (y : Value), cs[j]? = some c → arr[j]? = some y → R w ro lam c y) (h : partV cs off size ag = some v) :
    ∃ x, (∀ w' : World, (part t arr off).run P w' = .ok x w') ∧ R w ro lam v x := by
  obtain ⟨i, d, h1, h2, h3, h4⟩ := partD_some hp
  unfold partV at h
  cases ag with
  | true =>
    simp only [cond_true] at h
    simp only [cond_eq_ite, decide_eq_true_eq] at h
    split at h
    · rename_i hle
      simp only [Option.some.injEq] at h
      subst h
      refine ⟨.agg (arr.extract off (off + size)), fun w' => ?_, .agg _ _ ?_ ?_⟩
      · simp [part, run_isAgg h2, h4, run_sizeOf' h1, h3]
      · simp; omega
      · intro j c y hc hy
        rw [List.getElem?_take] at hc
        split at hc
        · rename_i hj
          rw [List.getElem?_drop] at hc
          rw [Array.getElem?_extract] at hy
          split at hy
          · exact hr _ c y hc hy
          · cases hy
        · cases hc
    · cases h
  | false =>
    simp only [cond_false] at h
    have hlt : off < arr.size := by
      rw [hl]; exact (List.getElem?_eq_some_iff.1 h).1
    refine ⟨arr[off], fun w' => ?_, hr off v _ h (Array.getElem?_eq_getElem hlt)⟩
    simp [part, run_isAgg h2, h4, Array.getElem?_eq_getElem hlt]

/-! ### '==' -/
def eqF (P : Program) (eq : TypeId → V → V → Option Bool) (xs ys : List V) : List Field → Option Bool
  | [] => some true
  | f :: fs =>
    bif f.name != "_" then
      match partD P f.type with
      | some (s, ag) => match partV xs f.offset s ag, partV ys f.offset s ag with
        | some x, some y => match eq f.type x y, eqF P eq xs ys fs with
          | some a, some b => some (a && b)
          | _, _ => none
        | _, _ => none
      | none => none
    else eqF P eq xs ys fs
def eqI (eq : V → V → Option Bool) (c s : Nat) (ag : Bool) (xs ys : List V) : List Nat → Option Bool
  | [] => some true
  | i :: is => match partV xs (i * c) s ag, partV ys (i * c) s ag with
    | some x, some y => match eq x y, eqI eq c s ag xs ys is with
      | some a, some b => some (a && b)
      | _, _ => none
    | _, _ => none
def eqV (P : Program) : Nat → TypeId → V → V → Option Bool
  | 0, _, _, _ => none
  | d + 1, t, x, y => match x, y with
    | .bool a, .bool b => match P.underlying t with
      | some .bool => some (a == b)
      | _ => none
    | .int k a, .int k' b => match P.underlying t with
      | some (.int _) => bif decide (k = k') then some (a == b) else none
      | _ => none
    | .str a, .str b => match P.underlying t with
      | some .string => some (a.toList == b.toList)
      | _ => none
    | .agg xs, .agg ys => match P.underlying t with
      | some (.struct fs) => bif P.stoodInHeld t then none else eqF P (eqV P d) xs ys fs.toList
      | some (.array m e) => match partD P e with
        | some (s, ag) => eqI (eqV P d e) s s ag xs ys (List.range m)
        | none => none
      | _ => none
    | _, _ => none

theorem eqF_sound {eq : TypeId → V → V → Option Bool} {d : Nat} (heq : ∀ t x y b X Y, eq t x y = some b → R w ro lam x X → R w ro lam y Y → ∀ w' : World, (Op.equalIn d t X Y).run P w' = .ok b w')
    {xs ys : List V} {ax ay : Array Value} (hlx : ax.size = xs.length) (hly : ay.size = ys.length)
    (hx : ∀ (j : Nat) (c : V) (y : Value), xs[j]? = some c → ax[j]? = some y → R w ro lam c y) (hy : ∀ (j : Nat) (c : V) (y : Value), ys[j]? = some c → ay[j]? = some y → R w ro lam c y) :
    ∀ (fs : List Field) (b : Bool), eqF P eq xs ys fs = some b → ∀ w' : World, (Op.eqFields d ax ay fs).run P w' = .ok b w'
  | [], b, h, w' => by simp only [eqF, Option.some.injEq] at h; subst h; simp [Op.eqFields]
  | f :: fs, b, h, w' => by
    unfold eqF at h
    unfold Op.eqFields
    by_cases hn : f.name = "_"
    · simp only [hn, bne_self_eq_false, cond_false] at h
      simp only [hn, ne_eq, not_true_eq_false, if_false]
      exact eqF_sound heq hlx hly hx hy fs b h w'
    · have hn' : (f.name != "_") = true := by simpa using hn
      simp only [hn', cond_true] at h
      simp only [hn, ne_eq, not_false_eq_true, if_true]
      split at h
      · rename_i s ag hp
        split at h
        · rename_i x y px py
          split at h
          · rename_i a b' ha hb
            simp only [Option.some.injEq] at h
            obtain ⟨X, hX, rX⟩ := part_sound hp hlx hx px
            obtain ⟨Y, hY, rY⟩ := part_sound hp hly hy py
            have he := heq _ _ _ _ _ _ ha rX rY
            have hrest := eqF_sound heq hlx hly hx hy fs b' hb
            simp only [Sem.run_bind, hX, hY, Result.andThen_ok, he]
            cases a
            · simp at h; subst h; simp
            · simp at h; subst h; simpa using hrest w'
          · cases h
        · cases h
      · cases h
theorem eqI_sound {eq : V → V → Option Bool} {d : Nat} {e : TypeId} {s : Nat} {ag : Bool} (hp : partD P e = some (s, ag)) (heq : ∀ x y b X Y, eq x y = some b → R w ro lam x X → R w ro lam y Y → ∀ w' : World, (Op.equalIn d e X Y).run P w' = .ok b w')
    {xs ys : List V} {ax ay : Array Value} (hlx : ax.size = xs.length) (hly : ay.size = ys.length)
    (hx : ∀ (j : Nat) (c : V) (y : Value), xs[j]? = some c → ax[j]? = some y → R w ro lam c y) (hy : ∀ (j : Nat) (c : V) (y : Value), ys[j]? = some c → ay[j]? = some y → R w ro lam c y) :
    ∀ (is : List Nat) (b : Bool), eqI eq s s ag xs ys is = some b → ∀ w' : World, (Op.eqItems d e s ax ay is).run P w' = .ok b w'
  | [], b, h, w' => by simp only [eqI, Option.some.injEq] at h; subst h; simp [Op.eqItems]
  | i :: is, b, h, w' => by
    unfold eqI at h
    unfold Op.eqItems
    split at h
    · rename_i x y px py
      split at h
      · rename_i a b' ha hb
        simp only [Option.some.injEq] at h
        obtain ⟨X, hX, rX⟩ := part_sound hp hlx hx px
        obtain ⟨Y, hY, rY⟩ := part_sound hp hly hy py
        have he := heq _ _ _ _ _ ha rX rY
        have hrest := eqI_sound hp heq hlx hly hx hy is b' hb
        simp only [Sem.run_bind, hX, hY, Result.andThen_ok, he]
        cases a
        · simp at h; subst h; simp
        · simp at h; subst h; simpa using hrest w'
      · cases h
    · cases h
theorem eqV_sound (d' : Nat) : ∀ (d : Nat) (t : TypeId) (x y : V) (b : Bool) (X Y : Value), eqV P d t x y = some b → R w ro lam x X → R w ro lam y Y → ∀ w' : World, (Op.equalIn (d + d') t X Y).run P w' = .ok b w'
  | 0, _, _, _, _, _, _, h, _, _, _ => by simp [eqV] at h
  | d + 1, t, x, y, b, X, Y, h, hX, hY, w' => by
    rw [show d + 1 + d' = (d + d') + 1 from by omega]
    unfold eqV at h
    split at h
    · have := hX.bool_inv; subst this
      have := hY.bool_inv; subst this
      split at h
      · rename_i hu
        simp only [Option.some.injEq] at h; subst h
        exact run_equalIn_bool w' _ t _ _ hu
      · cases h
    · have := hX.int_inv; subst this
      have := hY.int_inv; subst this
      split at h
      · rename_i kk hu
        simp only [cond_eq_ite] at h
        split at h
        · rename_i hk
          simp only [decide_eq_true_eq] at hk
          simp only [Option.some.injEq] at h; subst h; subst hk
          exact run_equalIn_int w' _ t _ _ _ _ hu
        · cases h
      · cases h
    · have := hX.str_inv; subst this
      have := hY.str_inv; subst this
      split at h
      · rename_i hu
        simp only [Option.some.injEq] at h; subst h
        exact run_equalIn_string w' _ t _ _ hu
      · cases h
    · obtain ⟨ax, rfl, hlx, hx⟩ := hX.agg_inv
      obtain ⟨ay, rfl, hly, hy⟩ := hY.agg_inv
      split at h
      · rename_i fs hu
        simp only [cond_eq_ite] at h
        split at h
        · cases h
        · rename_i hs
          have hfs : P.fieldsOf t = fs := by simp [Program.fieldsOf, hu]
          rw [run_equalIn_struct w' (d + d') t ax ay (by rw [hfs]; exact hu) (by simpa using hs), hfs]
          exact eqF_sound (fun t x y b X Y h hx hy => eqV_sound d' d t x y b X Y h hx hy) hlx hly hx hy _ b h w'
      · rename_i m e hu
        split at h
        · rename_i s ag hp
          obtain ⟨i, dd, h1, h2, h3, h4⟩ := partD_some hp
          have hc : P.cellsOf e = s := by simp [Program.cellsOf, h1, h3]
          rw [run_equalIn_array w' (d + d') ax ay hu h1, hc]
          exact eqI_sound hp (fun x y b X Y h hx hy => eqV_sound d' d e x y b X Y h hx hy) hlx hly hx hy _ b h w'
        · cases h
      · cases h
    · cases h
end
end Go.Pv
