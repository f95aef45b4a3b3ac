/-
  Part 1 of a small tool of our own: pure values, and when a value, a frame and a heap of the model are what a pure state says.
  Nothing here is about a certain program.
  Part 2: operations that look at no memory.
  Part 3: the operations that look at no memory, one by one, and that each yields what its pure form says.
  Part 4: building, memory of the call's own: read, made, written.
  Part 5: memory: loads, new blocks, stores.
  Part 6: stores, appends, slices, what is lent to a call, and what is published at its end.
  Part 7: append, and slices of slices.
  Part 8: slices, lending, publishing, calls.
  Part 9: one operation of the model, as a step of the pure state.
-/
import Derived.Below
import Derived.Still
import Derived.Deep.Draws
import Derived.Laws.AppendOwn
import Derived.Laws.MakeOwn
import Derived.Laws.Rows
import Derived.Calls
import Derived.ChangeKeysEq
import Derived.Laws.Tables
import Derived.Laws.StructEq
import Derived.Laws.Append
import Derived.Tactics
import Derived.Laws.IdiomCopy
section
namespace Go.Pv
open Go.RowKit

/-- A pure value. 'list': a slice that is only read, by its elements' cells; 'rp': a pointer to memory that is only read, by the cells there. 'sl', 'ptr': a slice of, a pointer into, a block of the call's own, by the block's key. 'junk': nothing is known. 'val': just that value. 'vrp': like 'rp', at this address; 'vptr': like 'ptr', in this block of the memory. 'mp': a map of the call's own, all of whose values are true: a set; 'rset': such a map that is only read. 'as': just that value, which reads so. -/
inductive V where
  | undef
  | junk
  | bool (b : Bool)
  | int (k : IntKind) (n : Int)
  | str (s : ByteArray)
  | nils
  | list (sz : Nat) (xs : List (List V))
  | sl (key off len sz : Nat)
  | ptr (key off : Nat)
  | rp (cells : List V)
  | agg (cells : List V)
  | tup (vs : List V)
  | val (x : Value)
  | vrp (a : Addr) (cells : List V)
  | vptr (b key off : Nat)
  | mp (key : Nat)
  | rset (ks : List V)
  | as (x : Value) (sz : Nat) (xs : List (List V))
  | rmap (es : List (Value × Value))
  | clo (f : FuncId) (cs : List V)
  | ifc (t : TypeId) (v : V)

instance : Inhabited V := ⟨.junk⟩

structure Blk where
  ty : TypeId
  cells : List V

/-- Where the block of a key lies: nowhere yet (a nil slice), or in which block of the memory, and how many cells that block has. -/
abbrev Lam := Nat → Option (Option Nat × Nat)

/-- A key of a set. -/
def KeyV : V → Value → Prop
  | .str s, x => x = .string s
  | .val y, x => x = y
  | _, _ => True
/-- A set, as a map's object. -/
def SetR (ks : List V) (o : Obj) : Prop := ∃ ents clk, o = .map ents clk ∧ ents.size = ks.length ∧ ∀ (j : Nat) (k : V) (e : MapEntry), ks[j]? = some k → ents[j]? = some e → e.val = .bool true ∧ KeyV k e.key
/-- A map that nobody turns any more, with its entries in the order in which they came. -/
def MapR (es : List (Value × Value)) (o : Obj) : Prop := ∃ ents clk, o = .map ents clk ∧ ents.size = es.length ∧ ∀ (j : Nat) (p : Value × Value) (e : MapEntry), es[j]? = some p → ents[j]? = some e → e.key = p.1 ∧ e.val = p.2 ∧ e.born = j ∧ j < clk
/-- A value that has no memory of the call's own in it. 'ro': the blocks that nobody writes any more. -/
inductive R0 (w : World) (ro : Nat → Prop) : V → Value → Prop
  | undef : R0 w ro .undef Go.undef
  | junk (x : Value) : R0 w ro .junk x
  | val (x : Value) : R0 w ro (.val x) x
  | bool (b : Bool) : R0 w ro (.bool b) (.bool b)
  | int (k : IntKind) (n : Int) : R0 w ro (.int k n) (.int k n)
  | str (s : ByteArray) : R0 w ro (.str s) (.string s)
  | nils : R0 w ro .nils (.slice none 0 0)
  | list0 (sz : Nat) (a : Option Addr) (cap : Nat) : R0 w ro (.list sz []) (.slice a 0 cap)
  | list (sz : Nat) (xs : List (List V)) (a : Addr) (cap : Nat) (g : Nat → Nat → Value) (hro : ro a.block) (hsz : ∀ c ∈ xs, c.length = sz)
      (hcap : xs.length ≤ cap)
      (hg : ∀ (i j : Nat) (c : List V) (x : V), xs[i]? = some c → c[j]? = some x → w.cell? (a.add (i * sz + j)) = some (g i j))
      (hr : ∀ (i j : Nat) (c : List V) (x : V), xs[i]? = some c → c[j]? = some x → R0 w ro x (g i j)) :
      R0 w ro (.list sz xs) (.slice (some a) xs.length cap)
  | rp (cells : List V) (a : Addr) (g : Nat → Value) (hro : ro a.block)
      (hg : ∀ (j : Nat) (x : V), cells[j]? = some x → w.cell? (a.add j) = some (g j))
      (hr : ∀ (j : Nat) (x : V), cells[j]? = some x → R0 w ro x (g j)) : R0 w ro (.rp cells) (.pointer (some a))
  | vrp (cells : List V) (a : Addr) (g : Nat → Value) (hro : ro a.block)
      (hg : ∀ (j : Nat) (x : V), cells[j]? = some x → w.cell? (a.add j) = some (g j))
      (hr : ∀ (j : Nat) (x : V), cells[j]? = some x → R0 w ro x (g j)) : R0 w ro (.vrp a cells) (.pointer (some a))
  | as (x : Value) (sz : Nat) (xs : List (List V)) (h : R0 w ro (.list sz xs) x) : R0 w ro (.as x sz xs) x
  | rset (ks : List V) (b : Nat) (o : Obj) (hro : ro b) (hw : w.heap[b]? = some o) (hs : SetR ks o) : R0 w ro (.rset ks) (.map (some b))
  | rmap (es : List (Value × Value)) (b : Nat) (o : Obj) (hro : ro b) (hw : w.heap[b]? = some o) (hs : MapR es o) : R0 w ro (.rmap es) (.map (some b))
  | agg (cells : List V) (arr : Array Value) (hl : arr.size = cells.length)
      (hr : ∀ (j : Nat) (c : V) (x : Value), cells[j]? = some c → arr[j]? = some x → R0 w ro c x) : R0 w ro (.agg cells) (.agg arr)
  | clo (f : FuncId) (cs : List V) (arr : Array Value) (hl : arr.size = cs.length)
      (hr : ∀ (j : Nat) (c : V) (x : Value), cs[j]? = some c → arr[j]? = some x → R0 w ro c x) : R0 w ro (.clo f cs) (.func (.func f) #[] arr)
  | ifc (t : TypeId) (v : V) (x : Value) (h : R0 w ro v x) : R0 w ro (.ifc t v) (.iface t x)
  | tup (vs : List V) (arr : Array Value) (hl : arr.size = vs.length)
      (hr : ∀ (j : Nat) (c : V) (x : Value), vs[j]? = some c → arr[j]? = some x → R0 w ro c x) : R0 w ro (.tup vs) (.tuple arr)

/-- A value of the frame or of a cell. -/
inductive R (w : World) (ro : Nat → Prop) (lam : Lam) : V → Value → Prop
  | pure (v : V) (x : Value) (h : R0 w ro v x) : R w ro lam v x
  | slv (key sz : Nat) (h : lam key = some (none, 0)) : R w ro lam (.sl key 0 0 sz) (.slice none 0 0)
  | sl (key off len sz b m cap : Nat) (h : lam key = some (some b, m)) (hm : off + cap * sz ≤ m) (hl : len ≤ cap) (hc : cap ≤ maxLen) :
      R w ro lam (.sl key off len sz) (.slice (some ⟨b, off, none⟩) len cap)
  | ptr (key off b m : Nat) (h : lam key = some (some b, m)) : R w ro lam (.ptr key off) (.pointer (some ⟨b, off, none⟩))
  | vptr (key off b m : Nat) (h : lam key = some (some b, m)) : R w ro lam (.vptr b key off) (.pointer (some ⟨b, off, none⟩))
  | mp (key b : Nat) (h : lam key = some (none, b + 1)) : R w ro lam (.mp key) (.map (some b))
  | agg (cells : List V) (arr : Array Value) (hl : arr.size = cells.length)
      (hr : ∀ (j : Nat) (c : V) (x : Value), cells[j]? = some c → arr[j]? = some x → R w ro lam c x) : R w ro lam (.agg cells) (.agg arr)
  | tup (vs : List V) (arr : Array Value) (hl : arr.size = vs.length)
      (hr : ∀ (j : Nat) (c : V) (x : Value), vs[j]? = some c → arr[j]? = some x → R w ro lam c x) : R w ro lam (.tup vs) (.tuple arr)

theorem block_add (a : Addr) (n : Nat) : (a.add n).block = a.block := by unfold Addr.add; split <;> rfl

theorem R0.mono {w w' : World} {ro ro' : Nat → Prop} {v : V} {x : Value} (hw : ∀ b, ro b → w'.heap[b]? = w.heap[b]?) (hro : ∀ b, ro b → ro' b)
    (h : R0 w ro v x) : R0 w' ro' v x := by
  induction h with
  | undef => exact .undef
  | junk x => exact .junk x
  | val x => exact .val x
  | bool b => exact .bool b
  | int k n => exact .int k n
  | str s => exact .str s
  | nils => exact .nils
  | list0 sz a cap => exact .list0 sz a cap
  | list sz xs a cap g h1 h2 hcap h3 _ ih =>
    refine .list sz xs a cap g (hro _ h1) h2 hcap (fun i j c x hi hj => ?_) ih
    rw [← h3 i j c x hi hj]
    exact World.cell?_of_block (by rw [block_add]; exact hw _ h1)
  | rp cells a g h1 h2 _ ih =>
    refine .rp cells a g (hro _ h1) (fun j x hj => ?_) ih
    rw [← h2 j x hj]
    exact World.cell?_of_block (by rw [block_add]; exact hw _ h1)
  | vrp cells a g h1 h2 _ ih =>
    refine .vrp cells a g (hro _ h1) (fun j x hj => ?_) ih
    rw [← h2 j x hj]
    exact World.cell?_of_block (by rw [block_add]; exact hw _ h1)
  | as x sz xs _ ih => exact .as x sz xs ih
  | rset ks b o h1 h2 h3 => exact .rset ks b o (hro _ h1) ((hw b h1).trans h2) h3
  | rmap ks b o h1 h2 h3 => exact .rmap ks b o (hro _ h1) ((hw b h1).trans h2) h3
  | agg cells arr hl _ ih => exact .agg cells arr hl ih
  | tup vs arr hl _ ih => exact .tup vs arr hl ih
  | clo f cs arr hl _ ih => exact .clo f cs arr hl ih
  | ifc t v x _ ih => exact .ifc t v x ih

theorem R.mono {w w' : World} {ro ro' : Nat → Prop} {lam lam' : Lam} {v : V} {x : Value} (hw : ∀ b, ro b → w'.heap[b]? = w.heap[b]?) (hro : ∀ b, ro b → ro' b)
    (hlam : ∀ k y, lam k = some y → lam' k = some y) (h : R w ro lam v x) : R w' ro' lam' v x := by
  induction h with
  | pure v x h => exact .pure v x (h.mono hw hro)
  | slv key sz h => exact .slv key sz (hlam _ _ h)
  | sl key off len sz b m cap h h1 h2 h3 => exact .sl key off len sz b m cap (hlam _ _ h) h1 h2 h3
  | ptr key off b m h => exact .ptr key off b m (hlam _ _ h)
  | vptr key off b m h => exact .vptr key off b m (hlam _ _ h)
  | mp key b h => exact .mp key b (hlam _ _ h)
  | agg cells arr hl _ ih => exact .agg cells arr hl ih
  | tup vs arr hl _ ih => exact .tup vs arr hl ih

/-- Does a cell, a value, a tuple mention memory of the call's own? -/
def ownC : V → Bool
  | .sl .. | .ptr .. | .vptr .. | .mp _ | .agg _ | .tup _ => true
  | _ => false
def ownA : V → Bool
  | .agg cs => cs.any ownC
  | .tup _ => true
  | v => ownC v
def ownT : V → Bool
  | .tup vs => vs.any ownA
  | v => ownA v

theorem R.pureC {w : World} {ro : Nat → Prop} {lam : Lam} {v : V} {x : Value} (h : R w ro lam v x) (ho : ownC v = false) : R0 w ro v x := by
  cases h with
  | pure _ _ h => exact h
  | _ => simp [ownC] at ho
theorem any_at {α : Type} {p : α → Bool} {l : List α} (h : l.any p = false) {j : Nat} {c : α} (hj : l[j]? = some c) : p c = false := by
  have := List.any_eq_false.1 h c (List.mem_of_getElem? hj)
  simpa using this
theorem R.pureA {w : World} {ro : Nat → Prop} {lam : Lam} {v : V} {x : Value} (h : R w ro lam v x) (ho : ownA v = false) : R0 w ro v x := by
  cases h with
  | pure _ _ h => exact h
  | agg cells arr hl hr => exact .agg cells arr hl fun j c x hc hx => (hr j c x hc hx).pureC (any_at ho hc)
  | _ => simp [ownA, ownC] at ho
theorem R.pureT {w : World} {ro : Nat → Prop} {lam : Lam} {v : V} {x : Value} (h : R w ro lam v x) (ho : ownT v = false) : R0 w ro v x := by
  cases h with
  | pure _ _ h => exact h
  | agg cells arr hl hr => exact .agg cells arr hl fun j c x hc hx => (hr j c x hc hx).pureC (any_at (by simpa [ownT, ownA] using ho) hc)
  | tup vs arr hl hr => exact .tup vs arr hl fun j c x hc hx => (hr j c x hc hx).pureA (any_at ho hc)
  | _ => simp [ownT, ownA, ownC] at ho

structure St where
  env : Nat → V
  heap : Nat → Option Blk

def upd {α : Type} (e : Nat → α) (d : Nat) (v : α) : Nat → α := fun t => if t = d then v else e t
theorem upd_same {α : Type} (e : Nat → α) (d : Nat) (v : α) : upd e d v d = v := by simp [upd]
theorem upd_ne {α : Type} (e : Nat → α) {d t : Nat} (v : α) (h : t ≠ d) : upd e d v t = e t := by simp [upd, h]
theorem upd_lit {α : Type} (e : Nat → α) (d t : Nat) (v : α) : upd e d v t = bif t == d then v else e t := by simp [upd, cond_eq_ite]

def St.put (st : St) (d : Option Tmp) (v : V) : St := match d with
  | some d => { st with env := upd st.env d v }
  | none => st

/-- The block of a key, as the memory has it. -/
def BR (w : World) (ro : Nat → Prop) (lam : Lam) (key : Nat) (blk : Blk) : Prop :=
  (lam key = some (none, 0) ∧ blk.cells = []) ∨ (∃ (b : Nat) (o : Obj), lam key = some (none, b + 1) ∧ w.heap[b]? = some o ∧ SetR blk.cells o) ∨
  ∃ (b m : Nat) (arr : Array Value), lam key = some (some b, m) ∧ w.heap[b]? = some (.cells arr blk.ty (0, 0)) ∧ arr.size = m ∧ blk.cells.length ≤ m ∧
    ∀ (j : Nat) (c : V) (x : Value), blk.cells[j]? = some c → arr[j]? = some x → R w ro lam c x

/-- Where a run began: the world; which of its blocks may be written all the same; the frame's deferred calls. -/
structure Base where
  w : World
  imp : Nat → Prop
  dfs : List Deferred
def Base.of (w : World) : Base := ⟨w, fun _ => False, []⟩
structure Base.Keeps (B : Base) (w : World) : Prop where
  os : w.os = B.w.os
  tape : w.tape = B.w.tape
  output : w.output = B.w.output
  size : B.w.heap.size ≤ w.heap.size
  block : ∀ k, k < B.w.heap.size → ¬ B.imp k → w.heap[k]? = B.w.heap[k]?
def Base.Free (B : Base) (b : Nat) : Prop := B.imp b ∨ B.w.heap.size ≤ b
theorem Base.Keeps.refl (w : World) (I : Nat → Prop) (D : List Deferred) : Base.Keeps ⟨w, I, D⟩ w := ⟨rfl, rfl, rfl, Nat.le_refl _, fun _ _ _ => rfl⟩
theorem Base.Keeps.below {w w' : World} {D : List Deferred} (h : Base.Keeps ⟨w, fun _ => False, D⟩ w') : Below w.heap.size w w' := ⟨h.os, h.tape, h.output, h.size, fun k hk => h.block k hk (fun h => h)⟩
theorem Base.Keeps.after {B : Base} {w w' : World} (h : B.Keeps w) (k : Below w.heap.size w w') : B.Keeps w' :=
  ⟨k.os.trans h.os, k.tape.trans h.tape, k.output.trans h.output, Nat.le_trans h.size k.size, fun i hi hn => (k.block i (Nat.lt_of_lt_of_le hi h.size)).trans (h.block i hi hn)⟩
/-- What turns lies in blocks that may be written. -/
theorem Base.Keeps.but {B : Base} {w w' : World} (h : B.Keeps w) (e1 : w'.os = w.os) (e2 : w'.tape = w.tape) (e3 : w'.output = w.output) (e4 : w.heap.size ≤ w'.heap.size) (e5 : ∀ k, k < w.heap.size → ¬ B.Free k → w'.heap[k]? = w.heap[k]?) : B.Keeps w' :=
  ⟨e1.trans h.os, e2.trans h.tape, e3.trans h.output, Nat.le_trans h.size e4, fun i hi hn => (e5 i (Nat.lt_of_lt_of_le hi h.size) (fun hf => hf.elim hn (fun h => by omega))).trans (h.block i hi hn)⟩
theorem Base.Keeps.setCell {B : Base} {w : World} (h : B.Keeps w) {b off : Nat} (hb : B.Free b) (x : Value) : B.Keeps (w.setCell ⟨b, off, none⟩ x) := by
  have hg := (Below.refl 0 w).setCell (p := ⟨b, off, none⟩) (Nat.zero_le _) x
  exact h.but hg.os hg.tape hg.output hg.size fun k _ hk => Below.heap_setCell _ _ _ _ (by rintro rfl; exact hk hb)

structure Sim (w0 : Base) (n : Nat) (ro : Nat → Prop) (lam : Lam) (st : St) (a : Act) (w : World) : Prop where
  below : w0.Keeps w
  dfr : a.defers = w0.dfs
  size : n ≤ a.tmps.size
  rolt : ∀ b, ro b → b < w.heap.size
  env : ∀ t, R w ro lam (st.env t) (a.tmps.getD t Go.undef)
  heap : ∀ key blk, st.heap key = some blk → BR w ro lam key blk
  dead : ∀ key, st.heap key = none → lam key = none
  own : ∀ key b m, lam key = some (some b, m) → w0.Free b ∧ b < w.heap.size ∧ ¬ ro b
  inj : ∀ k1 k2 b m1 m2, lam k1 = some (some b, m1) → lam k2 = some (some b, m2) → k1 = k2
  maps : ∀ key b, lam key = some (none, b + 1) → (w0.Free b ∧ b < w.heap.size ∧ ¬ ro b) ∧ ∀ key', lam key' = some (none, b + 1) → key' = key

section
variable {w0 : Base} {n : Nat} {ro : Nat → Prop} {lam : Lam} {st : St} {a : Act} {w : World}

/-- A destination lies in the frame. -/
def fits (n : Nat) (d : Option Tmp) : Bool := match d with
  | some d => decide (d < n)
  | none => true

theorem getD_put {a : Act} {d : Nat} {x : Value} (h : d < a.tmps.size) (t : Nat) : (a.put (some d) x).tmps.getD t Go.undef = if t = d then x else a.tmps.getD t Go.undef := by
  simp only [Act.put, Array.getD_eq_getD_getElem?, Array.getElem?_setIfInBounds]
  by_cases e : d = t
  · subst e; simp [h]
  · have e' : t ≠ d := fun h => e h.symm
    simp [e, e']

theorem Sim.put (h : Sim w0 n ro lam st a w) {d : Option Tmp} {v : V} {x : Value} (hd : fits n d = true) (hx : R w ro lam v x) :
    Sim w0 n ro lam (st.put d v) (a.put d x) w := by
  cases d with
  | none => exact h
  | some d =>
    simp only [fits, decide_eq_true_eq] at hd
    have hds : d < a.tmps.size := Nat.lt_of_lt_of_le hd h.size
    refine ⟨h.below, h.dfr, by simpa [Act.put] using h.size, h.rolt, fun t => ?_, h.heap, h.dead, h.own, h.inj, h.maps⟩
    rw [getD_put hds]
    simp only [St.put, upd]
    split
    · exact hx
    · exact h.env t

/-- Only memory that is neither old, nor read-only, nor own has turned: new blocks, draws. -/
theorem Sim.world (h : Sim w0 n ro lam st a w) {w' : World} (hb : Below w.heap.size w w') : Sim w0 n ro lam st a w' := by
  have hro : ∀ b, ro b → w'.heap[b]? = w.heap[b]? := fun b hr => hb.block b (h.rolt b hr)
  have hm : ∀ {v x}, R w ro lam v x → R w' ro lam v x := fun hr => hr.mono hro (fun _ hb => hb) (fun _ _ hk => hk)
  refine ⟨h.below.after hb, h.dfr, h.size, fun b hr => Nat.lt_of_lt_of_le (h.rolt b hr) hb.size, fun t => hm (h.env t), fun key blk hk => ?_, h.dead, fun key b m hl => ?_, h.inj, fun key b hl => ⟨⟨(h.maps key b hl).1.1, Nat.lt_of_lt_of_le (h.maps key b hl).1.2.1 hb.size, (h.maps key b hl).1.2.2⟩, (h.maps key b hl).2⟩⟩
  · rcases h.heap key blk hk with hv | ⟨b, o, hl, hw, hs⟩ | ⟨b, m, arr, hl, hw, hs, hle, hr⟩
    · exact .inl hv
    · exact .inr (.inl ⟨b, o, hl, (hb.block b (h.maps key b hl).1.2.1).trans hw, hs⟩)
    · refine .inr <| .inr ⟨b, m, arr, hl, ?_, hs, hle, fun j c x hc hx => hm (hr j c x hc hx)⟩
      rw [hb.block b (h.own key b m hl).2.1]; exact hw
  · obtain ⟨h1, h2, h3⟩ := h.own key b m hl
    exact ⟨h1, Nat.lt_of_lt_of_le h2 hb.size, h3⟩

/-- A new block of the call's own, under a key that is free. -/
theorem Sim.alloc (h : Sim w0 n ro lam st a w) {d : Nat} {ty : TypeId} {arr : Array Value} {cells : List V} (hd : st.heap d = none) (hle : cells.length ≤ arr.size)
    (hr : ∀ (j : Nat) (c : V) (x : Value), cells[j]? = some c → arr[j]? = some x → R w ro lam c x) :
    Sim w0 n ro (upd lam d (some (some w.heap.size, arr.size))) { st with heap := upd st.heap d (some ⟨ty, cells⟩) } a (w.alloc (.cells arr ty)) := by
  have hb : Below w.heap.size w (w.alloc (.cells arr ty)) := (Below.refl _ _).alloc (Nat.le_refl _) _
  have h' := h.world hb
  have hdl : lam d = none := h.dead d hd
  have hlam : ∀ k y, lam k = some y → upd lam d (some (some w.heap.size, arr.size)) k = some y := fun k y hk => by
    rw [upd_ne]; exact hk
    rintro rfl; rw [hdl] at hk; cases hk
  have hm : ∀ {v x}, R (w.alloc (.cells arr ty)) ro lam v x → R (w.alloc (.cells arr ty)) ro (upd lam d (some (some w.heap.size, arr.size))) v x :=
    fun hr => hr.mono (fun _ _ => rfl) (fun _ hb => hb) hlam
  have hro : ∀ b, ro b → (w.alloc (.cells arr ty)).heap[b]? = w.heap[b]? := fun b hr => hb.block b (h.rolt b hr)
  have hold : ∀ k b m, upd lam d (some (some w.heap.size, arr.size)) k = some (some b, m) → k = d ∧ b = w.heap.size ∨ k ≠ d ∧ lam k = some (some b, m) := by
    intro k b m hk
    by_cases e : k = d
    · subst e; rw [upd_same] at hk; simp only [Option.some.injEq, Prod.mk.injEq] at hk; exact .inl ⟨rfl, hk.1.symm⟩
    · rw [upd_ne _ _ e] at hk; exact .inr ⟨e, hk⟩
  refine ⟨h'.below, h'.dfr, h'.size, h'.rolt, fun t => hm (h'.env t), fun key blk hk => ?_, fun key hk => ?_, fun key b m hl => ?_, fun k1 k2 b m1 m2 e1 e2 => ?_, fun key b hl => ?_⟩
  · by_cases e : key = d
    · subst e
      simp only [upd_same, Option.some.injEq] at hk
      subst hk
      refine .inr <| .inr ⟨w.heap.size, arr.size, arr, upd_same _ _ _, heap_alloc_new w _, rfl, hle, fun j c x hc hx => hm ((hr j c x hc hx).mono hro (fun _ hb => hb) (fun _ _ hk => hk))⟩
    · simp only [upd_ne _ _ e] at hk
      rcases h'.heap key blk hk with ⟨hv, hc⟩ | ⟨b, o, hl, hw, hs⟩ | ⟨b, m, arr', hl, hw, hs, hle', hr'⟩
      · exact .inl ⟨hlam _ _ hv, hc⟩
      · exact .inr (.inl ⟨b, o, hlam _ _ hl, hw, hs⟩)
      · exact .inr <| .inr ⟨b, m, arr', hlam _ _ hl, hw, hs, hle', fun j c x hc hx => hm (hr' j c x hc hx)⟩
  · by_cases e : key = d
    · subst e; simp only [upd_same] at hk; cases hk
    · simp only [upd_ne _ _ e] at hk ⊢; exact h.dead key hk
  · rcases hold key b m hl with ⟨rfl, rfl⟩ | ⟨_, hl'⟩
    · refine ⟨.inr h.below.size, by simp, fun hr => ?_⟩
      have := h.rolt _ hr; omega
    · obtain ⟨h1, h2, h3⟩ := h'.own key b m hl'
      exact ⟨h1, h2, h3⟩
  · rcases hold k1 b m1 e1 with ⟨rfl, rfl⟩ | ⟨n1, l1⟩
    · rcases hold k2 _ m2 e2 with ⟨rfl, _⟩ | ⟨_, l2⟩
      · rfl
      · have := (h.own k2 _ m2 l2).2.1; omega
    · rcases hold k2 b m2 e2 with ⟨rfl, rfl⟩ | ⟨_, l2⟩
      · have := (h.own k1 _ m1 l1).2.1; omega
      · exact h.inj k1 k2 b m1 m2 l1 l2
  · have hmb : ∀ k, upd lam d (some (some w.heap.size, arr.size)) k = some (none, b + 1) → lam k = some (none, b + 1) := fun k hk => by
      by_cases e : k = d
      · subst e; rw [upd_same] at hk; cases hk
      · rwa [upd_ne _ _ e] at hk
    exact ⟨(h'.maps key b (hmb key hl)).1, fun key' hk' => (h'.maps key b (hmb key hl)).2 key' (hmb key' hk')⟩

/-- One cell of an own block is written. -/
theorem Sim.setCell (h : Sim w0 n ro lam st a w) {key off b m : Nat} {blk : Blk} {v : V} {x : Value} (hk : st.heap key = some blk) (hl : lam key = some (some b, m))
    (ho : off < blk.cells.length) (hx : R w ro lam v x) :
    Sim w0 n ro lam { st with heap := upd st.heap key (some ⟨blk.ty, blk.cells.set off v⟩) } a (w.setCell ⟨b, off, none⟩ x) := by
  obtain ⟨hb1, hb2, hb3⟩ := h.own key b m hl
  have hro : ∀ c, ro c → (w.setCell ⟨b, off, none⟩ x).heap[c]? = w.heap[c]? := fun c hc => Below.heap_setCell _ _ _ _ (by rintro rfl; exact hb3 hc)
  have hm : ∀ {v x'}, R w ro lam v x' → R (w.setCell ⟨b, off, none⟩ x) ro lam v x' := fun hr => hr.mono hro (fun _ hb => hb) (fun _ _ hk => hk)
  refine ⟨h.below.setCell hb1 _, h.dfr, h.size, fun c hc => by simpa using h.rolt c hc, fun t => hm (h.env t), fun key' blk' hk' => ?_, fun key' hk' => ?_, fun k b' m' hl' => ?_, h.inj, fun k b' hl' => ⟨⟨(h.maps k b' hl').1.1, by simpa using (h.maps k b' hl').1.2.1, (h.maps k b' hl').1.2.2⟩, (h.maps k b' hl').2⟩⟩
  · by_cases e : key' = key
    · subst e
      simp only [upd_same, Option.some.injEq] at hk'
      subst hk'
      rcases h.heap key' blk hk with ⟨hv, _⟩ | ⟨b', o, hv, _⟩ | ⟨b', m', arr, hl', hw, hs, hle, hr⟩
      · rw [hl] at hv; cases hv
      · rw [hl] at hv; cases hv
      · have hbb : b' = b := by rw [hl] at hl'; simp at hl'; exact hl'.1.symm
        subst hbb
        refine .inr <| .inr ⟨b', m', arr.setIfInBounds off x, hl', heap_setCell_same w b' off arr blk.ty x hw, by simpa using hs, by simpa using hle, fun j c y hc hy => ?_⟩
        rw [List.getElem?_set] at hc
        rw [Array.getElem?_setIfInBounds] at hy
        by_cases ej : off = j
        · subst ej
          simp only [if_true, ho, Option.some.injEq] at hc
          have hoa : off < arr.size := by omega
          simp only [if_true, hoa, Option.some.injEq] at hy
          subst hc; subst hy
          exact hm hx
        · simp only [ej, if_false] at hc hy
          exact hm (hr j c y hc hy)
    · simp only [upd_ne _ _ e] at hk'
      rcases h.heap key' blk' hk' with hv | ⟨b', o, hl', hw, hs⟩ | ⟨b', m', arr, hl', hw, hs, hle, hr⟩
      · exact .inl hv
      · refine .inr (.inl ⟨b', o, hl', ?_, hs⟩)
        rw [Below.heap_setCell]; exact hw
        intro eb
        simp only at eb
        subst eb
        rcases h.heap key blk hk with ⟨hv, _⟩ | ⟨b'', o', hv, _⟩ | ⟨b'', m'', arr'', hl'', hw'', _⟩
        · rw [hl] at hv; cases hv
        · rw [hl] at hv; cases hv
        · rw [hl] at hl''
          simp only [Option.some.injEq, Prod.mk.injEq] at hl''
          obtain ⟨e1, _⟩ := hl''
          subst e1
          rw [hw] at hw''
          obtain ⟨ents, clk, rfl, _⟩ := hs
          cases hw''
      · refine .inr <| .inr ⟨b', m', arr, hl', ?_, hs, hle, fun j c y hc hy => hm (hr j c y hc hy)⟩
        rw [Below.heap_setCell]; exact hw
        intro eb
        simp only at eb
        subst eb
        exact e (h.inj _ _ _ _ _ hl' hl)
  · by_cases e : key' = key
    · subst e; simp only [upd_same] at hk'; cases hk'
    · simp only [upd_ne _ _ e] at hk'; exact h.dead key' hk'
  · obtain ⟨h1, h2, h3⟩ := h.own k b' m' hl'
    exact ⟨h1, by simpa using h2, h3⟩
/-- A block of cells is no map. -/
theorem Sim.notMap (h : Sim w0 n ro lam st a w) {key b m : Nat} {o : Obj} {ks : List V} (hl : lam key = some (some b, m)) (hw : w.heap[b]? = some o) (hs : SetR ks o) : False := by
  cases hk0 : st.heap key with
  | none => rw [h.dead key hk0] at hl; cases hl
  | some blk0 =>
    rcases h.heap key blk0 hk0 with ⟨hv, _⟩ | ⟨b'', o', hv, _⟩ | ⟨b'', m'', arr'', hl'', hw'', _⟩
    · rw [hl] at hv; cases hv
    · rw [hl] at hv; cases hv
    · rw [hl] at hl''
      simp only [Option.some.injEq, Prod.mk.injEq] at hl''
      obtain ⟨e1, _⟩ := hl''
      subst e1
      rw [hw] at hw''
      obtain ⟨ents, clk, rfl, _⟩ := hs
      cases hw''
/-- The block of a key, cells or map. -/
def lamB (lam : Lam) (key b : Nat) : Prop := (∃ m, lam key = some (some b, m)) ∨ lam key = some (none, b + 1)
theorem Sim.ob (h : Sim w0 n ro lam st a w) {key b : Nat} (hl : lamB lam key b) : w0.Free b ∧ b < w.heap.size ∧ ¬ ro b := by
  rcases hl with ⟨m, hl⟩ | hl
  · exact h.own key b m hl
  · exact (h.maps key b hl).1
end
end Go.Pv
end
section
namespace Go.Pv
open Go.RowKit

/-! ### constants and operands -/
def cv1 : Value → V
  | .bool b => .bool b
  | .int k n => .int k n
  | .string s => .str s
  | .slice none 0 0 => .nils
  | _ => .junk
def cv : Value → V
  | .agg cs => .agg (cs.toList.map cv1)
  | .map none => .val (.map none)
  | .nilIface => .val .nilIface
  | v => cv1 v
def norm : V → V
  | .vptr _ key off => .ptr key off
  | .as _ sz xs => .list sz xs
  | .vrp _ cs => .rp cs
  | v => v
def ev (st : St) : Operand → V
  | .tmp t => norm (st.env t)
  | .const v => cv v
  | .func f => .clo f []
  | _ => .junk

section
variable {w0 : Base} {n : Nat} {ro : Nat → Prop} {lam : Lam} {st : St} {a : Act} {w : World} {P : Program}

theorem R0_cv1 (v : Value) : R0 w ro (cv1 v) v := by
  unfold cv1
  split
  · exact .bool _
  · exact .int _ _
  · exact .str _
  · exact .nils
  · exact .junk _
theorem R0_cv (v : Value) : R0 w ro (cv v) v := by
  unfold cv
  split
  · rename_i cs
    refine .agg _ _ (by simp) fun j c x hc hx => ?_
    simp only [List.getElem?_map, Array.getElem?_toList, hx, Option.map_some, Option.some.injEq] at hc
    subst hc
    exact R0_cv1 _
  · exact .val _
  · exact .val _
  · exact R0_cv1 _
theorem R.norm {v : V} {x : Value} (h : R w ro lam v x) : R w ro lam (norm v) x := by
  cases h with
  | vptr key off b m h => exact .ptr key off b m h
  | pure v x h =>
    cases h with
    | as x sz xs h => exact .pure _ _ h
    | vrp cs ad g h1 h2 h3 => exact .pure _ _ (.rp _ _ g h1 h2 h3)
    | _ => exact .pure _ _ (by constructor <;> assumption)
  | slv key sz h => exact .slv key sz h
  | sl key off len sz b m cap h h1 h2 h3 => exact .sl key off len sz b m cap h h1 h2 h3
  | ptr key off b m h => exact .ptr key off b m h
  | mp key b h => exact .mp key b h
  | agg cells arr hl hr => exact .agg cells arr hl hr
  | tup vs arr hl hr => exact .tup vs arr hl hr
theorem Sim.ev (h : Sim w0 n ro lam st a w) (x : Operand) : R w ro lam (ev st x) (a.eval x) := by
  cases x with
  | tmp t => exact (h.env t).norm
  | const v => exact .pure _ _ (R0_cv v)
  | global g => exact .pure _ _ (.junk _)
  | func f => exact .pure _ _ (.clo f [] #[] rfl fun j c x hc => by simp at hc)

/-! ### what a value is -/
theorem R.bool_inv {b : Bool} {x : Value} (h : R w ro lam (.bool b) x) : x = .bool b := by cases h with | pure _ _ h => cases h; rfl
theorem R.int_inv {k : IntKind} {m : Int} {x : Value} (h : R w ro lam (.int k m) x) : x = .int k m := by cases h with | pure _ _ h => cases h; rfl
theorem R.str_inv {s : ByteArray} {x : Value} (h : R w ro lam (.str s) x) : x = .string s := by cases h with | pure _ _ h => cases h; rfl
theorem R.nils_inv {x : Value} (h : R w ro lam .nils x) : x = .slice none 0 0 := by cases h with | pure _ _ h => cases h; rfl
theorem R.undef_inv {x : Value} (h : R w ro lam .undef x) : x = Go.undef := by cases h with | pure _ _ h => cases h; rfl
theorem R.agg_inv {cs : List V} {x : Value} (h : R w ro lam (.agg cs) x) : ∃ arr : Array Value, x = .agg arr ∧ arr.size = cs.length ∧ ∀ (j : Nat) (c : V) (y : Value), cs[j]? = some c → arr[j]? = some y → R w ro lam c y := by
  cases h with
  | pure _ _ h => cases h with | agg _ arr hl hr => exact ⟨arr, rfl, hl, fun j c y hc hy => .pure _ _ (hr j c y hc hy)⟩
  | agg _ arr hl hr => exact ⟨arr, rfl, hl, hr⟩
theorem R.tup_inv {cs : List V} {x : Value} (h : R w ro lam (.tup cs) x) : ∃ arr : Array Value, x = .tuple arr ∧ arr.size = cs.length ∧ ∀ (j : Nat) (c : V) (y : Value), cs[j]? = some c → arr[j]? = some y → R w ro lam c y := by
  cases h with
  | pure _ _ h => cases h with | tup _ arr hl hr => exact ⟨arr, rfl, hl, fun j c y hc hy => .pure _ _ (hr j c y hc hy)⟩
  | tup _ arr hl hr => exact ⟨arr, rfl, hl, hr⟩
theorem R.ptr_inv {key off : Nat} {x : Value} (h : R w ro lam (.ptr key off) x) : ∃ b m, lam key = some (some b, m) ∧ x = .pointer (some ⟨b, off, none⟩) := by
  cases h with
  | pure _ _ h => cases h
  | ptr _ _ b m h => exact ⟨b, m, h, rfl⟩
theorem R.mp_inv {key : Nat} {x : Value} (h : R w ro lam (.mp key) x) : ∃ b, lam key = some (none, b + 1) ∧ x = .map (some b) := by
  cases h with
  | pure _ _ h => cases h
  | mp _ b h => exact ⟨b, h, rfl⟩
theorem R.vrp_rp {ad : Addr} {cells : List V} {x : Value} (h : R w ro lam (.vrp ad cells) x) : x = .pointer (some ad) ∧ R w ro lam (.rp cells) x := by
  cases h with
  | pure _ _ h => cases h with | vrp _ _ g h1 h2 h3 => exact ⟨rfl, .pure _ _ (.rp _ _ g h1 h2 h3)⟩
theorem R.rp_inv {cells : List V} {x : Value} (h : R w ro lam (.rp cells) x) : ∃ (ad : Addr) (g : Nat → Value), x = .pointer (some ad) ∧ ro ad.block ∧
    (∀ (j : Nat) (c : V), cells[j]? = some c → w.cell? (ad.add j) = some (g j)) ∧ ∀ (j : Nat) (c : V), cells[j]? = some c → R0 w ro c (g j) := by
  cases h with
  | pure _ _ h => cases h with | rp _ ad g h1 h2 h3 => exact ⟨ad, g, rfl, h1, h2, h3⟩
theorem R.sl_inv {key off len sz : Nat} {x : Value} (h : R w ro lam (.sl key off len sz) x) :
    (lam key = some (none, 0) ∧ off = 0 ∧ len = 0 ∧ x = .slice none 0 0) ∨
    ∃ b m cap, lam key = some (some b, m) ∧ off + cap * sz ≤ m ∧ len ≤ cap ∧ cap ≤ maxLen ∧ x = .slice (some ⟨b, off, none⟩) len cap := by
  cases h with
  | pure _ _ h => cases h
  | slv _ _ h => exact .inl ⟨h, rfl, rfl, rfl⟩
  | sl _ _ _ _ b m cap h h1 h2 h3 => exact .inr ⟨b, m, cap, h, h1, h2, h3, rfl⟩
theorem R.list_inv {sz : Nat} {xs : List (List V)} {x : Value} (h : R w ro lam (.list sz xs) x) :
    (xs = [] ∧ ∃ ad cap, x = .slice ad 0 cap) ∨
    ∃ (ad : Addr) (cap : Nat) (g : Nat → Nat → Value), x = .slice (some ad) xs.length cap ∧ ro ad.block ∧ (∀ c ∈ xs, c.length = sz) ∧ xs.length ≤ cap ∧
      (∀ (i j : Nat) (c : List V) (y : V), xs[i]? = some c → c[j]? = some y → w.cell? (ad.add (i * sz + j)) = some (g i j)) ∧
      ∀ (i j : Nat) (c : List V) (y : V), xs[i]? = some c → c[j]? = some y → R0 w ro y (g i j) := by
  cases h with
  | pure _ _ h =>
    cases h with
    | list0 _ ad cap => exact .inl ⟨rfl, ad, cap, rfl⟩
    | list _ _ ad cap g h1 h2 h3 h4 h5 => exact .inr ⟨ad, cap, g, rfl, h1, h2, h3, h4, h5⟩

/-! ### types -/
structure Td where
  size : Nat
  bytes : Nat
  agg : Bool
  strct : Bool
  zero : Option (List V)
  fields : List (Option (Nat × Nat × Bool))
  arr : Option (Nat × Nat × Bool)
  slc : Option (TypeId × Nat)
  int : Option IntKind
  isBool : Bool
  isStr : Bool
  eqg : Bool

def isAggD : TypeDesc → Bool
  | .struct _ | .array .. => true
  | _ => false

def partD (P : Program) (t : TypeId) : Option (Nat × Bool) := match P.info? t, P.underlying t with
  | some i, some d => some (i.size, isAggD d)
  | _, _ => none

def td (P : Program) (t : TypeId) : Option Td := match P.info? t, P.underlying t with
  | some i, some d => some {
      size := i.size, bytes := i.bytes, agg := isAggD d, strct := (match d with | .struct _ => true | _ => false), zero := i.zero.map (fun z => z.cells.toList.map cv1),
      fields := (match d with | .struct fs => fs.toList.map (fun f => (partD P f.type).map (fun p => (f.offset, p.1, p.2))) | _ => []),
      arr := (match d with | .array n e => (partD P e).map (fun p => (n, p.1, p.2)) | _ => none),
      slc := (match d with | .slice e => (partD P e).map (fun p => (e, p.1)) | _ => none),
      int := (match d with | .int k => some k | _ => none),
      isBool := (match d with | .bool => true | _ => false),
      isStr := (match d with | .string => true | _ => false),
      eqg := P.eqGuardType P.depth t }
  | _, _ => none

theorem run_isAgg {t : TypeId} {d : TypeDesc} (h : P.underlying t = some d) (w : World) : (isAgg t).run P w = .ok (isAggD d) w := by
  cases d <;> simp [isAgg, run_underlying h, isAggD]
theorem run_sizeOf' {t : TypeId} {i : TypeInfo} (h : P.info? t = some i) (w : World) : (sizeOf t).run P w = .ok i.size w := by
  simp [sizeOf, typeInfo, h]
theorem partD_some {t : TypeId} {s : Nat} {ag : Bool} (h : partD P t = some (s, ag)) : ∃ i d, P.info? t = some i ∧ P.underlying t = some d ∧ i.size = s ∧ isAggD d = ag := by
  unfold partD at h
  split at h
  · rename_i i d h1 h2
    simp only [Option.some.injEq, Prod.mk.injEq] at h
    exact ⟨i, d, h1, h2, h.1, h.2⟩
  · cases h

/-! ### parts of an aggregate -/
def partV (cs : List V) (off size : Nat) (ag : Bool) : Option V :=
  bif ag then (bif off + size ≤ cs.length then some (.agg ((cs.drop off).take size)) else none) else cs[off]?

theorem part_sound {cs : List V} {arr : Array Value} {t : TypeId} {off size : Nat} {ag : Bool} {v : V} (hp : partD P t = some (size, ag)) (hl : arr.size = cs.length)
    (hr : ∀ (j : Nat) (c : V) (y : Value), cs[j]? = some c → arr[j]? = some y → R w ro lam c y) (h : partV cs off size ag = some v) :
    ∃ x, (∀ w' : World, (part t arr off).run P w' = .ok x w') ∧ R w ro lam v x := by
  obtain ⟨i, d, h1, h2, h3, h4⟩ := partD_some hp
  unfold partV at h
  cases ag with
  | true =>
    simp only [cond_true] at h
    simp only [cond_eq_ite, decide_eq_true_eq] at h
    split at h
    · rename_i hle
      simp only [Option.some.injEq] at h
      subst h
      refine ⟨.agg (arr.extract off (off + size)), fun w' => ?_, .agg _ _ ?_ ?_⟩
      · simp [part, run_isAgg h2, h4, run_sizeOf' h1, h3]
      · simp; omega
      · intro j c y hc hy
        rw [List.getElem?_take] at hc
        split at hc
        · rename_i hj
          rw [List.getElem?_drop] at hc
          rw [Array.getElem?_extract] at hy
          split at hy
          · exact hr _ c y hc hy
          · cases hy
        · cases hc
    · cases h
  | false =>
    simp only [cond_false] at h
    have hlt : off < arr.size := by
      rw [hl]; exact (List.getElem?_eq_some_iff.1 h).1
    refine ⟨arr[off], fun w' => ?_, hr off v _ h (Array.getElem?_eq_getElem hlt)⟩
    simp [part, run_isAgg h2, h4, Array.getElem?_eq_getElem hlt]

/-! ### '==' -/
def eqF (P : Program) (eq : TypeId → V → V → Option Bool) (xs ys : List V) : List Field → Option Bool
  | [] => some true
  | f :: fs =>
    bif f.name != "_" then
      match partD P f.type with
      | some (s, ag) => match partV xs f.offset s ag, partV ys f.offset s ag with
        | some x, some y => match eq f.type x y, eqF P eq xs ys fs with
          | some a, some b => some (a && b)
          | _, _ => none
        | _, _ => none
      | none => none
    else eqF P eq xs ys fs
def eqI (eq : V → V → Option Bool) (c s : Nat) (ag : Bool) (xs ys : List V) : List Nat → Option Bool
  | [] => some true
  | i :: is => match partV xs (i * c) s ag, partV ys (i * c) s ag with
    | some x, some y => match eq x y, eqI eq c s ag xs ys is with
      | some a, some b => some (a && b)
      | _, _ => none
    | _, _ => none
def eqV (P : Program) : Nat → TypeId → V → V → Option Bool
  | 0, _, _, _ => none
  | d + 1, t, x, y => match x, y with
    | .bool a, .bool b => match P.underlying t with
      | some .bool => some (a == b)
      | _ => none
    | .int k a, .int k' b => match P.underlying t with
      | some (.int _) => bif decide (k = k') then some (a == b) else none
      | _ => none
    | .str a, .str b => match P.underlying t with
      | some .string => some (a.toList == b.toList)
      | _ => none
    | .agg xs, .agg ys => match P.underlying t with
      | some (.struct fs) => bif P.stoodInHeld t then none else eqF P (eqV P d) xs ys fs.toList
      | some (.array m e) => match partD P e with
        | some (s, ag) => eqI (eqV P d e) s s ag xs ys (List.range m)
        | none => none
      | _ => none
    | _, _ => none

theorem eqF_sound {eq : TypeId → V → V → Option Bool} {d : Nat} (heq : ∀ t x y b X Y, eq t x y = some b → R w ro lam x X → R w ro lam y Y → ∀ w' : World, (Op.equalIn d t X Y).run P w' = .ok b w')
    {xs ys : List V} {ax ay : Array Value} (hlx : ax.size = xs.length) (hly : ay.size = ys.length)
    (hx : ∀ (j : Nat) (c : V) (y : Value), xs[j]? = some c → ax[j]? = some y → R w ro lam c y) (hy : ∀ (j : Nat) (c : V) (y : Value), ys[j]? = some c → ay[j]? = some y → R w ro lam c y) :
    ∀ (fs : List Field) (b : Bool), eqF P eq xs ys fs = some b → ∀ w' : World, (Op.eqFields d ax ay fs).run P w' = .ok b w'
  | [], b, h, w' => by simp only [eqF, Option.some.injEq] at h; subst h; simp [Op.eqFields]
  | f :: fs, b, h, w' => by
    unfold eqF at h
    unfold Op.eqFields
    by_cases hn : f.name = "_"
    · simp only [hn, bne_self_eq_false, cond_false] at h
      simp only [hn, ne_eq, not_true_eq_false, if_false]
      exact eqF_sound heq hlx hly hx hy fs b h w'
    · have hn' : (f.name != "_") = true := by simpa using hn
      simp only [hn', cond_true] at h
      simp only [hn, ne_eq, not_false_eq_true, if_true]
      split at h
      · rename_i s ag hp
        split at h
        · rename_i x y px py
          split at h
          · rename_i a b' ha hb
            simp only [Option.some.injEq] at h
            obtain ⟨X, hX, rX⟩ := part_sound hp hlx hx px
            obtain ⟨Y, hY, rY⟩ := part_sound hp hly hy py
            have he := heq _ _ _ _ _ _ ha rX rY
            have hrest := eqF_sound heq hlx hly hx hy fs b' hb
            simp only [Sem.run_bind, hX, hY, Result.andThen_ok, he]
            cases a
            · simp at h; subst h; simp
            · simp at h; subst h; simpa using hrest w'
          · cases h
        · cases h
      · cases h
theorem eqI_sound {eq : V → V → Option Bool} {d : Nat} {e : TypeId} {s : Nat} {ag : Bool} (hp : partD P e = some (s, ag)) (heq : ∀ x y b X Y, eq x y = some b → R w ro lam x X → R w ro lam y Y → ∀ w' : World, (Op.equalIn d e X Y).run P w' = .ok b w')
    {xs ys : List V} {ax ay : Array Value} (hlx : ax.size = xs.length) (hly : ay.size = ys.length)
    (hx : ∀ (j : Nat) (c : V) (y : Value), xs[j]? = some c → ax[j]? = some y → R w ro lam c y) (hy : ∀ (j : Nat) (c : V) (y : Value), ys[j]? = some c → ay[j]? = some y → R w ro lam c y) :
    ∀ (is : List Nat) (b : Bool), eqI eq s s ag xs ys is = some b → ∀ w' : World, (Op.eqItems d e s ax ay is).run P w' = .ok b w'
  | [], b, h, w' => by simp only [eqI, Option.some.injEq] at h; subst h; simp [Op.eqItems]
  | i :: is, b, h, w' => by
    unfold eqI at h
    unfold Op.eqItems
    split at h
    · rename_i x y px py
      split at h
      · rename_i a b' ha hb
        simp only [Option.some.injEq] at h
        obtain ⟨X, hX, rX⟩ := part_sound hp hlx hx px
        obtain ⟨Y, hY, rY⟩ := part_sound hp hly hy py
        have he := heq _ _ _ _ _ ha rX rY
        have hrest := eqI_sound hp heq hlx hly hx hy is b' hb
        simp only [Sem.run_bind, hX, hY, Result.andThen_ok, he]
        cases a
        · simp at h; subst h; simp
        · simp at h; subst h; simpa using hrest w'
      · cases h
    · cases h
theorem eqV_sound (d' : Nat) : ∀ (d : Nat) (t : TypeId) (x y : V) (b : Bool) (X Y : Value), eqV P d t x y = some b → R w ro lam x X → R w ro lam y Y → ∀ w' : World, (Op.equalIn (d + d') t X Y).run P w' = .ok b w'
  | 0, _, _, _, _, _, _, h, _, _, _ => by simp [eqV] at h
  | d + 1, t, x, y, b, X, Y, h, hX, hY, w' => by
    rw [show d + 1 + d' = (d + d') + 1 from by omega]
    unfold eqV at h
    split at h
    · have := hX.bool_inv; subst this
      have := hY.bool_inv; subst this
      split at h
      · rename_i hu
        simp only [Option.some.injEq] at h; subst h
        exact run_equalIn_bool w' _ t _ _ hu
      · cases h
    · have := hX.int_inv; subst this
      have := hY.int_inv; subst this
      split at h
      · rename_i kk hu
        simp only [cond_eq_ite] at h
        split at h
        · rename_i hk
          simp only [decide_eq_true_eq] at hk
          simp only [Option.some.injEq] at h; subst h; subst hk
          exact run_equalIn_int w' _ t _ _ _ _ hu
        · cases h
      · cases h
    · have := hX.str_inv; subst this
      have := hY.str_inv; subst this
      split at h
      · rename_i hu
        simp only [Option.some.injEq] at h; subst h
        exact run_equalIn_string w' _ t _ _ hu
      · cases h
    · obtain ⟨ax, rfl, hlx, hx⟩ := hX.agg_inv
      obtain ⟨ay, rfl, hly, hy⟩ := hY.agg_inv
      split at h
      · rename_i fs hu
        simp only [cond_eq_ite] at h
        split at h
        · cases h
        · rename_i hs
          have hfs : P.fieldsOf t = fs := by simp [Program.fieldsOf, hu]
          rw [run_equalIn_struct w' (d + d') t ax ay (by rw [hfs]; exact hu) (by simpa using hs), hfs]
          exact eqF_sound (fun t x y b X Y h hx hy => eqV_sound d' d t x y b X Y h hx hy) hlx hly hx hy _ b h w'
      · rename_i m e hu
        split at h
        · rename_i s ag hp
          obtain ⟨i, dd, h1, h2, h3, h4⟩ := partD_some hp
          have hc : P.cellsOf e = s := by simp [Program.cellsOf, h1, h3]
          rw [run_equalIn_array w' (d + d') ax ay hu h1, hc]
          exact eqI_sound hp (fun x y b X Y h hx hy => eqV_sound d' d e x y b X Y h hx hy) hlx hly hx hy _ b h w'
        · cases h
      · cases h
    · cases h
end
end Go.Pv
end
section
namespace Go.Pv
open Go.RowKit
set_option linter.unusedSimpArgs false

/-! ### arithmetic -/
/-- The tests on integers: two atoms that simp leaves alone. -/
def ilt (a b : Int) : Bool := decide (a < b)
def ieq (a b : Int) : Bool := a == b
def binI (op : BinOp) (k : IntKind) (a : Int) (k' : IntKind) (b : Int) : Option V :=
  match op with
  | .shl => bif decide (0 ≤ b) then some (.int k (k.wrap (a * 2 ^ (min b.toNat k.bits)))) else none
  | .shr => bif decide (0 ≤ b) then some (.int k (a.fdiv (2 ^ (min b.toNat k.bits)))) else none
  | .add => bif decide (k = k') then some (.int k (k.wrap (a + b))) else none
  | .sub => bif decide (k = k') then some (.int k (k.wrap (a - b))) else none
  | .mul => bif decide (k = k') then some (.int k (k.wrap (a * b))) else none
  | .quo => bif decide (k = k') && decide (b ≠ 0) then some (.int k (k.wrap (a.tdiv b))) else none
  | .rem => bif decide (k = k') && decide (b ≠ 0) then some (.int k (a.tmod b)) else none
  | .and => bif decide (k = k') then some (.int k (k.wrap (BitVec.ofInt k.bits a &&& BitVec.ofInt k.bits b).toNat)) else none
  | .or => bif decide (k = k') then some (.int k (k.wrap (BitVec.ofInt k.bits a ||| BitVec.ofInt k.bits b).toNat)) else none
  | .xor => bif decide (k = k') then some (.int k (k.wrap (BitVec.ofInt k.bits a ^^^ BitVec.ofInt k.bits b).toNat)) else none
  | .eql => bif decide (k = k') then some (.bool (ieq a b)) else none
  | .neq => bif decide (k = k') then some (.bool (!ieq a b)) else none
  | .lss => bif decide (k = k') then some (.bool (ilt a b)) else none
  | .leq => bif decide (k = k') then some (.bool (!ilt b a)) else none
  | .gtr => bif decide (k = k') then some (.bool (ilt b a)) else none
  | .geq => bif decide (k = k') then some (.bool (!ilt a b)) else none
  | _ => none
def binS (op : BinOp) (a b : ByteArray) : Option V :=
  match op with
  | .eql => some (.bool (a.toList == b.toList))
  | .neq => some (.bool !(a.toList == b.toList))
  | .lss => some (.bool (Op.bytesLess a.toList b.toList))
  | .leq => some (.bool (Op.bytesLess a.toList b.toList || a.toList == b.toList))
  | .gtr => some (.bool !(Op.bytesLess a.toList b.toList || a.toList == b.toList))
  | .geq => some (.bool !(Op.bytesLess a.toList b.toList))
  | _ => none
def bin (P : Program) (op : BinOp) (t : TypeId) (x y : V) : Option V :=
  match x, y with
  | .int k a, .int k' b => binI op k a k' b
  | .bool a, .bool b => (match op, td P t with
    | .eql, some d => bif d.isBool then some (.bool (a == b)) else none
    | .neq, some d => bif d.isBool then some (.bool (a != b)) else none
    | _, _ => none)
  | .str a, .str b => binS op a b
  | .agg xs, .agg ys => (match op, td P t with
    | .eql, some d => bif d.eqg then none else (eqV P 6 t (.agg xs) (.agg ys)).map .bool
    | .neq, some d => bif d.eqg then none else (eqV P 6 t (.agg xs) (.agg ys)).map (fun b => .bool !b)
    | _, _ => none)
  | .list _ (_ :: _), .nils => (match op, td P t with
    | .eql, some d => bif d.slc.isSome then some (.bool false) else none
    | .neq, some d => bif d.slc.isSome then some (.bool true) else none
    | _, _ => none)
  | .nils, .nils => (match op, td P t with
    | .eql, some d => bif d.slc.isSome then some (.bool true) else none
    | .neq, some d => bif d.slc.isSome then some (.bool false) else none
    | _, _ => none)
  | .val (.slice a _ _), .nils => (match op, td P t with
    | .eql, some d => bif d.slc.isSome then some (.bool a.isNone) else none
    | .neq, some d => bif d.slc.isSome then some (.bool (!a.isNone)) else none
    | _, _ => none)
  | _, _ => none
def un (op : UnOp) (x : V) : Option V :=
  match op, x with
  | .not, .bool b => some (.bool !b)
  | .neg, .int k a => some (.int k (k.wrap (0 - a)))
  | .xor, .int k a => some (.int k (k.wrap (BitVec.ofInt k.bits (if k.signed then -1 else k.max) ^^^ BitVec.ofInt k.bits a).toNat))
  | _, _ => none

section
variable {w0 : Base} {n : Nat} {ro : Nat → Prop} {lam : Lam} {st : St} {a : Act} {w : World} {P : Program}

theorem td_some {t : TypeId} {d : Td} (h : td P t = some d) : ∃ i D, P.info? t = some i ∧ P.underlying t = some D := by
  unfold td at h
  split at h
  · rename_i i D h1 h2; exact ⟨i, D, h1, h2⟩
  · cases h

theorem td_bool {t : TypeId} {d : Td} (h : td P t = some d) (hb : d.isBool = true) : P.underlying t = some .bool := by
  obtain ⟨i, D, h1, h2⟩ := td_some h
  simp only [td, h1, h2, Option.some.injEq] at h
  subst h
  cases D <;> simp at hb
  exact h2
theorem td_eqg {t : TypeId} {d : Td} (h : td P t = some d) (hb : d.eqg = false) : P.eqGuardType P.depth t = false := by
  obtain ⟨i, D, h1, h2⟩ := td_some h
  simp only [td, h1, h2, Option.some.injEq] at h
  subst h
  exact hb

theorem run_eqGuard_int (op : BinOp) (t : TypeId) (ox oy : Operand) (k k' : IntKind) (i j : Int) : (eqGuard op t ox oy (.int k i) (.int k' j)).run P w = .ok () w := by
  cases op <;> simp [eqGuard]
theorem run_eqGuard_bool (op : BinOp) (t : TypeId) (ox oy : Operand) (i j : Bool) : (eqGuard op t ox oy (.bool i) (.bool j)).run P w = .ok () w := by
  cases op <;> simp [eqGuard]
theorem run_eqGuard_str (op : BinOp) (t : TypeId) (ox oy : Operand) (i j : ByteArray) : (eqGuard op t ox oy (.string i) (.string j)).run P w = .ok () w := by
  cases op <;> simp [eqGuard]

theorem binI_sound {op : BinOp} {t : TypeId} {k k' : IntKind} {i j : Int} {v : V} (h : binI op k i k' j = some v) : ∃ z, (binOp op t (.int k i) (.int k' j)).run P w = .ok z w ∧ R w ro lam v z := by
  cases op <;> simp only [binI, reduceCtorEq] at h <;> simp only [cond_eq_ite] at h <;> (try split at h) <;> (try cases h) <;>
    rename_i hc <;> (try simp only [decide_eq_true_eq, Bool.and_eq_true] at hc) <;>
    first
      | (subst hc; exact ⟨_, by simp [binOp, Op.intArith, Op.intBits, Op.intCmp], .pure _ _ (.int _ _)⟩)
      | (subst hc; refine ⟨_, ?_, .pure _ _ (.bool _)⟩; first | (simp [binOp, Op.intArith, Op.intBits, Op.intCmp, ilt, ieq, bne]; done) | (simp [binOp, Op.intCmp, ilt]; rw [Bool.eq_iff_iff]; simp))
      | (obtain ⟨rfl, hz⟩ := hc; exact ⟨_, by simp [binOp, Op.intDiv, hz], .pure _ _ (.int _ _)⟩)
      | (have hn : ¬ j < 0 := by omega
         exact ⟨_, by simp [binOp, Op.shift, hn], .pure _ _ (.int _ _)⟩)
theorem binS_sound {op : BinOp} {t : TypeId} {i j : ByteArray} {v : V} (h : binS op i j = some v) : ∃ z, (binOp op t (.string i) (.string j)).run P w = .ok z w ∧ R w ro lam v z := by
  cases op <;> simp only [binS, reduceCtorEq, Option.some.injEq] at h <;> subst h <;>
    exact ⟨_, by simp [binOp, Op.stringOp], .pure _ _ (.bool _)⟩

theorem td_slcN {t : TypeId} {d : Td} (h : td P t = some d) (hb : d.slc.isSome = true) : ∃ e, P.underlying t = some (.slice e) := by
  obtain ⟨i, D, h1, h2⟩ := td_some h
  simp only [td, h1, h2, Option.some.injEq] at h
  subst h
  cases D with
  | slice e => exact ⟨e, h2⟩
  | _ => simp at hb
theorem run_equal_nilN (w : World) (t e : TypeId) (a : Option Addr) (l c : Nat) (h : P.underlying t = some (.slice e)) : (Op.equal t (.slice a l c) (.slice none 0 0)).run P w = .ok a.isNone w := by
  have key : ∀ d, (Op.equalIn (d + 1) t (.slice a l c) (.slice none 0 0)).run P w = .ok a.isNone w := fun d => by cases a <;> simp [Op.equalIn, run_underlying h]
  exact key 9999
theorem run_eql_nilN (w : World) (t e : TypeId) (ox oy : Operand) (a : Option Addr) (l c : Nat) (h : P.underlying t = some (.slice e)) : (do eqGuard .eql t ox oy (.slice a l c) (.slice none 0 0); binOp .eql t (.slice a l c) (.slice none 0 0)).run P w = .ok (.bool a.isNone) w := by
  have := run_equal_nilN w t e a l c h
  simp [eqGuard, binOp, this]
theorem run_neq_nilN (w : World) (t e : TypeId) (ox oy : Operand) (a : Option Addr) (l c : Nat) (h : P.underlying t = some (.slice e)) : (do eqGuard .neq t ox oy (.slice a l c) (.slice none 0 0); binOp .neq t (.slice a l c) (.slice none 0 0)).run P w = .ok (.bool (!a.isNone)) w := by
  have := run_equal_nilN w t e a l c h
  simp [eqGuard, binOp, this]
theorem bin_sound {op : BinOp} {t : TypeId} {x y v : V} {X Y : Value} (ox oy : Operand) (h : bin P op t x y = some v) (hx : R w ro lam x X) (hy : R w ro lam y Y) :
    ∃ z, (do eqGuard op t ox oy X Y; binOp op t X Y).run P w = .ok z w ∧ R w ro lam v z := by
  unfold bin at h
  split at h
  · have := hx.int_inv; subst this
    have := hy.int_inv; subst this
    obtain ⟨z, hz, hr⟩ := binI_sound (P := P) (w := w) (ro := ro) (lam := lam) (t := t) h
    exact ⟨z, by simp only [Sem.run_bind, run_eqGuard_int, Result.andThen_ok, hz], hr⟩
  · have := hx.bool_inv; subst this
    have := hy.bool_inv; subst this
    split at h
    · rename_i d hd
      simp only [cond_eq_ite] at h
      split at h
      · rename_i hb
        simp only [Option.some.injEq] at h; subst h
        have hu := td_bool hd hb
        refine ⟨_, ?_, .pure _ _ (.bool _)⟩
        simp only [Sem.run_bind, run_eqGuard_bool, Result.andThen_ok]
        simp [binOp, run_equal_bool w t _ _ hu]
      · cases h
    · rename_i d hd
      simp only [cond_eq_ite] at h
      split at h
      · rename_i hb
        simp only [Option.some.injEq] at h; subst h
        have hu := td_bool hd hb
        refine ⟨_, ?_, .pure _ _ (.bool _)⟩
        simp only [Sem.run_bind, run_eqGuard_bool, Result.andThen_ok]
        simp [binOp, run_equal_bool w t _ _ hu, bne]
      · cases h
    · cases h
  · have := hx.str_inv; subst this
    have := hy.str_inv; subst this
    obtain ⟨z, hz, hr⟩ := binS_sound (P := P) (w := w) (ro := ro) (lam := lam) (t := t) h
    exact ⟨z, by simp only [Sem.run_bind, run_eqGuard_str, Result.andThen_ok, hz], hr⟩
  · obtain ⟨ax, rfl, _, _⟩ := hx.agg_inv
    obtain ⟨ay, rfl, _, _⟩ := hy.agg_inv
    split at h
    · rename_i d hd
      simp only [cond_eq_ite] at h
      split at h
      · cases h
      · rename_i hg
        have hg' := td_eqg hd (by simpa using hg)
        simp only [Option.map_eq_some_iff] at h
        obtain ⟨b, hb, rfl⟩ := h
        have he := eqV_sound (P := P) 9994 6 t _ _ b _ _ hb hx hy w
        exact ⟨.bool b, by simp only [Sem.run_bind, run_eqGuard_agg w _ _ _ _ _ _ hg', Result.andThen_ok, run_eql_struct, he], .pure _ _ (.bool _)⟩
    · rename_i d hd
      simp only [cond_eq_ite] at h
      split at h
      · cases h
      · rename_i hg
        have hg' := td_eqg hd (by simpa using hg)
        simp only [Option.map_eq_some_iff] at h
        obtain ⟨b, hb, rfl⟩ := h
        have he := eqV_sound (P := P) 9994 6 t _ _ b _ _ hb hx hy w
        exact ⟨.bool (!b), by simp only [Sem.run_bind, run_eqGuard_agg w _ _ _ _ _ _ hg', Result.andThen_ok, run_neq_struct, he], .pure _ _ (.bool _)⟩
    · cases h
  · have := hy.nils_inv; subst this
    rcases hx.list_inv with ⟨h0, _⟩ | ⟨ad, cap, g, rfl, _⟩
    · cases h0
    · split at h
      · rename_i d hd
        simp only [cond_eq_ite] at h
        split at h
        · rename_i hb
          simp only [Option.some.injEq] at h; subst h
          obtain ⟨e, hu⟩ := td_slcN hd hb
          exact ⟨_, run_eql_nilN w t e ox oy (some ad) _ _ hu, .pure _ _ (.bool _)⟩
        · cases h
      · rename_i d hd
        simp only [cond_eq_ite] at h
        split at h
        · rename_i hb
          simp only [Option.some.injEq] at h; subst h
          obtain ⟨e, hu⟩ := td_slcN hd hb
          exact ⟨_, run_neq_nilN w t e ox oy (some ad) _ _ hu, .pure _ _ (.bool _)⟩
        · cases h
      · cases h
  · have := hy.nils_inv; subst this
    have := hx.nils_inv; subst this
    split at h
    · rename_i d hd
      simp only [cond_eq_ite] at h
      split at h
      · rename_i hb
        simp only [Option.some.injEq] at h; subst h
        obtain ⟨e, hu⟩ := td_slcN hd hb
        exact ⟨_, run_eql_nilN w t e ox oy none _ _ hu, .pure _ _ (.bool _)⟩
      · cases h
    · rename_i d hd
      simp only [cond_eq_ite] at h
      split at h
      · rename_i hb
        simp only [Option.some.injEq] at h; subst h
        obtain ⟨e, hu⟩ := td_slcN hd hb
        exact ⟨_, run_neq_nilN w t e ox oy none _ _ hu, .pure _ _ (.bool _)⟩
      · cases h
    · cases h
  · rename_i A l c
    have := hy.nils_inv; subst this
    have hX : X = .slice A l c := by cases hx with | pure _ _ hx => cases hx; rfl
    subst hX
    split at h
    · rename_i d hd
      simp only [cond_eq_ite] at h
      split at h
      · rename_i hb
        simp only [Option.some.injEq] at h; subst h
        obtain ⟨e, hu⟩ := td_slcN hd hb
        exact ⟨_, run_eql_nilN w t e ox oy A l c hu, .pure _ _ (.bool _)⟩
      · cases h
    · rename_i d hd
      simp only [cond_eq_ite] at h
      split at h
      · rename_i hb
        simp only [Option.some.injEq] at h; subst h
        obtain ⟨e, hu⟩ := td_slcN hd hb
        exact ⟨_, run_neq_nilN w t e ox oy A l c hu, .pure _ _ (.bool _)⟩
      · cases h
    · cases h
  · cases h

theorem un_sound {op : UnOp} {x v : V} {X : Value} (h : un op x = some v) (hx : R w ro lam x X) : ∃ z, (Op.unary op X).run P w = .ok z w ∧ R w ro lam v z := by
  unfold un at h
  split at h
  · have := hx.bool_inv; subst this
    simp only [Option.some.injEq] at h; subst h
    exact ⟨_, by simp [Op.unary], .pure _ _ (.bool _)⟩
  · have := hx.int_inv; subst this
    simp only [Option.some.injEq] at h; subst h
    exact ⟨_, by simp [Op.unary, Op.intArith], .pure _ _ (.int _ _)⟩
  · have := hx.int_inv; subst this
    simp only [Option.some.injEq] at h; subst h
    exact ⟨_, by simp only [Op.unary, Op.intBits]; rfl, .pure _ _ (.int _ _)⟩
  · cases h

/-! ### len, min, max -/
def lenV (P : Program) (t : TypeId) (x : V) : Option V := match td P t with
  | some d => (match x with
    | .list _ xs => bif d.slc.isSome then some (.int .i64 xs.length) else none
    | .sl _ _ len _ => bif d.slc.isSome then some (.int .i64 len) else none
    | .nils => bif d.slc.isSome then some (.int .i64 0) else none
    | .str s => bif d.isStr then some (.int .i64 s.size) else none
    | _ => none)
  | none => none
theorem td_slc {t : TypeId} {d : Td} (h : td P t = some d) (hb : d.slc.isSome = true) : ∃ e, P.underlying t = some (.slice e) := by
  obtain ⟨i, D, h1, h2⟩ := td_some h
  simp only [td, h1, h2, Option.some.injEq] at h
  subst h
  cases D <;> simp at hb
  exact ⟨_, h2⟩
theorem td_slc' {t e : TypeId} {s : Nat} {d : Td} (h : td P t = some d) (hb : d.slc = some (e, s)) : P.underlying t = some (.slice e) ∧ ∃ ag, partD P e = some (s, ag) := by
  obtain ⟨i, D, h1, h2⟩ := td_some h
  simp only [td, h1, h2, Option.some.injEq] at h
  subst h
  cases D with
  | slice e' =>
    simp only [Option.map_eq_some_iff, Prod.mk.injEq] at hb
    obtain ⟨p, hp, rfl, rfl⟩ := hb
    exact ⟨h2, p.2, hp⟩
  | _ => simp at hb
theorem td_str {t : TypeId} {d : Td} (h : td P t = some d) (hb : d.isStr = true) : P.underlying t = some .string := by
  obtain ⟨i, D, h1, h2⟩ := td_some h
  simp only [td, h1, h2, Option.some.injEq] at h
  subst h
  cases D <;> simp at hb
  exact h2
theorem lenV_sound {t ty : TypeId} {x v : V} {X : Value} (h : lenV P t x = some v) (hx : R w ro lam x X) : ∃ z, (Builtin.len_ #[t] ty #[X]).run P w = .ok z w ∧ R w ro lam v z := by
  unfold lenV at h
  split at h
  · rename_i d hd
    split at h <;> (try simp only [cond_eq_ite] at h) <;> (try split at h) <;> (try cases h)
    · rename_i hs
      obtain ⟨e, hu⟩ := td_slc hd hs
      rcases hx.list_inv with ⟨rfl, ad, cap, rfl⟩ | ⟨ad, cap, g, rfl, _⟩
      · exact ⟨_, by simp [Builtin.len_, run_underlying hu, goInt], .pure _ _ (.int _ _)⟩
      · exact ⟨_, by simp [Builtin.len_, run_underlying hu, goInt], .pure _ _ (.int _ _)⟩
    · rename_i hs
      obtain ⟨e, hu⟩ := td_slc hd hs
      rcases hx.sl_inv with ⟨_, rfl, rfl, rfl⟩ | ⟨b, m, cap, _, _, _, _, rfl⟩
      · exact ⟨_, by simp [Builtin.len_, run_underlying hu, goInt], .pure _ _ (.int _ _)⟩
      · exact ⟨_, by simp [Builtin.len_, run_underlying hu, goInt], .pure _ _ (.int _ _)⟩
    · rename_i hs
      obtain ⟨e, hu⟩ := td_slc hd hs
      have := hx.nils_inv; subst this
      exact ⟨_, by simp [Builtin.len_, run_underlying hu, goInt], .pure _ _ (.int _ _)⟩
    · rename_i hs
      have hu := td_str hd hs
      have := hx.str_inv; subst this
      exact ⟨_, by simp [Builtin.len_, run_underlying hu, goInt], .pure _ _ (.int _ _)⟩
  · cases h

def minV : V → List V → Option V
  | v, [] => some v
  | .int k x, .int _ y :: rest => minV (.int k (min x y)) rest
  | _, _ :: _ => none
def maxV : V → List V → Option V
  | v, [] => some v
  | .int k x, .int _ y :: rest => maxV (.int k (max x y)) rest
  | _, _ :: _ => none
theorem minV_sound : ∀ (xs : List V) (x v : V) (Xs : List Value) (X : Value), minV x xs = some v → R w ro lam x X → Xs.length = xs.length →
    (∀ (j : Nat) (c : V) (y : Value), xs[j]? = some c → Xs[j]? = some y → R w ro lam c y) → ∃ z, (Xs.foldlM Builtin.min2 X).run P w = .ok z w ∧ R w ro lam v z
  | [], x, v, Xs, X, h, hx, hl, _ => by
    have : Xs = [] := List.eq_nil_of_length_eq_zero (by simpa using hl)
    subst this
    simp only [minV, Option.some.injEq] at h; subst h
    exact ⟨X, by simp, hx⟩
  | y :: xs, x, v, Xs, X, h, hx, hl, hr => by
    obtain ⟨Y, Ys, rfl⟩ : ∃ Y Ys, Xs = Y :: Ys := by cases Xs with | nil => simp at hl | cons Y Ys => exact ⟨Y, Ys, rfl⟩
    have hy := hr 0 y Y rfl rfl
    unfold minV at h
    split at h
    · rename_i h0; cases h0
    · rename_i k i k' j rest heq
      simp only [List.cons.injEq] at heq
      obtain ⟨rfl, rfl⟩ := heq
      have := hx.int_inv; subst this
      have := hy.int_inv; subst this
      obtain ⟨z, hz, hzr⟩ := minV_sound xs _ v Ys (.int k (min i j)) h (.pure _ _ (.int _ _)) (by simpa using hl) (fun j c y hc hy => hr (j + 1) c y (by simpa using hc) (by simpa using hy))
      have e : (if j < i then j else i) = min i j := by omega
      exact ⟨z, by simpa [List.foldlM_cons, Builtin.min2, e] using hz, hzr⟩
    · cases h
theorem maxV_sound : ∀ (xs : List V) (x v : V) (Xs : List Value) (X : Value), maxV x xs = some v → R w ro lam x X → Xs.length = xs.length →
    (∀ (j : Nat) (c : V) (y : Value), xs[j]? = some c → Xs[j]? = some y → R w ro lam c y) → ∃ z, (Xs.foldlM Builtin.max2 X).run P w = .ok z w ∧ R w ro lam v z
  | [], x, v, Xs, X, h, hx, hl, _ => by
    have : Xs = [] := List.eq_nil_of_length_eq_zero (by simpa using hl)
    subst this
    simp only [maxV, Option.some.injEq] at h; subst h
    exact ⟨X, by simp, hx⟩
  | y :: xs, x, v, Xs, X, h, hx, hl, hr => by
    obtain ⟨Y, Ys, rfl⟩ : ∃ Y Ys, Xs = Y :: Ys := by cases Xs with | nil => simp at hl | cons Y Ys => exact ⟨Y, Ys, rfl⟩
    have hy := hr 0 y Y rfl rfl
    unfold maxV at h
    split at h
    · rename_i h0; cases h0
    · rename_i k i k' j rest heq
      simp only [List.cons.injEq] at heq
      obtain ⟨rfl, rfl⟩ := heq
      have := hx.int_inv; subst this
      have := hy.int_inv; subst this
      obtain ⟨z, hz, hzr⟩ := maxV_sound xs _ v Ys (.int k (max i j)) h (.pure _ _ (.int _ _)) (by simpa using hl) (fun j c y hc hy => hr (j + 1) c y (by simpa using hc) (by simpa using hy))
      have e : (if i < j then j else i) = max i j := by omega
      exact ⟨z, by simpa [List.foldlM_cons, Builtin.max2, e] using hz, hzr⟩
    · cases h

/-! ### places -/
def fieldAddrV (P : Program) (s : TypeId) (x : V) (f : Nat) : Option V := match td P s with
  | some d => (match d.fields[f]? with
    | some (some (off, size, _)) => bif decide (size = 0) then none else (match x with
      | .ptr key o => some (.ptr key (o + off))
      | .rp cs => some (.rp (cs.drop off))
      | _ => none)
    | _ => none)
  | none => none
theorem td_field {s : TypeId} {d : Td} {f off size : Nat} {ag : Bool} (h : td P s = some d) (hf : d.fields[f]? = some (some (off, size, ag))) :
    ∃ fs fl, P.underlying s = some (.struct fs) ∧ fs[f]? = some fl ∧ fl.offset = off ∧ partD P fl.type = some (size, ag) := by
  obtain ⟨i, D, h1, h2⟩ := td_some h
  simp only [td, h1, h2, Option.some.injEq] at h
  subst h
  cases D with
  | struct fs =>
    simp only [List.getElem?_map, Array.getElem?_toList, Option.map_eq_some_iff] at hf
    obtain ⟨fl, hfl, p, hp, hpe⟩ := hf
    simp only [Prod.mk.injEq] at hpe
    obtain ⟨rfl, rfl, rfl⟩ := hpe
    exact ⟨fs, fl, h2, hfl, rfl, by rw [hp]⟩
  | _ => simp at hf
theorem add_lit (b o j : Nat) : (⟨b, o, none⟩ : Addr).add j = ⟨b, o + j, none⟩ := by unfold Addr.add; split <;> simp_all
theorem add_add (ad : Addr) (i j : Nat) : (ad.add i).add j = ad.add (i + j) := by
  unfold Addr.add
  by_cases hi : i = 0 <;> by_cases hj : j = 0 <;> simp [hi, hj, Nat.add_assoc]
theorem rp_drop {cs : List V} {ad : Addr} {g : Nat → Value} (hro : ro ad.block) (hg : ∀ (j : Nat) (c : V), cs[j]? = some c → w.cell? (ad.add j) = some (g j)) (hr : ∀ (j : Nat) (c : V), cs[j]? = some c → R0 w ro c (g j)) (off : Nat) :
    R w ro lam (.rp (cs.drop off)) (.pointer (some (ad.add off))) :=
  .pure _ _ (.rp _ _ (fun j => g (off + j)) (by rw [block_add]; exact hro) (fun j c hc => by rw [add_add]; exact hg _ c (by simpa using hc)) (fun j c hc => hr _ c (by simpa using hc)))
theorem fieldAddrV_sound {s : TypeId} {x v : V} {X : Value} {f : Nat} (h : fieldAddrV P s x f = some v) (hx : R w ro lam x X) : ∃ z, (Instr.fieldAt s X f).run P w = .ok z w ∧ R w ro lam v z := by
  unfold fieldAddrV at h
  split at h
  · rename_i d hd
    split at h
    · rename_i off size ag hf
      obtain ⟨fs, fl, hu, hfl, rfl, hp⟩ := td_field hd hf
      obtain ⟨i, dd, h1, h2, h3, h4⟩ := partD_some hp
      simp only [cond_eq_ite, decide_eq_true_eq] at h
      split at h
      · cases h
      · rename_i hsz
        have hpl : ∀ ad : Addr, (fieldPlace ad fl).run P w = .ok (ad.add fl.offset) w := fun ad => by simp [fieldPlace, run_sizeOf' h1, h3, hsz]
        split at h
        · simp only [Option.some.injEq] at h; subst h
          obtain ⟨b, m, hl, rfl⟩ := hx.ptr_inv
          exact ⟨_, by simp [Instr.fieldAt, run_underlying hu, hfl, Instr.sureAddr, hpl, add_lit], .ptr _ _ b m hl⟩
        · simp only [Option.some.injEq] at h; subst h
          obtain ⟨ad, g, rfl, hro, hg, hr⟩ := hx.rp_inv
          exact ⟨_, by simp [Instr.fieldAt, run_underlying hu, hfl, Instr.sureAddr, hpl], rp_drop hro hg hr _⟩
        · cases h
    · cases h
  · cases h

def fieldV (P : Program) (s : TypeId) (x : V) (f : Nat) : Option V := match td P s with
  | some d => (match d.fields[f]?, x with
    | some (some (off, size, ag)), .agg cs => partV cs off size ag
    | _, _ => none)
  | none => none
theorem fieldV_sound {s : TypeId} {x v : V} {X : Value} {f : Nat} (h : fieldV P s x f = some v) (hx : R w ro lam x X) : ∃ z, (Instr.field s X f).run P w = .ok z w ∧ R w ro lam v z := by
  unfold fieldV at h
  split at h
  · rename_i d hd
    split at h
    · rename_i off size ag cs hf
      obtain ⟨fs, fl, hu, hfl, rfl, hp⟩ := td_field hd hf
      obtain ⟨arr, rfl, hl, hr⟩ := hx.agg_inv
      obtain ⟨z, hz, hzr⟩ := part_sound hp hl hr h
      exact ⟨z, by simp [Instr.field, run_underlying hu, hfl, asAgg, hz], hzr⟩
    · cases h
  · cases h

def indexAddrV (P : Program) (t : TypeId) (x i : V) : Option V := match td P t, i with
  | some d, .int _ iv => (match x with
    | .list sz xs => (match d.slc with
      | some (_, s) => bif decide (s = sz) && decide (0 ≤ iv) then xs[iv.toNat]?.map .rp else none
      | none => none)
    | .sl key off len sz => (match d.slc with
      | some (_, s) => bif decide (s = sz) && (decide (0 ≤ iv) && decide (iv < len)) then some (.ptr key (off + iv.toNat * sz)) else none
      | none => none)
    | .ptr key off => (match d.arr with
      | some (m, s, _) => bif decide (0 ≤ iv) && decide (iv < m) then some (.ptr key (off + iv.toNat * s)) else none
      | none => none)
    | .rp cs => (match d.arr with
      | some (m, s, _) => bif decide (0 ≤ iv) && decide (iv < m) then some (.rp (cs.drop (iv.toNat * s))) else none
      | none => none)
    | _ => none)
  | _, _ => none
theorem td_arr {t : TypeId} {d : Td} {m s : Nat} {ag : Bool} (h : td P t = some d) (hf : d.arr = some (m, s, ag)) :
    ∃ e, P.underlying t = some (.array m e) ∧ partD P e = some (s, ag) := by
  obtain ⟨i, D, h1, h2⟩ := td_some h
  simp only [td, h1, h2, Option.some.injEq] at h
  subst h
  cases D with
  | array m' e =>
    simp only [Option.map_eq_some_iff, Prod.mk.injEq] at hf
    obtain ⟨p, hp, rfl, rfl, rfl⟩ := hf
    exact ⟨e, h2, hp⟩
  | _ => simp at hf
theorem indexAddrV_sound {t : TypeId} {x i v : V} {X I : Value} (h : indexAddrV P t x i = some v) (hx : R w ro lam x X) (hi : R w ro lam i I) : ∃ z, (Instr.indexAt t X I).run P w = .ok z w ∧ R w ro lam v z := by
  unfold indexAddrV at h
  split at h
  · rename_i d k iv hd
    have := hi.int_inv; subst this
    split at h
    · rename_i sz xs
      split at h
      · rename_i e s hs
        simp only [cond_eq_ite, Bool.and_eq_true, decide_eq_true_eq] at h
        split at h
        · rename_i hc
          obtain ⟨rfl, h0⟩ := hc
          obtain ⟨hu, ag, hp⟩ := td_slc' hd hs
          obtain ⟨ie, de, h1, h2, h3, h4⟩ := partD_some hp
          simp only [Option.map_eq_some_iff] at h
          obtain ⟨c, hc, rfl⟩ := h
          rcases hx.list_inv with ⟨rfl, ad, cap, rfl⟩ | ⟨ad, cap, g, rfl, hro, hsz, hcap, hg, hr⟩
          · simp at hc
          · have hlt : iv.toNat < xs.length := (List.getElem?_eq_some_iff.1 hc).1
            have hi2 : iv < (xs.length : Int) := by omega
            refine ⟨.pointer (some (ad.add (iv.toNat * s))), by simp [Instr.indexAt, asIntOf, run_underlying hu, h0, hi2, run_sizeOf' h1, h3], .pure _ _ ?_⟩
            refine .rp c _ (fun j => g iv.toNat j) (by rw [block_add]; exact hro) (fun j y hy => ?_) (fun j y hy => hr _ j c y hc hy)
            rw [add_add]; exact hg _ j c y hc hy
        · cases h
      · cases h
    · rename_i key off len sz
      split at h
      · rename_i e s hs
        simp only [cond_eq_ite, Bool.and_eq_true, decide_eq_true_eq] at h
        split at h
        · rename_i hc
          obtain ⟨rfl, h0, hlt⟩ := hc
          obtain ⟨hu, ag, hp⟩ := td_slc' hd hs
          obtain ⟨ie, de, h1, h2, h3, h4⟩ := partD_some hp
          simp only [Option.some.injEq] at h; subst h
          rcases hx.sl_inv with ⟨_, rfl, rfl, rfl⟩ | ⟨b, m, cap, hl, _, _, _, rfl⟩
          · omega
          · exact ⟨_, by simp [Instr.indexAt, asIntOf, run_underlying hu, h0, hlt, run_sizeOf' h1, h3, add_lit], .ptr _ _ b m hl⟩
        · cases h
      · cases h
    · rename_i key off
      split at h
      · rename_i m s ag hs
        simp only [cond_eq_ite, Bool.and_eq_true, decide_eq_true_eq] at h
        split at h
        · rename_i hc
          obtain ⟨h0, hlt⟩ := hc
          obtain ⟨e, hu, hp⟩ := td_arr hd hs
          obtain ⟨ie, de, h1, h2, h3, h4⟩ := partD_some hp
          simp only [Option.some.injEq] at h; subst h
          obtain ⟨b, m', hl, rfl⟩ := hx.ptr_inv
          exact ⟨_, by simp [Instr.indexAt, asIntOf, run_underlying hu, h0, hlt, run_sizeOf' h1, h3, add_lit, Instr.sureAddr], .ptr _ _ b m' hl⟩
        · cases h
      · cases h
    · rename_i cs
      split at h
      · rename_i m s ag hs
        simp only [cond_eq_ite, Bool.and_eq_true, decide_eq_true_eq] at h
        split at h
        · rename_i hc
          obtain ⟨h0, hlt⟩ := hc
          obtain ⟨e, hu, hp⟩ := td_arr hd hs
          obtain ⟨ie, de, h1, h2, h3, h4⟩ := partD_some hp
          simp only [Option.some.injEq] at h; subst h
          obtain ⟨ad, g, rfl, hro, hg, hr⟩ := hx.rp_inv
          exact ⟨_, by simp [Instr.indexAt, asIntOf, run_underlying hu, h0, hlt, run_sizeOf' h1, h3, Instr.sureAddr], rp_drop hro hg hr _⟩
        · cases h
      · cases h
    · cases h
  · cases h

def indexV (P : Program) (t : TypeId) (x i : V) : Option V := match td P t, i with
  | some d, .int _ iv => (match x with
    | .agg cs => (match d.arr with
      | some (m, s, ag) => bif decide (0 ≤ iv) && decide (iv < m) then partV cs (iv.toNat * s) s ag else none
      | none => none)
    | .str b => bif d.isStr && decide (0 ≤ iv) then b[iv.toNat]?.map (fun c => .int .u8 c.toNat) else none
    | _ => none)
  | _, _ => none
theorem indexV_sound {t : TypeId} {x i v : V} {X I : Value} (h : indexV P t x i = some v) (hx : R w ro lam x X) (hi : R w ro lam i I) : ∃ z, (Instr.index t X I).run P w = .ok z w ∧ R w ro lam v z := by
  unfold indexV at h
  split at h
  · rename_i d k iv hd
    have := hi.int_inv; subst this
    split at h
    · rename_i cs
      split at h
      · rename_i m s ag hs
        simp only [cond_eq_ite, Bool.and_eq_true, decide_eq_true_eq] at h
        split at h
        · rename_i hc
          obtain ⟨h0, hlt⟩ := hc
          obtain ⟨e, hu, hp⟩ := td_arr hd hs
          obtain ⟨ie, de, h1, h2, h3, h4⟩ := partD_some hp
          obtain ⟨arr, rfl, hl, hr⟩ := hx.agg_inv
          obtain ⟨z, hz, hzr⟩ := part_sound hp hl hr h
          exact ⟨z, by simp [Instr.index, asIntOf, run_underlying hu, h0, hlt, run_sizeOf' h1, h3, hz], hzr⟩
        · cases h
      · cases h
    · rename_i b
      simp only [cond_eq_ite, Bool.and_eq_true, decide_eq_true_eq] at h
      split at h
      · rename_i hc
        obtain ⟨hs, h0⟩ := hc
        have hu := td_str hd hs
        have := hx.str_inv; subst this
        simp only [Option.map_eq_some_iff] at h
        obtain ⟨c, hc, rfl⟩ := h
        exact ⟨_, by simp [Instr.index, asIntOf, run_underlying hu, h0, hc], .pure _ _ (.int _ _)⟩
      · cases h
    · cases h
  · cases h

def extractV (x : V) (i : Nat) : Option V := match x with
  | .tup vs => vs[i]?
  | _ => none
theorem extractV_sound {x v : V} {X : Value} {i : Nat} (h : extractV x i = some v) (hx : R w ro lam x X) : ∃ z, (Instr.extract X i).run P w = .ok z w ∧ R w ro lam v z := by
  unfold extractV at h
  split at h
  · obtain ⟨arr, rfl, hl, hr⟩ := hx.tup_inv
    have hlt : i < arr.size := by rw [hl]; exact (List.getElem?_eq_some_iff.1 h).1
    exact ⟨arr[i], by simp [Instr.extract, Array.getElem?_eq_getElem hlt], hr i v _ h (Array.getElem?_eq_getElem hlt)⟩
  · cases h

def convertV (P : Program) (src dst : TypeId) (x : V) : Option V := match td P src, td P dst, x with
  | some _, some d, .int _ m => (match d.int with | some k => some (.int k (k.wrap m)) | none => none)
  | _, _, _ => none
theorem td_int {t : TypeId} {d : Td} {k : IntKind} (h : td P t = some d) (hb : d.int = some k) : P.underlying t = some (.int k) := by
  obtain ⟨i, D, h1, h2⟩ := td_some h
  simp only [td, h1, h2, Option.some.injEq] at h
  subst h
  cases D <;> simp at hb
  subst hb
  exact h2
theorem convertV_sound {s t : TypeId} {x v : V} {X : Value} (h : convertV P s t x = some v) (hx : R w ro lam x X) : ∃ z, (convert s t X).run P w = .ok z w ∧ R w ro lam v z := by
  unfold convertV at h
  split at h
  · rename_i ds d k m hds hd
    have := hx.int_inv; subst this
    split at h
    · rename_i k' hk
      have hu := td_int hd hk
      obtain ⟨i, D, h1, h2⟩ := td_some hds
      simp only [Option.some.injEq] at h; subst h
      exact ⟨_, by simp [convert, run_underlying hu, run_underlying h2, Conv.intToInt], .pure _ _ (.int _ _)⟩
    · cases h
  · cases h

/-- A slice's rows as one array. -/
def toArrV (P : Program) (t : TypeId) (x : V) : Option V := match td P t with
  | some d => (match d.arr with
    | some (m, _, _) => (match x with
      | .list _ xs => bif decide (0 < m) && decide (m ≤ xs.length) then some (.rp xs.flatten) else none
      | .sl key off len _ => bif decide (0 < m) && decide (m ≤ len) then some (.ptr key off) else none
      | _ => none)
    | none => none)
  | none => none
theorem flatten_cell {sz : Nat} : ∀ (xs : List (List V)) (_ : ∀ c ∈ xs, c.length = sz) (j : Nat) (x : V), xs.flatten[j]? = some x → ∃ c, xs[j / sz]? = some c ∧ c[j % sz]? = some x
  | [], _, j, x, h => by simp at h
  | c :: xs, hl, j, x, h => by
    have hc : c.length = sz := hl c (by simp)
    rw [List.flatten_cons] at h
    by_cases hj : j < sz
    · rw [List.getElem?_append_left (by omega)] at h
      exact ⟨c, by rw [Nat.div_eq_of_lt hj]; rfl, by rw [Nat.mod_eq_of_lt hj]; exact h⟩
    · rw [List.getElem?_append_right (by omega), hc] at h
      by_cases h0 : sz = 0
      · exfalso
        have hz : xs.flatten = [] := by
          rw [List.flatten_eq_nil_iff]; intro y hy; exact List.length_eq_zero_iff.1 ((hl y (by simp [hy])).trans h0)
        rw [hz] at h; simp at h
      · obtain ⟨y, h1, h2⟩ := flatten_cell xs (fun y hy => hl y (by simp [hy])) (j - sz) x h
        have e : j = (j - sz) + sz := by omega
        refine ⟨y, ?_, ?_⟩
        · rw [e, Nat.add_div_right _ (by omega)]; exact h1
        · rw [e, Nat.add_mod_right]; exact h2
theorem toArrV_sound {t : TypeId} {x v : V} {X : Value} (h : toArrV P t x = some v) (hx : R w ro lam x X) : ∃ z, (Instr.arrayAt t X).run P w = .ok z w ∧ R w ro lam v z := by
  unfold toArrV at h
  split at h
  · rename_i d hd
    split at h
    · rename_i m s ag ha
      obtain ⟨e, hu, _⟩ := td_arr hd ha
      split at h
      · rename_i sz xs
        simp only [cond_eq_ite, Bool.and_eq_true, decide_eq_true_eq] at h
        split at h
        · rename_i hc
          simp only [Option.some.injEq] at h; subst h
          rcases hx.list_inv with ⟨rfl, ad, cap, rfl⟩ | ⟨ad, cap, g, rfl, hro, hsz, hcap, hg, hr⟩
          · simp at hc; omega
          · refine ⟨.pointer (some ad), by simp [Instr.arrayAt, run_underlying hu, show ¬ xs.length < m by omega], .pure _ _ ?_⟩
            refine .rp _ _ (fun j => g (j / sz) (j % sz)) hro (fun j y hy => ?_) (fun j y hy => ?_)
            · obtain ⟨c, h1, h2⟩ := flatten_cell xs hsz j y hy
              have := hg _ _ c y h1 h2
              rwa [Nat.mul_comm, Nat.div_add_mod] at this
            · obtain ⟨c, h1, h2⟩ := flatten_cell xs hsz j y hy
              exact hr _ _ c y h1 h2
        · cases h
      · rename_i key off len sz
        simp only [cond_eq_ite, Bool.and_eq_true, decide_eq_true_eq] at h
        split at h
        · rename_i hc
          simp only [Option.some.injEq] at h; subst h
          rcases hx.sl_inv with ⟨_, _, h0, _⟩ | ⟨b, mm, cap, hl, _, _, _, rfl⟩
          · omega
          · exact ⟨_, by simp [Instr.arrayAt, run_underlying hu, show ¬ len < m by omega], .ptr _ _ b mm hl⟩
        · cases h
      · cases h
    · cases h
  · cases h
end
end Go.Pv
end
section
namespace Go.Pv
open Go.RowKit
set_option linter.unusedSimpArgs false

section
variable {w0 : Base} {n : Nat} {ro : Nat → Prop} {lam : Lam} {st : St} {a : Act} {w : World} {P : Program}

/-- Cells, one by one. -/
def RA (w : World) (ro : Nat → Prop) (lam : Lam) (cs : List V) (arr : Array Value) : Prop :=
  arr.size = cs.length ∧ ∀ (j : Nat) (c : V) (x : Value), cs[j]? = some c → arr[j]? = some x → R w ro lam c x

def cellsV : V → Option (List V)
  | .agg cs => some cs
  | .val (.map m) => some [.val (.map m)]
  | .val (.func f a b) => some [.val (.func f a b)]
  | .tup _ | .undef | .junk | .val _ | .vrp .. | .vptr .. | .rmap _ => none
  | v => some [v]
theorem cellsV_sound {v : V} {x : Value} {cs : List V} (h : cellsV v = some cs) (hx : R w ro lam v x) : RA w ro lam cs x.cells := by
  have one : ∀ {v x}, R w ro lam v x → x.cells = #[x] → RA w ro lam [v] x.cells := by
    intro v x hx hc
    rw [hc]
    refine ⟨rfl, fun j c y hj hy => ?_⟩
    cases j with
    | zero => simp at hj hy; subst hj; subst hy; exact hx
    | succ j => simp at hj
  cases v with
  | agg cs' =>
    simp only [cellsV, Option.some.injEq] at h; subst h
    obtain ⟨arr, rfl, hl, hr⟩ := hx.agg_inv
    exact ⟨hl, hr⟩
  | tup _ => simp [cellsV] at h
  | undef => simp [cellsV] at h
  | junk => simp [cellsV] at h
  | val y =>
    have e : x = y := by cases hx with | pure _ _ hx => cases hx; rfl
    subst e
    cases x with
    | map m => simp only [cellsV, Option.some.injEq] at h; subst h; exact one hx rfl
    | func f a b => simp only [cellsV, Option.some.injEq] at h; subst h; exact one hx rfl
    | _ => simp [cellsV] at h
  | vrp _ _ => simp [cellsV] at h
  | rmap _ => simp [cellsV] at h
  | ifc t v => simp only [cellsV, Option.some.injEq] at h; subst h; cases hx with | pure _ _ hx => cases hx with | ifc _ _ x hx => exact one (.pure _ _ (.ifc t v x hx)) rfl
  | clo f cs => simp only [cellsV, Option.some.injEq] at h; subst h; cases hx with | pure _ _ hx => cases hx with | clo _ _ arr hl hr => exact one (.pure _ _ (.clo f cs arr hl hr)) rfl
  | rset ks =>
    simp only [cellsV, Option.some.injEq] at h; subst h
    have e : ∃ b, x = .map (some b) := by cases hx with | pure _ _ hx => cases hx; exact ⟨_, rfl⟩
    obtain ⟨b, rfl⟩ := e
    exact one hx rfl
  | as z sz xs =>
    simp only [cellsV, Option.some.injEq] at h; subst h
    have hx' : R w ro lam (.list sz xs) x := by cases hx with | pure _ _ hx => cases hx with | as _ _ _ hx => exact .pure _ _ hx
    rcases hx'.list_inv with ⟨rfl, ad, cap, rfl⟩ | ⟨ad, cap, g, rfl, _⟩ <;> exact one hx rfl
  | mp key => simp only [cellsV, Option.some.injEq] at h; subst h; have ⟨b, _, e⟩ := hx.mp_inv; subst e; exact one hx rfl
  | vptr _ _ _ => simp [cellsV] at h
  | bool b => simp only [cellsV, Option.some.injEq] at h; subst h; have := hx.bool_inv; subst this; exact one hx rfl
  | int k m => simp only [cellsV, Option.some.injEq] at h; subst h; have := hx.int_inv; subst this; exact one hx rfl
  | str s => simp only [cellsV, Option.some.injEq] at h; subst h; have := hx.str_inv; subst this; exact one hx rfl
  | nils => simp only [cellsV, Option.some.injEq] at h; subst h; have := hx.nils_inv; subst this; exact one hx rfl
  | list sz xs =>
    simp only [cellsV, Option.some.injEq] at h; subst h
    rcases hx.list_inv with ⟨rfl, ad, cap, rfl⟩ | ⟨ad, cap, g, rfl, _⟩ <;> exact one hx rfl
  | sl key off len sz =>
    simp only [cellsV, Option.some.injEq] at h; subst h
    rcases hx.sl_inv with ⟨_, rfl, rfl, rfl⟩ | ⟨b, m, cap, _, _, _, _, rfl⟩ <;> exact one hx rfl
  | ptr key off =>
    simp only [cellsV, Option.some.injEq] at h; subst h
    obtain ⟨b, m, _, rfl⟩ := hx.ptr_inv; exact one hx rfl
  | rp cs' =>
    simp only [cellsV, Option.some.injEq] at h; subst h
    obtain ⟨ad, g, rfl, _⟩ := hx.rp_inv; exact one hx rfl

/-- Values that fill one cell. -/
def oneV : V → Bool
  | .val (.map _) => true
  | .val (.func ..) => true
  | .agg _ | .tup _ | .undef | .junk | .val _ | .vrp .. | .vptr .. | .rmap _ => false
  | _ => true
theorem oneV_sound {v : V} {x : Value} (h : oneV v = true) (hx : R w ro lam v x) : x.oneCell' = true := by
  cases v with
  | agg _ => simp [oneV] at h
  | tup _ => simp [oneV] at h
  | undef => simp [oneV] at h
  | junk => simp [oneV] at h
  | val y =>
    have e : x = y := by cases hx with | pure _ _ hx => cases hx; rfl
    subst e
    cases x <;> first | rfl | simp [oneV] at h
  | vrp _ _ => simp [oneV] at h
  | rmap _ => simp [oneV] at h
  | clo f cs => cases hx with | pure _ _ hx => cases hx; rfl
  | ifc t v => cases hx with | pure _ _ hx => cases hx; rfl
  | rset ks => cases hx with | pure _ _ hx => cases hx; rfl
  | as z sz xs =>
    have hx' : R w ro lam (.list sz xs) x := by cases hx with | pure _ _ hx => cases hx with | as _ _ _ hx => exact .pure _ _ hx
    rcases hx'.list_inv with ⟨rfl, ad, cap, rfl⟩ | ⟨ad, cap, g, rfl, _⟩ <;> rfl
  | vptr _ _ _ => simp [oneV] at h
  | bool b => have := hx.bool_inv; subst this; rfl
  | int k m => have := hx.int_inv; subst this; rfl
  | str s => have := hx.str_inv; subst this; rfl
  | nils => have := hx.nils_inv; subst this; rfl
  | list sz xs => rcases hx.list_inv with ⟨rfl, ad, cap, rfl⟩ | ⟨ad, cap, g, rfl, _⟩ <;> rfl
  | sl key off len sz => rcases hx.sl_inv with ⟨_, rfl, rfl, rfl⟩ | ⟨b, m, cap, _, _, _, _, rfl⟩ <;> rfl
  | ptr key off => obtain ⟨b, m, _, rfl⟩ := hx.ptr_inv; rfl
  | mp key => obtain ⟨b, _, rfl⟩ := hx.mp_inv; rfl
  | rp cs' => obtain ⟨ad, g, rfl, _⟩ := hx.rp_inv; rfl

/-! ### building an aggregate -/
def setsV : List V → Nat → List V → List V
  | cs, _, [] => cs
  | cs, off, v :: vs => setsV (cs.set off v) (off + 1) vs
def setsA : Array Value → Nat → List Value → Array Value
  | arr, _, [] => arr
  | arr, off, v :: vs => setsA (arr.setIfInBounds off v) (off + 1) vs
theorem length_setsV : ∀ (vs cs : List V) (off : Nat), (setsV cs off vs).length = cs.length
  | [], _, _ => rfl
  | v :: vs, cs, off => by simp [setsV, length_setsV vs]
theorem size_setsA : ∀ (vs : List Value) (arr : Array Value) (off : Nat), (setsA arr off vs).size = arr.size
  | [], _, _ => rfl
  | v :: vs, arr, off => by simp [setsA, size_setsA vs]
theorem RA.set {cs : List V} {arr : Array Value} (h : RA w ro lam cs arr) {off : Nat} {v : V} {x : Value} (hx : R w ro lam v x) : RA w ro lam (cs.set off v) (arr.setIfInBounds off x) := by
  refine ⟨by simp [h.1], fun j c y hc hy => ?_⟩
  rw [List.getElem?_set] at hc
  rw [Array.getElem?_setIfInBounds] at hy
  by_cases e : off = j
  · subst e
    simp only [if_true] at hc hy
    split at hc
    · split at hy
      · simp only [Option.some.injEq] at hc hy; subst hc; subst hy; exact hx
      · cases hy
    · cases hc
  · simp only [e, if_false] at hc hy; exact h.2 j c y hc hy
theorem RA.sets : ∀ (vs : List V) (Vs : List Value) {cs : List V} {arr : Array Value} (off : Nat), RA w ro lam cs arr → RA w ro lam vs Vs.toArray → RA w ro lam (setsV cs off vs) (setsA arr off Vs)
  | [], Vs, cs, arr, off, h, hv => by
    have : Vs = [] := List.eq_nil_of_length_eq_zero (by simpa using hv.1)
    subst this; exact h
  | v :: vs, Vs, cs, arr, off, h, hv => by
    obtain ⟨X, Xs, rfl⟩ : ∃ X Xs, Vs = X :: Xs := by cases Vs with | nil => simp [RA] at hv | cons X Xs => exact ⟨X, Xs, rfl⟩
    refine RA.sets vs Xs (off + 1) (h.set (hv.2 0 v X rfl (by simp))) ⟨by simpa using hv.1, fun j c y hc hy => hv.2 (j + 1) c y (by simpa using hc) (by simpa using hy)⟩
theorem foldl_sets (off : Nat) : ∀ (vs : List Value) (k : Nat) (arr : Array Value), (vs.zipIdx k).foldl (fun cs (p : Value × Nat) => cs.setIfInBounds (off + p.2) p.1) arr = setsA arr (off + k) vs
  | [], _, _ => rfl
  | v :: vs, k, arr => by
    simp only [List.zipIdx_cons, List.foldl_cons, setsA]
    rw [foldl_sets off vs (k + 1)]
    rfl

def fillV (place : Nat → Option (Nat × Nat)) : List V → List (Nat × V) → Option (List V)
  | cs, [] => some cs
  | cs, (i, v) :: rest => match place i, cellsV v with
    | some (off, size), some vs => bif decide (vs.length = size) && decide (off + vs.length ≤ cs.length) then fillV place (setsV cs off vs) rest else none
    | _, _ => none
theorem fillV_sound {place : Nat → Option (Nat × Nat)} : ∀ (ps : List (Nat × V)) (Ps : List (Nat × Value)) (cs : List V) (arr : Array Value) (cs' : List V), fillV place cs ps = some cs' → RA w ro lam cs arr →
    Ps.length = ps.length → (∀ (j : Nat) (p : Nat × V) (q : Nat × Value), ps[j]? = some p → Ps[j]? = some q → p.1 = q.1 ∧ R w ro lam p.2 q.2) →
    ∃ arr', Instr.fill place arr Ps = some arr' ∧ RA w ro lam cs' arr'
  | [], Ps, cs, arr, cs', h, hra, hl, _ => by
    have : Ps = [] := List.eq_nil_of_length_eq_zero (by simpa using hl)
    subst this
    simp only [fillV, Option.some.injEq] at h; subst h
    exact ⟨arr, rfl, hra⟩
  | (i, v) :: ps, Ps, cs, arr, cs', h, hra, hl, hr => by
    obtain ⟨⟨i', X⟩, Xs, rfl⟩ : ∃ X Xs, Ps = X :: Xs := by cases Ps with | nil => simp at hl | cons X Xs => exact ⟨X, Xs, rfl⟩
    obtain ⟨hi, hx⟩ := hr 0 (i, v) (i', X) rfl rfl
    simp only at hi hx
    subst hi
    unfold fillV at h
    split at h
    · rename_i off size vs hp hv
      simp only [cond_eq_ite, Bool.and_eq_true, decide_eq_true_eq] at h
      split at h
      · rename_i hc
        obtain ⟨hs, hle⟩ := hc
        have hcv := cellsV_sound hv hx
        have hsz : X.cells.size = size := by rw [hcv.1, hs]
        have hfold : X.cells.zipIdx.foldl (fun cs (x : Value × Nat) => cs.setIfInBounds (off + x.2) x.1) arr = setsA arr off X.cells.toList := by
          rw [← Array.foldl_toList, Array.toList_zipIdx, foldl_sets]; rfl
        obtain ⟨arr', hf, hra'⟩ := fillV_sound ps Xs (setsV cs off vs) (setsA arr off X.cells.toList) cs' h (hra.sets vs X.cells.toList off (by simpa using hcv)) (by simpa using hl)
          (fun j p q hp hq => hr (j + 1) p q (by simpa using hp) (by simpa using hq))
        refine ⟨arr', ?_, hra'⟩
        have hno : ¬ (off + X.cells.size > arr.size) := by rw [hcv.1, hra.1]; omega
        simp only [Instr.fill, hp, hsz, ne_eq, not_true_eq_false, decide_false, Bool.false_or]
        rw [hsz] at hno
        simp only [gt_iff_lt] at hno
        simp only [hno, decide_false, Bool.false_eq_true, if_false, gt_iff_lt]
        rw [hfold]
        exact hf
      · cases h
    · cases h

def placeAt (l : List (Option (Nat × Nat × Bool))) (i : Nat) : Option (Nat × Nat) := match l[i]? with
  | some (some (off, size, _)) => some (off, size)
  | _ => none
def buildV (P : Program) (t : TypeId) (ps : List (Nat × V)) : Option V := match td P t with
  | some d => (match d.zero with
    | some z => (match d.arr with
      | some (_, s, _) => (fillV (fun i => some (i * s, s)) z ps).map .agg
      | none => bif d.strct && d.fields.all (·.isSome) then (fillV (placeAt d.fields) z ps).map .agg else none)
    | none => none)
  | none => none
theorem td_zero {t : TypeId} {d : Td} {zs : List V} (h : td P t = some d) (hz : d.zero = some zs) : ∃ i z, P.info? t = some i ∧ i.zero = some z ∧ RA w ro lam zs z.cells ∧ i.size = d.size ∧ i.bytes = d.bytes := by
  obtain ⟨i, D, h1, h2⟩ := td_some h
  simp only [td, h1, h2, Option.some.injEq] at h
  subst h
  simp only [Option.map_eq_some_iff] at hz
  obtain ⟨z, hz1, rfl⟩ := hz
  refine ⟨i, z, h1, hz1, ⟨by simp, fun j c x hc hx => ?_⟩, rfl, rfl⟩
  simp only [List.getElem?_map, Array.getElem?_toList, hx, Option.map_some, Option.some.injEq] at hc
  subst hc
  exact .pure _ _ (R0_cv1 _)
theorem td_struct {t : TypeId} {d : Td} (h : td P t = some d) (hs : d.strct = true) : ∃ fs, P.underlying t = some (.struct fs) ∧ d.fields = fs.toList.map (fun f => (partD P f.type).map (fun p => (f.offset, p.1, p.2))) := by
  obtain ⟨i, D, h1, h2⟩ := td_some h
  simp only [td, h1, h2, Option.some.injEq] at h
  subst h
  cases D with
  | struct fs => exact ⟨fs, h2, rfl⟩
  | _ => simp at hs
theorem mapM_places : ∀ (fs : List Field), (fs.map (fun f => (partD P f.type).map (fun p => (f.offset, p.1, p.2)))).all (·.isSome) = true →
    ∃ pl : List (Nat × Nat), fs.mapM (fun f => (P.info? f.type).map fun i => (f.offset, i.size)) = some pl ∧
      ∀ i, pl[i]? = placeAt (fs.map (fun f => (partD P f.type).map (fun p => (f.offset, p.1, p.2)))) i
  | [], _ => ⟨[], by simp, by simp [placeAt]⟩
  | f :: fs, h => by
    simp only [List.map_cons, List.all_cons, Bool.and_eq_true, Option.isSome_map] at h
    obtain ⟨h1, h2⟩ := h
    obtain ⟨⟨s, ag⟩, hp⟩ := Option.isSome_iff_exists.1 h1
    obtain ⟨i, D, e1, e2, e3, e4⟩ := partD_some hp
    obtain ⟨pl, hpl, hat⟩ := mapM_places fs h2
    refine ⟨(f.offset, s) :: pl, by simp [List.mapM_cons, e1, e3, hpl], fun i => ?_⟩
    cases i with
    | zero => simp [placeAt, hp]
    | succ i => have := hat i; simp only [placeAt] at this; simpa [placeAt] using this
theorem buildV_sound {t : TypeId} {ps : List (Nat × V)} {Ps : Array (Nat × Value)} {v : V} (h : buildV P t ps = some v) (hl : Ps.size = ps.length)
    (hr : ∀ (j : Nat) (p : Nat × V) (q : Nat × Value), ps[j]? = some p → Ps[j]? = some q → p.1 = q.1 ∧ R w ro lam p.2 q.2) : ∃ z, (Instr.build t Ps).run P w = .ok z w ∧ R w ro lam v z := by
  unfold buildV at h
  split at h
  · rename_i d hd
    split at h
    · rename_i zs hz
      obtain ⟨i, z, h1, h2, hra, _, _⟩ := td_zero (w := w) (ro := ro) (lam := lam) hd hz
      split at h
      · rename_i m s ag ha
        obtain ⟨e, hu, hp⟩ := td_arr hd ha
        obtain ⟨ie, de, e1, e2, e3, e4⟩ := partD_some hp
        simp only [Option.map_eq_some_iff] at h
        obtain ⟨cs, hc, rfl⟩ := h
        obtain ⟨arr', hf, hra'⟩ := fillV_sound ps Ps.toList zs z.cells cs hc hra (by simpa using hl) (fun j p q hp hq => hr j p q hp (by simpa using hq))
        refine ⟨.agg arr', run_build w t Ps arr' ?_, .agg _ _ hra'.1 hra'.2⟩
        simp only [Program.built, h1, hu, h2, e1, e3]
        exact hf
      · simp only [cond_eq_ite, Bool.and_eq_true] at h
        split at h
        · rename_i harr hc
          obtain ⟨hag, hall⟩ := hc
          simp only [Option.map_eq_some_iff] at h
          obtain ⟨cs, hc, rfl⟩ := h
          obtain ⟨fs, hu, hfs⟩ := td_struct hd hag
          rw [hfs] at hall hc
          obtain ⟨pl, hpl, hat⟩ := mapM_places fs.toList hall
          have hplace : (fun j => pl.toArray[j]?) = placeAt (fs.toList.map (fun f => (partD P f.type).map (fun p => (f.offset, p.1, p.2)))) := by
            funext j
            simp only [List.getElem?_toArray, hat]
          obtain ⟨arr', hf, hra'⟩ := fillV_sound ps Ps.toList zs z.cells cs hc hra (by simpa using hl) (fun j p q hp hq => hr j p q hp (by simpa using hq))
          refine ⟨.agg arr', run_build w t Ps arr' ?_, .agg _ _ hra'.1 hra'.2⟩
          simp only [Program.built, h1, hu, h2, hpl]
          rw [hplace]
          exact hf
        · cases h
    · cases h
  · cases h
end
end Go.Pv
end
section
namespace Go.Pv
open Go.RowKit
set_option linter.unusedSimpArgs false

section
variable {w0 : Base} {n : Nat} {ro : Nat → Prop} {lam : Lam} {st : St} {a : Act} {w : World} {P : Program}

/-! ### load -/
def loadV (P : Program) (h : Nat → Option Blk) (t : TypeId) (x : V) : Option V := match td P t with
  | some d => (match x with
    | .ptr key off => (match h key with
      | some blk => partV blk.cells off d.size d.agg
      | none => none)
    | .rp cs => partV cs 0 d.size d.agg
    | .vrp _ cs => partV cs 0 d.size d.agg
    | _ => none)
  | none => none

theorem td_part {t : TypeId} {d : Td} (h : td P t = some d) : ∃ i D, P.info? t = some i ∧ P.underlying t = some D ∧ i.size = d.size ∧ isAggD D = d.agg := by
  obtain ⟨i, D, h1, h2⟩ := td_some h
  simp only [td, h1, h2, Option.some.injEq] at h
  subst h
  exact ⟨i, D, h1, h2, rfl, rfl⟩

/-- Reading at an address, one cell or several. -/
theorem read_sound {t : TypeId} {d : Td} {cs : List V} {off : Nat} {v : V} {ad : Addr} {g : Nat → Value} (hd : td P t = some d) (h : partV cs off d.size d.agg = some v)
    (hg : ∀ (j : Nat) (c : V), cs[off + j]? = some c → w.cell? (ad.add j) = some (g j)) (hr : ∀ (j : Nat) (c : V), cs[off + j]? = some c → R w ro lam c (g j)) :
    ∃ z, (Instr.loadAt t (.pointer (some ad))).run P w = .ok z w ∧ R w ro lam v z := by
  obtain ⟨i, D, h1, h2, h3, h4⟩ := td_part hd
  unfold partV at h
  cases hag : d.agg with
  | true =>
    simp only [hag, cond_true] at h
    simp only [cond_eq_ite, decide_eq_true_eq] at h
    split at h
    · rename_i hle
      simp only [Option.some.injEq] at h; subst h
      have hcell : ∀ j, j < d.size → w.cell? (ad.add j) = some (g j) := fun j hj => hg j _ (List.getElem?_eq_getElem (by omega))
      have hload := run_loadCells (P := P) w ad d.size g hcell
      refine ⟨.agg ((List.range d.size).map g).toArray, ?_, .agg _ _ ?_ ?_⟩
      · simp [Instr.loadAt, Instr.sureAddr, loadVar, run_isAgg h2, h4, hag, run_sizeOf' h1, h3, hload]
      · simp; omega
      · intro j c x hc hx
        rw [List.getElem?_take] at hc
        split at hc
        · rename_i hj
          rw [List.getElem?_drop] at hc
          simp only [List.getElem?_toArray, List.getElem?_map, List.getElem?_range hj, Option.map_some, Option.some.injEq] at hx
          subst hx
          exact hr j c hc
        · cases hc
    · cases h
  | false =>
    simp only [hag, cond_false] at h
    refine ⟨g 0, ?_, hr 0 v (by simpa using h)⟩
    have hc := hg 0 v (by simpa using h)
    have ha : ad.add 0 = ad := by simp [Addr.add]
    rw [ha] at hc
    simp [Instr.loadAt, Instr.sureAddr, loadVar, run_isAgg h2, h4, hag, hc]

theorem loadV_sound (hs : Sim w0 n ro lam st a w) {t : TypeId} {x v : V} {X : Value} (h : loadV P st.heap t x = some v) (hx : R w ro lam x X) :
    ∃ z, (Instr.loadAt t X).run P w = .ok z w ∧ R w ro lam v z := by
  unfold loadV at h
  split at h
  · rename_i d hd
    split at h
    · rename_i key off
      split at h
      · rename_i blk hk
        obtain ⟨b, m, hl, rfl⟩ := hx.ptr_inv
        rcases hs.heap key blk hk with ⟨hv, _⟩ | ⟨b', o, hv, _⟩ | ⟨b', m', arr, hl', hw, hsz, hle, hr⟩
        · rw [hl] at hv; cases hv
        · rw [hl] at hv; cases hv
        · rw [hl] at hl'
          simp only [Option.some.injEq, Prod.mk.injEq] at hl'
          obtain ⟨rfl, rfl⟩ := hl'
          have harr : ∀ j c, blk.cells[off + j]? = some c → arr[off + j]? = some (arr.getD (off + j) Go.undef) := fun j c hc => by
            have hlt : off + j < arr.size := by have := (List.getElem?_eq_some_iff.1 hc).1; omega
            simp [Array.getD_eq_getD_getElem?, Array.getElem?_eq_getElem hlt]
          refine read_sound (cs := blk.cells) (off := off) (g := fun j => arr.getD (off + j) Go.undef) hd h (fun j c hc => ?_) (fun j c hc => hr _ c _ hc (harr j c hc))
          rw [add_lit, cell_of_row w b (off + j) arr blk.ty (0, 0) hw]
          exact harr j c hc
      · cases h
    · rename_i cs
      obtain ⟨ad, g, rfl, hro, hg, hr⟩ := hx.rp_inv
      exact read_sound (cs := cs) (off := 0) (g := g) hd h (fun j c hc => hg j c (by simpa using hc)) (fun j c hc => .pure _ _ (hr j c (by simpa using hc)))
    · rename_i cs
      obtain ⟨ad, g, rfl, hro, hg, hr⟩ := hx.vrp_rp.2.rp_inv
      exact read_sound (cs := cs) (off := 0) (g := g) hd h (fun j c hc => hg j c (by simpa using hc)) (fun j c hc => .pure _ _ (hr j c (by simpa using hc)))
    · cases h
  · cases h

/-! ### new blocks -/
def boxV (elem : TypeId) (x : V) : Option Blk := (cellsV x).map fun cs => ⟨elem, cs⟩
def allocV (P : Program) (elem : TypeId) : Option Blk := match td P elem with
  | some d => d.zero.map fun z => ⟨elem, z⟩
  | none => none

theorem RA.mono_new {cs : List V} {arr : Array Value} (h : RA w ro lam cs arr) : cs.length ≤ arr.size := by rw [h.1]; exact Nat.le_refl _

theorem boxV_sound (hs : Sim w0 n ro lam st a w) {d : Nat} {elem : TypeId} {x : V} {X : Value} {blk : Blk} (hd : st.heap d = none) (h : boxV elem x = some blk) (hx : R w ro lam x X) :
    ∃ w' lam', (Instr.box elem X).run P w = .ok (.pointer (some ⟨w.heap.size, 0, none⟩)) w' ∧ Sim w0 n ro lam' { st with heap := upd st.heap d (some blk) } a w' ∧ R w' ro lam' (.ptr d 0) (.pointer (some ⟨w.heap.size, 0, none⟩)) := by
  simp only [boxV, Option.map_eq_some_iff] at h
  obtain ⟨cs, hc, rfl⟩ := h
  have hra := cellsV_sound hc hx
  refine ⟨w.alloc (.cells X.cells elem), _, by simp [Instr.box, newVar, newRow], hs.alloc hd hra.mono_new hra.2, .ptr _ _ _ _ (upd_same _ _ _)⟩
theorem allocV_sound (hs : Sim w0 n ro lam st a w) {d : Nat} {elem : TypeId} {blk : Blk} (hd : st.heap d = none) (h : allocV P elem = some blk) :
    ∃ w' lam', (Instr.alloc elem true (.tuple #[])).run P w = .ok (.pointer (some ⟨w.heap.size, 0, none⟩)) w' ∧ Sim w0 n ro lam' { st with heap := upd st.heap d (some blk) } a w' ∧ R w' ro lam' (.ptr d 0) (.pointer (some ⟨w.heap.size, 0, none⟩)) := by
  unfold allocV at h
  split at h
  · rename_i dd hdd
    simp only [Option.map_eq_some_iff] at h
    obtain ⟨zs, hz, rfl⟩ := h
    obtain ⟨i, z, h1, h2, hra, _, _⟩ := td_zero (w := w) (ro := ro) (lam := lam) hdd hz
    refine ⟨w.alloc (.cells z.cells elem), _, by simp [Instr.alloc, zeroValue, typeInfo, h1, h2, newVar, newRow], hs.alloc hd hra.mono_new hra.2, .ptr _ _ _ _ (upd_same _ _ _)⟩
  · cases h

/-- 'make([]T, l, c)': the block's cells up to the length. -/
def makeV (P : Program) (t : TypeId) (l c : V) : Option (Nat × Blk × Nat) := match td P t, l, c with
  | some d, .int _ l, .int _ c => (match d.slc with
    | some (e, s) => (match td P e with
      | some de => (match de.zero with
        | some z => bif decide (z.length = s) && (decide (0 ≤ l) && (decide (l ≤ c) && (decide ((de.bytes : Int) * c ≤ 281474976710656) && decide (c ≤ 9223372036854775807)))) then
            some (l.toNat, ⟨e, (List.replicate l.toNat z).flatten⟩, s) else none
        | none => none)
      | none => none)
    | none => none)
  | _, _, _ => none

theorem getElem?_replicate_flatten {α : Type} (z : List α) : ∀ (k j : Nat) (c : α), (List.replicate k z).flatten[j]? = some c → z[j % z.length]? = some c ∧ j < k * z.length
  | 0, j, c, h => by simp at h
  | k + 1, j, c, h => by
    simp only [List.replicate_succ, List.flatten_cons, List.getElem?_append] at h
    split at h
    · rename_i hj
      rw [Nat.mod_eq_of_lt hj]
      exact ⟨h, by rw [Nat.succ_mul]; omega⟩
    · rename_i hj
      obtain ⟨h1, h2⟩ := getElem?_replicate_flatten z k _ c h
      rw [Nat.mod_eq_sub_mod (by omega)]
      exact ⟨h1, by rw [Nat.succ_mul]; omega⟩
theorem length_replicate_flatten {α : Type} (z : List α) (k : Nat) : ((List.replicate k z).flatten).length = k * z.length := by
  induction k with
  | zero => simp
  | succ k ih => rw [List.replicate_succ, List.flatten_cons, List.length_append, ih, Nat.succ_mul]; omega

theorem makeV_sound (hs : Sim w0 n ro lam st a w) {d : Nat} {t : TypeId} {l c : V} {L C : Value} {blk : Blk} {k s : Nat} (hd : st.heap d = none) (h : makeV P t l c = some (k, blk, s)) (hl : R w ro lam l L) (hc : R w ro lam c C) :
    ∃ z w' lam', (Instr.makeSlice t L C).run P w = .ok z w' ∧ Sim w0 n ro lam' { st with heap := upd st.heap d (some blk) } a w' ∧ R w' ro lam' (.sl d 0 k s) z := by
  unfold makeV at h
  split at h
  · rename_i dd kl lv kc cvv hdd
    have := hl.int_inv; subst this
    have := hc.int_inv; subst this
    split at h
    · rename_i e s' hslc
      split at h
      · rename_i de hde
        split at h
        · rename_i zs hz
          simp only [cond_eq_ite, Bool.and_eq_true, decide_eq_true_eq] at h
          split at h
          · rename_i hcond
            obtain ⟨hzl, h0, hle, hby, h63⟩ := hcond
            simp only [Option.some.injEq, Prod.mk.injEq] at h
            obtain ⟨rfl, rfl, rfl⟩ := h
            obtain ⟨hu, ag, hp⟩ := td_slc' hdd hslc
            obtain ⟨ie, De, e1, e2, e3, e4⟩ := partD_some hp
            obtain ⟨i, z, h1, h2, hra, hsz, hbs⟩ := td_zero (w := w) (ro := ro) (lam := lam) hde hz
            rw [e1] at h1
            simp only [Option.some.injEq] at h1
            subst h1
            have hrun := run_make (P := P) w t e ie z hu e1 h2 kl kc lv cvv h0 hle (by rw [hbs]; exact hby) h63
            have hzs : z.cells.size = s' := by rw [hra.1, hzl]
            have harrsz : (madeCells z.cells (cvv.toNat * ie.size)).size = cvv.toNat * s' := by rw [size_madeCells, e3]
            have hlen : ((List.replicate lv.toNat zs).flatten).length ≤ (madeCells z.cells (cvv.toNat * ie.size)).size := by
              rw [harrsz, length_replicate_flatten, hzl]
              exact Nat.mul_le_mul_right _ (by omega)
            refine ⟨_, _, _, hrun, hs.alloc hd hlen ?_, .sl d 0 lv.toNat s' w.heap.size _ cvv.toNat (upd_same _ _ _) (by rw [harrsz]; omega) (by omega) (by simp only [maxLen]; omega)⟩
            · intro j c x hc hx
              obtain ⟨hj1, hj2⟩ := getElem?_replicate_flatten zs lv.toNat j c hc
              have hzp : 0 < zs.length := by
                rcases Nat.eq_zero_or_pos zs.length with h0' | h0'
                · rw [h0'] at hj2; omega
                · exact h0'
              have hjm : j % zs.length < z.cells.size := by rw [hra.1]; exact Nat.mod_lt _ hzp
              have hjlt : j < cvv.toNat * ie.size := by
                have := (Array.getElem?_eq_some_iff.1 hx).1
                rwa [size_madeCells] at this
              have hx' : x = z.cells[j % z.cells.size]! := by
                simp only [madeCells, Array.getElem?_map, Array.getElem?_range, hjlt, if_true, Option.map_some, Option.some.injEq] at hx
                exact hx.symm
              refine hra.2 _ c x hj1 ?_
              rw [hx', hra.1]
              rw [getElem!_pos z.cells _ hjm]
              exact Array.getElem?_eq_getElem hjm
          · cases h
        · cases h
      · cases h
    · cases h
  · cases h

/-- A slice literal. -/
def buildSliceV (P : Program) (t : TypeId) (len : Nat) (ps : List (Nat × V)) : Option (Blk × Nat) := match td P t with
  | some d => (match d.slc with
    | some (e, s) => (match td P e with
      | some de => (match de.zero with
        | some z => bif decide (z.length = s) && (decide (0 < s) && decide (len * s ≤ 16777216)) then (fillV (fun i => some (i * s, s)) ((List.replicate len z).flatten) ps).map (fun cs => (⟨e, cs⟩, s)) else none
        | none => none)
      | none => none)
    | none => none)
  | none => none
theorem length_fillV {place : Nat → Option (Nat × Nat)} : ∀ (ps : List (Nat × V)) (cs cs' : List V), fillV place cs ps = some cs' → cs'.length = cs.length
  | [], cs, cs', h => by simp only [fillV, Option.some.injEq] at h; rw [h]
  | (i, v) :: ps, cs, cs', h => by
    unfold fillV at h
    split at h
    · simp only [cond_eq_ite] at h
      split at h
      · rw [length_fillV ps _ _ h, length_setsV]
      · cases h
    · cases h
theorem buildSliceV_sound (hs : Sim w0 n ro lam st a w) {d : Nat} {t : TypeId} {len s : Nat} {ps : List (Nat × V)} {Ps : Array (Nat × Value)} {blk : Blk} (hd : st.heap d = none) (h : buildSliceV P t len ps = some (blk, s)) (hl : Ps.size = ps.length)
    (hr : ∀ (j : Nat) (p : Nat × V) (q : Nat × Value), ps[j]? = some p → Ps[j]? = some q → p.1 = q.1 ∧ R w ro lam p.2 q.2) :
    ∃ z w' lam', (Instr.buildSlice t len Ps).run P w = .ok z w' ∧ Sim w0 n ro lam' { st with heap := upd st.heap d (some blk) } a w' ∧ R w' ro lam' (.sl d 0 len s) z := by
  unfold buildSliceV at h
  split at h
  · rename_i dd hdd
    split at h
    · rename_i e s' hslc
      split at h
      · rename_i de hde
        split at h
        · rename_i zs hz
          simp only [cond_eq_ite, Bool.and_eq_true, decide_eq_true_eq] at h
          split at h
          · rename_i hcond
            obtain ⟨hzl, hsp, h24⟩ := hcond
            simp only [Option.map_eq_some_iff, Prod.mk.injEq] at h
            obtain ⟨cs, hcs, rfl, rfl⟩ := h
            obtain ⟨hu, ag, hp⟩ := td_slc' hdd hslc
            obtain ⟨ie, De, e1, e2, e3, e4⟩ := partD_some hp
            obtain ⟨i, z, h1, h2, hra, hsz, hbs⟩ := td_zero (w := w) (ro := ro) (lam := lam) hde hz
            rw [e1] at h1
            simp only [Option.some.injEq] at h1
            subst h1
            have hzs : z.cells.size = s' := by rw [hra.1, hzl]
            have hra0 : RA w ro lam ((List.replicate len zs).flatten) ((Array.range (len * s')).map (z.cells[· % z.cells.size]!)) := by
              refine ⟨by simp [length_replicate_flatten, hzl], fun j c x hc hx => ?_⟩
              obtain ⟨hj1, hj2⟩ := getElem?_replicate_flatten zs len j c hc
              have hzp : 0 < zs.length := by
                rcases Nat.eq_zero_or_pos zs.length with h0' | h0'
                · rw [h0'] at hj2; omega
                · exact h0'
              have hjm : j % zs.length < z.cells.size := by rw [hra.1]; exact Nat.mod_lt _ hzp
              have hjlt : j < len * s' := by rw [hzl] at hj2; exact hj2
              have hx' : x = z.cells[j % z.cells.size]! := by
                simp only [Array.getElem?_map, Array.getElem?_range, hjlt, if_true, Option.map_some, Option.some.injEq] at hx
                exact hx.symm
              refine hra.2 _ c x hj1 ?_
              rw [hx', hra.1, getElem!_pos z.cells _ hjm]
              exact Array.getElem?_eq_getElem hjm
            obtain ⟨arr', hf, hra'⟩ := fillV_sound ps Ps.toList _ _ cs hcs hra0 (by simpa using hl) (fun j p q hp hq => hr j p q hp (by simpa using hq))
            have hsz' : arr'.size = len * s' := by rw [hra'.1, length_fillV ps _ _ hcs, length_replicate_flatten, hzl]
            have hml : len ≤ maxLen := by
              have : len * 1 ≤ len * s' := Nat.mul_le_mul_left _ hsp
              simp only [maxLen]; omega
            have hrun : (Instr.buildSlice t len Ps).run P w = .ok (.slice (some ⟨w.heap.size, 0, none⟩) len len) (w.alloc (.cells arr' e)) := by
              have h24' : ¬ (16777216 < len * ie.size) := by rw [e3]; omega
              by_cases h0 : len * s' = 0
              · have hf0 : Instr.fill (fun i => some (i * s', s')) #[] Ps.toList = some arr' := by
                  rw [h0] at hf; simpa [Array.range_zero'] using hf
                simp [Instr.buildSlice, run_underlying hu, run_sizeOf' e1, e3, h0, newRow, hf0, Array.range_zero']
              · simp [Instr.buildSlice, run_underlying hu, run_sizeOf' e1, e3, h0, newRow, zeroValue, typeInfo, e1, h2, hf, show ¬ (16777216 < len * s') from by omega]
            exact ⟨_, _, _, hrun, hs.alloc hd (by rw [hra'.1]; exact Nat.le_refl _) hra'.2, .sl d 0 len s' w.heap.size _ len (upd_same _ _ _) (by rw [hsz']; omega) (Nat.le_refl _) hml⟩
          · cases h
        · cases h
      · cases h
    · cases h
  · cases h
end
end Go.Pv
end
section
namespace Go.Pv
open Go.RowKit
set_option linter.unusedSimpArgs false

section
variable {w0 : Base} {n : Nat} {ro : Nat → Prop} {lam : Lam} {st : St} {a : Act} {w : World} {P : Program}

/-! ### store -/
def storeV (P : Program) (h : Nat → Option Blk) (t : TypeId) (x v : V) : Option (Nat → Option Blk) := match td P t, x with
  | some d, .ptr key off => (match h key, cellsV v with
    | some blk, some vs => bif decide (vs.length = d.size) && (decide (off + vs.length ≤ blk.cells.length) && vs.all oneV) then some (upd h key (some ⟨blk.ty, setsV blk.cells off vs⟩)) else none
    | _, _ => none)
  | _, _ => none

theorem upd_upd {α : Type} (e : Nat → α) (d : Nat) (u v : α) : upd (upd e d u) d v = upd e d v := by
  funext t; by_cases h : t = d <;> simp [upd, h]

theorem storeCells_sound {key b m : Nat} : ∀ (vs : List V) (Vs : List Value) (i off : Nat) (w : World) (st : St) (blk : Blk), Sim w0 n ro lam st a w → st.heap key = some blk → lam key = some (some b, m) →
    off + i + vs.length ≤ blk.cells.length → RA w ro lam vs Vs.toArray → vs.all oneV = true →
    ∃ w', (storeCells ⟨b, off, none⟩ Vs i).run P w = .ok () w' ∧ Sim w0 n ro lam { st with heap := upd st.heap key (some ⟨blk.ty, setsV blk.cells (off + i) vs⟩) } a w'
  | [], Vs, i, off, w, st, blk, hs, hk, hl, _, hra, _ => by
    have : Vs = [] := List.eq_nil_of_length_eq_zero (by simpa using hra.1)
    subst this
    refine ⟨w, by simp [storeCells], ?_⟩
    have : upd st.heap key (some ⟨blk.ty, setsV blk.cells (off + i) []⟩) = st.heap := by
      funext t; by_cases h : t = key
      · subst h; simp [upd, setsV, hk]
      · simp [upd, h]
    rw [this]; exact hs
  | v :: vs, Vs, i, off, w, st, blk, hs, hk, hl, hle, hra, hone => by
    obtain ⟨X, Xs, rfl⟩ : ∃ X Xs, Vs = X :: Xs := by cases Vs with | nil => simp [RA] at hra | cons X Xs => exact ⟨X, Xs, rfl⟩
    simp only [List.length_cons] at hle
    simp only [List.all_cons, Bool.and_eq_true] at hone
    have hx := hra.2 0 v X rfl (by simp)
    have h1 := oneV_sound hone.1 hx
    have hset := hs.setCell (key := key) (off := off + i) hk hl (by omega) hx
    obtain ⟨hb1, hb2, hb3⟩ := hs.own key b m hl
    have hcell : ∃ u, w.cell? ⟨b, off + i, none⟩ = some u ∧ w.frozen? ⟨b, off + i, none⟩ = false := by
      rcases hs.heap key blk hk with ⟨hv, _⟩ | ⟨b', o, hv, _⟩ | ⟨b', m', arr, hl', hw, hsz, hle', _⟩
      · rw [hl] at hv; cases hv
      · rw [hl] at hv; cases hv
      · rw [hl] at hl'
        simp only [Option.some.injEq, Prod.mk.injEq] at hl'
        obtain ⟨rfl, rfl⟩ := hl'
        have hlt : off + i < arr.size := by omega
        exact ⟨arr[off + i], by rw [cell_of_row w b (off + i) arr blk.ty (0, 0) hw]; exact Array.getElem?_eq_getElem hlt, frozen_of_row w b (off + i) arr blk.ty hw⟩
    obtain ⟨u, hu, hfz⟩ := hcell
    have hra' : RA (w.setCell ⟨b, off + i, none⟩ X) ro lam vs Xs.toArray := by
      refine ⟨by simpa using hra.1, fun j c y hc hy => ?_⟩
      refine (hra.2 (j + 1) c y (by simpa using hc) (by simpa using hy)).mono (fun c hc => ?_) (fun _ h => h) (fun _ _ h => h)
      exact Below.heap_setCell _ _ _ _ (by rintro rfl; exact hb3 hc)
    obtain ⟨w', hrun, hsim⟩ := storeCells_sound vs Xs (i + 1) off _ _ ⟨blk.ty, blk.cells.set (off + i) v⟩ hset (upd_same _ _ _) hl (by simp; omega) hra' hone.2
    refine ⟨w', ?_, ?_⟩
    · simp only [storeCells, Sem.run_bind, add_lit, run_store P w _ X _ h1, hu, hfz, Result.andThen_ok]
      simpa using hrun
    · simp only [upd_upd] at hsim
      have e : off + (i + 1) = off + i + 1 := by omega
      rw [e] at hsim
      simpa [setsV] using hsim

theorem storeV_sound (hs : Sim w0 n ro lam st a w) {t : TypeId} {x v : V} {X Y : Value} {h' : Nat → Option Blk} (h : storeV P st.heap t x v = some h') (hx : R w ro lam x X) (hv : R w ro lam v Y) :
    ∃ w', (Instr.storeAt t X Y).run P w = .ok () w' ∧ Sim w0 n ro lam { st with heap := h' } a w' := by
  unfold storeV at h
  split at h
  · rename_i d key off hd
    split at h
    · rename_i blk vs hk hc
      simp only [cond_eq_ite, Bool.and_eq_true, decide_eq_true_eq] at h
      split at h
      · rename_i hcond
        obtain ⟨hsz, hle, hone⟩ := hcond
        simp only [Option.some.injEq] at h; subst h
        obtain ⟨b, m, hl, rfl⟩ := hx.ptr_inv
        have hra := cellsV_sound hc hv
        obtain ⟨i, D, h1, h2, h3, h4⟩ := td_part hd
        obtain ⟨w', hrun, hsim⟩ := storeCells_sound (P := P) vs Y.cells.toList 0 off w st blk hs hk hl (by omega) (by simpa using hra) hone
        refine ⟨w', ?_, by simpa using hsim⟩
        have hsz' : Y.cells.size = i.size := by rw [hra.1, hsz, h3]
        simp [Instr.storeAt, Instr.sureAddr, storeVar, run_sizeOf' h1, hsz', hrun]
      · cases h
    · cases h
  · cases h

/-! ### a key is forgotten: what mentions it is junk from now on -/
def scrC (key : Nat) : V → V
  | .sl k o l s => bif k == key then .junk else .sl k o l s
  | .ptr k o => bif k == key then .junk else .ptr k o
  | .vptr b k o => bif k == key then .junk else .vptr b k o
  | .mp k => bif k == key then .junk else .mp k
  | .agg _ | .tup _ => .junk
  | v => v
def usesC (key : Nat) : V → Bool
  | .sl k _ _ _ | .ptr k _ | .vptr _ k _ | .mp k => k == key
  | .agg _ | .tup _ => true
  | _ => false
def usesA (key : Nat) : V → Bool
  | .agg cs => cs.any (usesC key)
  | v => usesC key v
def scr (key : Nat) (v : V) : V := match v with
  | .sl k o l s => bif k == key then .junk else .sl k o l s
  | .ptr k o => bif k == key then .junk else .ptr k o
  | .vptr b k o => bif k == key then .junk else .vptr b k o
  | .mp k => bif k == key then .junk else .mp k
  | .agg cs => bif cs.any (usesC key) then .junk else .agg cs
  | .tup vs => bif vs.any (usesA key) then .junk else .tup vs
  | v => v

theorem R_usesC {key : Nat} {lam' : Lam} (hlam : ∀ k y, k ≠ key → lam k = some y → lam' k = some y) {v : V} {x : Value} (h : R w ro lam v x) (hu : usesC key v = false) : R w ro lam' v x := by
  cases h with
  | pure _ _ h => exact .pure _ _ h
  | slv k sz h => exact .slv k sz (hlam k _ (by simpa [usesC] using hu) h)
  | sl k off len sz b m cap h h1 h2 h3 => exact .sl k off len sz b m cap (hlam k _ (by simpa [usesC] using hu) h) h1 h2 h3
  | ptr k off b m h => exact .ptr k off b m (hlam k _ (by simpa [usesC] using hu) h)
  | vptr k off b m h => exact .vptr k off b m (hlam k _ (by simpa [usesC] using hu) h)
  | mp k b h => exact .mp k b (hlam k _ (by simpa [usesC] using hu) h)
  | agg _ _ _ _ => simp [usesC] at hu
  | tup _ _ _ _ => simp [usesC] at hu
theorem R_usesA {key : Nat} {lam' : Lam} (hlam : ∀ k y, k ≠ key → lam k = some y → lam' k = some y) {v : V} {x : Value} (h : R w ro lam v x) (hu : usesA key v = false) : R w ro lam' v x := by
  cases h with
  | pure _ _ h => exact .pure _ _ h
  | slv k sz h => exact R_usesC hlam (.slv k sz h) hu
  | sl k off len sz b m cap h h1 h2 h3 => exact R_usesC hlam (.sl k off len sz b m cap h h1 h2 h3) hu
  | ptr k off b m h => exact R_usesC hlam (.ptr k off b m h) hu
  | vptr k off b m h => exact R_usesC hlam (.vptr k off b m h) hu
  | mp k b h => exact R_usesC hlam (.mp k b h) hu
  | agg cs arr hl hr => exact .agg cs arr hl fun j c x hc hx => R_usesC hlam (hr j c x hc hx) (any_at hu hc)
  | tup _ _ _ _ => simp [usesA, usesC] at hu
theorem R_scrC {key : Nat} {lam' : Lam} (hlam : ∀ k y, k ≠ key → lam k = some y → lam' k = some y) {v : V} {x : Value} (h : R w ro lam v x) : R w ro lam' (scrC key v) x := by
  by_cases hu : usesC key v = true
  · have : scrC key v = .junk := by
      cases v <;> simp [usesC] at hu <;> simp [scrC, hu]
    rw [this]; exact .pure _ _ (.junk _)
  · have hu' : usesC key v = false := by simpa using hu
    have : scrC key v = v := by
      cases v <;> simp [usesC] at hu' <;> simp [scrC, hu', cond_eq_ite]
    rw [this]; exact R_usesC hlam h hu'
theorem R_scr {key : Nat} {lam' : Lam} (hlam : ∀ k y, k ≠ key → lam k = some y → lam' k = some y) {v : V} {x : Value} (h : R w ro lam v x) : R w ro lam' (scr key v) x := by
  cases v with
  | sl k o l s =>
    simp only [scr, cond_eq_ite]; split
    · exact .pure _ _ (.junk _)
    · rename_i hk; exact R_usesC hlam h (by simpa [usesC] using hk)
  | ptr k o =>
    simp only [scr, cond_eq_ite]; split
    · exact .pure _ _ (.junk _)
    · rename_i hk; exact R_usesC hlam h (by simpa [usesC] using hk)
  | vptr b k o =>
    simp only [scr, cond_eq_ite]; split
    · exact .pure _ _ (.junk _)
    · rename_i hk; exact R_usesC hlam h (by simpa [usesC] using hk)
  | mp k =>
    simp only [scr, cond_eq_ite]; split
    · exact .pure _ _ (.junk _)
    · rename_i hk; exact R_usesC hlam h (by simpa [usesC] using hk)
  | agg cs =>
    simp only [scr, cond_eq_ite]; split
    · exact .pure _ _ (.junk _)
    · rename_i hk; exact R_usesA hlam h (by simpa [usesA] using hk)
  | tup vs =>
    simp only [scr, cond_eq_ite]; split
    · exact .pure _ _ (.junk _)
    · rename_i hk
      obtain ⟨arr, rfl, hl, hr⟩ := h.tup_inv
      exact .tup _ _ hl fun j c x hc hx => R_usesA hlam (hr j c x hc hx) (any_at (by simpa using hk) hc)
  | _ => exact R_usesC hlam h rfl

theorem KeyV.scrC {k : V} {x : Value} (h : KeyV k x) (key : Nat) : KeyV (scrC key k) x := by
  cases k <;> first | exact h | (simp only [Pv.scrC, cond_eq_ite]; split <;> trivial) | trivial
theorem SetR.scr {ks : List V} {o : Obj} (h : SetR ks o) (key : Nat) : SetR (ks.map (scrC key)) o := by
  obtain ⟨ents, clk, rfl, hl, hr⟩ := h
  refine ⟨ents, clk, rfl, by simpa using hl, fun j k e hk he => ?_⟩
  simp only [List.getElem?_map, Option.map_eq_some_iff] at hk
  obtain ⟨k', hk', rfl⟩ := hk
  exact ⟨(hr j k' e hk' he).1, KeyV.scrC (hr j k' e hk' he).2 key⟩

/-- The state without a key. -/
def St.forget (st : St) (key : Nat) : St :=
  { env := fun t => scr key (st.env t), heap := fun k => bif k == key then none else (st.heap k).map fun blk => ⟨blk.ty, blk.cells.map (scrC key)⟩ }

theorem Sim.forget (hs : Sim w0 n ro lam st a w) (key : Nat) : Sim w0 n ro (upd lam key none) (st.forget key) a w := by
  have hlam : ∀ k y, k ≠ key → lam k = some y → upd lam key none k = some y := fun k y hk h => by rw [upd_ne _ _ hk]; exact h
  have hback : ∀ k y, upd lam key none k = some y → k ≠ key ∧ lam k = some y := fun k y h => by
    by_cases e : k = key
    · subst e; rw [upd_same] at h; cases h
    · rw [upd_ne _ _ e] at h; exact ⟨e, h⟩
  refine ⟨hs.below, hs.dfr, hs.size, hs.rolt, fun t => R_scr hlam (hs.env t), fun k blk hk => ?_, fun k hk => ?_, fun k b m hl => hs.own k b m (hback k _ hl).2, fun k1 k2 b m1 m2 h1 h2 => hs.inj k1 k2 b m1 m2 (hback _ _ h1).2 (hback _ _ h2).2, fun k b h => ⟨(hs.maps k b (hback _ _ h).2).1, fun k' h' => (hs.maps k b (hback _ _ h).2).2 k' (hback _ _ h').2⟩⟩
  · simp only [St.forget, cond_eq_ite] at hk
    split at hk
    · cases hk
    · rename_i hne
      have hne' : k ≠ key := by simpa using hne
      simp only [Option.map_eq_some_iff] at hk
      obtain ⟨blk', hk', rfl⟩ := hk
      rcases hs.heap k blk' hk' with ⟨hv, hc⟩ | ⟨b, o, hl, hw, hso⟩ | ⟨b, m, arr, hl, hw, hsz, hle, hr⟩
      · exact .inl ⟨hlam k _ hne' hv, by simp [hc]⟩
      · exact .inr (.inl ⟨b, o, hlam k _ hne' hl, hw, hso.scr key⟩)
      · refine .inr <| .inr ⟨b, m, arr, hlam k _ hne' hl, hw, hsz, by simpa using hle, fun j c x hc hx => ?_⟩
        simp only [List.getElem?_map, Option.map_eq_some_iff] at hc
        obtain ⟨c', hc', rfl⟩ := hc
        exact R_scrC hlam (hr j c' x hc' hx)
  · simp only [St.forget, cond_eq_ite] at hk
    by_cases e : k = key
    · subst e; exact upd_same _ _ _
    · rw [upd_ne _ _ e]
      have : (k == key) = false := by simpa using e
      simp only [this, Bool.false_eq_true, if_false, Option.map_eq_none_iff] at hk
      exact hs.dead k hk

/-- A nil slice as an own block without cells. -/
theorem Sim.nilOwn (hs : Sim w0 n ro lam st a w) {t key sz : Nat} {ty : TypeId} (ht : st.env t = .nils) (hk : st.heap key = none) :
    Sim w0 n ro (upd lam key (some (none, 0))) { env := upd st.env t (.sl key 0 0 sz), heap := upd st.heap key (some ⟨ty, []⟩) } a w := by
  have hdl := hs.dead key hk
  have hlam : ∀ k y, lam k = some y → upd lam key (some (none, 0)) k = some y := fun k y h => by
    rw [upd_ne]; exact h
    rintro rfl; rw [hdl] at h; cases h
  have hback : ∀ k b m, upd lam key (some (none, 0)) k = some (some b, m) → lam k = some (some b, m) := fun k b m h => by
    by_cases e : k = key
    · subst e; rw [upd_same] at h; cases h
    · rw [upd_ne _ _ e] at h; exact h
  have hbackm : ∀ k b, upd lam key (some (none, 0)) k = some (none, b + 1) → lam k = some (none, b + 1) := fun k b h => by
    by_cases e : k = key
    · subst e; rw [upd_same] at h; cases h
    · rw [upd_ne _ _ e] at h; exact h
  have hm : ∀ {v x}, R w ro lam v x → R w ro (upd lam key (some (none, 0))) v x := fun h => h.mono (fun _ _ => rfl) (fun _ h => h) hlam
  refine ⟨hs.below, hs.dfr, hs.size, hs.rolt, fun t' => ?_, fun k blk hk' => ?_, fun k hk' => ?_, fun k b m hl => hs.own k b m (hback k b m hl), fun k1 k2 b m1 m2 h1 h2 => hs.inj k1 k2 b m1 m2 (hback _ _ _ h1) (hback _ _ _ h2), fun k b h => ⟨(hs.maps k b (hbackm _ _ h)).1, fun k' h' => (hs.maps k b (hbackm _ _ h)).2 k' (hbackm _ _ h')⟩⟩
  · by_cases e : t' = t
    · subst e
      have h := hs.env t'
      rw [ht] at h
      simp only [upd_same, h.nils_inv]
      exact .slv _ _ (upd_same _ _ _)
    · simp only [upd_ne _ _ e]; exact hm (hs.env t')
  · by_cases e : k = key
    · subst e
      simp only [upd_same, Option.some.injEq] at hk'
      subst hk'
      exact .inl ⟨upd_same _ _ _, rfl⟩
    · simp only [upd_ne _ _ e] at hk'
      rcases hs.heap k blk hk' with ⟨hv, hc⟩ | ⟨b, o, hl, hw, hso⟩ | ⟨b, m, arr, hl, hw, hsz, hle, hr⟩
      · exact .inl ⟨hlam _ _ hv, hc⟩
      · exact .inr (.inl ⟨b, o, hlam _ _ hl, hw, hso⟩)
      · exact .inr <| .inr ⟨b, m, arr, hlam _ _ hl, hw, hsz, hle, fun j c x hc hx => hm (hr j c x hc hx)⟩
  · by_cases e : k = key
    · subst e; simp only [upd_same] at hk'; cases hk'
    · simp only [upd_ne _ _ e] at hk' ⊢; exact hs.dead k hk'
end
end Go.Pv
end
section
namespace Go.Pv
open Go.RowKit
set_option linter.unusedSimpArgs false

section
variable {w0 : Base} {n : Nat} {ro : Nat → Prop} {lam : Lam} {st : St} {a : Act} {w : World} {P : Program}

/-! ### a source of cells -/
def srcCells (h : Nat → Option Blk) (s : Nat) (x : V) : Option (Nat × List V) := match x with
  | .nils => some (0, [])
  | .list sz xs => bif decide (sz = s) then some (xs.length, xs.flatten) else none
  | .sl key off len sz => (match h key with
    | some blk => bif decide (sz = s) && decide (off + len * sz ≤ blk.cells.length) then some (len, (blk.cells.drop off).take (len * sz)) else none
    | none => none)
  | .val (.slice _ 0 _) => some (0, [])
  | _ => none

theorem flatten_at {α : Type} {sz : Nat} (hs : 0 < sz) : ∀ (xs : List (List α)), (∀ c ∈ xs, c.length = sz) → ∀ (j : Nat) (y : α), xs.flatten[j]? = some y → ∃ c, xs[j / sz]? = some c ∧ c[j % sz]? = some y
  | [], _, j, y, h => by simp at h
  | c :: xs, hc, j, y, h => by
    have hcl : c.length = sz := hc c (by simp)
    simp only [List.flatten_cons, List.getElem?_append] at h
    split at h
    · rename_i hj
      rw [hcl] at hj
      exact ⟨c, by rw [Nat.div_eq_of_lt hj]; rfl, by rw [Nat.mod_eq_of_lt hj]; exact h⟩
    · rename_i hj
      rw [hcl] at hj h
      obtain ⟨c', h1, h2⟩ := flatten_at hs xs (fun c hc' => hc c (by simp [hc'])) (j - sz) y h
      refine ⟨c', ?_, ?_⟩
      · rw [Nat.div_eq_sub_div hs (by omega)]; simpa using h1
      · rw [Nat.mod_eq_sub_mod (by omega)]; exact h2
theorem length_flatten_uniform {α : Type} {sz : Nat} : ∀ (xs : List (List α)), (∀ c ∈ xs, c.length = sz) → xs.flatten.length = xs.length * sz
  | [], _ => by simp
  | c :: xs, hc => by
    rw [List.flatten_cons, List.length_append, hc c (by simp), length_flatten_uniform xs (fun c hc' => hc c (by simp [hc'])), List.length_cons, Nat.succ_mul]; omega

theorem src_sound (hs : Sim w0 n ro lam st a w) {s m : Nat} {x : V} {X : Value} {cs : List V} (hsp : 0 < s) (h : srcCells st.heap s x = some (m, cs)) (hx : R w ro lam x X) :
    ∃ A c Vs, X = .slice A m c ∧ cs.length = m * s ∧ RA w ro lam cs (Vs : List Value).toArray ∧ (∀ ad, A = some ad → ∀ j u, Vs[j]? = some u → w.cell? (ad.add j) = some u) ∧ (A = none → m = 0) := by
  unfold srcCells at h
  split at h
  · simp only [Option.some.injEq, Prod.mk.injEq] at h
    obtain ⟨rfl, rfl⟩ := h
    have := hx.nils_inv; subst this
    exact ⟨none, 0, [], rfl, by simp, ⟨rfl, by simp⟩, by simp, fun _ => rfl⟩
  · rename_i sz xs
    simp only [cond_eq_ite, decide_eq_true_eq] at h
    split at h
    · rename_i hsz
      subst hsz
      simp only [Option.some.injEq, Prod.mk.injEq] at h
      obtain ⟨rfl, rfl⟩ := h
      rcases hx.list_inv with ⟨rfl, ad, cap, rfl⟩ | ⟨ad, cap, g, rfl, hro, huni, hcap, hg, hr⟩
      · exact ⟨ad, cap, [], rfl, by simp, ⟨rfl, by simp⟩, by simp, fun _ => rfl⟩
      · have hlen := length_flatten_uniform xs huni
        have hat : ∀ j, j < xs.flatten.length → ∃ c y, xs[j / sz]? = some c ∧ c[j % sz]? = some y ∧ xs.flatten[j]? = some y := fun j hj => by
          obtain ⟨c, h1, h2⟩ := flatten_at hsp xs huni j _ (List.getElem?_eq_getElem hj)
          exact ⟨c, _, h1, h2, List.getElem?_eq_getElem hj⟩
        refine ⟨some ad, cap, (List.range xs.flatten.length).map (fun j => g (j / sz) (j % sz)), rfl, hlen, ⟨by simp, fun j c y hc hy => ?_⟩, fun ad' had j u hu => ?_, by simp⟩
        · have hj := (List.getElem?_eq_some_iff.1 hc).1
          obtain ⟨c', y', h1, h2, h3⟩ := hat j hj
          rw [hc] at h3
          simp only [Option.some.injEq] at h3
          subst h3
          simp only [List.getElem?_toArray, List.getElem?_map, List.getElem?_range hj, Option.map_some, Option.some.injEq] at hy
          subst hy
          exact .pure _ _ (hr _ _ c' c h1 h2)
        · simp only [Option.some.injEq] at had
          subst had
          have hj : j < xs.flatten.length := by
            have := (List.getElem?_eq_some_iff.1 hu).1
            simpa using this
          simp only [List.getElem?_map, List.getElem?_range hj, Option.map_some, Option.some.injEq] at hu
          subst hu
          obtain ⟨c', y', h1, h2, h3⟩ := hat j hj
          have := hg _ _ c' y' h1 h2
          rwa [Nat.div_add_mod' j sz] at this
    · cases h
  · rename_i key off len sz
    split at h
    · rename_i blk hk
      simp only [cond_eq_ite, Bool.and_eq_true, decide_eq_true_eq] at h
      split at h
      · rename_i hc
        obtain ⟨rfl, hle⟩ := hc
        simp only [Option.some.injEq, Prod.mk.injEq] at h
        obtain ⟨rfl, rfl⟩ := h
        rcases hx.sl_inv with ⟨hv, rfl, rfl, rfl⟩ | ⟨b, m', cap, hl, _, _, _, rfl⟩
        · exact ⟨none, 0, [], rfl, by simp, ⟨by simp, by simp⟩, by simp, fun _ => rfl⟩
        · rcases hs.heap key blk hk with ⟨hv, _⟩ | ⟨b', o, hv, _⟩ | ⟨b', m'', arr, hl', hw, hsz, hle', hr⟩
          · rw [hl] at hv; cases hv
          · rw [hl] at hv; cases hv
          · rw [hl] at hl'
            simp only [Option.some.injEq, Prod.mk.injEq] at hl'
            obtain ⟨rfl, rfl⟩ := hl'
            have hlen : ((blk.cells.drop off).take (len * sz)).length = len * sz := by simp; omega
            have harr : ∀ j, j < len * sz → arr[off + j]? = some (arr.getD (off + j) Go.undef) := fun j hj => by
              have hlt : off + j < arr.size := by omega
              simp [Array.getD_eq_getD_getElem?, Array.getElem?_eq_getElem hlt]
            refine ⟨some ⟨b, off, none⟩, cap, (List.range (len * sz)).map (fun j => arr.getD (off + j) Go.undef), rfl, hlen, ⟨by rw [hlen]; simp, fun j c y hc hy => ?_⟩, fun ad' had j u hu => ?_, by simp⟩
            · have hj : j < len * sz := by have := (List.getElem?_eq_some_iff.1 hc).1; rwa [hlen] at this
              rw [List.getElem?_take, if_pos hj, List.getElem?_drop] at hc
              simp only [List.getElem?_toArray, List.getElem?_map, List.getElem?_range hj, Option.map_some, Option.some.injEq] at hy
              subst hy
              exact hr _ c _ hc (harr j hj)
            · simp only [Option.some.injEq] at had
              subst had
              have hj : j < len * sz := by
                have := (List.getElem?_eq_some_iff.1 hu).1
                simpa using this
              simp only [List.getElem?_map, List.getElem?_range hj, Option.map_some, Option.some.injEq] at hu
              subst hu
              rw [add_lit, cell_of_row w b (off + j) arr blk.ty (0, 0) hw]
              exact harr j hj
      · cases h
    · cases h
  · rename_i A c
    simp only [Option.some.injEq, Prod.mk.injEq] at h
    obtain ⟨rfl, rfl⟩ := h
    have hX : X = .slice A 0 c := by cases hx with | pure _ _ hx => cases hx; rfl
    subst hX
    exact ⟨A, c, [], rfl, by simp, ⟨rfl, by simp⟩, by simp, fun _ => rfl⟩
  · cases h

/-- The block of a key has moved, or has turned. -/
theorem Sim.replace (hs : Sim w0 n ro lam st a w) {key b : Nat} {e : TypeId} {arr : Array Value} {cells : List V} {w' : World} (hos : w'.os = w.os) (htp : w'.tape = w.tape) (hout : w'.output = w.output) (hsize : w.heap.size ≤ w'.heap.size)
    (hkeep : ∀ k, k < w.heap.size → (∀ m, lam key ≠ some (some k, m)) → w'.heap[k]? = w.heap[k]?)
    (hb : w0.Free b ∧ b < w'.heap.size ∧ ¬ ro b) (hnew : (∃ m, lam key = some (some b, m)) ∨ w.heap.size ≤ b)
    (hw : w'.heap[b]? = some (.cells arr e (0, 0))) (hle : cells.length ≤ arr.size)
    (hr : ∀ (j : Nat) (c : V) (x : Value), cells[j]? = some c → arr[j]? = some x → R w ro lam c x) :
    Sim w0 n ro (upd lam key (some (some b, arr.size))) { env := (st.forget key).env, heap := upd (st.forget key).heap key (some ⟨e, cells.map (scrC key)⟩) } a w' := by
  have hlam : ∀ k y, k ≠ key → lam k = some y → upd lam key (some (some b, arr.size)) k = some y := fun k y hk h => by rw [upd_ne _ _ hk]; exact h
  have hro : ∀ c, ro c → w'.heap[c]? = w.heap[c]? := fun c hc => hkeep c (hs.rolt c hc) (fun m hm => (hs.own key c m hm).2.2 hc)
  have hm : ∀ {v x}, R w ro (upd lam key (some (some b, arr.size))) v x → R w' ro (upd lam key (some (some b, arr.size))) v x := fun h => h.mono hro (fun _ h => h) (fun _ _ h => h)
  have hback : ∀ k c m, upd lam key (some (some b, arr.size)) k = some (some c, m) → (k = key ∧ c = b) ∨ (k ≠ key ∧ lam k = some (some c, m)) := fun k c m h => by
    by_cases e : k = key
    · subst e; rw [upd_same] at h; simp only [Option.some.injEq, Prod.mk.injEq] at h; exact .inl ⟨rfl, h.1.symm⟩
    · rw [upd_ne _ _ e] at h; exact .inr ⟨e, h⟩
  have hother : ∀ k m, k ≠ key → lam k = some (some b, m) → False := fun k m hk h => by
    rcases hnew with ⟨m', hm'⟩ | hnew
    · exact hk (hs.inj _ _ _ _ _ h hm')
    · have := (hs.own k b m h).2.1; omega
  refine ⟨hs.below.but hos htp hout hsize (fun k hk hf => hkeep k hk (fun m hm' => hf (hs.own key k m hm').1)), hs.dfr, hs.size, fun c hc => Nat.lt_of_lt_of_le (hs.rolt c hc) hsize,
    fun t => hm (R_scr hlam (hs.env t)), fun k blk hk => ?_, fun k hk => ?_, fun k c m hl => ?_, fun k1 k2 c m1 m2 h1 h2 => ?_, fun k c hl => ?_⟩
  · by_cases ek : k = key
    · subst ek
      simp only [upd_same, Option.some.injEq] at hk
      subst hk
      refine .inr <| .inr ⟨b, arr.size, arr, upd_same _ _ _, hw, rfl, by simpa using hle, fun j c x hc hx => ?_⟩
      simp only [List.getElem?_map, Option.map_eq_some_iff] at hc
      obtain ⟨c', hc', rfl⟩ := hc
      exact hm (R_scrC hlam (hr j c' x hc' hx))
    · simp only [upd_ne _ _ ek, St.forget, cond_eq_ite] at hk
      have hne : (k == key) = false := by simpa using ek
      simp only [hne, Bool.false_eq_true, if_false, Option.map_eq_some_iff] at hk
      obtain ⟨blk', hk', rfl⟩ := hk
      rcases hs.heap k blk' hk' with ⟨hv, hc⟩ | ⟨b', o, hl, hw', hso⟩ | ⟨b', m, arr', hl, hw', hsz, hle', hr'⟩
      · exact .inl ⟨hlam k _ ek hv, by simp [hc]⟩
      · refine .inr (.inl ⟨b', o, hlam k _ ek hl, ?_, hso.scr key⟩)
        rw [hkeep b' (hs.maps k b' hl).1.2.1 (fun m' hm' => hs.notMap hm' hw' hso)]; exact hw'
      · refine .inr <| .inr ⟨b', m, arr', hlam k _ ek hl, ?_, hsz, by simpa using hle', fun j c x hc hx => ?_⟩
        · rw [hkeep b' (hs.own k b' m hl).2.1 (fun m' hm' => ek (hs.inj _ _ _ _ _ hl hm'))]; exact hw'
        · simp only [List.getElem?_map, Option.map_eq_some_iff] at hc
          obtain ⟨c', hc', rfl⟩ := hc
          exact hm (R_scrC hlam (hr' j c' x hc' hx))
  · by_cases ek : k = key
    · subst ek; simp only [upd_same] at hk; cases hk
    · simp only [upd_ne _ _ ek, St.forget, cond_eq_ite] at hk
      have hne : (k == key) = false := by simpa using ek
      simp only [hne, Bool.false_eq_true, if_false, Option.map_eq_none_iff] at hk
      rw [upd_ne _ _ ek]; exact hs.dead k hk
  · rcases hback k c m hl with ⟨rfl, rfl⟩ | ⟨_, h⟩
    · exact hb
    · obtain ⟨h1, h2, h3⟩ := hs.own k c m h
      exact ⟨h1, Nat.lt_of_lt_of_le h2 hsize, h3⟩
  · rcases hback k1 c m1 h1 with ⟨rfl, rfl⟩ | ⟨n1, l1⟩
    · rcases hback k2 _ m2 h2 with ⟨rfl, _⟩ | ⟨n2, l2⟩
      · rfl
      · exact (hother k2 m2 n2 l2).elim
    · rcases hback k2 c m2 h2 with ⟨rfl, rfl⟩ | ⟨n2, l2⟩
      · exact (hother k1 m1 n1 l1).elim
      · exact hs.inj k1 k2 c m1 m2 l1 l2
  · have hmb : ∀ k, upd lam key (some (some b, arr.size)) k = some (none, c + 1) → lam k = some (none, c + 1) := fun k hk => by
      by_cases e : k = key
      · subst e; rw [upd_same] at hk; cases hk
      · rwa [upd_ne _ _ e] at hk
    have h0 := hs.maps k c (hmb k hl)
    exact ⟨⟨h0.1.1, Nat.lt_of_lt_of_le h0.1.2.1 hsize, h0.1.2.2⟩, fun k' hk' => h0.2 k' (hmb k' hk')⟩

/-! ### append -/
def appendV (P : Program) (st : St) (d : Nat) (t : TypeId) (base x : V) : Option (V × St) := match td P t with
  | some dd => (match dd.slc with
    | some (e, s) => (match td P e, srcCells st.heap s x with
      | some de, some (m, news) => (match de.zero with
        | some z => bif decide (0 < s) && (decide (z.length = s) && news.all oneV) then (match base with
          | .nils => bif decide (m = 0) then some (.nils, st) else (match st.heap d with
            | none => bif decide (m * de.bytes ≤ 140737488355328) && decide (m ≤ 9223372036854775807) then some (.sl d 0 m s, { st with heap := upd st.heap d (some ⟨e, news⟩) }) else none
            | some _ => none)
          | .sl key 0 len sz => (match st.heap key with
            | some blk => bif decide (sz = s) && (decide (blk.ty = e) && (decide (blk.cells.length = len * s) && (decide ((len + m) * de.bytes ≤ 140737488355328) && decide (len + m ≤ 9223372036854775807)))) then
                some (.sl key 0 (len + m) s, { env := (st.forget key).env, heap := upd (st.forget key).heap key (some ⟨e, (blk.cells ++ news).map (scrC key)⟩) }) else none
            | none => none)
          | _ => none) else none
        | none => none)
      | _, _ => none)
    | none => none)
  | none => none

theorem run_append_zero {t ty e : TypeId} {i : TypeInfo} (ht : P.underlying t = some (.slice e)) (hi : P.info? e = some i) (base : Option Addr) (l c : Nat) (hlc : l ≤ c) (A : Option Addr) (ca : Nat) :
    (Builtin.append_ #[t, t] ty #[.slice base l c, .slice A 0 ca]).run P w = .ok (.slice base l c) w := by
  cases base <;> cases A <;> simp [Builtin.append_, run_underlying ht, sizeOf, typeInfo, hi, Builtin.lenOf, Builtin.firstCells, loadCells, loadCellsFrom, storeCells, hlc]

theorem all_oneV {w : World} {ro : Nat → Prop} {lam : Lam} {cs : List V} {Vs : List Value} (h : cs.all oneV = true) (hr : RA w ro lam cs Vs.toArray) : ∀ u ∈ Vs, u.oneCell' = true := by
  intro u hu
  obtain ⟨j, hj, rfl⟩ := List.mem_iff_getElem.1 hu
  have hl : cs.length = Vs.length := by have := hr.1; simpa using this.symm
  have hc : cs[j]? = some (cs[j]'(by omega)) := List.getElem?_eq_getElem (by omega)
  refine oneV_sound ?_ (hr.2 j _ _ hc (by simp [hj]))
  exact List.all_eq_true.1 h _ (List.mem_of_getElem? hc)

theorem RA.append {cs ds : List V} {Cs Ds : List Value} (h : RA w ro lam cs Cs.toArray) (k : RA w ro lam ds Ds.toArray) : RA w ro lam (cs ++ ds) (Cs ++ Ds).toArray := by
  have hl : Cs.length = cs.length := by simpa using h.1
  have kl : Ds.length = ds.length := by simpa using k.1
  refine ⟨by simp [hl, kl], fun j c x hc hx => ?_⟩
  simp only [List.getElem?_toArray] at hx
  rw [List.getElem?_append] at hc hx
  rw [hl] at hx
  split at hc
  · rename_i hj; rw [if_pos hj] at hx; exact h.2 j c x hc (by simpa using hx)
  · rename_i hj; rw [if_neg hj] at hx; exact k.2 _ c x hc (by simpa using hx)

theorem RA.front {cs : List V} {Cs : List Value} (h : RA w ro lam cs Cs.toArray) (more : Array Value) : ∀ (j : Nat) (c : V) (x : Value), cs[j]? = some c → (Cs.toArray ++ more)[j]? = some x → R w ro lam c x := by
  intro j c x hc hx
  have hj : j < Cs.length := by
    have h1 := (List.getElem?_eq_some_iff.1 hc).1
    have h2 : Cs.length = cs.length := by simpa using h.1
    omega
  refine h.2 j c x hc ?_
  rw [Array.getElem?_append_left (by simpa using hj)] at hx
  exact hx

theorem appendV_sound (hs : Sim w0 n ro lam st a w) {d : Nat} {t ty : TypeId} {base x v : V} {B X : Value} {st' : St} (h : appendV P st d t base x = some (v, st')) (hB : R w ro lam base B) (hX : R w ro lam x X) :
    ∃ z w' lam', (Builtin.append_ #[t, t] ty #[B, X]).run P w = .ok z w' ∧ Sim w0 n ro lam' st' a w' ∧ R w' ro lam' v z := by
  unfold appendV at h
  split at h
  · rename_i dd hdd
    split at h
    · rename_i e s hslc
      obtain ⟨hu, ag, hp⟩ := td_slc' hdd hslc
      obtain ⟨ie, De, e1, e2, e3, e4⟩ := partD_some hp
      split at h
      · rename_i de m news hde hsrc
        split at h
        · rename_i zs hz
          obtain ⟨i, z, h1, h2, hra, hsz, hbs⟩ := td_zero (w := w) (ro := ro) (lam := lam) hde hz
          rw [e1] at h1
          simp only [Option.some.injEq] at h1
          subst h1
          simp only [cond_eq_ite, Bool.and_eq_true, decide_eq_true_eq] at h
          split at h
          · rename_i hcond
            obtain ⟨hsp, hzl, hone⟩ := hcond
            obtain ⟨A, c, Vs, rfl, hnl, hrv, hcell, hnone⟩ := src_sound hs hsp hsrc hX
            have hVl : Vs.length = m * ie.size := by have := hrv.1; simp at this; rw [this, hnl, e3]
            have hV1 := all_oneV hone hrv
            have hzs : z.cells.size = ie.size := by rw [hra.1, hzl, e3]
            split at h
            · have := hB.nils_inv; subst this
              split at h
              · rename_i hm
                subst hm
                simp only [Option.some.injEq, Prod.mk.injEq] at h
                obtain ⟨rfl, rfl⟩ := h
                exact ⟨_, w, lam, run_append_zero hu e1 none 0 0 (Nat.le_refl _) A c, hs, .pure _ _ .nils⟩
              · rename_i hm
                obtain ⟨ad, rfl⟩ : ∃ ad, A = some ad := by
                  cases A with
                  | none => exact absurd (hnone rfl) hm
                  | some ad => exact ⟨ad, rfl⟩
                split at h
                · rename_i hd
                  split at h
                  · rename_i hb
                    obtain ⟨hb1, hb2⟩ := hb
                    simp only [Option.some.injEq, Prod.mk.injEq] at h
                    obtain ⟨rfl, rfl⟩ := h
                    have hrun := run_append_nil (P := P) w t ty e ie z hu e1 h2 ad m c Vs hVl (hcell ad rfl) (by omega) (by omega) (by rw [hbs]; omega)
                    have hs1 : Sim w0 n ro lam st a w.drew := hs.world ((Below.refl _ _).drew)
                    have hge := grownCap_ge w m 0 e
                    have hcm := grownCap_le_maxLen w m 0 e (by simp only [maxLen]; omega)
                    have hasz : (Vs.toArray ++ Builtin.zeroCells z.cells (grownCap w m 0 e - m)).size = grownCap w m 0 e * s := by
                      simp only [Array.size_append, List.size_toArray, size_zeroCells, hzs, hVl, e3, ← Nat.add_mul]
                      congr 1; omega
                    have hsim := hs1.alloc (d := d) (ty := e) (arr := Vs.toArray ++ Builtin.zeroCells z.cells (grownCap w m 0 e - m)) (cells := news) hd (by rw [hasz, hnl]; exact Nat.mul_le_mul_right _ hge)
                      (fun j c x hc hx => R.mono (w := w) (fun _ _ => rfl) (fun _ h => h) (fun _ _ h => h) (hrv.front _ j c x hc hx))
                    exact ⟨_, _, _, hrun, hsim, .sl d 0 m s w.heap.size _ (grownCap w m 0 e) (upd_same _ _ _) (by rw [hasz]; omega) hge hcm⟩
                  · cases h
                · cases h
            · rename_i key len sz
              split at h
              · rename_i blk hk
                split at h
                · rename_i hb
                  obtain ⟨rfl, hty, hcl, hby, h63⟩ := hb
                  simp only [Option.some.injEq, Prod.mk.injEq] at h
                  obtain ⟨rfl, rfl⟩ := h
                  rcases hB.sl_inv with ⟨hv, _, rfl, rfl⟩ | ⟨b, m', cap, hl, hcap, hlc, hcm, rfl⟩
                  · -- a nil slice so far
                    have hcn : blk.cells = [] := List.eq_nil_of_length_eq_zero (by simpa using hcl)
                    by_cases hm : m = 0
                    · subst hm
                      have hnn : news = [] := List.eq_nil_of_length_eq_zero (by simpa using hnl)
                      subst hnn
                      have hf := hs.forget key
                      have hrun := run_append_zero (w := w) (P := P) (ty := ty) hu e1 none 0 0 (Nat.le_refl _) A c
                      have hback : ∀ k b m, upd lam key (some (none, 0)) k = some (some b, m) → upd lam key none k = some (some b, m) := fun k b m h => by
                        by_cases e : k = key
                        · subst e; rw [upd_same] at h; cases h
                        · rw [upd_ne _ _ e] at h ⊢; exact h
                      have hbackm : ∀ k b, upd lam key (some (none, 0)) k = some (none, b + 1) → upd lam key none k = some (none, b + 1) := fun k b h => by
                        by_cases e : k = key
                        · subst e; rw [upd_same] at h; cases h
                        · rw [upd_ne _ _ e] at h ⊢; exact h
                      have hlam : ∀ k y, upd lam key none k = some y → upd lam key (some (none, 0)) k = some y := fun k y h => by
                        by_cases e : k = key
                        · subst e; rw [upd_same] at h; cases h
                        · rw [upd_ne _ _ e] at h ⊢; exact h
                      have hm : ∀ {v x}, R w ro (upd lam key none) v x → R w ro (upd lam key (some (none, 0))) v x := fun h => h.mono (fun _ _ => rfl) (fun _ h => h) hlam
                      refine ⟨_, w, upd lam key (some (none, 0)), hrun, ⟨hf.below, hf.dfr, hf.size, hf.rolt, fun t => hm (hf.env t), fun k blk' hk' => ?_, fun k hk' => ?_, fun k b m hl => hf.own k b m (hback k b m hl), fun k1 k2 b m1 m2 h1 h2 => hf.inj k1 k2 b m1 m2 (hback _ _ _ h1) (hback _ _ _ h2), fun k b h => ⟨(hf.maps k b (hbackm _ _ h)).1, fun k' h' => (hf.maps k b (hbackm _ _ h)).2 k' (hbackm _ _ h')⟩⟩, .slv _ _ (upd_same _ _ _)⟩
                      · by_cases ek : k = key
                        · subst ek
                          simp only [upd_same, Option.some.injEq] at hk'
                          subst hk'
                          exact .inl ⟨upd_same _ _ _, by simp [hcn]⟩
                        · simp only [upd_ne _ _ ek] at hk'
                          rcases hf.heap k blk' hk' with ⟨hv', hc'⟩ | ⟨b, o, hl, hw, hso⟩ | ⟨b, m, arr, hl, hw, hsz', hle, hr⟩
                          · exact .inl ⟨hlam _ _ hv', hc'⟩
                          · exact .inr (.inl ⟨b, o, hlam _ _ hl, hw, hso⟩)
                          · exact .inr <| .inr ⟨b, m, arr, hlam _ _ hl, hw, hsz', hle, fun j c x hc hx => hm (hr j c x hc hx)⟩
                      · by_cases ek : k = key
                        · subst ek; simp only [upd_same] at hk'; cases hk'
                        · simp only [upd_ne _ _ ek] at hk' ⊢
                          have := hf.dead k hk'
                          rwa [upd_ne _ _ ek] at this
                    · obtain ⟨ad, rfl⟩ : ∃ ad, A = some ad := by
                        cases A with
                        | none => exact absurd (hnone rfl) hm
                        | some ad => exact ⟨ad, rfl⟩
                      simp only [Nat.zero_add] at hby h63
                      have hrun := run_append_nil (P := P) w t ty e ie z hu e1 h2 ad m c Vs hVl (hcell ad rfl) (by omega) (by omega) (by rw [hbs]; omega)
                      have hge := grownCap_ge w m 0 e
                      have hcm := grownCap_le_maxLen w m 0 e (by simp only [maxLen]; omega)
                      have hasz : (Vs.toArray ++ Builtin.zeroCells z.cells (grownCap w m 0 e - m)).size = grownCap w m 0 e * sz := by
                        simp only [Array.size_append, List.size_toArray, size_zeroCells, hzs, hVl, e3, ← Nat.add_mul]
                        congr 1; omega
                      have hsim := hs.replace (key := key) (b := w.heap.size) (e := e) (arr := Vs.toArray ++ Builtin.zeroCells z.cells (grownCap w m 0 e - m)) (cells := blk.cells ++ news) (w' := w.drew.alloc (.cells (Vs.toArray ++ Builtin.zeroCells z.cells (grownCap w m 0 e - m)) e))
                        rfl rfl rfl (by simp) (fun k hk _ => heap_alloc_old w.drew _ k hk) ⟨.inr hs.below.size, by simp, fun h => by have := hs.rolt _ h; omega⟩ (.inr (Nat.le_refl _)) (heap_alloc_new w.drew _)
                        (by rw [hasz, hcn]; simp only [List.nil_append]; rw [hnl]; exact Nat.mul_le_mul_right _ hge) (by rw [hcn]; exact hrv.front _)
                      refine ⟨_, _, _, hrun, hsim, ?_⟩
                      rw [Nat.zero_add]
                      exact .sl key 0 m sz w.heap.size _ (grownCap w m 0 e) (upd_same _ _ _) (by rw [hasz]; omega) hge hcm
                  · rcases hs.heap key blk hk with ⟨hv, _⟩ | ⟨b', o, hv, _⟩ | ⟨b', m'', arr, hl', hw, hsz', hle', hr⟩
                    · rw [hl] at hv; cases hv
                    · rw [hl] at hv; cases hv
                    rw [hl] at hl'
                    simp only [Option.some.injEq, Prod.mk.injEq] at hl'
                    obtain ⟨rfl, rfl⟩ := hl'
                    have hbown := hs.own key b _ hl
                    simp only [Nat.zero_add] at hcap
                    by_cases hm : m = 0
                    · subst hm
                      have hnn : news = [] := List.eq_nil_of_length_eq_zero (by simpa using hnl)
                      subst hnn
                      have hrun := run_append_zero (w := w) (P := P) (ty := ty) hu e1 (some ⟨b, 0, none⟩) len cap hlc A c
                      have hsim := hs.replace (key := key) (b := b) (e := e) (arr := arr) (cells := blk.cells ++ []) (w' := w) rfl rfl rfl (Nat.le_refl _) (fun _ _ _ => rfl) hbown (.inl ⟨_, hl⟩) (by rw [← hty]; exact hw) (by simp; omega) (by simpa using hr)
                      exact ⟨_, _, _, hrun, hsim, .sl key 0 len sz b _ cap (upd_same _ _ _) (by omega) hlc hcm⟩
                    · obtain ⟨ad, rfl⟩ : ∃ ad, A = some ad := by
                        cases A with
                        | none => exact absurd (hnone rfl) hm
                        | some ad => exact ⟨ad, rfl⟩
                      have hOl : len * ie.size ≤ arr.size := by rw [e3]; omega
                      have holds : RA w ro lam blk.cells (arr.toList.take (len * sz)).toArray := by
                        refine ⟨by simp; omega, fun j c x hc hx => hr j c x hc ?_⟩
                        simp only [List.getElem?_toArray, List.getElem?_take] at hx
                        split at hx
                        · simpa using hx
                        · cases hx
                      have hall := holds.append hrv
                      by_cases hroom : len + m ≤ cap
                      · have hfit : len * ie.size + Vs.length ≤ arr.size := by
                          rw [hVl, e3, ← Nat.add_mul]
                          exact Nat.le_trans (Nat.mul_le_mul_right _ hroom) (by omega)
                        have hrun := run_append_room (P := P) w t ty e ie hu e1 b len cap arr (by rw [← hty]; exact hw) ad m c Vs hVl (hcell ad rfl) hV1 hroom hfit
                        rw [e3] at hrun hfit
                        have hsz2 : ((arr.toList.take (len * sz) ++ Vs ++ arr.toList.drop (len * sz + Vs.length)).toArray).size = arr.size := by
                          simp only [List.size_toArray, List.length_append, List.length_take, List.length_drop, Array.length_toList]; omega
                        have hsim := hs.replace (key := key) (b := b) (e := e) (arr := (arr.toList.take (len * sz) ++ Vs ++ arr.toList.drop (len * sz + Vs.length)).toArray) (cells := blk.cells ++ news)
                          (w' := w.setRow b (arr.toList.take (len * sz) ++ Vs ++ arr.toList.drop (len * sz + Vs.length)).toArray) rfl rfl rfl (by simp) (fun k _ hk => setRow_other w b k _ (fun e => hk _ (e ▸ hl))) (by simpa using hbown) (.inl ⟨_, hl⟩)
                          (setRow_heap w b arr _ e _ (by rw [← hty]; exact hw)) (by rw [hsz2, List.length_append, hcl, hnl, ← Nat.add_mul]; exact Nat.le_trans (Nat.mul_le_mul_right _ hroom) (by omega))
                          (fun j c x hc hx => by
                            refine hall.front (arr.toList.drop (len * sz + Vs.length)).toArray j c x hc ?_
                            simpa using hx)
                        exact ⟨_, _, _, hrun, hsim, .sl key 0 (len + m) sz b _ cap (upd_same _ _ _) (by rw [hsz2]; omega) hroom hcm⟩
                      · have holdc : ∀ j v, (arr.toList.take (len * sz))[j]? = some v → w.cell? ((⟨b, 0, none⟩ : Addr).add j) = some v := fun j v hv => by
                          rw [add_lit, Nat.zero_add, cell_of_row w b j arr blk.ty (0, 0) hw]
                          rw [List.getElem?_take] at hv
                          split at hv
                          · simpa using hv
                          · cases hv
                        have hrun := run_append_grow (P := P) w t ty e ie z hu e1 h2 ⟨b, 0, none⟩ len cap (arr.toList.take (len * sz)) (by rw [e3, List.length_take, Array.length_toList]; omega) holdc ad m c Vs hVl (hcell ad rfl) (by omega) (by omega) (growslice_fits (by omega) (by rw [hbs]; exact hby))
                        have hge := grownCap_ge w (len + m) cap e
                        have hcm' := grownCap_le_maxLen w (len + m) cap e (by simp only [maxLen]; omega)
                        have htl : (arr.toList.take (len * sz)).length = len * sz := by simp; omega
                        have hasz : ((arr.toList.take (len * sz)).toArray ++ Vs.toArray ++ Builtin.zeroCells z.cells (grownCap w (len + m) cap e - (len + m))).size = grownCap w (len + m) cap e * sz := by
                          simp only [Array.size_append, List.size_toArray, size_zeroCells, hzs, hVl, e3, htl, ← Nat.add_mul]
                          congr 1; omega
                        have hsim := hs.replace (key := key) (b := w.heap.size) (e := e) (arr := (arr.toList.take (len * sz)).toArray ++ Vs.toArray ++ Builtin.zeroCells z.cells (grownCap w (len + m) cap e - (len + m))) (cells := blk.cells ++ news)
                          (w' := w.drew.alloc (.cells ((arr.toList.take (len * sz)).toArray ++ Vs.toArray ++ Builtin.zeroCells z.cells (grownCap w (len + m) cap e - (len + m))) e))
                          rfl rfl rfl (by simp) (fun k hk _ => heap_alloc_old w.drew _ k hk) ⟨.inr hs.below.size, by simp, fun h => by have := hs.rolt _ h; omega⟩ (.inr (Nat.le_refl _)) (heap_alloc_new w.drew _)
                          (by rw [hasz, List.length_append, hcl, hnl, ← Nat.add_mul]; exact Nat.mul_le_mul_right _ hge)
                          (fun j c x hc hx => by
                            refine hall.front (Builtin.zeroCells z.cells (grownCap w (len + m) cap e - (len + m))) j c x hc ?_
                            simpa using hx)
                        exact ⟨_, _, _, hrun, hsim, .sl key 0 (len + m) sz w.heap.size _ (grownCap w (len + m) cap e) (upd_same _ _ _) (by rw [hasz]; omega) hge hcm'⟩
                · cases h
              · cases h
            · cases h
          · cases h
        · cases h
      · cases h
    · cases h
  · cases h
end
end Go.Pv
end
section
namespace Go.Pv
open Go.RowKit
set_option linter.unusedSimpArgs false

/-- What a call answers, for pure arguments: in every memory in which the arguments read so, the call returns a value that reads so, and turns nothing that was there. -/
def PCall (P : Program) (f : FuncId) (vs : List V) (v : V) : Prop :=
  ∀ (w : World) (ro : Nat → Prop) (args : Array Value), (∀ b, ro b → b < w.heap.size) → args.size = vs.length →
    (∀ (j : Nat) (c : V) (x : Value), vs[j]? = some c → args[j]? = some x → R0 w ro c x) →
    Calls P f args w fun e w' => ∃ rv ro', e = .returned rv ∧ Below w.heap.size w w' ∧ (∀ b, ro b → ro' b) ∧ (∀ b, ro' b → ro b ∨ w.heap.size ≤ b) ∧ (∀ b, ro' b → b < w'.heap.size) ∧ R0 w' ro' v rv

/-- So, and what it returns lies in memory that the call made. -/
def PFresh (P : Program) (f : FuncId) (vs : List V) (v : V) : Prop :=
  ∀ (w : World) (ro : Nat → Prop) (args : Array Value), (∀ b, ro b → b < w.heap.size) → args.size = vs.length →
    (∀ (j : Nat) (c : V) (x : Value), vs[j]? = some c → args[j]? = some x → R0 w ro c x) →
    Calls P f args w fun e w' => ∃ rv, e = .returned rv ∧ Below w.heap.size w w' ∧ R0 w' (fun b => w.heap.size ≤ b ∧ b < w'.heap.size) v rv
theorem PFresh.pcall {P : Program} {f : FuncId} {vs : List V} {v : V} (h : PFresh P f vs v) : PCall P f vs v := by
  intro w ro args hro hsz hr
  refine (h w ro args hro hsz hr).mono fun e w' hh => ?_
  obtain ⟨rv, rfl, hb, hv⟩ := hh
  refine ⟨rv, fun b => ro b ∨ (w.heap.size ≤ b ∧ b < w'.heap.size), rfl, hb, fun b h => .inl h, fun b h => h.imp id And.left, fun b h => ?_, hv.mono (fun _ _ => rfl) (fun b h => .inr h)⟩
  rcases h with h | h
  · exact Nat.lt_of_lt_of_le (hro b h) hb.size
  · exact h.2

/-- A table of answers; of which functions what they return is new memory. -/
structure Tab where
  at' : FuncId → List V → Option V
  fr : FuncId → Bool
  gb : FuncId → Bool
  gv : FuncId → List V → Option (V × List (Nat × Blk))
/-- The blocks of the call's own. -/
def ownB (lam : Lam) (b : Nat) : Prop := ∃ key, lamB lam key b
/-- The blocks of the call's own, by themselves. -/
def HS (W : World) (ro : Nat → Prop) (lam : Lam) (h : Nat → Option Blk) : Prop := Sim ⟨W, ownB lam, []⟩ 0 ro lam ⟨fun _ => .junk, h⟩ { tmps := #[], defers := [] } W
def blkOf : List (Nat × Blk) → Nat → Option Blk
  | [], _ => none
  | (k, b) :: bl, key => if key = k then some b else blkOf bl key
/-- What a call gives away: new memory that the caller may write. -/
def PGive (P : Program) (f : FuncId) (vs : List V) (u : V) (bl : List (Nat × Blk)) : Prop :=
  ∀ (w : World) (ro : Nat → Prop) (args : Array Value), (∀ b, ro b → b < w.heap.size) → args.size = vs.length →
    (∀ (j : Nat) (c : V) (x : Value), vs[j]? = some c → args[j]? = some x → R0 w ro c x) →
    Calls P f args w fun e w' => ∃ rv ro' lam', e = .returned rv ∧ Below w.heap.size w w' ∧ (∀ b, ro b → ro' b) ∧ (∀ b, ro' b → ro b ∨ w.heap.size ≤ b) ∧ HS w' ro' lam' (blkOf bl) ∧ (∀ b, ownB lam' b → w.heap.size ≤ b) ∧ R w' ro' lam' u rv
def callable (P : Program) (f : FuncId) : Bool := match P.funcs[f]? with
  | some fn => !(fn.name == "runtime.NumGoroutine") && fn.body.isSome
  | none => false
/-- What a function without a Go body answers: a value without memory, in the world that it got. -/
def PExt (P : Program) (f : FuncId) (vs : List V) (v : V) : Prop :=
  ∀ (w : World) (ro : Nat → Prop) (args : Array Value), args.size = vs.length →
    (∀ (j : Nat) (c : V) (x : Value), vs[j]? = some c → args[j]? = some x → R0 w ro c x) → ∃ x, (callFunc f args).run P w = .ok (.value x) w ∧ R0 w ro v x
def TabC (P : Program) (Γ : Tab) (f : FuncId) (vs : List V) (v : V) : Prop := callable P f = true ∧ PCall P f vs v ∧ (Γ.fr f = true → PFresh P f vs v)
def extFlat : V → Bool
  | .bool _ | .int .. | .str _ => true
  | .tup vs => vs.all fun c => match c with
    | .bool _ | .int .. | .str _ => true
    | _ => false
  | _ => false
def TabOK (P : Program) (Γ : Tab) : Prop := (∀ f vs v, Γ.at' f vs = some v → TabC P Γ f vs v ∨ (extFlat v = true ∧ PExt P f vs v)) ∧ ∀ f vs u bl, Γ.gb f = true → Γ.gv f vs = some (u, bl) → callable P f = true ∧ PGive P f vs u bl

section
variable {w0 : Base} {n : Nat} {ro : Nat → Prop} {lam : Lam} {st : St} {a : Act} {w : World} {P : Program}

/-! ### s[lo:hi] -/
def bndV (x : Option V) (dflt : Nat) : Option Nat := match x with
  | none => some dflt
  | some (.int _ i) => bif decide (0 ≤ i) then some i.toNat else none
  | _ => none
def sliceV (P : Program) (h : Nat → Option Blk) (t : TypeId) (x : V) (lo hi : Option V) : Option V := match td P t with
  | some d => (match d.slc with
    | some (_, s) => (match x with
      | .list sz xs => (match bndV lo 0, bndV hi xs.length with
        | some l, some u => bif decide (s = sz) && (decide (l ≤ u) && decide (u ≤ xs.length)) then some (bif decide (l = u) then .list sz [] else .list sz ((xs.drop l).take (u - l))) else none
        | _, _ => none)
      | .sl key off len sz => (match bndV lo 0, bndV hi len with
        | some l, some u => bif decide (s = sz) && (decide (l ≤ u) && decide (u ≤ len)) then some (bif decide (l = u) then .list sz [] else .sl key (off + l * sz) (u - l) sz) else none
        | _, _ => none)
      | .nils => (match bndV lo 0, bndV hi 0 with
        | some 0, some 0 => some .nils
        | _, _ => none)
      | _ => none)
    | none => (match d.arr, x with
      | some (m, s, _), .ptr key off => (match bndV lo 0, bndV hi m, h key with
        | some l, some u, some blk => bif decide (l < u) && (decide (u ≤ m) && (decide (off + m * s ≤ blk.cells.length) && decide (m ≤ 9223372036854775807))) then some (.sl key (off + l * s) (u - l) s) else none
        | _, _, _ => none)
      | _, _ => none))
  | none => none

theorem bnd_sound {x : Option V} {X : Option Value} {dflt l y : Nat} {code : BoundsCode} (h : bndV x dflt = some l) (hx : ∀ v, x = some v → ∃ z, X = some z ∧ R w ro lam v z) (hn : x = none → X = none) (hle : l ≤ y) :
    (X = none ∧ l = dflt) ∨ ∃ z, X = some z ∧ (Instr.sliceBound z y code).run P w = .ok l w := by
  unfold bndV at h
  split at h
  · simp only [Option.some.injEq] at h; exact .inl ⟨hn rfl, h.symm⟩
  · rename_i k i
    simp only [cond_eq_ite, decide_eq_true_eq] at h
    split at h
    · rename_i h0
      simp only [Option.some.injEq] at h
      obtain ⟨z, hz, hr⟩ := hx _ rfl
      have := hr.int_inv; subst this
      refine .inr ⟨_, hz, ?_⟩
      have hle' : i ≤ (y : Int) := by omega
      simp [Instr.sliceBound, asIntOf, h0, hle', h]
    · cases h
  · cases h

theorem bounds_sound {lo hi : Option V} {Lo Hi : Option Value} {len cap l u : Nat} {sl : Bool} (hl : bndV lo 0 = some l) (hu : bndV hi len = some u) (h1 : l ≤ u) (h2 : u ≤ len) (h3 : len ≤ cap)
    (xl : ∀ v, lo = some v → ∃ z, Lo = some z ∧ R w ro lam v z) (nl : lo = none → Lo = none) (xh : ∀ v, hi = some v → ∃ z, Hi = some z ∧ R w ro lam v z) (nh : hi = none → Hi = none) :
    (Instr.sliceBounds sl len cap Lo Hi none).run P w = .ok (l, u, cap) w := by
  have hb := bnd_sound (P := P) (y := cap) (code := if sl then .sliceAcap else .sliceAlen) hu xh nh (by omega)
  have hb' := bnd_sound (P := P) (y := u) (code := .sliceB) hl xl nl h1
  rcases hb with ⟨rfl, rfl⟩ | ⟨z, rfl, hz⟩ <;> rcases hb' with ⟨rfl, rfl⟩ | ⟨y, rfl, hy⟩ <;> simp [Instr.sliceBounds, *]

theorem sliceV_sound (hs : Sim w0 n ro lam st a w) {t : TypeId} {x v : V} {X : Value} {lo hi : Option V} {Lo Hi : Option Value} (h : sliceV P st.heap t x lo hi = some v) (hx : R w ro lam x X)
    (xl : ∀ v, lo = some v → ∃ z, Lo = some z ∧ R w ro lam v z) (nl : lo = none → Lo = none) (xh : ∀ v, hi = some v → ∃ z, Hi = some z ∧ R w ro lam v z) (nh : hi = none → Hi = none) :
    ∃ z, (Instr.sliceAt t X Lo Hi none).run P w = .ok z w ∧ R w ro lam v z := by
  unfold sliceV at h
  split at h
  · rename_i d hd
    split at h
    · rename_i e s hslc
      obtain ⟨hu, ag, hp⟩ := td_slc' hd hslc
      obtain ⟨ie, De, e1, e2, e3, e4⟩ := partD_some hp
      split at h
      · rename_i sz xs
        split at h
        · rename_i l u hl hu'
          simp only [cond_eq_ite, Bool.and_eq_true, decide_eq_true_eq] at h
          split at h
          · rename_i hc
            obtain ⟨rfl, h1, h2⟩ := hc
            simp only [Option.some.injEq] at h
            rcases hx.list_inv with ⟨rfl, ad, cap, rfl⟩ | ⟨ad, cap, g, rfl, hro, huni, hcap, hg, hr⟩
            · have hb := bounds_sound (P := P) (cap := cap) (sl := true) hl hu' h1 h2 (by simp) xl nl xh nh
              simp only [List.length_nil] at hb h2
              have h0 : u = 0 := by omega
              have h0' : l = 0 := by omega
              subst h0; subst h0'
              simp only [if_true] at h
              subst h
              exact ⟨_, by (simp [Instr.sliceAt, Instr.slice, run_underlying hu, hb, run_sizeOf' e1]) <;> first | exact ⟨rfl, rfl⟩ | rfl, .pure _ _ (.list0 _ _ _)⟩
            · have hb := bounds_sound (P := P) (cap := cap) (sl := true) hl hu' h1 h2 hcap xl nl xh nh
              split at h
              · rename_i hlu
                subst hlu; subst h
                refine ⟨_, by (simp [Instr.sliceAt, Instr.slice, run_underlying hu, hb, run_sizeOf' e1, e3]) <;> first | exact ⟨rfl, rfl⟩ | rfl, .pure _ _ ?_⟩
                exact .list0 _ _ _
              · rename_i hlu
                subst h
                have hne : ¬ cap = l := by omega
                refine ⟨.slice (some (ad.add (l * s))) (u - l) (cap - l), by simp [Instr.sliceAt, Instr.slice, run_underlying hu, hb, run_sizeOf' e1, e3, hne], .pure _ _ ?_⟩
                have hlen : ((xs.drop l).take (u - l)).length = u - l := by simp; omega
                have hat : ∀ i c, ((xs.drop l).take (u - l))[i]? = some c → xs[l + i]? = some c := fun i c hc => by
                  rw [List.getElem?_take] at hc
                  split at hc
                  · simpa using hc
                  · cases hc
                suffices hkey : R0 w ro (.list s ((xs.drop l).take (u - l))) (.slice (some (ad.add (l * s))) ((xs.drop l).take (u - l)).length (cap - l)) by rw [hlen] at hkey; exact hkey
                refine .list s _ _ _ (fun i j => g (l + i) j) (by rw [block_add]; exact hro) (fun c hc => huni c (List.mem_of_mem_drop (List.mem_of_mem_take hc))) (by rw [hlen]; omega) (fun i j c y hc hy => ?_) (fun i j c y hc hy => hr _ _ c y (hat i c hc) hy)
                rw [add_add, show l * s + (i * s + j) = (l + i) * s + j from by rw [Nat.add_mul]; omega]
                exact hg _ _ c y (hat i c hc) hy
          · cases h
        · cases h
      · rename_i key off len sz
        split at h
        · rename_i l u hl hu'
          simp only [cond_eq_ite, Bool.and_eq_true, decide_eq_true_eq] at h
          split at h
          · rename_i hc
            obtain ⟨rfl, h1, h2⟩ := hc
            simp only [Option.some.injEq] at h
            rcases hx.sl_inv with ⟨hv, rfl, rfl, rfl⟩ | ⟨b, m, cap, hlm, hm, hlc, hcm, rfl⟩
            · have hb := bounds_sound (P := P) (cap := 0) (sl := true) hl hu' h1 h2 (Nat.le_refl _) xl nl xh nh
              have h0 : u = 0 := by omega
              have h0' : l = 0 := by omega
              subst h0; subst h0'
              simp only [if_true] at h
              subst h
              exact ⟨_, by (simp [Instr.sliceAt, Instr.slice, run_underlying hu, hb, run_sizeOf' e1]) <;> first | exact ⟨rfl, rfl⟩ | rfl, .pure _ _ (.list0 _ _ _)⟩
            · have hb := bounds_sound (P := P) (cap := cap) (sl := true) hl hu' h1 h2 hlc xl nl xh nh
              split at h
              · rename_i hlu
                subst hlu; subst h
                refine ⟨_, by (simp [Instr.sliceAt, Instr.slice, run_underlying hu, hb, run_sizeOf' e1, e3]) <;> first | exact ⟨rfl, rfl⟩ | rfl, .pure _ _ ?_⟩
                exact .list0 _ _ _
              · rename_i hlu
                subst h
                have hne : ¬ cap = l := by omega
                refine ⟨.slice (some ⟨b, off + l * s, none⟩) (u - l) (cap - l), by simp [Instr.sliceAt, Instr.slice, run_underlying hu, hb, run_sizeOf' e1, e3, hne, add_lit], .sl key (off + l * s) (u - l) s b m (cap - l) hlm ?_ (by omega) (by omega)⟩
                rw [Nat.add_assoc, ← Nat.add_mul, show l + (cap - l) = cap from by omega]
                exact hm
          · cases h
        · cases h
      · have := hx.nils_inv; subst this
        split at h
        · rename_i hl hu'
          have hb := bounds_sound (P := P) (len := 0) (cap := 0) (sl := true) hl hu' (Nat.le_refl _) (Nat.le_refl _) (Nat.le_refl _) xl nl xh nh
          simp only [Option.some.injEq] at h; subst h
          exact ⟨_, by simp [Instr.sliceAt, Instr.slice, run_underlying hu, hb, run_sizeOf' e1], .pure _ _ .nils⟩
        · cases h
      · cases h
    · split at h
      · rename_i m s ag key off harr
        obtain ⟨e, hu, hp⟩ := td_arr hd harr
        obtain ⟨ie, De, e1, e2, e3, e4⟩ := partD_some hp
        split at h
        · rename_i l u blk hl hu' hk
          simp only [cond_eq_ite, Bool.and_eq_true, decide_eq_true_eq] at h
          split at h
          · rename_i hc
            obtain ⟨h1, h2, h3, h4⟩ := hc
            simp only [Option.some.injEq] at h; subst h
            obtain ⟨b, m', hlm, rfl⟩ := hx.ptr_inv
            have hb := bounds_sound (P := P) (cap := m) (sl := false) hl hu' (by omega) h2 (Nat.le_refl _) xl nl xh nh
            have hne : ¬ m = l := by omega
            have hbm : blk.cells.length ≤ m' := by
              rcases hs.heap key blk hk with ⟨hv, _⟩ | ⟨b', o, hv, _⟩ | ⟨b', m'', arr, hl', _, _, hle, _⟩
              · rw [hlm] at hv; cases hv
              · rw [hlm] at hv; cases hv
              · rw [hlm] at hl'; simp only [Option.some.injEq, Prod.mk.injEq] at hl'; rw [hl'.2]; exact hle
            refine ⟨.slice (some ⟨b, off + l * s, none⟩) (u - l) (m - l), by simp [Instr.sliceAt, run_underlying hu, Instr.sureAddr, hb, run_sizeOf' e1, e3, hne, add_lit], .sl key (off + l * s) (u - l) s b m' (m - l) hlm ?_ (by omega) (by simp only [maxLen]; omega)⟩
            rw [Nat.add_assoc, ← Nat.add_mul, show l + (m - l) = m from by omega]
            omega
          · cases h
        · cases h
      · cases h
  · cases h

/-! ### a slice of three indices -/
def sliceMV (P : Program) (t : TypeId) (x : V) (lo : Option V) (hi mx : V) : Option V := match td P t with
  | some d => (match d.slc with
    | some (_, s) => (match x, bndV lo 0, bndV (some hi) 0, bndV (some mx) 0 with
      | .list sz xs, some l, some u, some m => bif decide (s = sz) && (decide (l ≤ u) && (decide (u ≤ m) && decide (m ≤ xs.length))) then some (bif decide (l = u) then .list sz [] else .list sz ((xs.drop l).take (u - l))) else none
      | .sl key off len sz, some l, some u, some m => bif decide (s = sz) && (decide (l ≤ u) && (decide (u ≤ m) && decide (m ≤ len))) then some (bif decide (l = u) then .list sz [] else .sl key (off + l * sz) (u - l) sz) else none
      | _, _, _, _ => none)
    | none => none)
  | none => none
theorem bnd_some {x : V} {X : Value} {dflt l y : Nat} {code : BoundsCode} (h : bndV (some x) dflt = some l) (hx : R w ro lam x X) (hle : l ≤ y) : (Instr.sliceBound X y code).run P w = .ok l w := by
  rcases bnd_sound (P := P) (X := some X) (y := y) (code := code) h (fun v hv => by cases hv; exact ⟨X, rfl, hx⟩) (fun h => by cases h) hle with ⟨h1, _⟩ | ⟨z, h1, h2⟩
  · cases h1
  · cases h1; exact h2
theorem boundsM_sound {lo : Option V} {hi mx : V} {Lo : Option Value} {Hi Mx : Value} {cap len l u m : Nat} (hl : bndV lo 0 = some l) (hu : bndV (some hi) 0 = some u) (hm : bndV (some mx) 0 = some m) (h1 : l ≤ u) (h2 : u ≤ m) (h3 : m ≤ cap)
    (xl : ∀ v, lo = some v → ∃ z, Lo = some z ∧ R w ro lam v z) (nl : lo = none → Lo = none) (xh : R w ro lam hi Hi) (xm : R w ro lam mx Mx) :
    (Instr.sliceBounds true len cap Lo (some Hi) (some Mx)).run P w = .ok (l, u, m) w := by
  have e1 := bnd_some (P := P) (code := .slice3Acap) hm xm h3
  have e2 := bnd_some (P := P) (code := .slice3B) hu xh h2
  rcases bnd_sound (P := P) (y := u) (code := .slice3C) hl xl nl h1 with ⟨rfl, rfl⟩ | ⟨y, rfl, hy⟩ <;> simp [Instr.sliceBounds, *]
theorem sliceMV_sound {t : TypeId} {x v : V} {X : Value} {lo : Option V} {hi mx : V} {Lo : Option Value} {Hi Mx : Value} (h : sliceMV P t x lo hi mx = some v) (hx : R w ro lam x X)
    (xl : ∀ v, lo = some v → ∃ z, Lo = some z ∧ R w ro lam v z) (nl : lo = none → Lo = none) (xh : R w ro lam hi Hi) (xm : R w ro lam mx Mx) :
    ∃ z, (Instr.sliceAt t X Lo (some Hi) (some Mx)).run P w = .ok z w ∧ R w ro lam v z := by
  unfold sliceMV at h
  split at h
  · rename_i d hd
    split at h
    · rename_i e s hslc
      obtain ⟨hu0, ag, hp⟩ := td_slc' hd hslc
      obtain ⟨ie, De, e1, e2, e3, e4⟩ := partD_some hp
      split at h
      · rename_i sz xs l u m hl hu hm
        simp only [cond_eq_ite, Bool.and_eq_true, decide_eq_true_eq] at h
        split at h
        · rename_i hc
          obtain ⟨rfl, h1, h2, h3⟩ := hc
          simp only [Option.some.injEq] at h
          rcases hx.list_inv with ⟨rfl, ad, cap, rfl⟩ | ⟨ad, cap, g, rfl, hro, huni, hcap, hg, hr⟩
          · have hb := boundsM_sound (P := P) (cap := cap) (len := 0) hl hu hm h1 h2 (by simp at h3; omega) xl nl xh xm
            simp only [List.length_nil] at h3
            have h0 : u = 0 := by omega
            have h0' : l = 0 := by omega
            have h0'' : m = 0 := by omega
            subst h0; subst h0'; subst h0''
            simp only [if_true] at h
            subst h
            exact ⟨_, by (simp [Instr.sliceAt, Instr.slice, run_underlying hu0, hb, run_sizeOf' e1]) <;> first | exact ⟨rfl, rfl⟩ | rfl, .pure _ _ (.list0 _ _ _)⟩
          · have hb := boundsM_sound (P := P) (cap := cap) (len := xs.length) hl hu hm h1 h2 (by omega) xl nl xh xm
            split at h
            · rename_i hlu
              subst hlu; subst h
              refine ⟨_, by (simp [Instr.sliceAt, Instr.slice, run_underlying hu0, hb, run_sizeOf' e1, e3]) <;> first | exact ⟨rfl, rfl⟩ | rfl, .pure _ _ ?_⟩
              exact .list0 _ _ _
            · rename_i hlu
              subst h
              have hne : ¬ m = l := by omega
              refine ⟨.slice (some (ad.add (l * s))) (u - l) (m - l), by simp [Instr.sliceAt, Instr.slice, run_underlying hu0, hb, run_sizeOf' e1, e3, hne], .pure _ _ ?_⟩
              have hlen : ((xs.drop l).take (u - l)).length = u - l := by simp; omega
              have hat : ∀ i c, ((xs.drop l).take (u - l))[i]? = some c → xs[l + i]? = some c := fun i c hc => by
                rw [List.getElem?_take] at hc
                split at hc
                · simpa using hc
                · cases hc
              suffices hkey : R0 w ro (.list s ((xs.drop l).take (u - l))) (.slice (some (ad.add (l * s))) ((xs.drop l).take (u - l)).length (m - l)) by rw [hlen] at hkey; exact hkey
              refine .list s _ _ _ (fun i j => g (l + i) j) (by rw [block_add]; exact hro) (fun c hc => huni c (List.mem_of_mem_drop (List.mem_of_mem_take hc))) (by rw [hlen]; omega) (fun i j c y hc hy => ?_) (fun i j c y hc hy => hr _ _ c y (hat i c hc) hy)
              rw [add_add, show l * s + (i * s + j) = (l + i) * s + j from by rw [Nat.add_mul]; omega]
              exact hg _ _ c y (hat i c hc) hy
        · cases h
      · rename_i key off len sz l u m hl hu hm
        simp only [cond_eq_ite, Bool.and_eq_true, decide_eq_true_eq] at h
        split at h
        · rename_i hc
          obtain ⟨rfl, h1, h2, h3⟩ := hc
          simp only [Option.some.injEq] at h
          rcases hx.sl_inv with ⟨hv, rfl, rfl, rfl⟩ | ⟨b, m', cap, hlm, hmm, hlc, hcm, rfl⟩
          · have hb := boundsM_sound (P := P) (cap := 0) (len := 0) hl hu hm h1 h2 h3 xl nl xh xm
            have h0'' : m = 0 := by omega
            have h0 : u = 0 := by omega
            have h0' : l = 0 := by omega
            subst h0''; subst h0; subst h0'
            simp only [if_true] at h
            subst h
            exact ⟨_, by (simp [Instr.sliceAt, Instr.slice, run_underlying hu0, hb, run_sizeOf' e1]) <;> first | exact ⟨rfl, rfl⟩ | rfl, .pure _ _ (.list0 _ _ _)⟩
          · have hb := boundsM_sound (P := P) (cap := cap) (len := len) hl hu hm h1 h2 (by omega) xl nl xh xm
            split at h
            · rename_i hlu
              subst hlu; subst h
              refine ⟨_, by (simp [Instr.sliceAt, Instr.slice, run_underlying hu0, hb, run_sizeOf' e1, e3]) <;> first | exact ⟨rfl, rfl⟩ | rfl, .pure _ _ ?_⟩
              exact .list0 _ _ _
            · rename_i hlu
              subst h
              have hne : ¬ m = l := by omega
              refine ⟨.slice (some ⟨b, off + l * s, none⟩) (u - l) (m - l), by simp [Instr.sliceAt, Instr.slice, run_underlying hu0, hb, run_sizeOf' e1, e3, hne, add_lit], .sl key (off + l * s) (u - l) s b m' (m - l) hlm ?_ (by omega) (by omega)⟩
              have e9 : l * s + (m - l) * s = m * s := by rw [← Nat.add_mul, show l + (m - l) = m from by omega]
              have e10 : m * s ≤ cap * s := Nat.mul_le_mul_right _ (by omega)
              omega
        · cases h
      · cases h
    · cases h
  · cases h
/-! ### lending -/
def chunks (sz : Nat) : Nat → List V → List (List V)
  | 0, _ => []
  | m + 1, cs => cs.take sz :: chunks sz m (cs.drop sz)
theorem length_chunks (sz : Nat) : ∀ (m : Nat) (cs : List V), (chunks sz m cs).length = m
  | 0, _ => rfl
  | m + 1, cs => by simp [chunks, length_chunks sz m]
theorem chunks_at (sz : Nat) : ∀ (m : Nat) (cs : List V) (i : Nat) (c : List V), (chunks sz m cs)[i]? = some c → i < m ∧ c = (cs.drop (i * sz)).take sz
  | 0, _, i, c, h => by simp [chunks] at h
  | m + 1, cs, 0, c, h => by simp [chunks] at h; exact ⟨by omega, by simp [h]⟩
  | m + 1, cs, i + 1, c, h => by
    simp only [chunks, List.getElem?_cons_succ] at h
    obtain ⟨h1, h2⟩ := chunks_at sz m (cs.drop sz) i c h
    refine ⟨by omega, ?_⟩
    rw [h2, List.drop_drop, show sz + i * sz = (i + 1) * sz from by rw [Nat.succ_mul]; omega]

/-- A cell of a block that is lent. -/
def lend0 (h : Nat → Option Blk) : V → Option V
  | .sl key off len sz => (match h key with
    | some blk => bif decide (off + len * sz ≤ blk.cells.length) && !(blk.cells.any ownC) then some (.list sz (chunks sz len (blk.cells.drop off))) else none
    | none => none)
  | .mp key => (match h key with
    | some blk => some (.rset blk.cells)
    | none => none)
  | .ptr .. | .agg _ | .tup _ | .vptr .. => none
  | v => some v
def lend0L (h : Nat → Option Blk) : List V → Option (List V)
  | [] => some []
  | v :: vs => match lend0 h v, lend0L h vs with
    | some u, some us => some (u :: us)
    | _, _ => none
def lendC (h : Nat → Option Blk) : V → Option V
  | .sl key off len sz => (match h key with
    | some blk => bif decide (off + len * sz ≤ blk.cells.length) && !(blk.cells.any ownC) then some (.list sz (chunks sz len (blk.cells.drop off))) else
        bif decide (off + len * sz ≤ blk.cells.length) then (lend0L h blk.cells).map (fun cs => .list sz (chunks sz len (cs.drop off))) else none
    | none => none)
  | .ptr key off => (match h key with
    | some blk => bif blk.cells.any ownC then (lend0L h blk.cells).map (fun cs => .rp (cs.drop off)) else some (.rp (blk.cells.drop off))
    | none => none)
  | .mp key => (match h key with
    | some blk => some (.rset blk.cells)
    | none => none)
  | .agg _ | .tup _ | .vptr .. => none
  | v => some v
def lendL (h : Nat → Option Blk) : List V → Option (List V)
  | [] => some []
  | v :: vs => match lendC h v, lendL h vs with
    | some u, some us => some (u :: us)
    | _, _ => none
def lendA (h : Nat → Option Blk) : V → Option V
  | .agg cs => (lendL h cs).map .agg
  | v => lendC h v
def lendAs (h : Nat → Option Blk) : List V → Option (List V)
  | [] => some []
  | v :: vs => match lendA h v, lendAs h vs with
    | some u, some us => some (u :: us)
    | _, _ => none

/-- Read-only or own. -/
def roOwn (ro : Nat → Prop) (lam : Lam) (b : Nat) : Prop := ro b ∨ ∃ key, lamB lam key b

theorem R0_more {v : V} {x : Value} (h : R0 w ro v x) : R0 w (roOwn ro lam) v x := h.mono (fun _ _ => rfl) (fun _ h => .inl h)

theorem lendRow (hs : Sim w0 n ro lam st a w) {key off len sz : Nat} {blk : Blk} {x : Value} (hk : st.heap key = some blk) (hle : off + len * sz ≤ blk.cells.length) (hpure' : blk.cells.any ownC = false) (hx : R w ro lam (.sl key off len sz) x) :
    R0 w (roOwn ro lam) (.list sz (chunks sz len (blk.cells.drop off))) x := by
  rcases hx.sl_inv with ⟨hv, rfl, rfl, rfl⟩ | ⟨b, m, cap, hl, _, hlc, _, rfl⟩
  · exact .list0 _ _ _
  · rcases hs.heap key blk hk with ⟨hv, _⟩ | ⟨b', o, hv, _⟩ | ⟨b', m', arr, hl', hw, hsz, hle', hr⟩
    · rw [hl] at hv; cases hv
    · rw [hl] at hv; cases hv
    · rw [hl] at hl'
      simp only [Option.some.injEq, Prod.mk.injEq] at hl'
      obtain ⟨rfl, rfl⟩ := hl'
      have hlen := length_chunks sz len (blk.cells.drop off)
      have hat : ∀ i j c y, (chunks sz len (blk.cells.drop off))[i]? = some c → c[j]? = some y → blk.cells[off + (i * sz + j)]? = some y ∧ off + (i * sz + j) < arr.size := fun i j c y hc hy => by
        obtain ⟨h1, rfl⟩ := chunks_at sz len _ i c hc
        rw [List.getElem?_take] at hy
        split at hy
        · rw [List.getElem?_drop, List.getElem?_drop] at hy
          refine ⟨by rw [← hy], ?_⟩
          have := (List.getElem?_eq_some_iff.1 hy).1
          omega
        · cases hy
      have key' : R0 w (roOwn ro lam) (.list sz (chunks sz len (blk.cells.drop off))) (.slice (some ⟨b, off, none⟩) (chunks sz len (blk.cells.drop off)).length cap) := by
        refine .list sz _ ⟨b, off, none⟩ cap (fun i j => arr.getD (off + (i * sz + j)) Go.undef) (.inr ⟨key, .inl ⟨_, hl⟩⟩) (fun c hc => ?_) (by rw [hlen]; exact hlc) (fun i j c y hc hy => ?_) (fun i j c y hc hy => ?_)
        · obtain ⟨i, hi, rfl⟩ := List.mem_iff_getElem.1 hc
          obtain ⟨h1, h2⟩ := chunks_at sz len _ i _ (List.getElem?_eq_getElem hi)
          rw [h2]
          simp only [List.length_take, List.length_drop]
          have : (i + 1) * sz ≤ len * sz := Nat.mul_le_mul_right _ h1
          rw [Nat.succ_mul] at this
          omega
        · obtain ⟨h1, h2⟩ := hat i j c y hc hy
          rw [add_lit, cell_of_row w b _ arr blk.ty (0, 0) hw]
          simp [Array.getD_eq_getD_getElem?, Array.getElem?_eq_getElem h2]
        · obtain ⟨h1, h2⟩ := hat i j c y hc hy
          have h3 := hr _ y _ h1 (Array.getElem?_eq_getElem h2)
          have h4 := R0_more (lam := lam) (h3.pureC (any_at hpure' h1))
          simpa [Array.getD_eq_getD_getElem?, Array.getElem?_eq_getElem h2] using h4
      rw [hlen] at key'
      exact key'
theorem lendRowC (hs : Sim w0 n ro lam st a w) {key off len sz : Nat} {blk : Blk} {cs : List V} {x : Value} (hk : st.heap key = some blk) (hle : off + len * sz ≤ blk.cells.length) (hcs : cs.length = blk.cells.length)
    (hat0 : ∀ (j : Nat) (u : V), cs[j]? = some u → ∃ c, blk.cells[j]? = some c ∧ ∀ y, R w ro lam c y → R0 w (roOwn ro lam) u y) (hx : R w ro lam (.sl key off len sz) x) :
    R0 w (roOwn ro lam) (.list sz (chunks sz len (cs.drop off))) x := by
  rcases hx.sl_inv with ⟨hv, rfl, rfl, rfl⟩ | ⟨b, m, cap, hl, _, hlc, _, rfl⟩
  · exact .list0 _ _ _
  · rcases hs.heap key blk hk with ⟨hv, _⟩ | ⟨b', o, hv, _⟩ | ⟨b', m', arr, hl', hw, hsz, hle', hr⟩
    · rw [hl] at hv; cases hv
    · rw [hl] at hv; cases hv
    · rw [hl] at hl'
      simp only [Option.some.injEq, Prod.mk.injEq] at hl'
      obtain ⟨rfl, rfl⟩ := hl'
      have hlen := length_chunks sz len (cs.drop off)
      have hat : ∀ i j c y, (chunks sz len (cs.drop off))[i]? = some c → c[j]? = some y → cs[off + (i * sz + j)]? = some y ∧ off + (i * sz + j) < arr.size := fun i j c y hc hy => by
        obtain ⟨h1, rfl⟩ := chunks_at sz len _ i c hc
        rw [List.getElem?_take] at hy
        split at hy
        · rw [List.getElem?_drop, List.getElem?_drop] at hy
          refine ⟨by rw [← hy], ?_⟩
          have := (List.getElem?_eq_some_iff.1 hy).1
          omega
        · cases hy
      have key' : R0 w (roOwn ro lam) (.list sz (chunks sz len (cs.drop off))) (.slice (some ⟨b, off, none⟩) (chunks sz len (cs.drop off)).length cap) := by
        refine .list sz _ ⟨b, off, none⟩ cap (fun i j => arr.getD (off + (i * sz + j)) Go.undef) (.inr ⟨key, .inl ⟨_, hl⟩⟩) (fun c hc => ?_) (by rw [hlen]; exact hlc) (fun i j c y hc hy => ?_) (fun i j c y hc hy => ?_)
        · obtain ⟨i, hi, rfl⟩ := List.mem_iff_getElem.1 hc
          obtain ⟨h1, h2⟩ := chunks_at sz len _ i _ (List.getElem?_eq_getElem hi)
          rw [h2]
          simp only [List.length_take, List.length_drop]
          have : (i + 1) * sz ≤ len * sz := Nat.mul_le_mul_right _ h1
          rw [Nat.succ_mul] at this
          omega
        · obtain ⟨h1, h2⟩ := hat i j c y hc hy
          rw [add_lit, cell_of_row w b _ arr blk.ty (0, 0) hw]
          simp [Array.getD_eq_getD_getElem?, Array.getElem?_eq_getElem h2]
        · obtain ⟨h1, h2⟩ := hat i j c y hc hy
          obtain ⟨c0, hc0, hcy⟩ := hat0 _ _ h1
          have h3 := hr _ c0 _ hc0 (Array.getElem?_eq_getElem h2)
          have h4 := hcy _ h3
          simpa [Array.getD_eq_getD_getElem?, Array.getElem?_eq_getElem h2] using h4
      rw [hlen] at key'
      exact key'
theorem lendPtr (hs : Sim w0 n ro lam st a w) {key off : Nat} {blk : Blk} {cs : List V} {x : Value} (hk : st.heap key = some blk) (hcs : cs.length = blk.cells.length)
    (hat0 : ∀ (j : Nat) (u : V), cs[j]? = some u → ∃ c, blk.cells[j]? = some c ∧ ∀ y, R w ro lam c y → R0 w (roOwn ro lam) u y) (hx : R w ro lam (.ptr key off) x) : R0 w (roOwn ro lam) (.rp (cs.drop off)) x := by
  obtain ⟨b, m, hl, rfl⟩ := hx.ptr_inv
  rcases hs.heap key blk hk with ⟨hv, _⟩ | ⟨b', o, hv, _⟩ | ⟨b', m', arr, hl', hw, hsz, hle', hr⟩
  · rw [hl] at hv; cases hv
  · rw [hl] at hv; cases hv
  · rw [hl] at hl'
    simp only [Option.some.injEq, Prod.mk.injEq] at hl'
    obtain ⟨rfl, rfl⟩ := hl'
    have hat : ∀ j y, (cs.drop off)[j]? = some y → cs[off + j]? = some y ∧ off + j < arr.size := fun j y hy => by
      rw [List.getElem?_drop] at hy
      have := (List.getElem?_eq_some_iff.1 hy).1
      exact ⟨hy, by omega⟩
    refine .rp _ ⟨b, off, none⟩ (fun j => arr.getD (off + j) Go.undef) (.inr ⟨key, .inl ⟨_, hl⟩⟩) (fun j y hy => ?_) (fun j y hy => ?_)
    · obtain ⟨h1, h2⟩ := hat j y hy
      rw [add_lit, cell_of_row w b _ arr blk.ty (0, 0) hw]
      simp [Array.getD_eq_getD_getElem?, Array.getElem?_eq_getElem h2]
    · obtain ⟨h1, h2⟩ := hat j y hy
      obtain ⟨c, hc, hcy⟩ := hat0 _ _ h1
      have h3 := hr _ c _ hc (Array.getElem?_eq_getElem h2)
      have h4 := hcy _ h3
      simpa [Array.getD_eq_getD_getElem?, Array.getElem?_eq_getElem h2] using h4
theorem lendMap (hs : Sim w0 n ro lam st a w) {key : Nat} {blk : Blk} {x : Value} (hk : st.heap key = some blk) (hx : R w ro lam (.mp key) x) : R0 w (roOwn ro lam) (.rset blk.cells) x := by
  obtain ⟨b, hl, rfl⟩ := hx.mp_inv
  rcases hs.heap key blk hk with ⟨hv, _⟩ | ⟨b', o, hv, hw, hso⟩ | ⟨b', m', arr, hl', hw, hsz, hle', hr⟩
  · rw [hl] at hv; cases hv
  · rw [hl] at hv
    simp only [Option.some.injEq, Prod.mk.injEq, true_and] at hv
    have : b' = b := by omega
    subst this
    exact .rset _ _ o (.inr ⟨key, .inr hl⟩) hw hso
  · rw [hl] at hl'; cases hl'
theorem lend0_sound (hs : Sim w0 n ro lam st a w) {v u : V} {x : Value} (h : lend0 st.heap v = some u) (hx : R w ro lam v x) : R0 w (roOwn ro lam) u x := by
  cases v with
  | sl key off len sz =>
    simp only [lend0] at h
    split at h
    · rename_i blk hk
      simp only [cond_eq_ite, Bool.and_eq_true, decide_eq_true_eq] at h
      split at h
      · rename_i hc
        simp only [Option.some.injEq] at h; subst h
        exact lendRow hs hk hc.1 (by simpa using hc.2) hx
      · cases h
    · cases h
  | mp key =>
    simp only [lend0] at h
    split at h
    · rename_i blk hk
      simp only [Option.some.injEq] at h; subst h
      exact lendMap hs hk hx
    · cases h
  | ptr _ _ => simp [lend0] at h
  | agg _ => simp [lend0] at h
  | tup _ => simp [lend0] at h
  | vptr _ _ _ => simp [lend0] at h
  | _ => simp only [lend0, Option.some.injEq] at h; subst h; exact R0_more (hx.pureC rfl)
theorem lend0L_at (h : Nat → Option Blk) : ∀ (vs us : List V), lend0L h vs = some us → us.length = vs.length ∧ ∀ (j : Nat) (u : V), us[j]? = some u → ∃ v, vs[j]? = some v ∧ lend0 h v = some u
  | [], us, e => by simp only [lend0L, Option.some.injEq] at e; subst e; simp
  | v :: vs, us, e => by
    unfold lend0L at e
    split at e
    · rename_i u us' h1 h2
      simp only [Option.some.injEq] at e; subst e
      obtain ⟨i1, i2⟩ := lend0L_at h vs us' h2
      refine ⟨by simp [i1], fun j x hj => ?_⟩
      cases j with
      | zero => simp at hj; subst hj; exact ⟨v, rfl, h1⟩
      | succ j => simpa using i2 j x (by simpa using hj)
    · cases e
theorem lendC_sound (hs : Sim w0 n ro lam st a w) {v u : V} {x : Value} (h : lendC st.heap v = some u) (hx : R w ro lam v x) : R0 w (roOwn ro lam) u x := by
  cases v with
  | sl key off len sz =>
    simp only [lendC] at h
    split at h
    · rename_i blk hk
      simp only [cond_eq_ite, Bool.and_eq_true, decide_eq_true_eq] at h
      split at h
      · rename_i hc
        simp only [Option.some.injEq] at h; subst h
        exact lendRow hs hk hc.1 (by simpa using hc.2) hx
      · split at h
        · rename_i hle
          simp only [Option.map_eq_some_iff] at h
          obtain ⟨cs, hcs, rfl⟩ := h
          obtain ⟨i1, i2⟩ := lend0L_at _ _ _ hcs
          refine lendRowC hs hk hle i1 (fun j u hu => ?_) hx
          obtain ⟨c, hc, hcu⟩ := i2 j u hu
          exact ⟨c, hc, fun y hy => lend0_sound hs hcu hy⟩
        · cases h
    · cases h
  | ptr key off =>
    simp only [lendC] at h
    split at h
    · rename_i blk hk
      simp only [cond_eq_ite] at h
      split at h
      · simp only [Option.map_eq_some_iff] at h
        obtain ⟨cs, hcs, rfl⟩ := h
        obtain ⟨i1, i2⟩ := lend0L_at _ _ _ hcs
        refine lendPtr hs hk i1 (fun j u hu => ?_) hx
        obtain ⟨c, hc, hcu⟩ := i2 j u hu
        exact ⟨c, hc, fun y hy => lend0_sound hs hcu hy⟩
      · rename_i hpure
        have hpure' : blk.cells.any ownC = false := by simpa using hpure
        simp only [Option.some.injEq] at h; subst h
        exact lendPtr hs hk rfl (fun j u hu => ⟨u, hu, fun y hy => R0_more (hy.pureC (any_at hpure' hu))⟩) hx
    · cases h
  | mp key =>
    simp only [lendC] at h
    split at h
    · rename_i blk hk
      simp only [Option.some.injEq] at h; subst h
      exact lendMap hs hk hx
    · cases h
  | agg _ => simp [lendC] at h
  | tup _ => simp [lendC] at h
  | vptr _ _ _ => simp [lendC] at h
  | _ => simp only [lendC, Option.some.injEq] at h; subst h; exact R0_more (hx.pureC rfl)

theorem lendL_at (h : Nat → Option Blk) : ∀ (vs us : List V), lendL h vs = some us → us.length = vs.length ∧ ∀ (j : Nat) (u : V), us[j]? = some u → ∃ v, vs[j]? = some v ∧ lendC h v = some u
  | [], us, e => by simp only [lendL, Option.some.injEq] at e; subst e; simp
  | v :: vs, us, e => by
    unfold lendL at e
    split at e
    · rename_i u us' h1 h2
      simp only [Option.some.injEq] at e; subst e
      obtain ⟨i1, i2⟩ := lendL_at h vs us' h2
      refine ⟨by simp [i1], fun j x hj => ?_⟩
      cases j with
      | zero => simp at hj; subst hj; exact ⟨v, rfl, h1⟩
      | succ j => simpa using i2 j x (by simpa using hj)
    · cases e
theorem lendA_sound (hs : Sim w0 n ro lam st a w) {v u : V} {x : Value} (h : lendA st.heap v = some u) (hx : R w ro lam v x) : R0 w (roOwn ro lam) u x := by
  cases v with
  | agg cs =>
    simp only [lendA, Option.map_eq_some_iff] at h
    obtain ⟨us, hus, rfl⟩ := h
    obtain ⟨arr, rfl, hl, hr⟩ := hx.agg_inv
    obtain ⟨i1, i2⟩ := lendL_at _ cs us hus
    refine .agg _ _ (by rw [hl, i1]) fun j c y hc hy => ?_
    obtain ⟨v, hv, hvc⟩ := i2 j c hc
    exact lendC_sound hs hvc (hr j v y hv hy)
  | _ => simp only [lendA] at h; exact lendC_sound hs h hx
theorem lendAs_at (h : Nat → Option Blk) : ∀ (vs us : List V), lendAs h vs = some us → us.length = vs.length ∧ ∀ (j : Nat) (u : V), us[j]? = some u → ∃ v, vs[j]? = some v ∧ lendA h v = some u
  | [], us, e => by simp only [lendAs, Option.some.injEq] at e; subst e; simp
  | v :: vs, us, e => by
    unfold lendAs at e
    split at e
    · rename_i u us' h1 h2
      simp only [Option.some.injEq] at e; subst e
      obtain ⟨i1, i2⟩ := lendAs_at h vs us' h2
      refine ⟨by simp [i1], fun j x hj => ?_⟩
      cases j with
      | zero => simp at hj; subst hj; exact ⟨v, rfl, h1⟩
      | succ j => simpa using i2 j x (by simpa using hj)
    · cases e

/-- No memory in it at all. -/
def flatC : V → Bool
  | .list .. | .sl .. | .ptr .. | .vptr .. | .mp _ | .rset _ | .rmap _ | .clo .. | .ifc .. | .as .. | .rp _ | .vrp .. | .agg _ | .tup _ => false
  | _ => true
def flatA : V → Bool
  | .agg cs => cs.all flatC
  | v => flatC v
def flatT : V → Bool
  | .tup vs => vs.all flatA
  | v => flatA v
theorem all_at {α : Type} {p : α → Bool} {l : List α} (h : l.all p = true) {j : Nat} {c : α} (hj : l[j]? = some c) : p c = true :=
  List.all_eq_true.1 h c (List.mem_of_getElem? hj)
theorem R0.flatC {w' : World} {ro' : Nat → Prop} {v : V} {x : Value} (h : R0 w ro v x) (hf : flatC v = true) : R0 w' ro' v x := by
  cases h with
  | undef => exact .undef
  | junk x => exact .junk x
  | val x => exact .val x
  | bool b => exact .bool b
  | int k m => exact .int k m
  | str s => exact .str s
  | nils => exact .nils
  | _ => simp [Pv.flatC] at hf
theorem R0.flatA {w' : World} {ro' : Nat → Prop} {v : V} {x : Value} (h : R0 w ro v x) (hf : flatA v = true) : R0 w' ro' v x := by
  cases v with
  | agg cs => cases h with | agg _ arr hl hr => exact .agg _ arr hl fun j c y hc hy => (hr j c y hc hy).flatC (all_at hf hc)
  | _ => exact h.flatC hf
theorem R0.flatT {w' : World} {ro' : Nat → Prop} {v : V} {x : Value} (h : R0 w ro v x) (hf : flatT v = true) : R0 w' ro' v x := by
  cases v with
  | tup cs => cases h with | tup _ arr hl hr => exact .tup _ arr hl fun j c y hc hy => (hr j c y hc hy).flatA (all_at hf hc)
  | agg cs => exact h.flatA hf
  | _ => exact h.flatC hf

/-- More memory that is only read. -/
theorem Sim.more (hs : Sim w0 n ro lam st a w) {ro' : Nat → Prop} (h1 : ∀ b, ro b → ro' b) (h2 : ∀ b, ro' b → b < w.heap.size) (h3 : ∀ key b m, lam key = some (some b, m) → ¬ ro' b) (h3m : ∀ key b, lam key = some (none, b + 1) → ¬ ro' b) : Sim w0 n ro' lam st a w := by
  have hm : ∀ {v x}, R w ro lam v x → R w ro' lam v x := fun h => h.mono (fun _ _ => rfl) h1 (fun _ _ h => h)
  refine ⟨hs.below, hs.dfr, hs.size, h2, fun t => hm (hs.env t), fun key blk hk => ?_, hs.dead, fun key b m hl => ⟨(hs.own key b m hl).1, (hs.own key b m hl).2.1, h3 key b m hl⟩, hs.inj, fun key b hl => ⟨⟨(hs.maps key b hl).1.1, (hs.maps key b hl).1.2.1, h3m key b hl⟩, (hs.maps key b hl).2⟩⟩
  rcases hs.heap key blk hk with hv | ⟨b, o, hl, hw, hso⟩ | ⟨b, m, arr, hl, hw, hsz, hle, hr⟩
  · exact .inl hv
  · exact .inr (.inl ⟨b, o, hl, hw, hso⟩)
  · exact .inr <| .inr ⟨b, m, arr, hl, hw, hsz, hle, fun j c x hc hx => hm (hr j c x hc hx)⟩

def callV (Γ : Tab) (h : Nat → Option Blk) (f : FuncId) (xs : List V) : Option V := match lendAs h xs with
  | some vs => (match Γ.at' f vs with
    | some v => bif xs.all (fun x => !ownA x) || flatT v || Γ.fr f then some v else none
    | none => none)
  | none => none

/-- How read-only memory may grow: by what is new. -/
def Ext (w0 : Base) (ro ro' : Nat → Prop) : Prop := (∀ b, ro b → ro' b) ∧ ∀ b, ro' b → ro b ∨ w0.Free b
theorem Ext.refl (w0 : Base) (ro : Nat → Prop) : Ext w0 ro ro := ⟨fun _ h => h, fun _ h => .inl h⟩
theorem Ext.trans {ro1 ro2 : Nat → Prop} (h : Ext w0 ro ro1) (k : Ext w0 ro1 ro2) : Ext w0 ro ro2 :=
  ⟨fun b hb => k.1 b (h.1 b hb), fun b hb => (k.2 b hb).elim (h.2 b) .inr⟩

theorem R0.extFlat {w' : World} {ro' : Nat → Prop} {v : V} {x : Value} (h : R0 w ro v x) (hf : extFlat v = true) : R0 w' ro' v x := by
  cases h with
  | bool b => exact .bool b
  | int k n => exact .int k n
  | str s => exact .str s
  | tup vs arr hl hr =>
    refine .tup vs arr hl fun j c x hc hx => ?_
    have hcf := List.all_eq_true.1 (by simpa [Pv.extFlat] using hf) c (List.mem_of_getElem? hc)
    have h1 := hr j c x hc hx
    cases h1 with
    | bool b => exact .bool b
    | int k n => exact .int k n
    | str s => exact .str s
    | _ => simp at hcf
  | _ => simp [Pv.extFlat] at hf
theorem callV_sound {Γ : Tab} (hΓ : TabOK P Γ) (hs : Sim w0 n ro lam st a w) {f : FuncId} {xs : List V} {v : V} {args : Array Value} (h : callV Γ st.heap f xs = some v) (hl : args.size = xs.length)
    (hr : ∀ (j : Nat) (c : V) (x : Value), xs[j]? = some c → args[j]? = some x → R w ro lam c x) :
    (callable P f = true ∧ Calls P f args w fun e w' => ∃ rv ro', e = .returned rv ∧ Ext w0 ro ro' ∧ Sim w0 n ro' lam st a w' ∧ R w' ro' lam v rv) ∨ (∃ x, (callFunc f args).run P w = .ok (.value x) w ∧ R w ro lam v x) := by
  unfold callV at h
  split at h
  · rename_i vs hvs
    split at h
    · rename_i v' hv'
      simp only [cond_eq_ite, Bool.or_eq_true] at h
      split at h
      · rename_i hc
        simp only [Option.some.injEq] at h; subst h
        obtain ⟨i1, i2⟩ := lendAs_at _ xs vs hvs
        rcases hΓ.1 f vs v' hv' with ⟨hcall, hp, hfr⟩ | ⟨hflat, hp⟩
        case inr =>
          obtain ⟨x, hx, hrx⟩ := hp w (roOwn ro lam) args (by rw [hl, i1]) fun j c x hc hx => by
            obtain ⟨u, hu, huc⟩ := i2 j c hc
            exact lendA_sound hs huc (hr j u x hu hx)
          exact .inr ⟨x, hx, .pure _ _ (hrx.extFlat hflat)⟩
        refine .inl ⟨hcall, ?_⟩
        by_cases hpure : xs.all (fun x => !ownA x) = true
        · -- nothing of the call's own is handed over
          have hsame : ∀ c, ownA c = false → lendA st.heap c = some c := by
            intro c hc
            cases c with
            | agg cs =>
              have : ∀ l : List V, l.any ownC = false → lendL st.heap l = some l := by
                intro l
                induction l with
                | nil => intro _; rfl
                | cons y ys ih =>
                  intro hy
                  simp only [List.any_cons, Bool.or_eq_false_iff] at hy
                  simp only [lendL, ih hy.2]
                  cases y <;> simp [ownC] at hy <;> rfl
              simp only [lendA, this cs hc, Option.map_some]
            | sl _ _ _ _ => simp [ownA, ownC] at hc
            | ptr _ _ => simp [ownA, ownC] at hc
            | vptr _ _ _ => simp [ownA, ownC] at hc
            | mp _ => simp [ownA, ownC] at hc
            | tup _ => simp [ownA, ownC] at hc
            | _ => rfl
          have hargs : ∀ (j : Nat) (c : V) (x : Value), vs[j]? = some c → args[j]? = some x → R0 w ro c x := fun j c x hc hx => by
            obtain ⟨u, hu, huc⟩ := i2 j c hc
            have hpu : ownA u = false := by simpa using all_at hpure hu
            rw [hsame u hpu] at huc
            simp only [Option.some.injEq] at huc
            subst huc
            exact (hr j u x hu hx).pureA hpu
          refine (hp w ro args hs.rolt (by rw [hl, i1]) hargs).mono fun e w' hh => ?_
          obtain ⟨rv, ro', rfl, hb, k1, k2, k3, hrv⟩ := hh
          have hs' := hs.world hb
          refine ⟨rv, ro', rfl, ⟨k1, fun b hb' => (k2 b hb').imp id (fun h => .inr (Nat.le_trans hs.below.size h))⟩, hs'.more k1 k3 (fun key b m hlm hro => ?_) (fun key b hlm hro => by
            obtain ⟨_, o2, o3⟩ := (hs.maps key b hlm).1
            rcases k2 b hro with h | h
            · exact o3 h
            · omega), .pure _ _ hrv⟩
          obtain ⟨_, o2, o3⟩ := hs.own key b m hlm
          rcases k2 b hro with h | h
          · exact o3 h
          · omega
        · skip
          have hrolt : ∀ b, roOwn ro lam b → b < w.heap.size := fun b hb => by
            rcases hb with h | ⟨key, h⟩
            · exact hs.rolt b h
            · exact (hs.ob h).2.1
          have hargs : ∀ (j : Nat) (c : V) (x : Value), vs[j]? = some c → args[j]? = some x → R0 w (roOwn ro lam) c x := fun j c x hc hx => by
            obtain ⟨u, hu, huc⟩ := i2 j c hc
            exact lendA_sound hs huc (hr j u x hu hx)
          rcases hc with (h | hflat) | hf
          · exact absurd h hpure
          · refine (hp w (roOwn ro lam) args hrolt (by rw [hl, i1]) hargs).mono fun e w' hh => ?_
            obtain ⟨rv, ro', rfl, hb, k1, k2, k3, hrv⟩ := hh
            exact ⟨rv, ro, rfl, Ext.refl _ _, hs.world hb, .pure _ _ (hrv.flatT hflat)⟩
          · refine (hfr hf w (roOwn ro lam) args hrolt (by rw [hl, i1]) hargs).mono fun e w' hh => ?_
            obtain ⟨rv, rfl, hb, hrv⟩ := hh
            have hs' := hs.world hb
            refine ⟨rv, fun b => ro b ∨ (w.heap.size ≤ b ∧ b < w'.heap.size), rfl, ⟨fun b h => .inl h, fun b h => h.imp id fun h => .inr (Nat.le_trans hs.below.size h.1)⟩, hs'.more (fun b h => .inl h) (fun b h => ?_) (fun key b m hlm hro => ?_) (fun key b hlm hro => by
              obtain ⟨_, o2, o3⟩ := (hs.maps key b hlm).1
              rcases hro with h | h
              · exact o3 h
              · omega), .pure _ _ (hrv.mono (fun _ _ => rfl) (fun b h => .inr h))⟩
            · rcases h with h | h
              · exact Nat.lt_of_lt_of_le (hs.rolt b h) hb.size
              · exact h.2
            · obtain ⟨_, o2, o3⟩ := hs.own key b m hlm
              rcases hro with h | h
              · exact o3 h
              · omega
      · cases h
    · cases h
  · cases h

/-! ### what is new -/
def ownP (lam : Lam) (b : Nat) : Prop := ∃ key m, lam key = some (some b, m)
def rowFlat : V → Bool
  | .list _ xs => xs.all (fun c => c.all flatC)
  | v => flatC v
def frC (u v : V) : Bool := match u with
  | .sl .. => rowFlat v
  | _ => flatC v
def frL : List V → List V → Bool
  | [], [] => true
  | u :: us, v :: vs => frC u v && frL us vs
  | _, _ => false
def frA (u v : V) : Bool := match u, v with
  | .agg cs, .agg vs => frL cs vs
  | .agg _, _ => false
  | u, v => frC u v
def frAs : List V → List V → Bool
  | [], [] => true
  | u :: us, v :: vs => frA u v && frAs us vs
  | _, _ => false
theorem frC_sound (hs : Sim w0 n ro lam st a w) {u v : V} {x : Value} (h : lendC st.heap u = some v) (hx : R w ro lam u x) (hf : frC u v = true) : R0 w (ownP lam) v x := by
  have h0 := lendC_sound hs h hx
  have hne : (∀ key off len sz, u ≠ .sl key off len sz) → flatC v = true := by
    intro hne
    unfold frC at hf
    split at hf
    · rename_i key off len sz; exact absurd rfl (hne key off len sz)
    · exact hf
  cases u with
  | sl key off len sz =>
    have hrf : rowFlat v = true := hf
    rcases hx.sl_inv with ⟨hv, rfl, rfl, rfl⟩ | ⟨b, m, cap, hl, _, hlc, _, rfl⟩
    · cases h0 with
      | list0 => exact .list0 _ _ _
      | junk => exact .junk _
      | val => exact .val _
      | nils => exact .nils
      | as => simp [rowFlat, flatC] at hrf
    · cases h0 with
      | list0 => exact .list0 _ _ _
      | junk => exact .junk _
      | val => exact .val _
      | as => simp [rowFlat, flatC] at hrf
      | list sz xs a cap g hro hsz hcap hg hr =>
        refine .list sz xs ⟨b, off, none⟩ cap g ⟨key, m, hl⟩ hsz hcap hg (fun i j c y hi hj => (hr i j c y hi hj).flatC ?_)
        have hrf' : xs.all (fun c => c.all Pv.flatC) = true := hrf
        exact all_at (all_at hrf' hi) hj
  | _ => exact h0.flatC (hne (by intros; simp))
theorem frL_sound (hs : Sim w0 n ro lam st a w) : ∀ (us vs : List V), lendL st.heap us = some vs → frL us vs = true → ∀ (xs : List Value), xs.length = us.length → (∀ (j : Nat) (c : V) (x : Value), us[j]? = some c → xs[j]? = some x → R w ro lam c x) →
    vs.length = us.length ∧ ∀ (j : Nat) (c : V) (x : Value), vs[j]? = some c → xs[j]? = some x → R0 w (ownP lam) c x
  | [], vs, h, hf, xs, hl, hr => by
    simp only [lendL, Option.some.injEq] at h; subst h; simp
  | u :: us, vs, h, hf, xs, hl, hr => by
    unfold lendL at h
    split at h
    · rename_i v vs' h1 h2
      simp only [Option.some.injEq] at h; subst h
      simp only [frL, Bool.and_eq_true] at hf
      cases xs with
      | nil => simp at hl
      | cons x xs =>
        obtain ⟨i1, i2⟩ := frL_sound hs us vs' h2 hf.2 xs (by simpa using hl) (fun j c y hc hy => hr (j + 1) c y (by simpa using hc) (by simpa using hy))
        refine ⟨by simp [i1], fun j c y hc hy => ?_⟩
        cases j with
        | zero => simp at hc hy; subst hc; subst hy; exact frC_sound hs h1 (hr 0 u x rfl rfl) hf.1
        | succ j => exact i2 j c y (by simpa using hc) (by simpa using hy)
    · cases h
theorem frA_sound (hs : Sim w0 n ro lam st a w) {u v : V} {x : Value} (h : lendA st.heap u = some v) (hx : R w ro lam u x) (hf : frA u v = true) : R0 w (ownP lam) v x := by
  cases u with
  | agg cs =>
    simp only [lendA, Option.map_eq_some_iff] at h
    obtain ⟨vs, hvs, rfl⟩ := h
    have hx' : ∃ arr : Array Value, x = .agg arr ∧ arr.size = cs.length ∧ ∀ (j : Nat) (c : V) (y : Value), cs[j]? = some c → arr[j]? = some y → R w ro lam c y := by
      cases hx with
      | pure _ _ h0 => cases h0 with | agg _ arr hl hr => exact ⟨arr, rfl, hl, fun j c y hc hy => .pure _ _ (hr j c y hc hy)⟩
      | agg _ arr hl hr => exact ⟨arr, rfl, hl, hr⟩
    obtain ⟨arr, rfl, hl, hr⟩ := hx'
    obtain ⟨i1, i2⟩ := frL_sound hs cs vs hvs hf arr.toList (by simpa using hl) (fun j c y hc hy => hr j c y hc (by simpa using hy))
    exact .agg vs arr (by omega) fun j c y hc hy => i2 j c y hc (by simpa using hy)
  | _ => exact frC_sound (u := _) hs (by simpa only [lendA] using h) hx hf
theorem frAs_at (hs : Sim w0 n ro lam st a w) : ∀ (us vs : List V), lendAs st.heap us = some vs → frAs us vs = true → ∀ (xs : List Value), xs.length = us.length → (∀ (j : Nat) (c : V) (x : Value), us[j]? = some c → xs[j]? = some x → R w ro lam c x) →
    ∀ (j : Nat) (c : V) (x : Value), vs[j]? = some c → xs[j]? = some x → R0 w (ownP lam) c x
  | [], vs, h, hf, xs, hl, hr => by simp only [lendAs, Option.some.injEq] at h; subst h; simp
  | u :: us, vs, h, hf, xs, hl, hr => by
    unfold lendAs at h
    split at h
    · rename_i v vs' h1 h2
      simp only [Option.some.injEq] at h; subst h
      simp only [frAs, Bool.and_eq_true] at hf
      cases xs with
      | nil => simp at hl
      | cons x xs =>
        have i2 := frAs_at hs us vs' h2 hf.2 xs (by simpa using hl) (fun j c y hc hy => hr (j + 1) c y (by simpa using hc) (by simpa using hy))
        intro j c y hc hy
        cases j with
        | zero => simp at hc hy; subst hc; subst hy; exact frA_sound hs h1 (hr 0 u x rfl rfl) hf.1
        | succ j => exact i2 j c y (by simpa using hc) (by simpa using hy)
    · cases h
end
end Go.Pv

/-! ### sets of strings: maps all of whose values are true -/
namespace Go.Pv
open Go.RowKit
section
variable {w0 : Base} {n : Nat} {ro : Nat → Prop} {lam : Lam} {st : St} {a : Act} {w : World} {P : Program}
/-- Is a type a map from strings to bool? -/
def mtd (P : Program) (t : TypeId) : Bool := match P.underlying t with
  | some (.map k e) => (match P.underlying k, P.info? e with
    | some .string, some i => (match i.zero with
      | some (.bool false) => true
      | _ => false)
    | _, _ => false)
  | _ => false
theorem mtd_some {t : TypeId} (h : mtd P t = true) : ∃ k e i, P.underlying t = some (.map k e) ∧ P.underlying k = some .string ∧ P.info? e = some i ∧ i.zero = some (.bool false) := by
  unfold mtd at h
  split at h
  · rename_i k e hu
    split at h
    · rename_i i h1 h2
      split at h
      · rename_i h3; exact ⟨k, e, i, hu, h1, h2, h3⟩
      · cases h
    · cases h
  · cases h
theorem ba_eq {a b : ByteArray} : (a == b) = true ↔ a = b := by
  cases a with | mk x => cases b with | mk y =>
  constructor
  · intro h
    have h' : (x == y) = true := h
    rw [eq_of_beq h']
  · intro h; injection h with h; subst h; exact (beq_self_eq_true x)
def findS : List V → ByteArray → Option Bool
  | [], _ => some false
  | .str b :: ks, s => if s == b then some true else findS ks s
  | _ :: _, _ => none
theorem findS_strs (L : List ByteArray) (s : ByteArray) : findS (L.map .str) s = some (L.any fun b => s == b) := by
  induction L with
  | nil => rfl
  | cons b L ih =>
    simp only [List.map_cons, findS, List.any_cons]
    cases h : s == b
    · simp [ih]
    · simp
theorem findNow_sound : ∀ (ks : List V) (s : ByteArray) (es : List MapEntry) (i : Nat) (b : Bool), findS ks s = some b → es.length = ks.length → (∀ (j : Nat) (k : V) (e : MapEntry), ks[j]? = some k → es[j]? = some e → e.val = .bool true ∧ KeyV k e.key) →
    (b = false ∧ Instr.findNow .string (.string s) es i = some none) ∨ (b = true ∧ ∃ j e, es[j]? = some e ∧ e.key = .string s ∧ Instr.findNow .string (.string s) es i = some (some (i + j, .bool true)))
  | [], s, [], i, b, h, _, _ => by simp only [findS, Option.some.injEq] at h; exact .inl ⟨h.symm, rfl⟩
  | [], s, _ :: _, i, b, h, hl, _ => by simp at hl
  | k :: ks, s, [], i, b, h, hl, _ => by simp at hl
  | k :: ks, s, e :: es, i, b, h, hl, hr => by
    have h0 := hr 0 k e rfl rfl
    cases k with
    | str b' =>
      have hk : e.key = .string b' := h0.2
      have hst : Instr.sameNow .string (.string s) e.key = some (s == b') := by rw [hk]; rfl
      simp only [findS] at h
      cases he : s == b' with
      | true =>
        rw [he, if_pos rfl] at h
        simp only [Option.some.injEq] at h; subst h
        refine .inr ⟨rfl, 0, e, rfl, ?_, ?_⟩
        · rw [hk, ba_eq.1 he]
        · simp only [Instr.findNow, hst, he, h0.1]; rfl
      | false =>
        rw [he, if_neg (by simp)] at h
        rcases findNow_sound ks s es (i + 1) b h (by simpa using hl) (fun j k e hk he => hr (j + 1) k e (by simpa using hk) (by simpa using he)) with ⟨h2, h3⟩ | ⟨h2, j, e2, h4, h5, h6⟩
        · exact .inl ⟨h2, by simp only [Instr.findNow, hst, he]; exact h3⟩
        · refine .inr ⟨h2, j + 1, e2, by simpa using h4, h5, ?_⟩
          simp only [Instr.findNow, hst, he]
          rw [h6]; congr 3; omega
    | _ => simp [findS] at h
/-- A map of the call's own turns. -/
theorem Sim.setMap (hs : Sim w0 n ro lam st a w) {key b : Nat} {blk : Blk} {ks : List V} {o : Obj} {w' : World} (hk : st.heap key = some blk) (hl : lam key = some (none, b + 1)) (ho : SetR ks o)
    (e1 : w'.os = w.os) (e2 : w'.tape = w.tape) (e3 : w'.output = w.output) (e4 : w'.heap.size = w.heap.size) (e5 : w'.heap[b]? = some o) (e6 : ∀ k, k ≠ b → w'.heap[k]? = w.heap[k]?) :
    Sim w0 n ro lam { st with heap := upd st.heap key (some ⟨blk.ty, ks⟩) } a w' := by
  obtain ⟨⟨hb1, hb2, hb3⟩, hinj⟩ := hs.maps key b hl
  have hro : ∀ c, ro c → w'.heap[c]? = w.heap[c]? := fun c hc => e6 c (by rintro rfl; exact hb3 hc)
  have hm : ∀ {v x}, R w ro lam v x → R w' ro lam v x := fun hr => hr.mono hro (fun _ hb => hb) (fun _ _ hk => hk)
  refine ⟨hs.below.but e1 e2 e3 (by omega) (fun k _ hf => e6 k (by rintro rfl; exact hf hb1)), hs.dfr, hs.size, fun c hc => by rw [e4]; exact hs.rolt c hc, fun t => hm (hs.env t), fun k blk' hk' => ?_, fun k hk' => ?_,
    fun k b' m h => by rw [e4]; exact hs.own k b' m h, hs.inj, fun k b' h => by rw [e4]; exact hs.maps k b' h⟩
  · by_cases e : k = key
    · subst e
      simp only [upd_same, Option.some.injEq] at hk'
      subst hk'
      exact .inr (.inl ⟨b, o, hl, e5, ho⟩)
    · simp only [upd_ne _ _ e] at hk'
      rcases hs.heap k blk' hk' with hv | ⟨b', o', hl', hw, hso⟩ | ⟨b', m, arr, hl', hw, hsz, hle, hr⟩
      · exact .inl hv
      · refine .inr (.inl ⟨b', o', hl', ?_, hso⟩)
        rw [e6]; exact hw
        rintro rfl; exact e (hinj _ hl')
      · refine .inr (.inr ⟨b', m, arr, hl', ?_, hsz, hle, fun j c x hc hx => hm (hr j c x hc hx)⟩)
        rw [e6]; exact hw
        rintro rfl
        rcases hs.heap key blk hk with ⟨hv, _⟩ | ⟨b'', o', hv, hw', hso⟩ | ⟨b'', m'', arr'', hv, _⟩
        · rw [hl] at hv; cases hv
        · rw [hl] at hv
          simp only [Option.some.injEq, Prod.mk.injEq, true_and] at hv
          have : b'' = b' := by omega
          subst this
          exact hs.notMap hl' hw' hso
        · rw [hl] at hv; cases hv
  · by_cases e : k = key
    · subst e; simp only [upd_same] at hk'; cases hk'
    · simp only [upd_ne _ _ e] at hk'; exact hs.dead k hk'
/-- A new map. -/
theorem Sim.allocMap (h : Sim w0 n ro lam st a w) {d : Nat} {ty : TypeId} (hd : st.heap d = none) :
    Sim w0 n ro (upd lam d (some (none, w.heap.size + 1))) { st with heap := upd st.heap d (some ⟨ty, []⟩) } a (w.alloc (.map #[] 0)) := by
  have hb : Below w.heap.size w (w.alloc (.map #[] 0)) := (Below.refl _ _).alloc (Nat.le_refl _) _
  have h' := h.world hb
  have hdl : lam d = none := h.dead d hd
  have hlam : ∀ k y, lam k = some y → upd lam d (some (none, w.heap.size + 1)) k = some y := fun k y hk => by
    rw [upd_ne]; exact hk
    rintro rfl; rw [hdl] at hk; cases hk
  have hm : ∀ {v x}, R (w.alloc (.map #[] 0)) ro lam v x → R (w.alloc (.map #[] 0)) ro (upd lam d (some (none, w.heap.size + 1))) v x :=
    fun hr => hr.mono (fun _ _ => rfl) (fun _ hb => hb) hlam
  have hold : ∀ k b m, upd lam d (some (none, w.heap.size + 1)) k = some (some b, m) → lam k = some (some b, m) := fun k b m hk => by
    by_cases e : k = d
    · subst e; rw [upd_same] at hk; cases hk
    · rwa [upd_ne _ _ e] at hk
  have holdm : ∀ k b, upd lam d (some (none, w.heap.size + 1)) k = some (none, b + 1) → (k = d ∧ b = w.heap.size) ∨ (k ≠ d ∧ lam k = some (none, b + 1)) := fun k b hk => by
    by_cases e : k = d
    · subst e; rw [upd_same] at hk; simp only [Option.some.injEq, Prod.mk.injEq, true_and] at hk; exact .inl ⟨rfl, by omega⟩
    · rw [upd_ne _ _ e] at hk; exact .inr ⟨e, hk⟩
  refine ⟨h'.below, h'.dfr, h'.size, h'.rolt, fun t => hm (h'.env t), fun key blk hk => ?_, fun key hk => ?_, fun key b m hl => h'.own key b m (hold key b m hl), fun k1 k2 b m1 m2 e1 e2 => h'.inj k1 k2 b m1 m2 (hold _ _ _ e1) (hold _ _ _ e2), fun key b hl => ?_⟩
  · by_cases e : key = d
    · subst e
      simp only [upd_same, Option.some.injEq] at hk
      subst hk
      exact .inr (.inl ⟨w.heap.size, _, upd_same _ _ _, heap_alloc_new w _, #[], 0, rfl, rfl, by simp⟩)
    · simp only [upd_ne _ _ e] at hk
      rcases h'.heap key blk hk with ⟨hv, hc⟩ | ⟨b, o, hl, hw, hs⟩ | ⟨b, m, arr', hl, hw, hs, hle', hr'⟩
      · exact .inl ⟨hlam _ _ hv, hc⟩
      · exact .inr (.inl ⟨b, o, hlam _ _ hl, hw, hs⟩)
      · exact .inr (.inr ⟨b, m, arr', hlam _ _ hl, hw, hs, hle', fun j c x hc hx => hm (hr' j c x hc hx)⟩)
  · by_cases e : key = d
    · subst e; simp only [upd_same] at hk; cases hk
    · simp only [upd_ne _ _ e] at hk ⊢; exact h.dead key hk
  · rcases holdm key b hl with ⟨rfl, rfl⟩ | ⟨hne, hl'⟩
    · refine ⟨⟨.inr h.below.size, by simp, fun hr => by have := h.rolt _ hr; omega⟩, fun key' hk' => ?_⟩
      rcases holdm key' _ hk' with ⟨e, _⟩ | ⟨_, hl2⟩
      · exact e
      · have := (h.maps key' _ hl2).1.2.1; omega
    · refine ⟨(h'.maps key b hl').1, fun key' hk' => ?_⟩
      rcases holdm key' _ hk' with ⟨rfl, rfl⟩ | ⟨_, hl2⟩
      · have := (h.maps key _ hl').1.2.1; omega
      · exact (h'.maps key b hl').2 key' hl2
theorem run_checkKeyS {kt : TypeId} {s : ByteArray} (h2 : P.underlying kt = some .string) (em : Bool) (m : Nat) : (Instr.checkKey em (m + 1) kt (.string s)).run P w = .ok () w := by
  unfold Instr.checkKey
  simp only [Sem.run_bind, run_underlying h2, Result.andThen_ok]
  rfl
/-! ### sets of pairs of numbers -/
def nodK (c : Int × Int) : V := .val (.agg #[.int .i64 c.1, .int .i64 c.2])
def unK : V → Option (Int × Int)
  | .val (.agg ⟨[.int .i64 a, .int .i64 b]⟩) => some (a, b)
  | _ => none
theorem unK_some {k : V} {c : Int × Int} (h : unK k = some c) : k = nodK c := by
  unfold unK at h
  split at h
  · cases h; rfl
  · cases h
def findN : List V → Int → Int → Option Bool
  | [], _, _ => some false
  | k :: ks, a, b => match unK k with
    | some c => if (ieq a c.1 && ieq b c.2) = true then some true else findN ks a b
    | none => none
def memN (L : List (Int × Int)) (a b : Int) : Bool := L.any fun c => ieq a c.1 && ieq b c.2
theorem findN_nodes (L : List (Int × Int)) (a b : Int) : findN (L.map nodK) a b = some (memN L a b) := by
  induction L with
  | nil => rfl
  | cons c L ih =>
    have : unK (nodK c) = some c := rfl
    simp only [List.map_cons, findN, this, memN, List.any_cons]
    cases h : (ieq a c.1 && ieq b c.2)
    · simp only [Bool.false_or]; rw [if_neg (by simp)]; exact ih
    · simp
/-- Is a type a map from a struct of two numbers to bool? -/
def mtdN (P : Program) (t : TypeId) : Bool := match P.underlying t with
  | some (.map k e) => (match P.underlying k, P.info? e with
    | some (.struct ⟨[f, g]⟩), some i => (match P.underlying f.type, P.underlying g.type, partD P f.type, partD P g.type, i.zero with
      | some (.int _), some (.int _), some (1, false), some (1, false), some (.bool false) => f.name != "_" && (g.name != "_" && (f.offset == 0 && (g.offset == 1 && !P.stoodInHeld k)))
      | _, _, _, _, _ => false)
    | _, _ => false)
  | _ => false
theorem mtdN_some {t : TypeId} (h : mtdN P t = true) : ∃ k e i f g kf kg, P.underlying t = some (.map k e) ∧ P.underlying k = some (.struct #[f, g]) ∧ P.info? e = some i ∧ i.zero = some (.bool false) ∧ P.underlying f.type = some (.int kf) ∧ P.underlying g.type = some (.int kg) ∧
    partD P f.type = some (1, false) ∧ partD P g.type = some (1, false) ∧ f.name ≠ "_" ∧ g.name ≠ "_" ∧ f.offset = 0 ∧ g.offset = 1 ∧ P.stoodInHeld k = false := by
  unfold mtdN at h
  split at h
  · rename_i k e hu
    split at h
    · rename_i f g i h1 h2
      split at h
      · rename_i kf kg h3 h4 h5 h6 h7
        simp only [Bool.and_eq_true, bne_iff_ne, ne_eq, beq_iff_eq, Bool.not_eq_true'] at h
        exact ⟨k, e, i, f, g, kf, kg, hu, h1, h2, h7, h3, h4, h5, h6, h.1, h.2.1, h.2.2.1, h.2.2.2.1, h.2.2.2.2⟩
      · cases h
    · cases h
  · cases h
def ndV (a b : Int) : Value := .agg #[.int .i64 a, .int .i64 b]
theorem ndV_R {w : World} {ro : Nat → Prop} {lam : Lam} (a b : Int) : R w ro lam (.agg [.int .i64 a, .int .i64 b]) (ndV a b) := by
  refine .agg _ _ rfl fun j c x hc hx => ?_
  match j with
  | 0 => simp at hc hx; subst hc; subst hx; exact .pure _ _ (.int _ _)
  | 1 => simp at hc hx; subst hc; subst hx; exact .pure _ _ (.int _ _)
  | j + 2 => simp at hc
theorem ndV_of {w : World} {ro : Nat → Prop} {lam : Lam} {a b : Int} {x : Value} (h : R w ro lam (.agg [.int .i64 a, .int .i64 b]) x) : x = ndV a b := by
  obtain ⟨arr, rfl, hl, hr⟩ := h.agg_inv
  have hl' : arr.size = 2 := hl
  have e0 : arr[0] = .int .i64 a := (hr 0 _ _ rfl (Array.getElem?_eq_getElem (by omega))).int_inv
  have e1 : arr[1] = .int .i64 b := (hr 1 _ _ rfl (Array.getElem?_eq_getElem (by omega))).int_inv
  unfold ndV
  congr 1
  apply Array.ext
  · simpa using hl'
  · intro i h1 h2
    match i with
    | 0 => simpa using e0
    | 1 => simpa using e1
    | i + 2 => simp at h2; omega
theorem run_equalN {k : TypeId} {f g : Field} {kf kg : IntKind} (h2 : P.underlying k = some (.struct #[f, g])) (h5 : P.underlying f.type = some (.int kf)) (h6 : P.underlying g.type = some (.int kg)) (h7 : partD P f.type = some (1, false)) (h8 : partD P g.type = some (1, false))
    (h9 : f.name ≠ "_") (h10 : g.name ≠ "_") (h11 : f.offset = 0) (h12 : g.offset = 1) (h13 : P.stoodInHeld k = false) (a b c d : Int) : (Op.equal k (ndV a b) (ndV c d)).run P w = .ok (ieq a c && ieq b d) w := by
  have he : eqV P 2 k (.agg [.int .i64 a, .int .i64 b]) (.agg [.int .i64 c, .int .i64 d]) = some (ieq a c && ieq b d) := by
    have n1 : (f.name != "_") = true := by simpa using h9
    have n2 : (g.name != "_") = true := by simpa using h10
    simp [eqV, h2, h13, eqF, n1, n2, h7, h8, h11, h12, partV, h5, h6, ieq]
  exact eqV_sound (P := P) (w := w) (ro := fun _ => False) (lam := fun _ => none) 9998 2 k _ _ _ _ _ he (ndV_R a b) (ndV_R c d) w
theorem run_partN {t : TypeId} {xs : Array Value} {off : Nat} {x : Value} (h7 : partD P t = some (1, false)) (hx : xs[off]? = some x) : (part t xs off).run P w = .ok x w := by
  obtain ⟨i, d, h1, h2, h3, h4⟩ := partD_some h7
  simp [part, run_isAgg h2, h4, hx]
theorem run_checkKeyI {kt : TypeId} {kf : IntKind} {x : Value} (h2 : P.underlying kt = some (.int kf)) (em : Bool) (m : Nat) : (Instr.checkKey em (m + 1) kt x).run P w = .ok () w := by
  unfold Instr.checkKey
  simp only [Sem.run_bind, run_underlying h2, Result.andThen_ok]
  rfl
theorem run_checkKeyN {k : TypeId} {f g : Field} {kf kg : IntKind} (h2 : P.underlying k = some (.struct #[f, g])) (h5 : P.underlying f.type = some (.int kf)) (h6 : P.underlying g.type = some (.int kg)) (h7 : partD P f.type = some (1, false)) (h8 : partD P g.type = some (1, false))
    (h9 : f.name ≠ "_") (h10 : g.name ≠ "_") (h11 : f.offset = 0) (h12 : g.offset = 1) (a b : Int) (em : Bool) : (Instr.checkKey em 10000 k (ndV a b)).run P w = .ok () w := by
  have p1 : (part f.type #[.int .i64 a, .int .i64 b] 0).run P w = .ok (.int .i64 a) w := run_partN h7 rfl
  have p2 : (part g.type #[.int .i64 a, .int .i64 b] 1).run P w = .ok (.int .i64 b) w := run_partN h8 rfl
  have c1 : (Instr.checkKey em 9999 f.type (.int .i64 a)).run P w = .ok () w := run_checkKeyI h5 em 9998
  have c2 : (Instr.checkKey em 9999 g.type (.int .i64 b)).run P w = .ok () w := run_checkKeyI h6 em 9998
  unfold Instr.checkKey ndV
  simp [run_underlying h2, h9, h10, h11, h12, p1, p2, c1, c2]
theorem findAsk_sound {k : TypeId} (heq : ∀ a b c d : Int, (Op.equal k (ndV a b) (ndV c d)).run P w = .ok (ieq a c && ieq b d) w) : ∀ (ks : List V) (a b : Int) (es : List MapEntry) (i : Nat) (r : Bool), findN ks a b = some r → es.length = ks.length → (∀ (j : Nat) (k : V) (e : MapEntry), ks[j]? = some k → es[j]? = some e → e.val = .bool true ∧ KeyV k e.key) →
    (r = false ∧ (Instr.findAsking k (ndV a b) es i).run P w = .ok none w) ∨ (r = true ∧ ∃ j e, es[j]? = some e ∧ e.key = ndV a b ∧ (Instr.findAsking k (ndV a b) es i).run P w = .ok (some (i + j, .bool true)) w)
  | [], a, b, [], i, r, h, _, _ => by simp only [findN, Option.some.injEq] at h; exact .inl ⟨h.symm, rfl⟩
  | [], a, b, _ :: _, i, r, h, hl, _ => by simp at hl
  | k :: ks, a, b, [], i, r, h, hl, _ => by simp at hl
  | k :: ks, a, b, e :: es, i, r, h, hl, hr => by
    have h0 := hr 0 k e rfl rfl
    simp only [findN] at h
    split at h
    · rename_i c hc
      have hk := unK_some hc
      subst hk
      have hkey : e.key = ndV c.1 c.2 := h0.2
      have hst := heq a b c.1 c.2
      rw [← hkey] at hst
      cases he : (ieq a c.1 && ieq b c.2) with
      | true =>
        rw [he, if_pos rfl] at h
        simp only [Option.some.injEq] at h; subst h
        refine .inr ⟨rfl, 0, e, rfl, ?_, ?_⟩
        · simp only [Bool.and_eq_true, ieq, beq_iff_eq] at he
          rw [hkey, he.1, he.2]
        · rw [he] at hst
          simp [Instr.findAsking, hst, h0.1]
      | false =>
        rw [he, if_neg (by simp)] at h
        rw [he] at hst
        rcases findAsk_sound heq ks a b es (i + 1) r h (by simpa using hl) (fun j k e hk he => hr (j + 1) k e (by simpa using hk) (by simpa using he)) with ⟨h2, h3⟩ | ⟨h2, j, e2, h4, h5, h6⟩
        · exact .inl ⟨h2, by simp [Instr.findAsking, hst, h3]⟩
        · refine .inr ⟨h2, j + 1, e2, by simpa using h4, h5, ?_⟩
          simp only [Instr.findAsking, Sem.run_bind, hst, Result.andThen_ok]
          rw [if_neg (by simp), h6, show i + 1 + j = i + (j + 1) from by omega]
    · cases h
theorem findNow_struct {fs : Array Field} {k : Value} : ∀ (es : List MapEntry) (i : Nat), es ≠ [] → Instr.findNow (.struct fs) k es i = none
  | [], _, h => (h rfl).elim
  | e :: es, i, _ => by simp [Instr.findNow, Instr.sameNow]
theorem findKey_sound {kt : TypeId} {fs : Array Field} (hu : P.underlying kt = some (.struct fs)) (heq : ∀ a b c d : Int, (Op.equal kt (ndV a b) (ndV c d)).run P w = .ok (ieq a c && ieq b d) w) {ks : List V} {a b : Int} {es : List MapEntry} {r : Bool} (h : findN ks a b = some r) (hl : es.length = ks.length) (hr : ∀ (j : Nat) (k : V) (e : MapEntry), ks[j]? = some k → es[j]? = some e → e.val = .bool true ∧ KeyV k e.key) :
    (r = false ∧ (Instr.findKey kt (ndV a b) es).run P w = .ok none w) ∨ (r = true ∧ ∃ j e, es[j]? = some e ∧ e.key = ndV a b ∧ (Instr.findKey kt (ndV a b) es).run P w = .ok (some (j, .bool true)) w) := by
  by_cases he : es = []
  · subst he
    have : ks = [] := List.eq_nil_of_length_eq_zero (by simpa using hl.symm)
    subst this
    simp only [findN, Option.some.injEq] at h
    exact .inl ⟨h.symm, by simp [Instr.findKey, run_underlying hu, Instr.findNow]⟩
  · have hn := findNow_struct (fs := fs) (k := ndV a b) es 0 he
    rcases findAsk_sound heq ks a b es 0 r h hl hr with ⟨h2, h3⟩ | ⟨h2, j, e2, h4, h5, h6⟩
    · exact .inl ⟨h2, by simp [Instr.findKey, run_underlying hu, hn, h3]⟩
    · refine .inr ⟨h2, j, e2, h4, h5, ?_⟩
      simp only [Nat.zero_add] at h6
      simp [Instr.findKey, run_underlying hu, hn, h6]
def lookV (P : Program) (h : Nat → Option Blk) (t : TypeId) (x k : V) : Option V := bif mtd P t then (match x, k with
  | .mp key, .str s => (match h key with
    | some blk => (findS blk.cells s).map .bool
    | none => none)
  | .rset ks, .str s => (findS ks s).map .bool
  | _, _ => none) else bif mtdN P t then (match x, k with
  | .mp key, .agg [.int .i64 a, .int .i64 b] => (match h key with
    | some blk => (findN blk.cells a b).map .bool
    | none => none)
  | .rset ks, .agg [.int .i64 a, .int .i64 b] => (findN ks a b).map .bool
  | .val (.map none), .agg [.int .i64 _, .int .i64 _] => some (.bool false)
  | _, _ => none) else none
theorem lookS {t : TypeId} {b : Nat} {o : Obj} {ks : List V} {s : ByteArray} {bb : Bool} (hmt : mtd P t = true) (hw : w.heap[b]? = some o) (ho : SetR ks o) (hf : findS ks s = some bb) : (Instr.lookup t (.map (some b)) (.string s) false).run P w = .ok (.bool bb) w := by
  obtain ⟨kt, et, i, h1, h2, h3, h4⟩ := mtd_some hmt
  obtain ⟨ents, clk, rfl, hsz, hr⟩ := ho
  have hobj : (getObj b).run P w = .ok (.map ents clk) w := by simp [getObj, Sem.run, hw]
  have hck : ∀ em, (Instr.checkKey em 10000 kt (.string s)).run P w = .ok () w := fun em => run_checkKeyS h2 em 9999
  rcases findNow_sound ks s ents.toList 0 bb hf (by simpa using hsz) (fun j k e hk he => hr j k e hk (by simpa using he)) with ⟨rfl, hn⟩ | ⟨rfl, j, e, he, hek, hn⟩
  · simp [Instr.lookup, run_underlying h1, hobj, hck, Instr.findKey, run_underlying h2, hn, zeroValue, typeInfo, h3, h4]
  · simp [Instr.lookup, run_underlying h1, hobj, hck, Instr.findKey, run_underlying h2, hn]
theorem lookN {t : TypeId} {bo : Nat} {o : Obj} {ks : List V} {a b : Int} {bb : Bool} (hmt : mtdN P t = true) (hw : w.heap[bo]? = some o) (ho : SetR ks o) (hf : findN ks a b = some bb) : (Instr.lookup t (.map (some bo)) (ndV a b) false).run P w = .ok (.bool bb) w := by
  obtain ⟨kt, et, i, f, g, kf, kg, h1, h2, h3, h4, h5, h6, h7, h8, h9, h10, h11, h12, h13⟩ := mtdN_some hmt
  obtain ⟨ents, clk, rfl, hsz, hr⟩ := ho
  have hobj : (getObj bo).run P w = .ok (.map ents clk) w := by simp [getObj, Sem.run, hw]
  have hck : ∀ em, (Instr.checkKey em 10000 kt (ndV a b)).run P w = .ok () w := fun em => run_checkKeyN h2 h5 h6 h7 h8 h9 h10 h11 h12 a b em
  rcases findKey_sound (w := w) h2 (run_equalN h2 h5 h6 h7 h8 h9 h10 h11 h12 h13) hf (es := ents.toList) (by simpa using hsz) (fun j k e hk he => hr j k e hk (by simpa using he)) with ⟨rfl, hn⟩ | ⟨rfl, j, e, he, hek, hn⟩
  · simp [Instr.lookup, run_underlying h1, hobj, hck, hn, zeroValue, typeInfo, h3, h4]
  · simp [Instr.lookup, run_underlying h1, hobj, hck, hn]
theorem lookNil {t : TypeId} {a b : Int} (hmt : mtdN P t = true) : (Instr.lookup t (.map none) (ndV a b) false).run P w = .ok (.bool false) w := by
  obtain ⟨kt, et, i, f, g, kf, kg, h1, h2, h3, h4, h5, h6, h7, h8, h9, h10, h11, h12, h13⟩ := mtdN_some hmt
  have hck : ∀ em, (Instr.checkKey em 10000 kt (ndV a b)).run P w = .ok () w := fun em => run_checkKeyN h2 h5 h6 h7 h8 h9 h10 h11 h12 a b em
  simp [Instr.lookup, run_underlying h1, hck, Instr.findKey, run_underlying h2, Instr.findNow, zeroValue, typeInfo, h3, h4]
theorem lookV_sound (hs : Sim w0 n ro lam st a w) {t : TypeId} {x k v : V} {X K : Value} (h : lookV P st.heap t x k = some v) (hx : R w ro lam x X) (hk : R w ro lam k K) : ∃ z, (Instr.lookup t X K false).run P w = .ok z w ∧ R w ro lam v z := by
  unfold lookV at h
  simp only [cond_eq_ite] at h
  split at h
  · rename_i hmt
    split at h
    · rename_i key s
      obtain ⟨b, hlb, rfl⟩ := hx.mp_inv
      have := hk.str_inv; subst this
      split at h
      · rename_i blk hblk
        simp only [Option.map_eq_some_iff] at h
        obtain ⟨bb, hf, rfl⟩ := h
        rcases hs.heap key blk hblk with ⟨hv, _⟩ | ⟨b', o, hv, hw, hso⟩ | ⟨b', m, arr, hv, _⟩
        · rw [hlb] at hv; cases hv
        · rw [hlb] at hv
          simp only [Option.some.injEq, Prod.mk.injEq, true_and] at hv
          have : b' = b := by omega
          subst this
          exact ⟨_, lookS hmt hw hso hf, .pure _ _ (.bool _)⟩
        · rw [hlb] at hv; cases hv
      · cases h
    · rename_i ks s
      simp only [Option.map_eq_some_iff] at h
      obtain ⟨bb, hf, rfl⟩ := h
      have := hk.str_inv; subst this
      cases hx with
      | pure _ _ hx => cases hx with | rset _ b o hro hw hso => exact ⟨_, lookS hmt hw hso hf, .pure _ _ (.bool _)⟩
    · cases h
  · split at h
    · rename_i hmt
      split at h
      · rename_i key ka kb
        obtain ⟨b, hlb, rfl⟩ := hx.mp_inv
        have := ndV_of hk; subst this
        split at h
        · rename_i blk hblk
          simp only [Option.map_eq_some_iff] at h
          obtain ⟨bb, hf, rfl⟩ := h
          rcases hs.heap key blk hblk with ⟨hv, _⟩ | ⟨b', o, hv, hw, hso⟩ | ⟨b', m, arr, hv, _⟩
          · rw [hlb] at hv; cases hv
          · rw [hlb] at hv
            simp only [Option.some.injEq, Prod.mk.injEq, true_and] at hv
            have : b' = b := by omega
            subst this
            exact ⟨_, lookN hmt hw hso hf, .pure _ _ (.bool _)⟩
          · rw [hlb] at hv; cases hv
        · cases h
      · rename_i ks ka kb
        simp only [Option.map_eq_some_iff] at h
        obtain ⟨bb, hf, rfl⟩ := h
        have := ndV_of hk; subst this
        cases hx with
        | pure _ _ hx => cases hx with | rset _ b o hro hw hso => exact ⟨_, lookN hmt hw hso hf, .pure _ _ (.bool _)⟩
      · rename_i ka kb
        cases h
        have := ndV_of hk; subst this
        cases hx with
        | pure _ _ hx => cases hx; exact ⟨_, lookNil hmt, .pure _ _ (.bool _)⟩
      · cases h
    · cases h
/-! ### a map that is only read, asked with ', ok' -/
def mtdI (P : Program) (t : TypeId) : Option V := match P.underlying t with
  | some (.map k e) => (match P.underlying k, P.info? e with
    | some (.int _), some i => i.zero.map cv1
    | _, _ => none)
  | _ => none
def findI : List (Value × Value) → IntKind → Int → Option (Option Value)
  | [], _, _ => some none
  | (.int k m, y) :: es, kk, n => if kk = k then (if n = m then some (some y) else findI es kk n) else none
  | _ :: _, _, _ => none
def lookOkV (P : Program) (t : TypeId) (x k : V) : Option V := match mtdI P t, x, k with
  | some z, .rmap es, .int kk n => (match findI es kk n with
    | some (some y) => some (.tup [cv1 y, .bool true])
    | some none => some (.tup [z, .bool false])
    | none => none)
  | _, _, _ => none
theorem findI_sound {K : IntKind} : ∀ (es : List (Value × Value)) (kk : IntKind) (n : Int) (r : Option Value) (ents : List MapEntry) (i : Nat), findI es kk n = some r → ents.length = es.length →
    (∀ (j : Nat) (p : Value × Value) (e : MapEntry), es[j]? = some p → ents[j]? = some e → e.key = p.1 ∧ e.val = p.2) →
    (r = none ∧ Instr.findNow (.int K) (.int kk n) ents i = some none) ∨ ∃ y j, r = some y ∧ Instr.findNow (.int K) (.int kk n) ents i = some (some (j, y))
  | [], kk, n, r, ents, i, h, hl, _ => by
    have : ents = [] := List.eq_nil_of_length_eq_zero (by simpa using hl)
    subst this
    simp only [findI, Option.some.injEq] at h; subst h
    exact .inl ⟨rfl, rfl⟩
  | (kv, y) :: es, kk, n, r, [], i, h, hl, _ => by simp at hl
  | (kv, y) :: es, kk, n, r, e :: ents, i, h, hl, he => by
    obtain ⟨h1, h2⟩ := he 0 _ _ rfl rfl
    simp only at h1 h2
    cases kv with
    | int k m =>
      simp only [findI] at h
      split at h
      · rename_i hk
        subst hk
        split at h
        · rename_i hn
          subst hn
          simp only [Option.some.injEq] at h; subst h
          exact .inr ⟨y, i, rfl, by simp [Instr.findNow, Instr.sameNow, h1, h2]⟩
        · rename_i hn
          have ih := findI_sound (K := K) es kk n r ents (i + 1) h (by simpa using hl) (fun j p e hp he' => he (j + 1) p e (by simpa using hp) (by simpa using he'))
          have hb : (n == m) = false := by simpa using hn
          rcases ih with ⟨a1, a2⟩ | ⟨y', j, a1, a2⟩
          · exact .inl ⟨a1, by simp [Instr.findNow, Instr.sameNow, h1, hb, a2]⟩
          · exact .inr ⟨y', j, a1, by simp [Instr.findNow, Instr.sameNow, h1, hb, a2]⟩
      · cases h
    | _ => simp [findI] at h
theorem lookOkV_sound {t : TypeId} {x k v : V} {X K : Value} (h : lookOkV P t x k = some v) (hx : R w ro lam x X) (hk : R w ro lam k K) : ∃ z, (Instr.lookup t X K true).run P w = .ok z w ∧ R w ro lam v z := by
  unfold lookOkV at h
  split at h
  · rename_i z es kk n hz
    have := hk.int_inv; subst this
    unfold mtdI at hz
    split at hz
    · rename_i kt et hu
      split at hz
      · rename_i K0 i h1 h2
        simp only [Option.map_eq_some_iff] at hz
        obtain ⟨zv, hz0, rfl⟩ := hz
        cases hx with
        | pure _ _ hx =>
          cases hx with
          | rmap _ b o hro hw hs =>
            obtain ⟨ents, clk, rfl, hsz, hr⟩ := hs
            have hobj : (getObj b).run P w = .ok (.map ents clk) w := by simp [getObj, Sem.run, hw]
            have hck : ∀ em, (Instr.checkKey em 10000 kt (.int kk n)).run P w = .ok () w := fun em => run_checkKeyI h1 em 9999
            have pair : ∀ (a : V) (A : Value) (b : Bool), R w ro lam a A → R w ro lam (.tup [a, .bool b]) (.tuple #[A, .bool b]) := fun a A b ha => by
              refine .tup _ _ rfl fun j c y hc hy => ?_
              match j with
              | 0 => simp at hc hy; subst hc; subst hy; exact ha
              | 1 => simp at hc hy; subst hc; subst hy; exact .pure _ _ (.bool _)
              | j + 2 => simp at hc
            split at h
            · rename_i y hf
              rcases findI_sound (K := K0) es kk n _ ents.toList 0 hf (by simpa using hsz) (fun j p e hp he => ⟨(hr j p e hp (by simpa using he)).1, (hr j p e hp (by simpa using he)).2.1⟩) with ⟨h0, _⟩ | ⟨y', j, h0, hn⟩
              · cases h0
              · cases h0
                simp only [Option.some.injEq] at h; subst h
                exact ⟨_, by simp [Instr.lookup, run_underlying hu, hobj, hck, Instr.findKey, run_underlying h1, hn], pair _ _ _ (.pure _ _ (R0_cv1 _))⟩
            · rename_i hf
              rcases findI_sound (K := K0) es kk n _ ents.toList 0 hf (by simpa using hsz) (fun j p e hp he => ⟨(hr j p e hp (by simpa using he)).1, (hr j p e hp (by simpa using he)).2.1⟩) with ⟨_, hn⟩ | ⟨y', j, h0, hn⟩
              · simp only [Option.some.injEq] at h; subst h
                exact ⟨_, by simp [Instr.lookup, run_underlying hu, hobj, hck, Instr.findKey, run_underlying h1, hn, zeroValue, typeInfo, h2, hz0], pair _ _ _ (.pure _ _ (R0_cv1 _))⟩
              · cases h0
            · cases h
      · cases hz
    · cases hz
  · cases h
def mupdV (P : Program) (h : Nat → Option Blk) (t : TypeId) (x k v : V) : Option (Nat → Option Blk) := bif mtd P t then (match x, k, v with
  | .mp key, .str s, .bool true => (match h key with
    | some blk => (match findS blk.cells s with
      | some false => some (upd h key (some ⟨blk.ty, blk.cells ++ [.str s]⟩))
      | _ => none)
    | none => none)
  | _, _, _ => none) else bif mtdN P t then (match x, k, v with
  | .mp key, .agg [.int .i64 a, .int .i64 b], .bool true => (match h key with
    | some blk => (match findN blk.cells a b with
      | some r => some (upd h key (some ⟨blk.ty, bif r then blk.cells else blk.cells ++ [nodK (a, b)]⟩))
      | none => none)
    | none => none)
  | _, _, _ => none) else none
theorem mupdV_sound (hs : Sim w0 n ro lam st a w) {t : TypeId} {x k v : V} {X K Y : Value} {h' : Nat → Option Blk} (h : mupdV P st.heap t x k v = some h') (hx : R w ro lam x X) (hk : R w ro lam k K) (hv : R w ro lam v Y) :
    ∃ w', (Instr.mapUpdate t X K Y).run P w = .ok () w' ∧ Sim w0 n ro lam { st with heap := h' } a w' := by
  unfold mupdV at h
  simp only [cond_eq_ite] at h
  split at h
  · rename_i hmt
    obtain ⟨kt, et, i, h1, h2, h3, h4⟩ := mtd_some hmt
    split at h
    · rename_i key s
      obtain ⟨b, hlb, rfl⟩ := hx.mp_inv
      have := hk.str_inv; subst this
      have := hv.bool_inv; subst this
      split at h
      · rename_i blk hblk
        split at h
        · rename_i hf
          simp only [Option.some.injEq] at h; subst h
          rcases hs.heap key blk hblk with ⟨hv, _⟩ | ⟨b', o, hv, hw, ents, clk, rfl, hsz, hr⟩ | ⟨b', m, arr, hv, _⟩
          · rw [hlb] at hv; cases hv
          · rw [hlb] at hv
            simp only [Option.some.injEq, Prod.mk.injEq, true_and] at hv
            have : b' = b := by omega
            subst this
            have hobj : (getObj b').run P w = .ok (.map ents clk) w := by simp [getObj, Sem.run, hw]
            have hlt : b' < w.heap.size := (Array.getElem?_eq_some_iff.1 hw).1
            have hset : ∀ o, (setObj b' o).run P w = .ok () { w with heap := w.heap.setIfInBounds b' o } := fun o => by simp [setObj, Sem.run, hw]
            have hck : (Instr.checkKey false 10000 kt (.string s)).run P w = .ok () w := run_checkKeyS h2 false 9999
            have hsim : ∀ (ks : List V) (o : Obj), SetR ks o → Sim w0 n ro lam { st with heap := upd st.heap key (some ⟨blk.ty, ks⟩) } a { w with heap := w.heap.setIfInBounds b' o } := fun ks o ho =>
              hs.setMap hblk hlb ho rfl rfl rfl (by simp) (by simp [hlt]) (fun k hk => by simp [Array.getElem?_setIfInBounds_ne (Ne.symm hk)])
            rcases findNow_sound blk.cells s ents.toList 0 false hf (by simpa using hsz) (fun j k e hk he => hr j k e hk (by simpa using he)) with ⟨_, hn⟩ | ⟨hb, _⟩
            · refine ⟨{ w with heap := w.heap.setIfInBounds b' (.map (ents.push { key := .string s, val := .bool true, born := clk }) (clk + 1)) }, ?_, hsim _ _ ⟨_, _, rfl, by simp [hsz], fun j k e hk he => ?_⟩⟩
              · simp [Instr.mapUpdate, run_underlying h1, hobj, hck, Instr.findKey, run_underlying h2, hn, hset]
              · by_cases hj : j < blk.cells.length
                · rw [List.getElem?_append_left hj] at hk
                  rw [Array.getElem?_push_lt (by omega)] at he
                  exact hr j k e hk (by rw [Array.getElem?_eq_getElem (by omega)]; exact he)
                · have hjl : j = blk.cells.length := by
                    have := (List.getElem?_eq_some_iff.1 hk).1
                    simp at this; omega
                  subst hjl
                  rw [List.getElem?_append_right (Nat.le_refl _)] at hk
                  rw [← hsz, Array.getElem?_push_size] at he
                  simp at hk he
                  subst hk; subst he
                  exact ⟨rfl, rfl⟩
            · cases hb
          · rw [hlb] at hv; cases hv
        · cases h
      · cases h
    · cases h
  · split at h
    · rename_i hmt
      obtain ⟨kt, et, i, f, g, kf, kg, h1, h2, h3, h4, h5, h6, h7, h8, h9, h10, h11, h12, h13⟩ := mtdN_some hmt
      split at h
      · rename_i key ka kb
        obtain ⟨b, hlb, rfl⟩ := hx.mp_inv
        have := ndV_of hk; subst this
        have := hv.bool_inv; subst this
        split at h
        · rename_i blk hblk
          split at h
          · rename_i r hf
            simp only [Option.some.injEq] at h; subst h
            rcases hs.heap key blk hblk with ⟨hv, _⟩ | ⟨b', o, hv, hw, ents, clk, rfl, hsz, hr⟩ | ⟨b', m, arr, hv, _⟩
            · rw [hlb] at hv; cases hv
            · rw [hlb] at hv
              simp only [Option.some.injEq, Prod.mk.injEq, true_and] at hv
              have : b' = b := by omega
              subst this
              have hobj : (getObj b').run P w = .ok (.map ents clk) w := by simp [getObj, Sem.run, hw]
              have hlt : b' < w.heap.size := (Array.getElem?_eq_some_iff.1 hw).1
              have hset : ∀ o, (setObj b' o).run P w = .ok () { w with heap := w.heap.setIfInBounds b' o } := fun o => by simp [setObj, Sem.run, hw]
              have hck : (Instr.checkKey false 10000 kt (ndV ka kb)).run P w = .ok () w := run_checkKeyN h2 h5 h6 h7 h8 h9 h10 h11 h12 ka kb false
              have hsim : ∀ (ks : List V) (o : Obj), SetR ks o → Sim w0 n ro lam { st with heap := upd st.heap key (some ⟨blk.ty, ks⟩) } a { w with heap := w.heap.setIfInBounds b' o } := fun ks o ho =>
                hs.setMap hblk hlb ho rfl rfl rfl (by simp) (by simp [hlt]) (fun k hk => by simp [Array.getElem?_setIfInBounds_ne (Ne.symm hk)])
              rcases findKey_sound (w := w) h2 (run_equalN h2 h5 h6 h7 h8 h9 h10 h11 h12 h13) hf (es := ents.toList) (by simpa using hsz) (fun j k e hk he => hr j k e hk (by simpa using he)) with ⟨rfl, hn⟩ | ⟨rfl, j, e, he, hek, hn⟩
              · refine ⟨{ w with heap := w.heap.setIfInBounds b' (.map (ents.push { key := ndV ka kb, val := .bool true, born := clk }) (clk + 1)) }, ?_, hsim _ _ ⟨_, _, rfl, by simp [hsz], fun j k e hk he => ?_⟩⟩
                · simp [Instr.mapUpdate, run_underlying h1, hobj, hck, hn, hset]
                · rw [if_neg (by simp)] at hk
                  by_cases hj : j < blk.cells.length
                  · rw [List.getElem?_append_left hj] at hk
                    rw [Array.getElem?_push_lt (by omega)] at he
                    exact hr j k e hk (by rw [Array.getElem?_eq_getElem (by omega)]; exact he)
                  · have hjl : j = blk.cells.length := by
                      have := (List.getElem?_eq_some_iff.1 hk).1
                      simp at this; omega
                    subst hjl
                    rw [List.getElem?_append_right (Nat.le_refl _)] at hk
                    rw [← hsz, Array.getElem?_push_size] at he
                    simp at hk he
                    subst hk; subst he
                    exact ⟨rfl, rfl⟩
              · have he' : ents[j]? = some e := by simpa using he
                have hsame : Instr.sameBits 10000 (ndV ka kb) (ndV ka kb) = true := by simp [ndV, Instr.sameBits]
                refine ⟨{ w with heap := w.heap.setIfInBounds b' (.map (ents.modify j fun e => { e with key := ndV ka kb, val := .bool true }) clk) }, ?_, hsim _ _ ⟨_, _, rfl, by simp [hsz], fun j' k' e' hk' he2 => ?_⟩⟩
                · simp [Instr.mapUpdate, run_underlying h1, hobj, hck, hn, hset, Instr.keyThatStays, he', hek, hsame]
                · rw [if_pos rfl] at hk'
                  rw [Array.getElem?_modify] at he2
                  split at he2
                  · rename_i hjj
                    subst hjj
                    rw [he'] at he2
                    simp only [Option.map_some, Option.some.injEq] at he2
                    subst he2
                    have := hr j k' e hk' he'
                    rw [hek] at this
                    exact ⟨rfl, this.2⟩
                  · exact hr j' k' e' hk' he2
            · rw [hlb] at hv; cases hv
          · cases h
        · cases h
      · cases h
    · cases h
end
end Go.Pv
end
section
namespace Go.Pv
open Go.RowKit
set_option linter.unusedSimpArgs false

def nilCheckV : V → Option V
  | .ptr k o => some (.ptr k o)
  | .rp cs => some (.rp cs)
  | _ => none

def callK (P : Program) (Γ : Tab) (h : Nat → Option Blk) (xs : List V) (ts : List TypeId) : Callee → Option V
  | .value (.func f) => callV Γ h f xs
  | .builtin .len => (match xs, ts with
    | [x], [t] => lenV P t x
    | _, _ => none)
  | .builtin .min => (match xs with
    | v :: vs => minV v vs
    | [] => none)
  | .builtin .max => (match xs with
    | v :: vs => maxV v vs
    | [] => none)
  | _ => none

/-- Values that are known. -/
def valsL : List V → Option (List Value)
  | [] => some []
  | .val x :: vs => (valsL vs).map (x :: ·)
  | _ :: _ => none
def mkfV (fn : Fn) (fs cs : List V) : Option V := match fn, fs with
  | .func f, [] => bif cs.any ownC then none else some (.clo f cs)
  | _, _ => none
/-- Is the type no interface? -/
def notI (P : Program) (t : TypeId) : Bool := match P.underlying t with
  | some (.interface _) => false
  | some _ => true
  | none => false
def hasZ (P : Program) (t : TypeId) : Bool := match P.info? t with
  | some i => i.zero.isSome
  | none => false
def mkiV (P : Program) (t : TypeId) (v : V) : Option V := bif notI P t && !ownT v then some (.ifc t v) else none
def tasV (P : Program) (x : V) (t : TypeId) (ok : Bool) : Option V := bif notI P t && (hasZ P t && ok) then (match x with
  | .ifc s v => some (bif decide (s = t) then .tup [v, .bool true] else .tup [.junk, .bool false])
  | .val .nilIface => some (.tup [.junk, .bool false])
  | _ => none) else none
/-- The function that a method of a type is. -/
def methV (P : Program) (t : TypeId) (m : String) : Option FuncId := match P.info? t, P.underlying t with
  | some _, some (.pointer _) => none
  | some i, some _ => (match i.methods.find? (·.name == m) with
    | some mm => (match mm.func with
      | some (f, false) => bif mm.path.toList.isEmpty then some f else none
      | _ => none)
    | none => none)
  | _, _ => none
def callO (P : Program) (Γ : Tab) (h : Nat → Option Blk) (ρ : Operand → V) (xs : List V) (ts : List TypeId) : Callee → Option V
  | .value (.tmp t) => (match ρ (.tmp t) with
    | .clo f cs => callV Γ h f (xs ++ cs)
    | _ => none)
  | .invoke r m => (match ρ r with
    | .ifc t v => (match methV P t m with
      | some f => callV Γ h f (v :: xs)
      | none => none)
    | _ => none)
  | c => callK P Γ h xs ts c
theorem valsL_sound {w : World} {ro : Nat → Prop} {lam : Lam} : ∀ (vs : List V) (xs ys : List Value), valsL vs = some xs → ys.length = vs.length → (∀ (j : Nat) (c : V) (x : Value), vs[j]? = some c → ys[j]? = some x → R w ro lam c x) → ys = xs
  | [], xs, ys, h, hl, _ => by
    simp only [valsL, Option.some.injEq] at h; subst h; exact List.eq_nil_of_length_eq_zero (by simpa using hl)
  | v :: vs, xs, [], h, hl, hr => by simp at hl
  | v :: vs, xs, y :: ys, h, hl, hr => by
    cases v with
    | val x =>
      simp only [valsL, Option.map_eq_some_iff] at h
      obtain ⟨xs', h1, rfl⟩ := h
      have h0 := hr 0 _ _ rfl rfl
      rw [valsL_sound vs xs' ys h1 (by simpa using hl) (fun j c x hc hx => hr (j + 1) c x (by simpa using hc) (by simpa using hx))]
      cases h0 with
      | pure _ _ h0 => cases h0; rfl
    | _ => simp [valsL] at h

/-- Operations that make no memory and write none. -/
def ev01 (P : Program) (Γ : Tab) (h : Nat → Option Blk) (ρ : Operand → V) : Op → Option V
  | .move x => some (ρ x)
  | .assign x => some (ρ x)
  | .pick c x y => (match ρ c with
    | .bool b => some (bif b then ρ x else ρ y)
    | _ => none)
  | .build t ps => buildV P t (ps.toList.map fun p => (p.1, ρ p.2))
  | .load t x => loadV P h t (ρ x)
  | .binOp op t x y _ => bin P op t (ρ x) (ρ y)
  | .unOp op _ x => un op (ρ x)
  | .convert s t x => convertV P s t (ρ x)
  | .sliceToArrayPointer t x => toArrV P t (ρ x)
  | .fieldAddr s x f => fieldAddrV P s (ρ x) f
  | .field s x f => fieldV P s (ρ x) f
  | .indexAddr t x i => indexAddrV P t (ρ x) (ρ i)
  | .index t x i => indexV P t (ρ x) (ρ i)
  | .extract x i => extractV (ρ x) i
  | .nilCheck x => nilCheckV (ρ x)
  | .slice t x lo hi none => sliceV P h t (ρ x) (lo.map ρ) (hi.map ρ)
  | .slice t x lo (some hi) (some mx) => sliceMV P t (ρ x) (lo.map ρ) (ρ hi) (ρ mx)
  | .lookup t x k false => lookV P h t (ρ x) (ρ k)
  | .lookup t x k true => lookOkV P t (ρ x) (ρ k)
  | .makeFunc fn fs cs => mkfV fn (fs.toList.map ρ) (cs.toList.map ρ)
  | .makeInterface t x => mkiV P t (ρ x)
  | .typeAssert x _ t ok => tasV P (ρ x) t ok
  | .call c => callO P Γ h ρ (c.args.toList.map ρ) c.argTypes.toList c.callee
  | _ => none

/-- Operations that make one block, under the key of their destination. -/
def ev2 (P : Program) (ρ : Operand → V) (d : Nat) : Op → Option (V × Blk)
  | .box t x => (boxV t (ρ x)).map fun b => (.ptr d 0, b)
  | .alloc t => (allocV P t).map fun b => (.ptr d 0, b)
  | .makeSlice t l c => (makeV P t (ρ l) (ρ c)).map fun p => (.sl d 0 p.1 p.2.2, p.2.1)
  | .buildSlice t len ps => (buildSliceV P t len (ps.toList.map fun p => (p.1, ρ p.2))).map fun p => (.sl d 0 len p.2, p.1)
  | _ => none

/-- copy into a block of the call's own, of cells of size 1; the source is not longer than the destination. -/
def copyV (P : Program) (st : St) (t : TypeId) (b x : V) : Option (V × St) := match td P t with
  | some dd => (match dd.slc with
    | some (_, s) => (match srcCells st.heap s x, b with
      | some (m, cs), .sl key off len sz => (match st.heap key with
        | some blk => bif decide (0 < s) && (decide (sz = s) && (decide (m ≤ len) && (decide (off + len * s ≤ blk.cells.length) && cs.all oneV))) then some (.int .i64 m, { st with heap := upd st.heap key (some ⟨blk.ty, setsV blk.cells off cs⟩) }) else none
        | none => none)
      | _, _ => none)
    | none => none)
  | none => none
/-- Operations that write. -/
def ev3 (P : Program) (st : St) (dst : Option Tmp) : Op → Option (V × St)
  | .store t x v => (storeV P st.heap t (ev st x) (ev st v)).map fun h => (.undef, { st with heap := h })
  | .makeMap t none => (match dst with
    | some d => (match st.heap d with
      | none => some (.mp d, { st with heap := upd st.heap d (some ⟨t, []⟩) })
      | some _ => none)
    | none => none)
  | .mapUpdate t m k v => (mupdV P st.heap t (ev st m) (ev st k) (ev st v)).map fun h => (.undef, { st with heap := h })
  | .insert t m k v => (mupdV P st.heap t (ev st m) (ev st k) (ev st v)).map fun h => (.undef, { st with heap := h })
  | .call c => (match c.callee, c.args.toList, c.argTypes.toList, dst with
    | .builtin .append, [b, x], [t, t'], some d => bif decide (t = t') then appendV P st d t (ev st b) (ev st x) else none
    | .builtin .copy, [b, x], [t, t'], _ => bif decide (t = t') then copyV P st t (ev st b) (ev st x) else none
    | _, _, _, _ => none)
  | _ => none

/-- 0: looks at no memory; 1: may look at memory; 2: makes a block; 3: may write. -/
def kindC : Callee → Nat
  | .value (.func _) => 1
  | .value (.tmp _) => 1
  | .invoke .. => 1
  | .builtin .len | .builtin .min | .builtin .max => 0
  | _ => 3
def kind : Op → Nat
  | .move _ | .assign _ | .pick .. | .makeFunc .. | .makeInterface .. | .typeAssert .. | .build .. | .binOp .. | .unOp .. | .convert .. | .sliceToArrayPointer .. | .fieldAddr .. | .field .. | .indexAddr .. | .index .. | .extract .. | .nilCheck _ => 0
  | .load .. | .slice .. | .lookup .. => 1
  | .call c => kindC c.callee
  | .box .. | .alloc _ | .makeSlice .. | .buildSlice .. => 2
  | _ => 3

def stepOp (P : Program) (Γ : Tab) (st : St) (dst : Option Tmp) (op : Op) : Option St :=
  match kind op with
  | 0 => (ev01 P Γ st.heap (ev st) op).map (st.put dst)
  | 1 => (ev01 P Γ st.heap (ev st) op).map (st.put dst)
  | 2 => (match dst with
    | some d => (match st.heap d with
      | none => (ev2 P (ev st) d op).map fun p => { env := upd st.env d p.1, heap := upd st.heap d (some p.2) }
      | some _ => none)
    | none => none)
  | _ => (ev3 P st dst op).map fun p => p.2.put dst p.1

section
variable {w0 : Base} {n : Nat} {ro : Nat → Prop} {lam : Lam} {st : St} {a : Act} {w : World} {P : Program} {Γ : Tab}

theorem parts_sound (hs : Sim w0 n ro lam st a w) (ps : Array (Nat × Operand)) : (ps.map fun (i, x) => (i, a.eval x)).size = (ps.toList.map fun p => (p.1, ev st p.2)).length ∧
    ∀ (j : Nat) (p : Nat × V) (q : Nat × Value), (ps.toList.map fun p => (p.1, ev st p.2))[j]? = some p → (ps.map fun (i, x) => (i, a.eval x))[j]? = some q → p.1 = q.1 ∧ R w ro lam p.2 q.2 := by
  refine ⟨by simp, fun j p q hp hq => ?_⟩
  simp only [List.getElem?_map, Array.getElem?_toList, Option.map_eq_some_iff] at hp
  simp only [Array.getElem?_map, Option.map_eq_some_iff] at hq
  obtain ⟨y, hy, rfl⟩ := hp
  obtain ⟨z, hz, rfl⟩ := hq
  rw [hy] at hz
  simp only [Option.some.injEq] at hz
  subst hz
  exact ⟨rfl, hs.ev _⟩
theorem args_sound (hs : Sim w0 n ro lam st a w) (xs : Array Operand) : (xs.map a.eval).size = (xs.toList.map (ev st)).length ∧
    ∀ (j : Nat) (c : V) (x : Value), (xs.toList.map (ev st))[j]? = some c → (xs.map a.eval)[j]? = some x → R w ro lam c x := by
  refine ⟨by simp, fun j p q hp hq => ?_⟩
  simp only [List.getElem?_map, Array.getElem?_toList, Option.map_eq_some_iff] at hp
  simp only [Array.getElem?_map, Option.map_eq_some_iff] at hq
  obtain ⟨y, hy, rfl⟩ := hp
  obtain ⟨z, hz, rfl⟩ := hq
  rw [hy] at hz
  simp only [Option.some.injEq] at hz
  subst hz
  exact hs.ev _

theorem callFunc_run {f : FuncId} (h : callable P f = true) (args : Array Value) (w : World) : (callFunc f args).run P w = .ok (.enter f args) w := by
  unfold callable at h
  split at h
  · rename_i fn hf
    simp only [Bool.and_eq_true, Bool.not_eq_true'] at h
    have hb : fn.body.isNone = false := by
      cases hb : fn.body <;> simp_all
    unfold callFunc
    simp only [Sem.run_bind, run_program, Result.andThen_ok, hf, h.1, hb, Bool.false_eq_true, if_false, Sem.run_pure]
  · cases h

theorem notI_run {t : TypeId} (h : notI P t = true) : ∃ d, P.underlying t = some d ∧ ∀ ms, d ≠ .interface ms := by
  unfold notI at h
  split at h
  · cases h
  · rename_i d h1 h2; exact ⟨d, h2, fun ms e => h1 ms e⟩
  · cases h
theorem mkiV_sound {t : TypeId} {u v : V} {x : Value} (h : mkiV P t u = some v) (hx : R w ro lam u x) : ∃ z, (Instr.makeInterface t x).run P w = .ok z w ∧ R w ro lam v z := by
  unfold mkiV at h
  simp only [cond_eq_ite, Bool.and_eq_true, Bool.not_eq_true'] at h
  split at h
  · rename_i hc
    cases h
    obtain ⟨d, hd, hn⟩ := notI_run hc.1
    refine ⟨.iface t x, ?_, .pure _ _ (.ifc t u x (hx.pureT hc.2))⟩
    unfold Instr.makeInterface
    cases d with
    | interface ms => exact absurd rfl (hn ms)
    | _ => simp [run_underlying hd]
  · cases h
theorem tasV_sound {xt t : TypeId} {ok : Bool} {u v : V} {x : Value} (h : tasV P u t ok = some v) (hx : R w ro lam u x) : ∃ z, (Instr.typeAssert x xt t ok).run P w = .ok z w ∧ R w ro lam v z := by
  unfold tasV at h
  simp only [cond_eq_ite, Bool.and_eq_true] at h
  split at h
  · rename_i hc
    obtain ⟨hni, hz, rfl⟩ := hc
    obtain ⟨d, hd, hn⟩ := notI_run hni
    obtain ⟨i, hi, z0, hz0⟩ : ∃ i, P.info? t = some i ∧ ∃ z, i.zero = some z := by
      unfold hasZ at hz
      split at hz
      · rename_i i hi; exact ⟨i, hi, Option.isSome_iff_exists.1 hz⟩
      · cases hz
    have hzv : (zeroValue t).run P w = .ok z0 w := by simp [zeroValue, typeInfo, hi, hz0]
    have two : ∀ {c e : V} {y z : Value}, R w ro lam c y → R w ro lam e z → R w ro lam (.tup [c, e]) (.tuple #[y, z]) := fun hy hz => .tup _ _ rfl fun j c x hc hx => by
      match j with
      | 0 => simp at hc hx; subst hc; subst hx; exact hy
      | 1 => simp at hc hx; subst hc; subst hx; exact hz
      | j + 2 => simp at hc
    split at h
    · rename_i s vv
      cases h
      obtain ⟨y, rfl, hy⟩ : ∃ y, x = .iface s y ∧ R0 w ro vv y := by cases hx with | pure _ _ hx => cases hx with | ifc _ _ y hy => exact ⟨y, rfl, hy⟩
      by_cases hs : s = t
      · subst hs
        refine ⟨.tuple #[y, .bool true], ?_, by simp only [decide_true, if_true]; exact two (.pure _ _ hy) (.pure _ _ (.bool true))⟩
        unfold Instr.typeAssert
        cases d with
        | interface ms => exact absurd rfl (hn ms)
        | _ => simp [run_underlying hd]
      · refine ⟨.tuple #[z0, .bool false], ?_, by simp only [hs, decide_false, if_false, Bool.false_eq_true]; exact two (.pure _ _ (.junk _)) (.pure _ _ (.bool false))⟩
        unfold Instr.typeAssert
        cases d with
        | interface ms => exact absurd rfl (hn ms)
        | _ => simp [run_underlying hd, hs, hzv]
    · cases h
      obtain rfl : x = .nilIface := by cases hx with | pure _ _ hx => cases hx; rfl
      refine ⟨.tuple #[z0, .bool false], ?_, two (.pure _ _ (.junk _)) (.pure _ _ (.bool false))⟩
      unfold Instr.typeAssert
      cases d with
      | interface ms => exact absurd rfl (hn ms)
      | _ => simp [run_underlying hd, hzv]
    · cases h
  · cases h
theorem methV_run {t : TypeId} {m : String} {f : FuncId} (h : methV P t m = some f) (k : Nat) (v : Value) (w : World) : (Go.method (k + 1) t v m).run P w = .ok (f, v) w := by
  unfold methV at h
  split at h
  · cases h
  · rename_i i d hd hi hdd
    split at h
    · rename_i mm hmm
      split at h
      · rename_i f' hf
        simp only [cond_eq_ite] at h
        split at h
        · rename_i hp
          cases h
          have hpl : mm.path.toList = [] := by simpa using hp
          unfold Go.method
          cases d with
          | pointer e => exact absurd rfl (hd e)
          | _ => simp [typeInfo, hi, hmm, hpl, follow, hf, receiverAt, run_underlying hdd, Place.get]
        · cases h
      · cases h
    · cases h
  · cases h
/-- What an operation without writes yields: a value in the world that it got, or a call's. -/
theorem ev01_sound (hΓ : TabOK P Γ) (hs : Sim w0 n ro lam st a w) {o : Oper} {v : V} (h : ev01 P Γ st.heap (ev st) o.op = some v) {K : Act → World → Prop} {Q : Exit → Act → World → Prop}
    (hK : ∀ x ro' w', Ext w0 ro ro' → Sim w0 n ro' lam st a w' → R w' ro' lam v x → K (a.put o.dst x) w') : o.wp P a w K Q := by
  have val : ∀ {s : Sem Value} {x : Value}, s.run P w = .ok x w → R w ro lam v x → o.upon P a K Q ((do pure (Next.value (← s)) : Sem Next).run P w) := fun hrun hr => by
    simp only [Sem.run_bind, hrun, Result.andThen_ok, Sem.run_pure, Oper.upon]
    exact hK _ ro w (Ext.refl _ _) hs hr
  unfold Oper.wp execOp
  cases hop : o.op with
  | move x => rw [hop] at h; simp only [ev01, Option.some.injEq] at h; subst h; simp only [Sem.run_pure, Oper.upon]; exact hK _ ro w (Ext.refl _ _) hs (hs.ev x)
  | assign x => rw [hop] at h; simp only [ev01, Option.some.injEq] at h; subst h; simp only [Sem.run_pure, Oper.upon]; exact hK _ ro w (Ext.refl _ _) hs (hs.ev x)
  | pick c x y =>
    rw [hop] at h; simp only [ev01] at h
    split at h
    · rename_i b hb
      simp only [Option.some.injEq] at h; subst h
      have hc := hs.ev c
      rw [hb] at hc
      have hcv := hc.bool_inv
      simp only [Sem.run_bind, hcv, asBool, Sem.run_pure, Result.andThen_ok, Oper.upon]
      cases b
      · exact hK _ ro w (Ext.refl _ _) hs (hs.ev y)
      · exact hK _ ro w (Ext.refl _ _) hs (hs.ev x)
    · cases h
  | build t ps =>
    rw [hop] at h; simp only [ev01] at h
    obtain ⟨h1, h2⟩ := parts_sound hs ps
    obtain ⟨z, hz, hr⟩ := buildV_sound h h1 h2
    exact val hz hr
  | load t x => rw [hop] at h; obtain ⟨z, hz, hr⟩ := loadV_sound hs h (hs.ev x); exact val hz hr
  | makeFunc fn fs cs =>
    rw [hop] at h; simp only [ev01, mkfV] at h
    split at h
    · rename_i f h1
      simp only [cond_eq_ite] at h
      split at h
      · cases h
      · rename_i ho
        simp only [Option.some.injEq] at h; subst h
        have hfs : fs = #[] := by rw [← Array.toList_inj]; simpa using h1
        subst hfs
        obtain ⟨c1, c2⟩ := args_sound hs cs
        refine val (s := Instr.makeFunc (.func f) ((#[] : Array Operand).map a.eval) (cs.map a.eval)) rfl ?_
        have he : (#[] : Array Operand).map a.eval = #[] := by simp
        rw [he]
        exact .pure _ _ (.clo f _ _ c1 fun j c x hc hx => (c2 j c x hc hx).pureC (any_at (by simpa using ho) hc))
    · cases h
  | makeInterface t x => rw [hop] at h; obtain ⟨z, hz, hr⟩ := mkiV_sound h (hs.ev x); exact val hz hr
  | typeAssert x xt t ok => rw [hop] at h; obtain ⟨z, hz, hr⟩ := tasV_sound (xt := xt) h (hs.ev x); exact val hz hr
  | lookup t x k ok =>
    rw [hop] at h
    cases ok with
    | true => obtain ⟨z, hz, hr⟩ := lookOkV_sound (P := P) h (hs.ev x) (hs.ev k); exact val hz hr
    | false => obtain ⟨z, hz, hr⟩ := lookV_sound hs h (hs.ev x) (hs.ev k); exact val hz hr
  | binOp op t x y ty => rw [hop] at h; obtain ⟨z, hz, hr⟩ := bin_sound x y h (hs.ev x) (hs.ev y); exact val hz hr
  | unOp op t x => rw [hop] at h; obtain ⟨z, hz, hr⟩ := un_sound (P := P) h (hs.ev x); exact val hz hr
  | sliceToArrayPointer t x => rw [hop] at h; obtain ⟨z, hz, hr⟩ := toArrV_sound h (hs.ev x); exact val hz hr
  | convert s t x => rw [hop] at h; obtain ⟨z, hz, hr⟩ := convertV_sound h (hs.ev x); exact val hz hr
  | fieldAddr s x f => rw [hop] at h; obtain ⟨z, hz, hr⟩ := fieldAddrV_sound h (hs.ev x); exact val hz hr
  | field s x f => rw [hop] at h; obtain ⟨z, hz, hr⟩ := fieldV_sound h (hs.ev x); exact val hz hr
  | indexAddr t x i => rw [hop] at h; obtain ⟨z, hz, hr⟩ := indexAddrV_sound h (hs.ev x) (hs.ev i); exact val hz hr
  | index t x i => rw [hop] at h; obtain ⟨z, hz, hr⟩ := indexV_sound h (hs.ev x) (hs.ev i); exact val hz hr
  | extract x i => rw [hop] at h; obtain ⟨z, hz, hr⟩ := extractV_sound (P := P) h (hs.ev x); exact val hz hr
  | nilCheck x =>
    rw [hop] at h; simp only [ev01] at h
    have hx := hs.ev x
    generalize hev : ev st x = u at h hx
    cases u with
    | ptr k off =>
      simp only [nilCheckV, Option.some.injEq] at h; subst h
      obtain ⟨b, m, hl, hv⟩ := hx.ptr_inv
      simp only [hv, Sem.run_pure, Oper.upon]
      exact hK _ ro w (Ext.refl _ _) hs (hv ▸ hx)
    | rp cs =>
      simp only [nilCheckV, Option.some.injEq] at h; subst h
      obtain ⟨ad, g, hv, _⟩ := hx.rp_inv
      simp only [hv, Sem.run_pure, Oper.upon]
      exact hK _ ro w (Ext.refl _ _) hs (hv ▸ hx)
    | _ => simp [nilCheckV] at h
  | slice t x lo hi mx =>
    rw [hop] at h
    cases mx with
    | some m =>
      cases hi with
      | none => simp [ev01] at h
      | some hi =>
        simp only [ev01] at h
        obtain ⟨z, hz, hr⟩ := sliceMV_sound (P := P) (Lo := lo.map a.eval) h (hs.ev x)
          (fun v hv => by cases lo with | none => simp at hv | some y => simp at hv; subst hv; exact ⟨_, rfl, hs.ev y⟩) (fun hv => by cases lo with | none => rfl | some y => simp at hv) (hs.ev hi) (hs.ev m)
        exact val hz hr
    | none =>
      simp only [ev01] at h
      obtain ⟨z, hz, hr⟩ := sliceV_sound hs (Lo := lo.map a.eval) (Hi := hi.map a.eval) h (hs.ev x)
        (fun v hv => by cases lo with | none => simp at hv | some y => simp at hv; subst hv; exact ⟨_, rfl, hs.ev y⟩) (fun hv => by cases lo with | none => rfl | some y => simp at hv)
        (fun v hv => by cases hi with | none => simp at hv | some y => simp at hv; subst hv; exact ⟨_, rfl, hs.ev y⟩) (fun hv => by cases hi with | none => rfl | some y => simp at hv)
      exact val hz hr
  | call c =>
    rw [hop] at h; simp only [ev01] at h
    obtain ⟨h1, h2⟩ := args_sound hs c.args
    obtain ⟨callee, args, argTypes⟩ := c
    simp only at h h1 h2
    cases callee with
    | value f =>
      cases f with
      | tmp t =>
        simp only [callO] at h
        split at h
        · rename_i f cs hclo
          have hv := hs.ev (.tmp t)
          rw [hclo] at hv
          obtain ⟨arr, hX, hl, hr⟩ : ∃ arr : Array Value, a.eval (.tmp t) = .func (.func f) #[] arr ∧ arr.size = cs.length ∧ ∀ (j : Nat) (c : V) (x : Value), cs[j]? = some c → arr[j]? = some x → R0 w ro c x := by
            generalize a.eval (.tmp t) = X at hv
            cases hv with
            | pure _ _ hv => cases hv with | clo _ _ arr hl hr => exact ⟨arr, rfl, hl, hr⟩
          have g1 : (args.map a.eval ++ arr).size = (args.toList.map (ev st) ++ cs).length := by
            rw [Array.size_append, List.length_append, h1, hl]
          have g2 : ∀ (j : Nat) (c : V) (x : Value), (args.toList.map (ev st) ++ cs)[j]? = some c → (args.map a.eval ++ arr)[j]? = some x → R w ro lam c x := fun j c x hc hx => by
            by_cases hj : j < (args.toList.map (ev st)).length
            · rw [List.getElem?_append_left hj] at hc
              rw [Array.getElem?_append_left (by rw [h1]; exact hj)] at hx
              exact h2 j c x hc hx
            · rw [List.getElem?_append_right (by omega)] at hc
              rw [Array.getElem?_append_right (by rw [h1]; omega), h1] at hx
              exact .pure _ _ (hr _ c x hc hx)
          rcases callV_sound hΓ hs h g1 g2 with ⟨hcall, hcc⟩ | ⟨x, hx, hrx⟩
          case inr =>
            have hrun : ((do let d ← resolve a.eval { callee := .value (.tmp t), args := args, argTypes := argTypes } o.type; invoke d.target d.args) : Sem Next).run P w = .ok (.value x) w := by
              simp [resolve, hX, Deferred.ofValue, invoke, hx]
            simp only [hrun, Oper.upon]
            exact hK _ ro w (Ext.refl _ _) hs hrx
          have hrun : ((do let d ← resolve a.eval { callee := .value (.tmp t), args := args, argTypes := argTypes } o.type; invoke d.target d.args) : Sem Next).run P w = .ok (.enter f (args.map a.eval ++ arr)) w := by
            simp [resolve, hX, Deferred.ofValue, invoke, callFunc_run hcall]
          simp only [hrun, Oper.upon]
          refine hcc.mono fun e w' hh => ?_
          obtain ⟨rv, ro', rfl, hext, hs', hr⟩ := hh
          exact hK rv ro' w' hext hs' hr
        · cases h
      | func f =>
        simp only [callO, callK] at h
        rcases callV_sound hΓ hs h h1 h2 with ⟨hcall, hcc⟩ | ⟨x, hx, hrx⟩
        case inr =>
          have hrun : ((do let d ← resolve a.eval { callee := .value (.func f), args := args, argTypes := argTypes } o.type; invoke d.target d.args) : Sem Next).run P w = .ok (.value x) w := by
            simp [resolve, Act.eval, Deferred.ofValue, invoke, hx]
          simp only [hrun, Oper.upon]
          exact hK _ ro w (Ext.refl _ _) hs hrx
        have hrun : ((do let d ← resolve a.eval { callee := .value (.func f), args := args, argTypes := argTypes } o.type; invoke d.target d.args) : Sem Next).run P w = .ok (.enter f (args.map a.eval)) w := by
          simp [resolve, Act.eval, Deferred.ofValue, invoke, callFunc_run hcall]
        simp only [hrun, Oper.upon]
        refine hcc.mono fun e w' hh => ?_
        obtain ⟨rv, ro', rfl, hext, hs', hr⟩ := hh
        exact hK rv ro' w' hext hs' hr
      | _ => simp [callO, callK] at h
    | builtin b =>
      have hb : ∀ {s : Sem Value} {x : Value}, (∀ cs : Array Bool, (builtin b argTypes o.type cs (args.map a.eval)) = (do pure (.value (← s)))) → s.run P w = .ok x w → R w ro lam v x →
          o.upon P a K Q (((do let d ← resolve a.eval { callee := .builtin b, args := args, argTypes := argTypes } o.type; invoke d.target d.args) : Sem Next).run P w) := @fun s x he hrun hr => by
        have : ((do let d ← resolve a.eval { callee := .builtin b, args := args, argTypes := argTypes } o.type; invoke d.target d.args) : Sem Next).run P w = ((do pure (Next.value (← s)) : Sem Next)).run P w := by
          simp only [resolve, Sem.run_bind, Sem.run_pure, Result.andThen_ok, invoke]
          rw [he]
          simp only [Sem.run_bind, Sem.run_pure]
        rw [this]
        exact val hrun hr
      cases b with
      | len =>
        simp only [callO, callK] at h
        split at h
        · rename_i x t hx ht
          have hat : argTypes = #[t] := by rw [← Array.toList_inj]; exact ht
          have harg : args.map a.eval = #[(args.map a.eval).getD 0 Go.undef] := by
            have hsz : (args.map a.eval).size = 1 := by rw [h1, hx]; rfl
            apply Array.ext
            · simpa using hsz
            · intro i hi1 hi2
              have : i = 0 := by simp at hi2; omega
              subst this
              simp only [Array.getD_eq_getD_getElem?, Array.getElem?_eq_getElem hi1]
              rfl
          have hr0 : R w ro lam x ((args.map a.eval).getD 0 Go.undef) := h2 0 x _ (by rw [hx]; rfl) (by
            have hsz : 0 < (args.map a.eval).size := by rw [h1, hx]; exact Nat.zero_lt_one
            simp [Array.getD_eq_getD_getElem?, Array.getElem?_eq_getElem hsz])
          obtain ⟨z, hz, hr⟩ := lenV_sound (ty := o.type) h hr0
          refine hb (s := Builtin.len_ argTypes o.type (args.map a.eval)) (fun _ => rfl) ?_ hr
          rw [hat, harg]; exact hz
        · cases h
      | min =>
        simp only [callO, callK] at h
        split at h
        · rename_i x xs hx
          obtain ⟨X, Xs, hX⟩ : ∃ X Xs, (args.map a.eval).toList = X :: Xs := by
            have hlen : (args.map a.eval).toList.length = (x :: xs).length := by rw [← hx]; simp
            cases hl : (args.map a.eval).toList with
            | nil => rw [hl] at hlen; simp at hlen
            | cons X Xs => exact ⟨X, Xs, rfl⟩
          have hat : ∀ j y, (args.map a.eval)[j]? = some y ↔ (X :: Xs)[j]? = some y := fun j y => by rw [← hX, Array.getElem?_toList]
          have hlen' : (X :: Xs).length = (x :: xs).length := by rw [← hX, ← hx]; simp
          obtain ⟨z, hz, hr⟩ := minV_sound (P := P) xs x v Xs X h (h2 0 x X (by rw [hx]; rfl) ((hat 0 X).2 rfl)) (by simpa using hlen')
            (fun j c y hc hy => h2 (j + 1) c y (by rw [hx]; simpa using hc) ((hat (j + 1) y).2 (by simpa using hy)))
          refine hb (s := Builtin.min_ argTypes o.type (args.map a.eval)) (fun _ => rfl) ?_ hr
          simp only [Builtin.min_, hX]; exact hz
        · cases h
      | max =>
        simp only [callO, callK] at h
        split at h
        · rename_i x xs hx
          obtain ⟨X, Xs, hX⟩ : ∃ X Xs, (args.map a.eval).toList = X :: Xs := by
            have hlen : (args.map a.eval).toList.length = (x :: xs).length := by rw [← hx]; simp
            cases hl : (args.map a.eval).toList with
            | nil => rw [hl] at hlen; simp at hlen
            | cons X Xs => exact ⟨X, Xs, rfl⟩
          have hat : ∀ j y, (args.map a.eval)[j]? = some y ↔ (X :: Xs)[j]? = some y := fun j y => by rw [← hX, Array.getElem?_toList]
          have hlen' : (X :: Xs).length = (x :: xs).length := by rw [← hX, ← hx]; simp
          obtain ⟨z, hz, hr⟩ := maxV_sound (P := P) xs x v Xs X h (h2 0 x X (by rw [hx]; rfl) ((hat 0 X).2 rfl)) (by simpa using hlen')
            (fun j c y hc hy => h2 (j + 1) c y (by rw [hx]; simpa using hc) ((hat (j + 1) y).2 (by simpa using hy)))
          refine hb (s := Builtin.max_ argTypes o.type (args.map a.eval)) (fun _ => rfl) ?_ hr
          simp only [Builtin.max_, hX]; exact hz
        · cases h
      | _ => simp [callO, callK] at h
    | invoke r m =>
      simp only [callO] at h
      split at h
      · rename_i t vv hiv
        split at h
        · rename_i f hf
          have hv := hs.ev r
          rw [hiv] at hv
          obtain ⟨y, hX, hy⟩ : ∃ y, a.eval r = .iface t y ∧ R0 w ro vv y := by
            generalize a.eval r = X at hv
            cases hv with
            | pure _ _ hv => cases hv with | ifc _ _ y hy => exact ⟨y, rfl, hy⟩
          have g1 : (#[y] ++ args.map a.eval).size = (vv :: args.toList.map (ev st)).length := by
            rw [Array.size_append, h1]; simp; omega
          have g2 : ∀ (j : Nat) (c : V) (x : Value), (vv :: args.toList.map (ev st))[j]? = some c → (#[y] ++ args.map a.eval)[j]? = some x → R w ro lam c x := fun j c x hc hx => by
            cases j with
            | zero =>
              have e : (#[y] ++ args.map a.eval)[0]? = some y := by rw [Array.getElem?_append_left (by simp)]; rfl
              rw [e] at hx
              simp only [List.getElem?_cons_zero, Option.some.injEq] at hc hx; subst hc; subst hx; exact .pure _ _ hy
            | succ j =>
              rw [List.getElem?_cons_succ] at hc
              rw [Array.getElem?_append_right (by simp)] at hx
              exact h2 j c x hc (by simpa using hx)
          have hm : (Go.method (P.types.size + Made.depth) t y m).run P w = .ok (f, y) w := by
            obtain ⟨k, hk⟩ : ∃ k, P.types.size + Made.depth = k + 1 := ⟨P.types.size + 99, rfl⟩
            rw [hk]; exact methV_run hf k y w
          have he : ((#[Value.iface t y] ++ args.map a.eval).extract 1 (#[Value.iface t y] ++ args.map a.eval).size) = args.map a.eval := by
            generalize args.map a.eval = L
            rcases L with ⟨l⟩
            simp
          have h0 : (#[Value.iface t y] ++ args.map a.eval)[0]? = some (.iface t y) := by rw [Array.getElem?_append_left (by simp)]; rfl
          rcases callV_sound hΓ hs h g1 g2 with ⟨hcall, hcc⟩ | ⟨x, hx, hrx⟩
          case inr =>
            have hrun : ((do let d ← resolve a.eval { callee := .invoke r m, args := args, argTypes := argTypes } o.type; invoke d.target d.args) : Sem Next).run P w = .ok (.value x) w := by
              simp only [resolve, invoke, hX, Sem.run_bind, Sem.run_pure, Result.andThen_ok, h0, he, callMethod, run_program, hm, hx]
            simp only [hrun, Oper.upon]
            exact hK _ ro w (Ext.refl _ _) hs hrx
          have hrun : ((do let d ← resolve a.eval { callee := .invoke r m, args := args, argTypes := argTypes } o.type; invoke d.target d.args) : Sem Next).run P w = .ok (.enter f (#[y] ++ args.map a.eval)) w := by
            simp only [resolve, invoke, hX, Sem.run_bind, Sem.run_pure, Result.andThen_ok, h0, he, callMethod, run_program, hm, callFunc_run hcall]
          simp only [hrun, Oper.upon]
          refine hcc.mono fun e w' hh => ?_
          obtain ⟨rv, ro', rfl, hext, hs', hr⟩ := hh
          exact hK rv ro' w' hext hs' hr
        · cases h
      · cases h
  | _ => rw [hop] at h; simp [ev01] at h

theorem ev2_sound (hs : Sim w0 n ro lam st a w) {o : Oper} {d : Nat} {v : V} {blk : Blk} (hd : o.dst = some d) (hfr : st.heap d = none) (h : ev2 P (ev st) d o.op = some (v, blk)) (hn : d < n)
    {K : Act → World → Prop} {Q : Exit → Act → World → Prop}
    (hK : ∀ a' lam' w', Sim w0 n ro lam' { env := upd st.env d v, heap := upd st.heap d (some blk) } a' w' → K a' w') : o.wp P a w K Q := by
  have fin : ∀ {s : Sem Value} {x : Value} {w' : World} {lam' : Lam}, s.run P w = .ok x w' → Sim w0 n ro lam' { st with heap := upd st.heap d (some blk) } a w' → R w' ro lam' v x → o.upon P a K Q ((do pure (Next.value (← s)) : Sem Next).run P w) := fun hrun hsim hr => by
    simp only [Sem.run_bind, hrun, Result.andThen_ok, Sem.run_pure, Oper.upon]
    have := hsim.put (d := some d) (by simpa [fits] using hn) hr
    rw [hd]
    exact hK _ _ _ this
  unfold Oper.wp execOp
  cases hop : o.op with
  | box t x =>
    rw [hop] at h; simp only [ev2, Option.map_eq_some_iff, Prod.mk.injEq] at h
    obtain ⟨b, hb, rfl, rfl⟩ := h
    obtain ⟨w', lam', h1, h2, h3⟩ := boxV_sound (P := P) hs hfr hb (hs.ev x)
    exact fin h1 h2 h3
  | alloc t =>
    rw [hop] at h; simp only [ev2, Option.map_eq_some_iff, Prod.mk.injEq] at h
    obtain ⟨b, hb, rfl, rfl⟩ := h
    obtain ⟨w', lam', h1, h2, h3⟩ := allocV_sound hs hfr hb
    exact fin h1 h2 h3
  | makeSlice t l c =>
    rw [hop] at h; simp only [ev2, Option.map_eq_some_iff, Prod.mk.injEq] at h
    obtain ⟨p, hb, rfl, rfl⟩ := h
    obtain ⟨z, w', lam', h1, h2, h3⟩ := makeV_sound hs hfr hb (hs.ev l) (hs.ev c)
    exact fin h1 h2 h3
  | buildSlice t len ps =>
    rw [hop] at h; simp only [ev2, Option.map_eq_some_iff, Prod.mk.injEq] at h
    obtain ⟨p, hb, rfl, rfl⟩ := h
    obtain ⟨h1, h2⟩ := parts_sound hs ps
    obtain ⟨z, w', lam', h3, h4, h5⟩ := buildSliceV_sound hs hfr hb h1 h2
    exact fin h3 h4 h5
  | _ => rw [hop] at h; simp [ev2] at h

theorem run_copy_none' (w : World) (dT sT ty elem : TypeId) (d a : Option Addr) (dLen dCap sLen sCap : Nat) (i : TypeInfo) (hu : P.underlying dT = some (.slice elem)) (hq : P.info? elem = some i) (hn : Nat.min sLen dLen = 0) :
    (Builtin.copy_ #[dT, sT] ty #[.slice d dLen dCap, .slice a sLen sCap]).run P w = .ok (goInt 0) w := by
  have hl : ∀ (x : Addr), (loadCells x 0).run P w = .ok #[] w := fun x => by simpa using run_loadCells_list (P := P) w x [] (by simp)
  cases d <;> cases a <;> simp [Builtin.copy_, run_underlying hu, Builtin.lenOf, Builtin.firstCells, sizeOf, typeInfo, hq, hn, storeCells, hl]
theorem copyW_sound (hs : Sim w0 n ro lam st a w) {t ty : TypeId} {b x v : V} {B X : Value} {st' : St} (h : copyV P st t b x = some (v, st')) (hB : R w ro lam b B) (hX : R w ro lam x X) :
    ∃ z w', (Builtin.copy_ #[t, t] ty #[B, X]).run P w = .ok z w' ∧ Sim w0 n ro lam st' a w' ∧ R w' ro lam v z := by
  unfold copyV at h
  split at h
  · rename_i dd hdd
    split at h
    · rename_i e s hslc
      obtain ⟨hu, ag, hp⟩ := td_slc' hdd hslc
      obtain ⟨i, De, hi, e2, hsz', e4⟩ := partD_some hp
      split at h
      · rename_i m cs key off len sz hsrc
        split at h
        · rename_i blk hk
          simp only [cond_eq_ite, Bool.and_eq_true, decide_eq_true_eq] at h
          split at h
          · rename_i hc
            obtain ⟨h1, h2, h3, h4, hone⟩ := hc
            subst h2
            simp only [Option.some.injEq, Prod.mk.injEq] at h
            obtain ⟨rfl, rfl⟩ := h
            have hsz : i.size = sz := by omega
            obtain ⟨A, c, Vs, rfl, hcl, hra, hcell, hnone⟩ := src_sound hs (by omega) hsrc hX
            have hra1 := hra.1
            simp at hra1
            have hVl : Vs.length = m * sz := by omega
            have hcs : cs.length = m * sz := by omega
            have hms : m * sz ≤ len * sz := Nat.mul_le_mul_right _ h3
            by_cases h0 : m = 0
            · subst h0
              have hcs0 : cs = [] := List.eq_nil_of_length_eq_zero (by rw [hcs]; simp)
              subst hcs0
              have heq : upd st.heap key (some ⟨blk.ty, setsV blk.cells off []⟩) = st.heap := by
                funext t; by_cases h : t = key
                · subst h; simp [upd, setsV, hk]
                · simp [upd, h]
              rw [heq]
              rcases hB.sl_inv with ⟨_, _, _, rfl⟩ | ⟨b, m', cap, _, _, _, _, rfl⟩
              · exact ⟨_, w, run_copy_none' w t t ty e _ _ _ _ _ _ i hu hi (by simp), hs, .pure _ _ (.int _ _)⟩
              · exact ⟨_, w, run_copy_none' w t t ty e _ _ _ _ _ _ i hu hi (by simp), hs, .pure _ _ (.int _ _)⟩
            · obtain ⟨ad, rfl⟩ : ∃ ad, A = some ad := by
                cases A with
                | none => exact absurd (hnone rfl) h0
                | some ad => exact ⟨ad, rfl⟩
              rcases hB.sl_inv with ⟨_, _, hl0, rfl⟩ | ⟨b, m', cap, hl, _, _, _, rfl⟩
              · omega
              · obtain ⟨w', hrun, hsim⟩ := storeCells_sound (P := P) cs Vs 0 off w st blk hs hk hl (by omega) hra hone
                have hld := run_loadCells_list (P := P) w ad Vs (hcell ad rfl)
                rw [hVl] at hld
                have hmin : Nat.min m len = m := Nat.min_eq_left h3
                refine ⟨goInt m, w', ?_, by simpa using hsim, .pure _ _ (.int _ _)⟩
                simp [Builtin.copy_, run_underlying hu, Builtin.lenOf, Builtin.firstCells, sizeOf, typeInfo, hi, hsz, hmin, hld, hrun]
          · cases h
        · cases h
      · cases h
    · cases h
  · cases h
theorem ev3_sound (hs : Sim w0 n ro lam st a w) {o : Oper} {v : V} {st' : St} (h : ev3 P st o.dst o.op = some (v, st')) (hn : fits n o.dst = true)
    {K : Act → World → Prop} {Q : Exit → Act → World → Prop}
    (hK : ∀ a' lam' w', Sim w0 n ro lam' (st'.put o.dst v) a' w' → K a' w') : o.wp P a w K Q := by
  unfold Oper.wp execOp
  cases hop : o.op with
  | store t x y =>
    rw [hop] at h; simp only [ev3, Option.map_eq_some_iff, Prod.mk.injEq] at h
    obtain ⟨h', hb, rfl, rfl⟩ := h
    obtain ⟨w', h1, h2⟩ := storeV_sound hs hb (hs.ev x) (hs.ev y)
    simp only [Sem.run_bind, h1, Result.andThen_ok, Sem.run_pure, Oper.upon]
    exact hK _ _ _ (h2.put hn (.pure _ _ .undef))
  | makeMap t r =>
    rw [hop] at h
    cases r with
    | some _ => simp [ev3] at h
    | none =>
      simp only [ev3] at h
      split at h
      · rename_i d hd
        split at h
        · rename_i hfr
          simp only [Option.some.injEq, Prod.mk.injEq] at h
          obtain ⟨rfl, rfl⟩ := h
          have hrun : (Instr.makeMap t none).run P w = .ok (.map (some w.heap.size)) (w.alloc (.map #[] 0)) := by simp [Instr.makeMap, run_newObj]
          simp only [Option.map_none, Sem.run_bind, hrun, Result.andThen_ok, Sem.run_pure, Oper.upon]
          refine hK _ _ _ ((hs.allocMap hfr).put hn ?_)
          exact .mp d _ (upd_same _ _ _)
        · cases h
      · cases h
  | mapUpdate t x k y =>
    rw [hop] at h; simp only [ev3, Option.map_eq_some_iff, Prod.mk.injEq] at h
    obtain ⟨h', hb, rfl, rfl⟩ := h
    obtain ⟨w', h1, h2⟩ := mupdV_sound hs hb (hs.ev x) (hs.ev k) (hs.ev y)
    simp only [Sem.run_bind, h1, Result.andThen_ok, Sem.run_pure, Oper.upon]
    exact hK _ _ _ (h2.put hn (.pure _ _ .undef))
  | insert t x k y =>
    rw [hop] at h; simp only [ev3, Option.map_eq_some_iff, Prod.mk.injEq] at h
    obtain ⟨h', hb, rfl, rfl⟩ := h
    obtain ⟨w', h1, h2⟩ := mupdV_sound hs hb (hs.ev x) (hs.ev k) (hs.ev y)
    simp only [Sem.run_bind, h1, Result.andThen_ok, Sem.run_pure, Oper.upon]
    exact hK _ _ _ (h2.put hn (.pure _ _ .undef))
  | call c =>
    rw [hop] at h; simp only [ev3] at h
    obtain ⟨callee, args, argTypes⟩ := c
    simp only at h
    split at h
    · rename_i b x t t' d hargs hts hdst
      simp only [cond_eq_ite, decide_eq_true_eq] at h
      split at h
      · rename_i htt
        subst htt
        have hat : argTypes = #[t, t] := by rw [← Array.toList_inj]; exact hts
        have harg : args = #[b, x] := by rw [← Array.toList_inj]; exact hargs
        obtain ⟨z, w', lam', h1, h2, h3⟩ := appendV_sound (ty := o.type) hs h (hs.ev b) (hs.ev x)
        subst hat; subst harg
        have hrun : ((do let d ← resolve a.eval { callee := .builtin .append, args := #[b, x], argTypes := #[t, t] } o.type; invoke d.target d.args) : Sem Next).run P w = .ok (.value z) w' := by
          simp only [resolve, Sem.run_bind, Sem.run_pure, Result.andThen_ok, invoke, builtin, List.map_toArray, List.map_cons, List.map_nil, h1]
        simp only [hrun, Oper.upon]
        exact hK _ _ _ (h2.put hn h3)
      · cases h
    · rename_i b x t t' hargs hts
      simp only [cond_eq_ite, decide_eq_true_eq] at h
      split at h
      · rename_i htt
        subst htt
        have hat : argTypes = #[t, t] := by rw [← Array.toList_inj]; exact hts
        have harg : args = #[b, x] := by rw [← Array.toList_inj]; exact hargs
        obtain ⟨z, w', h1, h2, h3⟩ := copyW_sound (ty := o.type) hs h (hs.ev b) (hs.ev x)
        subst hat; subst harg
        have hrun : ((do let d ← resolve a.eval { callee := .builtin .copy, args := #[b, x], argTypes := #[t, t] } o.type; invoke d.target d.args) : Sem Next).run P w = .ok (.value z) w' := by
          simp only [resolve, Sem.run_bind, Sem.run_pure, Result.andThen_ok, invoke, builtin, List.map_toArray, List.map_cons, List.map_nil, h1]
        simp only [hrun, Oper.upon]
        exact hK _ _ _ (h2.put hn h3)
      · cases h
    · cases h
  | _ => rw [hop] at h; simp [ev3] at h

/-- One operation. -/
theorem stepOp_sound (hΓ : TabOK P Γ) (hs : Sim w0 n ro lam st a w) {o : Oper} {st' : St} (h : stepOp P Γ st o.dst o.op = some st') (hn : fits n o.dst = true)
    {K : Act → World → Prop} {Q : Exit → Act → World → Prop}
    (hK : ∀ a' ro' lam' w', Ext w0 ro ro' → Sim w0 n ro' lam' st' a' w' → K a' w') : o.wp P a w K Q := by
  unfold stepOp at h
  split at h
  · simp only [Option.map_eq_some_iff] at h
    obtain ⟨v, hv, rfl⟩ := h
    exact ev01_sound hΓ hs hv fun x ro' w' hext hs' hr => hK _ ro' lam w' hext (hs'.put hn hr)
  · simp only [Option.map_eq_some_iff] at h
    obtain ⟨v, hv, rfl⟩ := h
    exact ev01_sound hΓ hs hv fun x ro' w' hext hs' hr => hK _ ro' lam w' hext (hs'.put hn hr)
  · split at h
    · rename_i d hd
      split at h
      · rename_i hfr
        simp only [Option.map_eq_some_iff] at h
        obtain ⟨p, hp, rfl⟩ := h
        rw [hd] at hn
        exact ev2_sound hs hd hfr hp (by simpa [fits] using hn) fun a' lam' w' hs' => hK a' ro lam' w' (Ext.refl _ _) hs'
      · cases h
    · cases h
  · simp only [Option.map_eq_some_iff] at h
    obtain ⟨p, hp, rfl⟩ := h
    exact ev3_sound hs hp hn fun a' lam' w' hs' => hK a' ro lam' w' (Ext.refl _ _) hs'

/-! ### guards -/
def wantV (ops : Array Oper) (st : St) (g : Option (Nat × Bool)) : Option Bool := match g with
  | none => some true
  | some (j, want) => (match (ops[j]?).bind (·.dst) with
    | some d => (match st.env d with
      | .bool b => some (b == want)
      | .undef => some false
      | _ => none)
    | none => some false)
theorem wantV_sound (hs : Sim w0 n ro lam st a w) {ops : Array Oper} {o : Oper} {b : Bool} (h : wantV ops st o.guard = some b) : Region.wanted o (yielded ops a.tmps) = b := by
  unfold wantV at h
  unfold Region.wanted
  split at h
  · rename_i hg
    simp only [Option.some.injEq] at h; subst h; simp [hg]
  · rename_i j want hg
    simp only [hg]
    split at h
    · rename_i d hd
      have he := hs.env d
      split at h
      · rename_i b' hb'
        rw [hb'] at he
        have hv := he.bool_inv
        simp only [Option.some.injEq] at h; subst h
        have hget : a.tmps[d]? = some (.bool b') := by
          rw [Array.getD_eq_getD_getElem?] at hv
          cases ht : a.tmps[d]? with
          | none => rw [ht] at hv; simp [Go.undef] at hv
          | some x => rw [ht] at hv; simpa using hv
        simp [yielded, hd, hget]
      · rename_i hb'
        rw [hb'] at he
        have hv := he.undef_inv
        simp only [Option.some.injEq] at h; subst h
        have : yielded ops a.tmps j = none := by
          unfold yielded
          rw [hd]
          simp only [Option.bind_some]
          cases ht : a.tmps[d]? with
          | none => rfl
          | some x =>
            rw [Array.getD_eq_getD_getElem?, ht] at hv
            simp only [Option.getD_some] at hv
            subst hv
            rfl
        rw [this]; rfl
      · cases h
    · rename_i hd
      simp only [Option.some.injEq] at h; subst h
      have : yielded ops a.tmps j = none := by
        unfold yielded
        rw [hd]; rfl
      rw [this]; rfl

/-- One operation with its guard. -/
def stepO (P : Program) (Γ : Tab) (n : Nat) (ops : Array Oper) (o : Oper) (st : St) : Option St :=
  bif fits n o.dst then (match wantV ops st o.guard with
    | some true => stepOp P Γ st o.dst o.op
    | some false => some (st.put o.dst .undef)
    | none => none) else none
theorem stepO_sound (hΓ : TabOK P Γ) (hs : Sim w0 n ro lam st a w) {ops : Array Oper} {o : Oper} {st' : St} (h : stepO P Γ n ops o st = some st')
    {K : Act → World → Prop} {Q : Exit → Act → World → Prop}
    (hK : ∀ a' ro' lam' w', Ext w0 ro ro' → Sim w0 n ro' lam' st' a' w' → K a' w') :
    if Region.wanted o (yielded ops a.tmps) then o.wp P a w K Q ∨ (o.asks P a w ∧ LetsOut Q) else K (a.put o.dst Go.undef) w := by
  unfold stepO at h
  simp only [cond_eq_ite] at h
  split at h
  · rename_i hn
    split at h
    · rename_i hw
      rw [wantV_sound hs hw, if_pos rfl]
      exact .inl (stepOp_sound hΓ hs h hn hK)
    · rename_i hw
      simp only [Option.some.injEq] at h; subst h
      rw [wantV_sound hs hw, if_neg (by simp)]
      exact hK _ ro lam w (Ext.refl _ _) (hs.put hn (.pure _ _ .undef))
    · cases h
  · cases h

def evL (P : Program) (Γ : Tab) (n : Nat) (ops : Array Oper) : List Oper → St → Option St
  | [], st => some st
  | o :: rest, st => (stepO P Γ n ops o st).bind (evL P Γ n ops rest)

theorem evL_sound (hΓ : TabOK P Γ) {ops : Array Oper} {Q : Exit → Act → World → Prop} : ∀ (l : List Oper) (st st' : St) (ro : Nat → Prop) (lam : Lam) (a : Act) (w : World), evL P Γ n ops l st = some st' → Sim w0 n ro lam st a w →
    (∀ a' ro' lam' w', Ext w0 ro ro' → Sim w0 n ro' lam' st' a' w' → Q .normal a' w') → wpList P ops Q l a w
  | [], st, st', ro, lam, a, w, h, hs, hQ => by
    simp only [evL, Option.some.injEq] at h; subst h
    exact hQ a ro lam w (Ext.refl _ _) hs
  | o :: rest, st, st', ro, lam, a, w, h, hs, hQ => by
    simp only [evL, Option.bind_eq_some_iff] at h
    obtain ⟨st1, h1, h2⟩ := h
    exact stepO_sound hΓ hs h1 fun a' ro' lam' w' hext hs' => evL_sound hΓ rest st1 st' ro' lam' a' w' h2 hs' fun a'' ro'' lam'' w'' hext' hs'' => hQ a'' ro'' lam'' w'' (hext.trans hext') hs''
end
end Go.Pv
end
