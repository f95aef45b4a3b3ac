/-
  Part 1 of a small tool of our own: pure values, and when a value, a frame and a heap of the model are what a pure state says.
  Nothing here is about a certain program.
-/
import Derived.Below
import Derived.Still
import Derived.Deep.Draws
import Derived.Laws.AppendOwn
import Derived.Laws.MakeOwn
import Derived.Laws.Rows
import Derived.Calls
namespace Go.Pv
open Go.RowKit

/-- A pure value. 'list': a slice that is only read, by its elements' cells; 'rp': a pointer to memory that is only read, by the cells there. 'sl', 'ptr': a slice of, a pointer into, a block of the call's own, by the block's key. 'junk': nothing is known. 'val': just that value. 'vrp': like 'rp', at this address; 'vptr': like 'ptr', in this block of the memory. 'mp': a map of the call's own, all of whose values are true: a set; 'rset': such a map that is only read. 'as': just that value, which reads so. -/
inductive V where
  | undef
  | junk
  | bool (b : Bool)
  | int (k : IntKind) (n : Int)
  | str (s : ByteArray)
  | nils
  | list (sz : Nat) (xs : List (List V))
  | sl (key off len sz : Nat)
  | ptr (key off : Nat)
  | rp (cells : List V)
  | agg (cells : List V)
  | tup (vs : List V)
  | val (x : Value)
  | vrp (a : Addr) (cells : List V)
  | vptr (b key off : Nat)
  | mp (key : Nat)
  | rset (ks : List V)
  | as (x : Value) (sz : Nat) (xs : List (List V))

instance : Inhabited V := ⟨.junk⟩

structure Blk where
  ty : TypeId
  cells : List V

/-- Where the block of a key lies: nowhere yet (a nil slice), or in which block of the memory, and how many cells that block has. -/
abbrev Lam := Nat → Option (Option Nat × Nat)

/-- A key of a set. -/
def KeyV : V → Value → Prop
  | .str s, x => x = .string s
  | .val y, x => x = y
  | _, _ => True
/-- A set, as a map's object. -/
def SetR (ks : List V) (o : Obj) : Prop := ∃ ents clk, o = .map ents clk ∧ ents.size = ks.length ∧ ∀ (j : Nat) (k : V) (e : MapEntry), ks[j]? = some k → ents[j]? = some e → e.val = .bool true ∧ KeyV k e.key
/-- A value that has no memory of the call's own in it. 'ro': the blocks that nobody writes any more. -/
inductive R0 (w : World) (ro : Nat → Prop) : V → Value → Prop
  | undef : R0 w ro .undef Go.undef
  | junk (x : Value) : R0 w ro .junk x
  | val (x : Value) : R0 w ro (.val x) x
  | bool (b : Bool) : R0 w ro (.bool b) (.bool b)
  | int (k : IntKind) (n : Int) : R0 w ro (.int k n) (.int k n)
  | str (s : ByteArray) : R0 w ro (.str s) (.string s)
  | nils : R0 w ro .nils (.slice none 0 0)
  | list0 (sz : Nat) (a : Option Addr) (cap : Nat) : R0 w ro (.list sz []) (.slice a 0 cap)
  | list (sz : Nat) (xs : List (List V)) (a : Addr) (cap : Nat) (g : Nat → Nat → Value) (hro : ro a.block) (hsz : ∀ c ∈ xs, c.length = sz)
      (hcap : xs.length ≤ cap)
      (hg : ∀ (i j : Nat) (c : List V) (x : V), xs[i]? = some c → c[j]? = some x → w.cell? (a.add (i * sz + j)) = some (g i j))
      (hr : ∀ (i j : Nat) (c : List V) (x : V), xs[i]? = some c → c[j]? = some x → R0 w ro x (g i j)) :
      R0 w ro (.list sz xs) (.slice (some a) xs.length cap)
  | rp (cells : List V) (a : Addr) (g : Nat → Value) (hro : ro a.block)
      (hg : ∀ (j : Nat) (x : V), cells[j]? = some x → w.cell? (a.add j) = some (g j))
      (hr : ∀ (j : Nat) (x : V), cells[j]? = some x → R0 w ro x (g j)) : R0 w ro (.rp cells) (.pointer (some a))
  | vrp (cells : List V) (a : Addr) (g : Nat → Value) (hro : ro a.block)
      (hg : ∀ (j : Nat) (x : V), cells[j]? = some x → w.cell? (a.add j) = some (g j))
      (hr : ∀ (j : Nat) (x : V), cells[j]? = some x → R0 w ro x (g j)) : R0 w ro (.vrp a cells) (.pointer (some a))
  | as (x : Value) (sz : Nat) (xs : List (List V)) (h : R0 w ro (.list sz xs) x) : R0 w ro (.as x sz xs) x
  | rset (ks : List V) (b : Nat) (o : Obj) (hro : ro b) (hw : w.heap[b]? = some o) (hs : SetR ks o) : R0 w ro (.rset ks) (.map (some b))
  | agg (cells : List V) (arr : Array Value) (hl : arr.size = cells.length)
      (hr : ∀ (j : Nat) (c : V) (x : Value), cells[j]? = some c → arr[j]? = some x → R0 w ro c x) : R0 w ro (.agg cells) (.agg arr)
  | tup (vs : List V) (arr : Array Value) (hl : arr.size = vs.length)
      (hr : ∀ (j : Nat) (c : V) (x : Value), vs[j]? = some c → arr[j]? = some x → R0 w ro c x) : R0 w ro (.tup vs) (.tuple arr)

/-- A value of the frame or of a cell. -/
inductive R (w : World) (ro : Nat → Prop) (lam : Lam) : V → Value → Prop
  | pure (v : V) (x : Value) (h : R0 w ro v x) : R w ro lam v x
  | slv (key sz : Nat) (h : lam key = some (none, 0)) : R w ro lam (.sl key 0 0 sz) (.slice none 0 0)
  | sl (key off len sz b m cap : Nat) (h : lam key = some (some b, m)) (hm : off + cap * sz ≤ m) (hl : len ≤ cap) (hc : cap ≤ maxLen) :
      R w ro lam (.sl key off len sz) (.slice (some ⟨b, off, none⟩) len cap)
  | ptr (key off b m : Nat) (h : lam key = some (some b, m)) : R w ro lam (.ptr key off) (.pointer (some ⟨b, off, none⟩))
  | vptr (key off b m : Nat) (h : lam key = some (some b, m)) : R w ro lam (.vptr b key off) (.pointer (some ⟨b, off, none⟩))
  | mp (key b : Nat) (h : lam key = some (none, b + 1)) : R w ro lam (.mp key) (.map (some b))
  | agg (cells : List V) (arr : Array Value) (hl : arr.size = cells.length)
      (hr : ∀ (j : Nat) (c : V) (x : Value), cells[j]? = some c → arr[j]? = some x → R w ro lam c x) : R w ro lam (.agg cells) (.agg arr)
  | tup (vs : List V) (arr : Array Value) (hl : arr.size = vs.length)
      (hr : ∀ (j : Nat) (c : V) (x : Value), vs[j]? = some c → arr[j]? = some x → R w ro lam c x) : R w ro lam (.tup vs) (.tuple arr)

theorem block_add (a : Addr) (n : Nat) : (a.add n).block = a.block := by unfold Addr.add; split <;> rfl

theorem R0.mono {w w' : World} {ro ro' : Nat → Prop} {v : V} {x : Value} (hw : ∀ b, ro b → w'.heap[b]? = w.heap[b]?) (hro : ∀ b, ro b → ro' b)
    (h : R0 w ro v x) : R0 w' ro' v x := by
  induction h with
  | undef => exact .undef
  | junk x => exact .junk x
  | val x => exact .val x
  | bool b => exact .bool b
  | int k n => exact .int k n
  | str s => exact .str s
  | nils => exact .nils
  | list0 sz a cap => exact .list0 sz a cap
  | list sz xs a cap g h1 h2 hcap h3 _ ih =>
    refine .list sz xs a cap g (hro _ h1) h2 hcap (fun i j c x hi hj => ?_) ih
    rw [← h3 i j c x hi hj]
    exact World.cell?_of_block (by rw [block_add]; exact hw _ h1)
  | rp cells a g h1 h2 _ ih =>
    refine .rp cells a g (hro _ h1) (fun j x hj => ?_) ih
    rw [← h2 j x hj]
    exact World.cell?_of_block (by rw [block_add]; exact hw _ h1)
  | vrp cells a g h1 h2 _ ih =>
    refine .vrp cells a g (hro _ h1) (fun j x hj => ?_) ih
    rw [← h2 j x hj]
    exact World.cell?_of_block (by rw [block_add]; exact hw _ h1)
  | as x sz xs _ ih => exact .as x sz xs ih
  | rset ks b o h1 h2 h3 => exact .rset ks b o (hro _ h1) ((hw b h1).trans h2) h3
  | agg cells arr hl _ ih => exact .agg cells arr hl ih
  | tup vs arr hl _ ih => exact .tup vs arr hl ih

theorem R.mono {w w' : World} {ro ro' : Nat → Prop} {lam lam' : Lam} {v : V} {x : Value} (hw : ∀ b, ro b → w'.heap[b]? = w.heap[b]?) (hro : ∀ b, ro b → ro' b)
    (hlam : ∀ k y, lam k = some y → lam' k = some y) (h : R w ro lam v x) : R w' ro' lam' v x := by
  induction h with
  | pure v x h => exact .pure v x (h.mono hw hro)
  | slv key sz h => exact .slv key sz (hlam _ _ h)
  | sl key off len sz b m cap h h1 h2 h3 => exact .sl key off len sz b m cap (hlam _ _ h) h1 h2 h3
  | ptr key off b m h => exact .ptr key off b m (hlam _ _ h)
  | vptr key off b m h => exact .vptr key off b m (hlam _ _ h)
  | mp key b h => exact .mp key b (hlam _ _ h)
  | agg cells arr hl _ ih => exact .agg cells arr hl ih
  | tup vs arr hl _ ih => exact .tup vs arr hl ih

/-- Does a cell, a value, a tuple mention memory of the call's own? -/
def ownC : V → Bool
  | .sl .. | .ptr .. | .vptr .. | .mp _ | .agg _ | .tup _ => true
  | _ => false
def ownA : V → Bool
  | .agg cs => cs.any ownC
  | .tup _ => true
  | v => ownC v
def ownT : V → Bool
  | .tup vs => vs.any ownA
  | v => ownA v

theorem R.pureC {w : World} {ro : Nat → Prop} {lam : Lam} {v : V} {x : Value} (h : R w ro lam v x) (ho : ownC v = false) : R0 w ro v x := by
  cases h with
  | pure _ _ h => exact h
  | _ => simp [ownC] at ho
theorem any_at {α : Type} {p : α → Bool} {l : List α} (h : l.any p = false) {j : Nat} {c : α} (hj : l[j]? = some c) : p c = false := by
  have := List.any_eq_false.1 h c (List.mem_of_getElem? hj)
  simpa using this
theorem R.pureA {w : World} {ro : Nat → Prop} {lam : Lam} {v : V} {x : Value} (h : R w ro lam v x) (ho : ownA v = false) : R0 w ro v x := by
  cases h with
  | pure _ _ h => exact h
  | agg cells arr hl hr => exact .agg cells arr hl fun j c x hc hx => (hr j c x hc hx).pureC (any_at ho hc)
  | _ => simp [ownA, ownC] at ho
theorem R.pureT {w : World} {ro : Nat → Prop} {lam : Lam} {v : V} {x : Value} (h : R w ro lam v x) (ho : ownT v = false) : R0 w ro v x := by
  cases h with
  | pure _ _ h => exact h
  | agg cells arr hl hr => exact .agg cells arr hl fun j c x hc hx => (hr j c x hc hx).pureC (any_at (by simpa [ownT, ownA] using ho) hc)
  | tup vs arr hl hr => exact .tup vs arr hl fun j c x hc hx => (hr j c x hc hx).pureA (any_at ho hc)
  | _ => simp [ownT, ownA, ownC] at ho

structure St where
  env : Nat → V
  heap : Nat → Option Blk

def upd {α : Type} (e : Nat → α) (d : Nat) (v : α) : Nat → α := fun t => if t = d then v else e t
theorem upd_same {α : Type} (e : Nat → α) (d : Nat) (v : α) : upd e d v d = v := by simp [upd]
theorem upd_ne {α : Type} (e : Nat → α) {d t : Nat} (v : α) (h : t ≠ d) : upd e d v t = e t := by simp [upd, h]
theorem upd_lit {α : Type} (e : Nat → α) (d t : Nat) (v : α) : upd e d v t = bif t == d then v else e t := by simp [upd, cond_eq_ite]

def St.put (st : St) (d : Option Tmp) (v : V) : St := match d with
  | some d => { st with env := upd st.env d v }
  | none => st

/-- The block of a key, as the memory has it. -/
def BR (w : World) (ro : Nat → Prop) (lam : Lam) (key : Nat) (blk : Blk) : Prop :=
  (lam key = some (none, 0) ∧ blk.cells = []) ∨ (∃ (b : Nat) (o : Obj), lam key = some (none, b + 1) ∧ w.heap[b]? = some o ∧ SetR blk.cells o) ∨
  ∃ (b m : Nat) (arr : Array Value), lam key = some (some b, m) ∧ w.heap[b]? = some (.cells arr blk.ty (0, 0)) ∧ arr.size = m ∧ blk.cells.length ≤ m ∧
    ∀ (j : Nat) (c : V) (x : Value), blk.cells[j]? = some c → arr[j]? = some x → R w ro lam c x

/-- Where a run began: the world; which of its blocks may be written all the same; the frame's deferred calls. -/
structure Base where
  w : World
  imp : Nat → Prop
  dfs : List Deferred
def Base.of (w : World) : Base := ⟨w, fun _ => False, []⟩
structure Base.Keeps (B : Base) (w : World) : Prop where
  os : w.os = B.w.os
  tape : w.tape = B.w.tape
  output : w.output = B.w.output
  size : B.w.heap.size ≤ w.heap.size
  block : ∀ k, k < B.w.heap.size → ¬ B.imp k → w.heap[k]? = B.w.heap[k]?
def Base.Free (B : Base) (b : Nat) : Prop := B.imp b ∨ B.w.heap.size ≤ b
theorem Base.Keeps.refl (w : World) (I : Nat → Prop) (D : List Deferred) : Base.Keeps ⟨w, I, D⟩ w := ⟨rfl, rfl, rfl, Nat.le_refl _, fun _ _ _ => rfl⟩
theorem Base.Keeps.below {w w' : World} {D : List Deferred} (h : Base.Keeps ⟨w, fun _ => False, D⟩ w') : Below w.heap.size w w' := ⟨h.os, h.tape, h.output, h.size, fun k hk => h.block k hk (fun h => h)⟩
theorem Base.Keeps.after {B : Base} {w w' : World} (h : B.Keeps w) (k : Below w.heap.size w w') : B.Keeps w' :=
  ⟨k.os.trans h.os, k.tape.trans h.tape, k.output.trans h.output, Nat.le_trans h.size k.size, fun i hi hn => (k.block i (Nat.lt_of_lt_of_le hi h.size)).trans (h.block i hi hn)⟩
/-- What turns lies in blocks that may be written. -/
theorem Base.Keeps.but {B : Base} {w w' : World} (h : B.Keeps w) (e1 : w'.os = w.os) (e2 : w'.tape = w.tape) (e3 : w'.output = w.output) (e4 : w.heap.size ≤ w'.heap.size) (e5 : ∀ k, k < w.heap.size → ¬ B.Free k → w'.heap[k]? = w.heap[k]?) : B.Keeps w' :=
  ⟨e1.trans h.os, e2.trans h.tape, e3.trans h.output, Nat.le_trans h.size e4, fun i hi hn => (e5 i (Nat.lt_of_lt_of_le hi h.size) (fun hf => hf.elim hn (fun h => by omega))).trans (h.block i hi hn)⟩
theorem Base.Keeps.setCell {B : Base} {w : World} (h : B.Keeps w) {b off : Nat} (hb : B.Free b) (x : Value) : B.Keeps (w.setCell ⟨b, off, none⟩ x) := by
  have hg := (Below.refl 0 w).setCell (p := ⟨b, off, none⟩) (Nat.zero_le _) x
  exact h.but hg.os hg.tape hg.output hg.size fun k _ hk => Below.heap_setCell _ _ _ _ (by rintro rfl; exact hk hb)

structure Sim (w0 : Base) (n : Nat) (ro : Nat → Prop) (lam : Lam) (st : St) (a : Act) (w : World) : Prop where
  below : w0.Keeps w
  dfr : a.defers = w0.dfs
  size : n ≤ a.tmps.size
  rolt : ∀ b, ro b → b < w.heap.size
  env : ∀ t, R w ro lam (st.env t) (a.tmps.getD t Go.undef)
  heap : ∀ key blk, st.heap key = some blk → BR w ro lam key blk
  dead : ∀ key, st.heap key = none → lam key = none
  own : ∀ key b m, lam key = some (some b, m) → w0.Free b ∧ b < w.heap.size ∧ ¬ ro b
  inj : ∀ k1 k2 b m1 m2, lam k1 = some (some b, m1) → lam k2 = some (some b, m2) → k1 = k2
  maps : ∀ key b, lam key = some (none, b + 1) → (w0.Free b ∧ b < w.heap.size ∧ ¬ ro b) ∧ ∀ key', lam key' = some (none, b + 1) → key' = key

section
variable {w0 : Base} {n : Nat} {ro : Nat → Prop} {lam : Lam} {st : St} {a : Act} {w : World}

/-- A destination lies in the frame. -/
def fits (n : Nat) (d : Option Tmp) : Bool := match d with
  | some d => decide (d < n)
  | none => true

theorem getD_put {a : Act} {d : Nat} {x : Value} (h : d < a.tmps.size) (t : Nat) : (a.put (some d) x).tmps.getD t Go.undef = if t = d then x else a.tmps.getD t Go.undef := by
  simp only [Act.put, Array.getD_eq_getD_getElem?, Array.getElem?_setIfInBounds]
  by_cases e : d = t
  · subst e; simp [h]
  · have e' : t ≠ d := fun h => e h.symm
    simp [e, e']

theorem Sim.put (h : Sim w0 n ro lam st a w) {d : Option Tmp} {v : V} {x : Value} (hd : fits n d = true) (hx : R w ro lam v x) :
    Sim w0 n ro lam (st.put d v) (a.put d x) w := by
  cases d with
  | none => exact h
  | some d =>
    simp only [fits, decide_eq_true_eq] at hd
    have hds : d < a.tmps.size := Nat.lt_of_lt_of_le hd h.size
    refine ⟨h.below, h.dfr, by simpa [Act.put] using h.size, h.rolt, fun t => ?_, h.heap, h.dead, h.own, h.inj, h.maps⟩
    rw [getD_put hds]
    simp only [St.put, upd]
    split
    · exact hx
    · exact h.env t

/-- Only memory that is neither old, nor read-only, nor own has turned: new blocks, draws. -/
theorem Sim.world (h : Sim w0 n ro lam st a w) {w' : World} (hb : Below w.heap.size w w') : Sim w0 n ro lam st a w' := by
  have hro : ∀ b, ro b → w'.heap[b]? = w.heap[b]? := fun b hr => hb.block b (h.rolt b hr)
  have hm : ∀ {v x}, R w ro lam v x → R w' ro lam v x := fun hr => hr.mono hro (fun _ hb => hb) (fun _ _ hk => hk)
  refine ⟨h.below.after hb, h.dfr, h.size, fun b hr => Nat.lt_of_lt_of_le (h.rolt b hr) hb.size, fun t => hm (h.env t), fun key blk hk => ?_, h.dead, fun key b m hl => ?_, h.inj, fun key b hl => ⟨⟨(h.maps key b hl).1.1, Nat.lt_of_lt_of_le (h.maps key b hl).1.2.1 hb.size, (h.maps key b hl).1.2.2⟩, (h.maps key b hl).2⟩⟩
  · rcases h.heap key blk hk with hv | ⟨b, o, hl, hw, hs⟩ | ⟨b, m, arr, hl, hw, hs, hle, hr⟩
    · exact .inl hv
    · exact .inr (.inl ⟨b, o, hl, (hb.block b (h.maps key b hl).1.2.1).trans hw, hs⟩)
    · refine .inr <| .inr ⟨b, m, arr, hl, ?_, hs, hle, fun j c x hc hx => hm (hr j c x hc hx)⟩
      rw [hb.block b (h.own key b m hl).2.1]; exact hw
  · obtain ⟨h1, h2, h3⟩ := h.own key b m hl
    exact ⟨h1, Nat.lt_of_lt_of_le h2 hb.size, h3⟩

/-- A new block of the call's own, under a key that is free. -/
theorem Sim.alloc (h : Sim w0 n ro lam st a w) {d : Nat} {ty : TypeId} {arr : Array Value} {cells : List V} (hd : st.heap d = none) (hle : cells.length ≤ arr.size)
    (hr : ∀ (j : Nat) (c : V) (x : Value), cells[j]? = some c → arr[j]? = some x → R w ro lam c x) :
    Sim w0 n ro (upd lam d (some (some w.heap.size, arr.size))) { st with heap := upd st.heap d (some ⟨ty, cells⟩) } a (w.alloc (.cells arr ty)) := by
  have hb : Below w.heap.size w (w.alloc (.cells arr ty)) := (Below.refl _ _).alloc (Nat.le_refl _) _
  have h' := h.world hb
  have hdl : lam d = none := h.dead d hd
  have hlam : ∀ k y, lam k = some y → upd lam d (some (some w.heap.size, arr.size)) k = some y := fun k y hk => by
    rw [upd_ne]; exact hk
    rintro rfl; rw [hdl] at hk; cases hk
  have hm : ∀ {v x}, R (w.alloc (.cells arr ty)) ro lam v x → R (w.alloc (.cells arr ty)) ro (upd lam d (some (some w.heap.size, arr.size))) v x :=
    fun hr => hr.mono (fun _ _ => rfl) (fun _ hb => hb) hlam
  have hro : ∀ b, ro b → (w.alloc (.cells arr ty)).heap[b]? = w.heap[b]? := fun b hr => hb.block b (h.rolt b hr)
  have hold : ∀ k b m, upd lam d (some (some w.heap.size, arr.size)) k = some (some b, m) → k = d ∧ b = w.heap.size ∨ k ≠ d ∧ lam k = some (some b, m) := by
    intro k b m hk
    by_cases e : k = d
    · subst e; rw [upd_same] at hk; simp only [Option.some.injEq, Prod.mk.injEq] at hk; exact .inl ⟨rfl, hk.1.symm⟩
    · rw [upd_ne _ _ e] at hk; exact .inr ⟨e, hk⟩
  refine ⟨h'.below, h'.dfr, h'.size, h'.rolt, fun t => hm (h'.env t), fun key blk hk => ?_, fun key hk => ?_, fun key b m hl => ?_, fun k1 k2 b m1 m2 e1 e2 => ?_, fun key b hl => ?_⟩
  · by_cases e : key = d
    · subst e
      simp only [upd_same, Option.some.injEq] at hk
      subst hk
      refine .inr <| .inr ⟨w.heap.size, arr.size, arr, upd_same _ _ _, heap_alloc_new w _, rfl, hle, fun j c x hc hx => hm ((hr j c x hc hx).mono hro (fun _ hb => hb) (fun _ _ hk => hk))⟩
    · simp only [upd_ne _ _ e] at hk
      rcases h'.heap key blk hk with ⟨hv, hc⟩ | ⟨b, o, hl, hw, hs⟩ | ⟨b, m, arr', hl, hw, hs, hle', hr'⟩
      · exact .inl ⟨hlam _ _ hv, hc⟩
      · exact .inr (.inl ⟨b, o, hlam _ _ hl, hw, hs⟩)
      · exact .inr <| .inr ⟨b, m, arr', hlam _ _ hl, hw, hs, hle', fun j c x hc hx => hm (hr' j c x hc hx)⟩
  · by_cases e : key = d
    · subst e; simp only [upd_same] at hk; cases hk
    · simp only [upd_ne _ _ e] at hk ⊢; exact h.dead key hk
  · rcases hold key b m hl with ⟨rfl, rfl⟩ | ⟨_, hl'⟩
    · refine ⟨.inr h.below.size, by simp, fun hr => ?_⟩
      have := h.rolt _ hr; omega
    · obtain ⟨h1, h2, h3⟩ := h'.own key b m hl'
      exact ⟨h1, h2, h3⟩
  · rcases hold k1 b m1 e1 with ⟨rfl, rfl⟩ | ⟨n1, l1⟩
    · rcases hold k2 _ m2 e2 with ⟨rfl, _⟩ | ⟨_, l2⟩
      · rfl
      · have := (h.own k2 _ m2 l2).2.1; omega
    · rcases hold k2 b m2 e2 with ⟨rfl, rfl⟩ | ⟨_, l2⟩
      · have := (h.own k1 _ m1 l1).2.1; omega
      · exact h.inj k1 k2 b m1 m2 l1 l2
  · have hmb : ∀ k, upd lam d (some (some w.heap.size, arr.size)) k = some (none, b + 1) → lam k = some (none, b + 1) := fun k hk => by
      by_cases e : k = d
      · subst e; rw [upd_same] at hk; cases hk
      · rwa [upd_ne _ _ e] at hk
    exact ⟨(h'.maps key b (hmb key hl)).1, fun key' hk' => (h'.maps key b (hmb key hl)).2 key' (hmb key' hk')⟩

/-- One cell of an own block is written. -/
theorem Sim.setCell (h : Sim w0 n ro lam st a w) {key off b m : Nat} {blk : Blk} {v : V} {x : Value} (hk : st.heap key = some blk) (hl : lam key = some (some b, m))
    (ho : off < blk.cells.length) (hx : R w ro lam v x) :
    Sim w0 n ro lam { st with heap := upd st.heap key (some ⟨blk.ty, blk.cells.set off v⟩) } a (w.setCell ⟨b, off, none⟩ x) := by
  obtain ⟨hb1, hb2, hb3⟩ := h.own key b m hl
  have hro : ∀ c, ro c → (w.setCell ⟨b, off, none⟩ x).heap[c]? = w.heap[c]? := fun c hc => Below.heap_setCell _ _ _ _ (by rintro rfl; exact hb3 hc)
  have hm : ∀ {v x'}, R w ro lam v x' → R (w.setCell ⟨b, off, none⟩ x) ro lam v x' := fun hr => hr.mono hro (fun _ hb => hb) (fun _ _ hk => hk)
  refine ⟨h.below.setCell hb1 _, h.dfr, h.size, fun c hc => by simpa using h.rolt c hc, fun t => hm (h.env t), fun key' blk' hk' => ?_, fun key' hk' => ?_, fun k b' m' hl' => ?_, h.inj, fun k b' hl' => ⟨⟨(h.maps k b' hl').1.1, by simpa using (h.maps k b' hl').1.2.1, (h.maps k b' hl').1.2.2⟩, (h.maps k b' hl').2⟩⟩
  · by_cases e : key' = key
    · subst e
      simp only [upd_same, Option.some.injEq] at hk'
      subst hk'
      rcases h.heap key' blk hk with ⟨hv, _⟩ | ⟨b', o, hv, _⟩ | ⟨b', m', arr, hl', hw, hs, hle, hr⟩
      · rw [hl] at hv; cases hv
      · rw [hl] at hv; cases hv
      · have hbb : b' = b := by rw [hl] at hl'; simp at hl'; exact hl'.1.symm
        subst hbb
        refine .inr <| .inr ⟨b', m', arr.setIfInBounds off x, hl', heap_setCell_same w b' off arr blk.ty x hw, by simpa using hs, by simpa using hle, fun j c y hc hy => ?_⟩
        rw [List.getElem?_set] at hc
        rw [Array.getElem?_setIfInBounds] at hy
        by_cases ej : off = j
        · subst ej
          simp only [if_true, ho, Option.some.injEq] at hc
          have hoa : off < arr.size := by omega
          simp only [if_true, hoa, Option.some.injEq] at hy
          subst hc; subst hy
          exact hm hx
        · simp only [ej, if_false] at hc hy
          exact hm (hr j c y hc hy)
    · simp only [upd_ne _ _ e] at hk'
      rcases h.heap key' blk' hk' with hv | ⟨b', o, hl', hw, hs⟩ | ⟨b', m', arr, hl', hw, hs, hle, hr⟩
      · exact .inl hv
      · refine .inr (.inl ⟨b', o, hl', ?_, hs⟩)
        rw [Below.heap_setCell]; exact hw
        intro eb
        simp only at eb
        subst eb
        rcases h.heap key blk hk with ⟨hv, _⟩ | ⟨b'', o', hv, _⟩ | ⟨b'', m'', arr'', hl'', hw'', _⟩
        · rw [hl] at hv; cases hv
        · rw [hl] at hv; cases hv
        · rw [hl] at hl''
          simp only [Option.some.injEq, Prod.mk.injEq] at hl''
          obtain ⟨e1, _⟩ := hl''
          subst e1
          rw [hw] at hw''
          obtain ⟨ents, clk, rfl, _⟩ := hs
          cases hw''
      · refine .inr <| .inr ⟨b', m', arr, hl', ?_, hs, hle, fun j c y hc hy => hm (hr j c y hc hy)⟩
        rw [Below.heap_setCell]; exact hw
        intro eb
        simp only at eb
        subst eb
        exact e (h.inj _ _ _ _ _ hl' hl)
  · by_cases e : key' = key
    · subst e; simp only [upd_same] at hk'; cases hk'
    · simp only [upd_ne _ _ e] at hk'; exact h.dead key' hk'
  · obtain ⟨h1, h2, h3⟩ := h.own k b' m' hl'
    exact ⟨h1, by simpa using h2, h3⟩
/-- A block of cells is no map. -/
theorem Sim.notMap (h : Sim w0 n ro lam st a w) {key b m : Nat} {o : Obj} {ks : List V} (hl : lam key = some (some b, m)) (hw : w.heap[b]? = some o) (hs : SetR ks o) : False := by
  cases hk0 : st.heap key with
  | none => rw [h.dead key hk0] at hl; cases hl
  | some blk0 =>
    rcases h.heap key blk0 hk0 with ⟨hv, _⟩ | ⟨b'', o', hv, _⟩ | ⟨b'', m'', arr'', hl'', hw'', _⟩
    · rw [hl] at hv; cases hv
    · rw [hl] at hv; cases hv
    · rw [hl] at hl''
      simp only [Option.some.injEq, Prod.mk.injEq] at hl''
      obtain ⟨e1, _⟩ := hl''
      subst e1
      rw [hw] at hw''
      obtain ⟨ents, clk, rfl, _⟩ := hs
      cases hw''
/-- The block of a key, cells or map. -/
def lamB (lam : Lam) (key b : Nat) : Prop := (∃ m, lam key = some (some b, m)) ∨ lam key = some (none, b + 1)
theorem Sim.ob (h : Sim w0 n ro lam st a w) {key b : Nat} (hl : lamB lam key b) : w0.Free b ∧ b < w.heap.size ∧ ¬ ro b := by
  rcases hl with ⟨m, hl⟩ | hl
  · exact h.own key b m hl
  · exact (h.maps key b hl).1
end
end Go.Pv
