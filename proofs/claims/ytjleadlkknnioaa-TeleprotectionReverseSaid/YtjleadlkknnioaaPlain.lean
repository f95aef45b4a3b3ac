/-
  The three laws over two relays, in plain terms: the states of both behind k steps.
-/
import Derived.Test.YtjleadlkknnioaaPair
namespace Go.Proofs.Ytjleadlkknnioaa
open Go.Pv Go.RowKit
set_option linter.unusedSimpArgs false
set_option linter.unusedVariables false
set_option maxHeartbeats 4000000

def lst (f : Nat → In) (n : Nat) : List In := (List.range n).map f
theorem lst_len (f : Nat → In) (n : Nat) : (lst f n).length = n := by simp [lst]
theorem lst_succ (f : Nat → In) (n : Nat) : lst f (n + 1) = lst f n ++ [f n] := by simp [lst, List.range_succ]
theorem lst_get {f : Nat → In} {n k : Nat} (h : k < n) : (lst f n).getD k in0 = f k := by simp [lst, List.getD_eq_getElem?_getD, h]
theorem va2 {g : Int} (h0 : 0 ≤ g) (h1 : g ≤ 50) {x : Int} (hx0 : 0 ≤ x) (hx : x ≤ g + 1) : vaT 2 0 g ⟨x, 0⟩ = true := by
  simp [vaT, usT, ilt]; omega
theorem va3 {w g : Int} (hw0 : 1 ≤ w) (hw : w ≤ 50) (h0 : 0 ≤ g) (h1 : g ≤ 50) {x y : Int} (hx0 : 0 ≤ x) (hx : x ≤ g + 1) (hy0 : 0 ≤ y) (hy : y ≤ w + 1) : vaT 3 w g ⟨x, y⟩ = true := by
  simp [vaT, usT, ilt]; omega
theorem st2 {g : Int} (h0 : 0 ≤ g) (h1 : g ≤ 50) {x : Int} (hx0 : 0 ≤ x) (hx : x ≤ g + 1) (a b c d : Bool) :
    stT 2 0 g ⟨x, 0⟩ ⟨a, b, c, d⟩ = (⟨if c then g + 1 else max (x - 1) 0, 0⟩, b && !decide (0 < (if c then g + 1 else max (x - 1) 0)), b && d && !decide (0 < (if c then g + 1 else max (x - 1) 0))) := by
  simp [stT, va2 h0 h1 hx0 hx, ilt]
theorem st3 {w g : Int} (hw0 : 1 ≤ w) (hw : w ≤ 50) (h0 : 0 ≤ g) (h1 : g ≤ 50) {x y : Int} (hx0 : 0 ≤ x) (hx : x ≤ g + 1) (hy0 : 0 ≤ y) (hy : y ≤ w + 1) (a b c d : Bool) :
    stT 3 w g ⟨x, y⟩ ⟨a, b, c, d⟩ = (⟨if c then g + 1 else max (x - 1) 0, if b && !d && !decide (0 < (if c then g + 1 else max (x - 1) 0)) then min (y + 1) (w + 1) else 0⟩, decide (0 < (if c then g + 1 else max (x - 1) 0)),
      decide (w < (if b && !d && !decide (0 < (if c then g + 1 else max (x - 1) 0)) then min (y + 1) (w + 1) else 0))) := by
  simp [stT, va3 hw0 hw h0 h1 hx0 hx hy0 hy, ilt]
def fwd (F : Nat) (i : Nat) : In := ⟨false, decide (F ≤ i), false, false⟩
def bwd (F : Nat) (i : Nat) : In := ⟨false, false, decide (F ≤ i), false⟩
theorem int_over {g : Int} (h0 : 0 ≤ g) (h1 : g ≤ 50) (F n : Nat) : ∀ k, k ≤ n → pairN 2 0 g (lst (fwd F) n) (lst (fwd F) n) k =
    ⟨⟨0, 0⟩, ⟨0, 0⟩, decide (F < k), decide (F < k), if F + 1 < k then ((F + 1 : Nat) : Int) else -1, if F + 1 < k then ((F + 1 : Nat) : Int) else -1⟩
  | 0, _ => by simp [pairN, ps0]
  | k + 1, hk => by
    rw [pairN, int_over h0 h1 F n k (by omega), lst_get (show k < n by omega)]
    simp only [pairStep, fwd]
    simp only [st2 h0 h1 (x := 0) (by omega) (by omega)]
    simp only [PS.mk.injEq, Te.mk.injEq]
    grind [ilt]
theorem int_blk {w g : Int} (hw0 : 1 ≤ w) (hw : w ≤ 50) (h0 : 0 ≤ g) (h1 : g ≤ 50) (F n : Nat) : ∀ k, k ≤ n → pairN 3 w g (lst (fwd F) n) (lst (fwd F) n) k =
    ⟨⟨0, min (((k - F : Nat)) : Int) (w + 1)⟩, ⟨0, min (((k - F : Nat)) : Int) (w + 1)⟩, false, false, if F + w < k then F + w else -1, if F + w < k then F + w else -1⟩
  | 0, _ => by simp [pairN, ps0]; omega
  | k + 1, hk => by
    rw [pairN, int_blk hw0 hw h0 h1 F n k (by omega), lst_get (show k < n by omega)]
    simp only [pairStep, fwd]
    simp only [st3 hw0 hw h0 h1 (x := 0) (y := min (((k - F : Nat)) : Int) (w + 1)) (by omega) (by omega) (by omega) (by omega)]
    simp only [PS.mk.injEq, Te.mk.injEq]
    grind [ilt]
theorem ext_over {g : Int} (h0 : 0 ≤ g) (h1 : g ≤ 50) (F n : Nat) : ∀ k, k ≤ n → pairN 2 0 g (lst (fwd F) n) (lst (bwd F) n) k =
    ⟨⟨0, 0⟩, ⟨if F < k then g + 1 else 0, 0⟩, decide (F < k), false, -1, -1⟩
  | 0, _ => by simp [pairN, ps0]
  | k + 1, hk => by
    rw [pairN, ext_over h0 h1 F n k (by omega), lst_get (show k < n by omega), lst_get (show k < n by omega)]
    simp only [pairStep, fwd, bwd]
    simp only [st2 h0 h1 (x := 0) (by omega) (by omega), st2 h0 h1 (x := if F < k then g + 1 else 0) (by split <;> omega) (by split <;> omega)]
    simp only [PS.mk.injEq, Te.mk.injEq]
    grind [ilt]
theorem ext_blk {w g : Int} (hw0 : 1 ≤ w) (hw : w ≤ 50) (h0 : 0 ≤ g) (h1 : g ≤ 50) (F n : Nat) : ∀ k, k ≤ n → pairN 3 w g (lst (fwd F) n) (lst (bwd F) n) k =
    ⟨⟨0, if k = F + 1 then 1 else 0⟩, ⟨if F < k then g + 1 else 0, 0⟩, false, decide (F < k), -1, -1⟩
  | 0, _ => by simp [pairN, ps0]
  | k + 1, hk => by
    rw [pairN, ext_blk hw0 hw h0 h1 F n k (by omega), lst_get (show k < n by omega), lst_get (show k < n by omega)]
    simp only [pairStep, fwd, bwd]
    simp only [st3 hw0 hw h0 h1 (x := 0) (y := if k = F + 1 then 1 else 0) (by omega) (by omega) (by split <;> omega) (by split <;> omega), st3 hw0 hw h0 h1 (x := if F < k then g + 1 else 0) (y := 0) (by split <;> omega) (by split <;> omega) (by omega) (by omega)]
    simp only [PS.mk.injEq, Te.mk.injEq]
    grind [ilt]
def ra (F B : Nat) (i : Nat) : In := ⟨false, decide (F ≤ i) && !decide (F + B ≤ i), false, false⟩
def rb (F B : Nat) (i : Nat) : In := ⟨false, decide (F + B ≤ i), decide (F ≤ i) && !decide (F + B ≤ i), false⟩
theorem rev_over {g : Int} (h0 : 1 ≤ g) (h1 : g ≤ 50) (F B n : Nat) (hB : 1 ≤ B) (hn : n ≤ F + B + g) : ∀ k, k ≤ n → pairN 2 0 g (lst (ra F B) n) (lst (rb F B) n) k =
    ⟨⟨0, 0⟩, ⟨if k ≤ F then 0 else if k ≤ F + B then g + 1 else g + 1 - ((k - (F + B) : Nat) : Int), 0⟩, decide (F < k) && decide (k ≤ F + B), false, -1, -1⟩
  | 0, _ => by simp [pairN, ps0]
  | k + 1, hk => by
    rw [pairN, rev_over h0 h1 F B n hB hn k (by omega), lst_get (show k < n by omega), lst_get (show k < n by omega)]
    simp only [pairStep, ra, rb]
    simp only [st2 (x := 0) (show 0 ≤ g by omega) h1 (by omega) (by omega), st2 (x := if k ≤ F then 0 else if k ≤ F + B then g + 1 else g + 1 - ((k - (F + B) : Nat) : Int)) (show 0 ≤ g by omega) h1 (by split; omega; split <;> omega) (by split; omega; split <;> omega)]
    simp only [PS.mk.injEq, Te.mk.injEq]
    grind [ilt]
end Go.Proofs.Ytjleadlkknnioaa
