/-
  No cell of these rows narrows 'for every input' (looked for: loops, veiled, ifaces, maps, wideKeys, modest, calm, conditions, laid).
  DERIVED. THE GIVEN ROWS OF THIS SEAT. 5 by the template 'for every input the law returns true; each argument reads behind the call as it read before'; 0 by the template 'total and deterministic' (their statements: YtjblgljalckihaaTotals.lean).
  GIVEN WITH THE SEED: the statements are not yours to turn. If you find one false, say at which input.
  Laid BY PROGRAM, IN A SANDBOX (cutbox-rows.mjs): the forced cells as the released guide's own fill.sh prints them over the translation 95f64fa999488202… (all of the seat's roots in one cut). By AI agents, Wed Nov 11 2026. No macro, syntax, notation, axiom, sorry.
-/
import Derived.Test.YtjblgljalckihaaChecked
import GoSem.Claim
import GoSem.ClaimJoined
import GoSem.ClaimMapViews
import Derived.JoinedTies
import Derived.KernelRfl
namespace Go.Proofs.Ytjblgljalckihaa
/- THE CELL 'sum', in the pinned program and in every row, IS THE sha256 OF THE DUMP (.gsa) THAT YtjblgljalckihaaProg.lean LOADS. Nothing in Lean hashes anything: it is a label: what it is worth is what the hold of that sum in a sandbox is worth. -/
noncomputable def Try.pinned : Pinned := { name := "ytjblgljalckihaa", sum := "95f64fa9994882025e76cb7d0fdc72d662c5dad9b701bb9e805e587abefeea2b", checked := Try.checked }
namespace Rows
def none {H : Type} : Left H := { results := [], args := [] }

/-- 'substationlaw18.ClockExact': WHATEVER THE INPUT: true; the input reads as it did. -/
def clockExactSpec : ChangeSpec := { name := "clockExact", fn := fun _ => fun
  | [d1, d2, d3] => { results := [.lit (.bool true)], args := [d1, d2, d3] }
  | _ => none }
def clockExactRow : OpenClaim := { program := "ytjblgljalckihaa", sum := "95f64fa9994882025e76cb7d0fdc72d662c5dad9b701bb9e805e587abefeea2b", func := "substation/substationlaw18.ClockExact", spec := "clockExact", inPlace := ["math/bits.Add64"], apart := false }
def ClockExactSaid : Prop := clockExactRow.holds Try.pinned (OpenSpec.ofChange clockExactSpec)

/-- ITS FALSE NEIGHBOUR: 'it returns false'. Refute it at one input. -/
def clockExactWrong : ChangeSpec := { name := "clockExact", fn := fun _ => fun
  | [d1, d2, d3] => { results := [.lit (.bool false)], args := [d1, d2, d3] }
  | _ => none }
def ClockExactWrongFalsely : Prop := clockExactRow.holds Try.pinned (OpenSpec.ofChange clockExactWrong)

/-- 'substationlaw18.ClockBounded': WHATEVER THE INPUT: true; the input reads as it did. -/
def clockBoundedSpec : ChangeSpec := { name := "clockBounded", fn := fun _ => fun
  | [d1, d2] => { results := [.lit (.bool true)], args := [d1, d2] }
  | _ => none }
def clockBoundedRow : OpenClaim := { program := "ytjblgljalckihaa", sum := "95f64fa9994882025e76cb7d0fdc72d662c5dad9b701bb9e805e587abefeea2b", func := "substation/substationlaw18.ClockBounded", spec := "clockBounded", inPlace := ["math/bits.Add64"], apart := false }
def ClockBoundedSaid : Prop := clockBoundedRow.holds Try.pinned (OpenSpec.ofChange clockBoundedSpec)

/-- ITS FALSE NEIGHBOUR: 'it returns false'. Refute it at one input. -/
def clockBoundedWrong : ChangeSpec := { name := "clockBounded", fn := fun _ => fun
  | [d1, d2] => { results := [.lit (.bool false)], args := [d1, d2] }
  | _ => none }
def ClockBoundedWrongFalsely : Prop := clockBoundedRow.holds Try.pinned (OpenSpec.ofChange clockBoundedWrong)

/-- 'substationlaw18.ClockHoldover': WHATEVER THE INPUT: true; the input reads as it did. -/
def clockHoldoverSpec : ChangeSpec := { name := "clockHoldover", fn := fun _ => fun
  | [d1, d2] => { results := [.lit (.bool true)], args := [d1, d2] }
  | _ => none }
def clockHoldoverRow : OpenClaim := { program := "ytjblgljalckihaa", sum := "95f64fa9994882025e76cb7d0fdc72d662c5dad9b701bb9e805e587abefeea2b", func := "substation/substationlaw18.ClockHoldover", spec := "clockHoldover", inPlace := ["math/bits.Add64"], apart := false }
def ClockHoldoverSaid : Prop := clockHoldoverRow.holds Try.pinned (OpenSpec.ofChange clockHoldoverSpec)

/-- ITS FALSE NEIGHBOUR: 'it returns false'. Refute it at one input. -/
def clockHoldoverWrong : ChangeSpec := { name := "clockHoldover", fn := fun _ => fun
  | [d1, d2] => { results := [.lit (.bool false)], args := [d1, d2] }
  | _ => none }
def ClockHoldoverWrongFalsely : Prop := clockHoldoverRow.holds Try.pinned (OpenSpec.ofChange clockHoldoverWrong)

/-- 'substationlaw18.ClockStamps': WHATEVER THE INPUT: true; the input reads as it did. -/
def clockStampsSpec : ChangeSpec := { name := "clockStamps", fn := fun _ => fun
  | [d1, d2, d3] => { results := [.lit (.bool true)], args := [d1, d2, d3] }
  | _ => none }
def clockStampsRow : OpenClaim := { program := "ytjblgljalckihaa", sum := "95f64fa9994882025e76cb7d0fdc72d662c5dad9b701bb9e805e587abefeea2b", func := "substation/substationlaw18.ClockStamps", spec := "clockStamps", inPlace := ["math/bits.Add64"], apart := false }
def ClockStampsSaid : Prop := clockStampsRow.holds Try.pinned (OpenSpec.ofChange clockStampsSpec)

/-- ITS FALSE NEIGHBOUR: 'it returns false'. Refute it at one input. -/
def clockStampsWrong : ChangeSpec := { name := "clockStamps", fn := fun _ => fun
  | [d1, d2, d3] => { results := [.lit (.bool false)], args := [d1, d2, d3] }
  | _ => none }
def ClockStampsWrongFalsely : Prop := clockStampsRow.holds Try.pinned (OpenSpec.ofChange clockStampsWrong)

/-- 'substationlaw18.ClockRuns': WHATEVER THE INPUT: true; the input reads as it did. -/
def clockRunsSpec : ChangeSpec := { name := "clockRuns", fn := fun _ => fun
  | [d1, d2, d3] => { results := [.lit (.bool true)], args := [d1, d2, d3] }
  | _ => none }
def clockRunsRow : OpenClaim := { program := "ytjblgljalckihaa", sum := "95f64fa9994882025e76cb7d0fdc72d662c5dad9b701bb9e805e587abefeea2b", func := "substation/substationlaw18.ClockRuns", spec := "clockRuns", inPlace := ["math/bits.Add64"], apart := false }
def ClockRunsSaid : Prop := clockRunsRow.holds Try.pinned (OpenSpec.ofChange clockRunsSpec)

/-- ITS FALSE NEIGHBOUR: 'it returns false'. Refute it at one input. -/
def clockRunsWrong : ChangeSpec := { name := "clockRuns", fn := fun _ => fun
  | [d1, d2, d3] => { results := [.lit (.bool false)], args := [d1, d2, d3] }
  | _ => none }
def ClockRunsWrongFalsely : Prop := clockRunsRow.holds Try.pinned (OpenSpec.ofChange clockRunsWrong)

/- THE SECOND FORM. 'bulk': how many values and letters a reading holds, each counted each time it is reached (what is shared counts as often as it is met; a slice's spare places count too). A statement '..UptoSaid' is the law's where the arguments, and the package variables that the reading takes, are together of bulk at most 1048576: NARROWER than '..Said'. Prove '..Said' where nothing that the law and all that it calls make is longer than what came in: it says more and counts as full. Else prove '..UptoSaid'. A law counts once. -/
mutual
def uptoBulk {H : Type} : DataW H → Nat
  | .lit (.string bytes) => bytes.length + 1
  | .lit _ => 1
  | .nil => 1
  | .ptr d => uptoBulk d + 1
  | .slice elems spare => uptoBulkAll elems + uptoBulkAll spare + 1
  | .agg parts => uptoBulkAll parts + 1
  | .iface _ d => uptoBulk d + 1
  | .map entries => uptoBulkEntries entries + 1
  | .held _ => 1
def uptoBulkAll {H : Type} : List (DataW H) → Nat
  | [] => 0
  | d :: r => uptoBulk d + uptoBulkAll r
def uptoBulkEntries {H : Type} : List (Lit × DataW H) → Nat
  | [] => 0
  | x :: r => uptoBulkEntry x + uptoBulkEntries r
def uptoBulkEntry {H : Type} : Lit × DataW H → Nat
  | (.string bytes, d) => bytes.length + uptoBulk d + 1
  | (_, d) => uptoBulk d + 1
 end
def uptoSmall : (H : Type) → List (DataW H) → Bool := fun _ ds => decide (uptoBulkAll ds ≤ 1048576)
def OpenSpec.upto (s : _root_.Go.ChangeSpec) : _root_.Go.OpenSpec := { _root_.Go.OpenSpec.ofChange s with cond := some uptoSmall }

/-- 'substationlaw18.ClockExact', WHERE WHAT IT READS IS OF BULK AT MOST 1048576: true; the input reads as it did. -/
def clockExactUptoRow : OpenClaim := { program := "ytjblgljalckihaa", sum := "95f64fa9994882025e76cb7d0fdc72d662c5dad9b701bb9e805e587abefeea2b", func := "substation/substationlaw18.ClockExact", spec := "clockExact", inPlace := ["math/bits.Add64"], apart := false, narrowed := true }
def ClockExactUptoSaid : Prop := clockExactUptoRow.holds Try.pinned (OpenSpec.upto clockExactSpec)

/-- 'substationlaw18.ClockBounded', WHERE WHAT IT READS IS OF BULK AT MOST 1048576: true; the input reads as it did. -/
def clockBoundedUptoRow : OpenClaim := { program := "ytjblgljalckihaa", sum := "95f64fa9994882025e76cb7d0fdc72d662c5dad9b701bb9e805e587abefeea2b", func := "substation/substationlaw18.ClockBounded", spec := "clockBounded", inPlace := ["math/bits.Add64"], apart := false, narrowed := true }
def ClockBoundedUptoSaid : Prop := clockBoundedUptoRow.holds Try.pinned (OpenSpec.upto clockBoundedSpec)

/-- 'substationlaw18.ClockHoldover', WHERE WHAT IT READS IS OF BULK AT MOST 1048576: true; the input reads as it did. -/
def clockHoldoverUptoRow : OpenClaim := { program := "ytjblgljalckihaa", sum := "95f64fa9994882025e76cb7d0fdc72d662c5dad9b701bb9e805e587abefeea2b", func := "substation/substationlaw18.ClockHoldover", spec := "clockHoldover", inPlace := ["math/bits.Add64"], apart := false, narrowed := true }
def ClockHoldoverUptoSaid : Prop := clockHoldoverUptoRow.holds Try.pinned (OpenSpec.upto clockHoldoverSpec)

/-- 'substationlaw18.ClockStamps', WHERE WHAT IT READS IS OF BULK AT MOST 1048576: true; the input reads as it did. -/
def clockStampsUptoRow : OpenClaim := { program := "ytjblgljalckihaa", sum := "95f64fa9994882025e76cb7d0fdc72d662c5dad9b701bb9e805e587abefeea2b", func := "substation/substationlaw18.ClockStamps", spec := "clockStamps", inPlace := ["math/bits.Add64"], apart := false, narrowed := true }
def ClockStampsUptoSaid : Prop := clockStampsUptoRow.holds Try.pinned (OpenSpec.upto clockStampsSpec)

/-- 'substationlaw18.ClockRuns', WHERE WHAT IT READS IS OF BULK AT MOST 1048576: true; the input reads as it did. -/
def clockRunsUptoRow : OpenClaim := { program := "ytjblgljalckihaa", sum := "95f64fa9994882025e76cb7d0fdc72d662c5dad9b701bb9e805e587abefeea2b", func := "substation/substationlaw18.ClockRuns", spec := "clockRuns", inPlace := ["math/bits.Add64"], apart := false, narrowed := true }
def ClockRunsUptoSaid : Prop := clockRunsUptoRow.holds Try.pinned (OpenSpec.upto clockRunsSpec)

end Rows
end Go.Proofs.Ytjblgljalckihaa
