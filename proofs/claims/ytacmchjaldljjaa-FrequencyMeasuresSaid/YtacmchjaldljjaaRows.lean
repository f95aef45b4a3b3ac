/-
  No cell of these rows narrows 'for every input' (looked for: loops, veiled, ifaces, maps, wideKeys, modest, calm, conditions, laid).
  DERIVED. THE GIVEN ROWS OF THIS SEAT. 5 by the template 'for every input the law returns true; each argument reads behind the call as it read before'; 0 by the template 'total and deterministic' (their statements: YtacmchjaldljjaaTotals.lean).
  GIVEN WITH THE SEED: the statements are not yours to turn. If you find one false, say at which input.
  Laid BY PROGRAM, IN A SANDBOX (cutbox-rows.mjs): the forced cells as the released guide's own fill.sh prints them over the translation fb090ccfe34a0ad1… (all of the seat's roots in one cut). By AI agents, Wed Nov 11 2026. No macro, syntax, notation, axiom, sorry.
-/
import Derived.Test.YtacmchjaldljjaaChecked
import GoSem.Claim
import GoSem.ClaimJoined
import GoSem.ClaimMapViews
import Derived.JoinedTies
import Derived.KernelRfl
namespace Go.Proofs.Ytacmchjaldljjaa
/- THE CELL 'sum', in the pinned program and in every row, IS THE sha256 OF THE DUMP (.gsa) THAT YtacmchjaldljjaaProg.lean LOADS. Nothing in Lean hashes anything: it is a label: what it is worth is what the hold of that sum in a sandbox is worth. -/
noncomputable def Try.pinned : Pinned := { name := "ytacmchjaldljjaa", sum := "fb090ccfe34a0ad168efd2e7ba9731f187bb806e9d910c3198b55a47caf97e1f", checked := Try.checked }
namespace Rows
def none {H : Type} : Left H := { results := [], args := [] }

/-- 'substationlaw25.FrequencyCrossings': WHATEVER THE INPUT: true; the input reads as it did. -/
def frequencyCrossingsSpec : ChangeSpec := { name := "frequencyCrossings", fn := fun _ => fun
  | [d] => { results := [.lit (.bool true)], args := [d] }
  | _ => none }
def frequencyCrossingsRow : OpenClaim := { program := "ytacmchjaldljjaa", sum := "fb090ccfe34a0ad168efd2e7ba9731f187bb806e9d910c3198b55a47caf97e1f", func := "substation/substationlaw25.FrequencyCrossings", spec := "frequencyCrossings", unfollowed := true, recurses := true, apart := false }
def FrequencyCrossingsSaid : Prop := frequencyCrossingsRow.holds Try.pinned (OpenSpec.ofChange frequencyCrossingsSpec)

/-- ITS FALSE NEIGHBOUR: 'it returns false'. Refute it at one input. -/
def frequencyCrossingsWrong : ChangeSpec := { name := "frequencyCrossings", fn := fun _ => fun
  | [d] => { results := [.lit (.bool false)], args := [d] }
  | _ => none }
def FrequencyCrossingsWrongFalsely : Prop := frequencyCrossingsRow.holds Try.pinned (OpenSpec.ofChange frequencyCrossingsWrong)

/-- 'substationlaw25.FrequencyScale': WHATEVER THE INPUT: true; the input reads as it did. -/
def frequencyScaleSpec : ChangeSpec := { name := "frequencyScale", fn := fun _ => fun
  | [d1, d2] => { results := [.lit (.bool true)], args := [d1, d2] }
  | _ => none }
def frequencyScaleRow : OpenClaim := { program := "ytacmchjaldljjaa", sum := "fb090ccfe34a0ad168efd2e7ba9731f187bb806e9d910c3198b55a47caf97e1f", func := "substation/substationlaw25.FrequencyScale", spec := "frequencyScale", unfollowed := true, recurses := true, apart := false }
def FrequencyScaleSaid : Prop := frequencyScaleRow.holds Try.pinned (OpenSpec.ofChange frequencyScaleSpec)

/-- ITS FALSE NEIGHBOUR: 'it returns false'. Refute it at one input. -/
def frequencyScaleWrong : ChangeSpec := { name := "frequencyScale", fn := fun _ => fun
  | [d1, d2] => { results := [.lit (.bool false)], args := [d1, d2] }
  | _ => none }
def FrequencyScaleWrongFalsely : Prop := frequencyScaleRow.holds Try.pinned (OpenSpec.ofChange frequencyScaleWrong)

/-- 'substationlaw25.FrequencyMeasures': WHATEVER THE INPUT: true; the input reads as it did. -/
def frequencyMeasuresSpec : ChangeSpec := { name := "frequencyMeasures", fn := fun _ => fun
  | [d1, d2] => { results := [.lit (.bool true)], args := [d1, d2] }
  | _ => none }
def frequencyMeasuresRow : OpenClaim := { program := "ytacmchjaldljjaa", sum := "fb090ccfe34a0ad168efd2e7ba9731f187bb806e9d910c3198b55a47caf97e1f", func := "substation/substationlaw25.FrequencyMeasures", spec := "frequencyMeasures", unfollowed := true, recurses := true, apart := false }
def FrequencyMeasuresSaid : Prop := frequencyMeasuresRow.holds Try.pinned (OpenSpec.ofChange frequencyMeasuresSpec)

/-- ITS FALSE NEIGHBOUR: 'it returns false'. Refute it at one input. -/
def frequencyMeasuresWrong : ChangeSpec := { name := "frequencyMeasures", fn := fun _ => fun
  | [d1, d2] => { results := [.lit (.bool false)], args := [d1, d2] }
  | _ => none }
def FrequencyMeasuresWrongFalsely : Prop := frequencyMeasuresRow.holds Try.pinned (OpenSpec.ofChange frequencyMeasuresWrong)

/-- 'substationlaw25.FrequencyPeriodic': WHATEVER THE INPUT: true; the input reads as it did. -/
def frequencyPeriodicSpec : ChangeSpec := { name := "frequencyPeriodic", fn := fun _ => fun
  | [d1, d2] => { results := [.lit (.bool true)], args := [d1, d2] }
  | _ => none }
def frequencyPeriodicRow : OpenClaim := { program := "ytacmchjaldljjaa", sum := "fb090ccfe34a0ad168efd2e7ba9731f187bb806e9d910c3198b55a47caf97e1f", func := "substation/substationlaw25.FrequencyPeriodic", spec := "frequencyPeriodic", unfollowed := true, recurses := true, apart := false }
def FrequencyPeriodicSaid : Prop := frequencyPeriodicRow.holds Try.pinned (OpenSpec.ofChange frequencyPeriodicSpec)

/-- ITS FALSE NEIGHBOUR: 'it returns false'. Refute it at one input. -/
def frequencyPeriodicWrong : ChangeSpec := { name := "frequencyPeriodic", fn := fun _ => fun
  | [d1, d2] => { results := [.lit (.bool false)], args := [d1, d2] }
  | _ => none }
def FrequencyPeriodicWrongFalsely : Prop := frequencyPeriodicRow.holds Try.pinned (OpenSpec.ofChange frequencyPeriodicWrong)

/-- 'substationlaw25.FrequencyWithin': WHATEVER THE INPUT: true; the input reads as it did. -/
def frequencyWithinSpec : ChangeSpec := { name := "frequencyWithin", fn := fun _ => fun
  | [d1, d2, d3] => { results := [.lit (.bool true)], args := [d1, d2, d3] }
  | _ => none }
def frequencyWithinRow : OpenClaim := { program := "ytacmchjaldljjaa", sum := "fb090ccfe34a0ad168efd2e7ba9731f187bb806e9d910c3198b55a47caf97e1f", func := "substation/substationlaw25.FrequencyWithin", spec := "frequencyWithin", unfollowed := true, recurses := true, apart := false }
def FrequencyWithinSaid : Prop := frequencyWithinRow.holds Try.pinned (OpenSpec.ofChange frequencyWithinSpec)

/-- ITS FALSE NEIGHBOUR: 'it returns false'. Refute it at one input. -/
def frequencyWithinWrong : ChangeSpec := { name := "frequencyWithin", fn := fun _ => fun
  | [d1, d2, d3] => { results := [.lit (.bool false)], args := [d1, d2, d3] }
  | _ => none }
def FrequencyWithinWrongFalsely : Prop := frequencyWithinRow.holds Try.pinned (OpenSpec.ofChange frequencyWithinWrong)

/- THE SECOND FORM. 'bulk': how many values and letters a reading holds, each counted each time it is reached (what is shared counts as often as it is met; a slice's spare places count too). A statement '..UptoSaid' is the law's where the arguments, and the package variables that the reading takes, are together of bulk at most 1048576: NARROWER than '..Said'. Prove '..Said' where nothing that the law and all that it calls make is longer than what came in: it says more and counts as full. Else prove '..UptoSaid'. A law counts once. -/
mutual
def uptoBulk {H : Type} : DataW H → Nat
  | .lit (.string bytes) => bytes.length + 1
  | .lit _ => 1
  | .nil => 1
  | .ptr d => uptoBulk d + 1
  | .slice elems spare => uptoBulkAll elems + uptoBulkAll spare + 1
  | .agg parts => uptoBulkAll parts + 1
  | .iface _ d => uptoBulk d + 1
  | .map entries => uptoBulkEntries entries + 1
  | .held _ => 1
def uptoBulkAll {H : Type} : List (DataW H) → Nat
  | [] => 0
  | d :: r => uptoBulk d + uptoBulkAll r
def uptoBulkEntries {H : Type} : List (Lit × DataW H) → Nat
  | [] => 0
  | x :: r => uptoBulkEntry x + uptoBulkEntries r
def uptoBulkEntry {H : Type} : Lit × DataW H → Nat
  | (.string bytes, d) => bytes.length + uptoBulk d + 1
  | (_, d) => uptoBulk d + 1
 end
def uptoSmall : (H : Type) → List (DataW H) → Bool := fun _ ds => decide (uptoBulkAll ds ≤ 1048576)
def OpenSpec.upto (s : _root_.Go.ChangeSpec) : _root_.Go.OpenSpec := { _root_.Go.OpenSpec.ofChange s with cond := some uptoSmall }

/-- 'substationlaw25.FrequencyCrossings', WHERE WHAT IT READS IS OF BULK AT MOST 1048576: true; the input reads as it did. -/
def frequencyCrossingsUptoRow : OpenClaim := { program := "ytacmchjaldljjaa", sum := "fb090ccfe34a0ad168efd2e7ba9731f187bb806e9d910c3198b55a47caf97e1f", func := "substation/substationlaw25.FrequencyCrossings", spec := "frequencyCrossings", unfollowed := true, recurses := true, apart := false, narrowed := true }
def FrequencyCrossingsUptoSaid : Prop := frequencyCrossingsUptoRow.holds Try.pinned (OpenSpec.upto frequencyCrossingsSpec)

/-- 'substationlaw25.FrequencyScale', WHERE WHAT IT READS IS OF BULK AT MOST 1048576: true; the input reads as it did. -/
def frequencyScaleUptoRow : OpenClaim := { program := "ytacmchjaldljjaa", sum := "fb090ccfe34a0ad168efd2e7ba9731f187bb806e9d910c3198b55a47caf97e1f", func := "substation/substationlaw25.FrequencyScale", spec := "frequencyScale", unfollowed := true, recurses := true, apart := false, narrowed := true }
def FrequencyScaleUptoSaid : Prop := frequencyScaleUptoRow.holds Try.pinned (OpenSpec.upto frequencyScaleSpec)

/-- 'substationlaw25.FrequencyMeasures', WHERE WHAT IT READS IS OF BULK AT MOST 1048576: true; the input reads as it did. -/
def frequencyMeasuresUptoRow : OpenClaim := { program := "ytacmchjaldljjaa", sum := "fb090ccfe34a0ad168efd2e7ba9731f187bb806e9d910c3198b55a47caf97e1f", func := "substation/substationlaw25.FrequencyMeasures", spec := "frequencyMeasures", unfollowed := true, recurses := true, apart := false, narrowed := true }
def FrequencyMeasuresUptoSaid : Prop := frequencyMeasuresUptoRow.holds Try.pinned (OpenSpec.upto frequencyMeasuresSpec)

/-- 'substationlaw25.FrequencyPeriodic', WHERE WHAT IT READS IS OF BULK AT MOST 1048576: true; the input reads as it did. -/
def frequencyPeriodicUptoRow : OpenClaim := { program := "ytacmchjaldljjaa", sum := "fb090ccfe34a0ad168efd2e7ba9731f187bb806e9d910c3198b55a47caf97e1f", func := "substation/substationlaw25.FrequencyPeriodic", spec := "frequencyPeriodic", unfollowed := true, recurses := true, apart := false, narrowed := true }
def FrequencyPeriodicUptoSaid : Prop := frequencyPeriodicUptoRow.holds Try.pinned (OpenSpec.upto frequencyPeriodicSpec)

/-- 'substationlaw25.FrequencyWithin', WHERE WHAT IT READS IS OF BULK AT MOST 1048576: true; the input reads as it did. -/
def frequencyWithinUptoRow : OpenClaim := { program := "ytacmchjaldljjaa", sum := "fb090ccfe34a0ad168efd2e7ba9731f187bb806e9d910c3198b55a47caf97e1f", func := "substation/substationlaw25.FrequencyWithin", spec := "frequencyWithin", unfollowed := true, recurses := true, apart := false, narrowed := true }
def FrequencyWithinUptoSaid : Prop := frequencyWithinUptoRow.holds Try.pinned (OpenSpec.upto frequencyWithinSpec)

end Rows
end Go.Proofs.Ytacmchjaldljjaa
