/-
  No cell of these rows narrows 'for every input' (looked for: loops, veiled, ifaces, maps, wideKeys, modest, calm, conditions, laid).
  DERIVED. THE GIVEN ROWS OF THIS SEAT. 6 by the template 'for every input the law returns true; each argument reads behind the call as it read before'; 0 by the template 'total and deterministic' (their statements: YtjleadlkknnioaaTotals.lean).
  GIVEN WITH THE SEED: the statements are not yours to turn. If you find one false, say at which input.
  Laid BY PROGRAM, IN A SANDBOX (cutbox-rows.mjs): the forced cells as the released guide's own fill.sh prints them over the translation 1d3b754fc8bc07d3… (all of the seat's roots in one cut). By AI agents, Wed Nov 11 2026. No macro, syntax, notation, axiom, sorry.
-/
import Derived.Test.YtjleadlkknnioaaChecked
import GoSem.Claim
import GoSem.ClaimJoined
import GoSem.ClaimMapViews
import Derived.JoinedTies
import Derived.KernelRfl
namespace Go.Proofs.Ytjleadlkknnioaa
/- THE CELL 'sum', in the pinned program and in every row, IS THE sha256 OF THE DUMP (.gsa) THAT YtjleadlkknnioaaProg.lean LOADS. Nothing in Lean hashes anything: it is a label: what it is worth is what the hold of that sum in a sandbox is worth. -/
noncomputable def Try.pinned : Pinned := { name := "ytjleadlkknnioaa", sum := "1d3b754fc8bc07d335c7b9d10664a34f0b26a68c56b954b0c7fa93896b835163", checked := Try.checked }
namespace Rows
def none {H : Type} : Left H := { results := [], args := [] }

/-- 'substationlaw31.TeleprotectionExamples': WHATEVER THE INPUT: true; the input reads as it did. -/
def teleprotectionExamplesSpec : ChangeSpec := { name := "teleprotectionExamples", fn := fun _ => fun
  | [] => { results := [.lit (.bool true)], args := [] }
  | _ => none }
def teleprotectionExamplesRow : OpenClaim := { program := "ytjleadlkknnioaa", sum := "1d3b754fc8bc07d335c7b9d10664a34f0b26a68c56b954b0c7fa93896b835163", func := "substation/substationlaw31.TeleprotectionExamples", spec := "teleprotectionExamples", apart := false }
def TeleprotectionExamplesSaid : Prop := teleprotectionExamplesRow.holds Try.pinned (OpenSpec.ofChange teleprotectionExamplesSpec)

/-- ITS FALSE NEIGHBOUR: 'it returns false'. Refute it at one input. -/
def teleprotectionExamplesWrong : ChangeSpec := { name := "teleprotectionExamples", fn := fun _ => fun
  | [] => { results := [.lit (.bool false)], args := [] }
  | _ => none }
def TeleprotectionExamplesWrongFalsely : Prop := teleprotectionExamplesRow.holds Try.pinned (OpenSpec.ofChange teleprotectionExamplesWrong)

/-- 'substationlaw31.TeleprotectionSteps': WHATEVER THE INPUT: true; the input reads as it did. -/
def teleprotectionStepsSpec : ChangeSpec := { name := "teleprotectionSteps", fn := fun _ => fun
  | [d1, d2, d3] => { results := [.lit (.bool true)], args := [d1, d2, d3] }
  | _ => none }
def teleprotectionStepsRow : OpenClaim := { program := "ytjleadlkknnioaa", sum := "1d3b754fc8bc07d335c7b9d10664a34f0b26a68c56b954b0c7fa93896b835163", func := "substation/substationlaw31.TeleprotectionSteps", spec := "teleprotectionSteps", apart := false }
def TeleprotectionStepsSaid : Prop := teleprotectionStepsRow.holds Try.pinned (OpenSpec.ofChange teleprotectionStepsSpec)

/-- ITS FALSE NEIGHBOUR: 'it returns false'. Refute it at one input. -/
def teleprotectionStepsWrong : ChangeSpec := { name := "teleprotectionSteps", fn := fun _ => fun
  | [d1, d2, d3] => { results := [.lit (.bool false)], args := [d1, d2, d3] }
  | _ => none }
def TeleprotectionStepsWrongFalsely : Prop := teleprotectionStepsRow.holds Try.pinned (OpenSpec.ofChange teleprotectionStepsWrong)

/-- 'substationlaw31.TeleprotectionInternal': WHATEVER THE INPUT: true; the input reads as it did. -/
def teleprotectionInternalSpec : ChangeSpec := { name := "teleprotectionInternal", fn := fun _ => fun
  | [d1, d2, d3] => { results := [.lit (.bool true)], args := [d1, d2, d3] }
  | _ => none }
def teleprotectionInternalRow : OpenClaim := { program := "ytjleadlkknnioaa", sum := "1d3b754fc8bc07d335c7b9d10664a34f0b26a68c56b954b0c7fa93896b835163", func := "substation/substationlaw31.TeleprotectionInternal", spec := "teleprotectionInternal", apart := false }
def TeleprotectionInternalSaid : Prop := teleprotectionInternalRow.holds Try.pinned (OpenSpec.ofChange teleprotectionInternalSpec)

/-- ITS FALSE NEIGHBOUR: 'it returns false'. Refute it at one input. -/
def teleprotectionInternalWrong : ChangeSpec := { name := "teleprotectionInternal", fn := fun _ => fun
  | [d1, d2, d3] => { results := [.lit (.bool false)], args := [d1, d2, d3] }
  | _ => none }
def TeleprotectionInternalWrongFalsely : Prop := teleprotectionInternalRow.holds Try.pinned (OpenSpec.ofChange teleprotectionInternalWrong)

/-- 'substationlaw31.TeleprotectionExternal': WHATEVER THE INPUT: true; the input reads as it did. -/
def teleprotectionExternalSpec : ChangeSpec := { name := "teleprotectionExternal", fn := fun _ => fun
  | [d1, d2, d3] => { results := [.lit (.bool true)], args := [d1, d2, d3] }
  | _ => none }
def teleprotectionExternalRow : OpenClaim := { program := "ytjleadlkknnioaa", sum := "1d3b754fc8bc07d335c7b9d10664a34f0b26a68c56b954b0c7fa93896b835163", func := "substation/substationlaw31.TeleprotectionExternal", spec := "teleprotectionExternal", apart := false }
def TeleprotectionExternalSaid : Prop := teleprotectionExternalRow.holds Try.pinned (OpenSpec.ofChange teleprotectionExternalSpec)

/-- ITS FALSE NEIGHBOUR: 'it returns false'. Refute it at one input. -/
def teleprotectionExternalWrong : ChangeSpec := { name := "teleprotectionExternal", fn := fun _ => fun
  | [d1, d2, d3] => { results := [.lit (.bool false)], args := [d1, d2, d3] }
  | _ => none }
def TeleprotectionExternalWrongFalsely : Prop := teleprotectionExternalRow.holds Try.pinned (OpenSpec.ofChange teleprotectionExternalWrong)

/-- 'substationlaw31.TeleprotectionReverse': WHATEVER THE INPUT: true; the input reads as it did. -/
def teleprotectionReverseSpec : ChangeSpec := { name := "teleprotectionReverse", fn := fun _ => fun
  | [d] => { results := [.lit (.bool true)], args := [d] }
  | _ => none }
def teleprotectionReverseRow : OpenClaim := { program := "ytjleadlkknnioaa", sum := "1d3b754fc8bc07d335c7b9d10664a34f0b26a68c56b954b0c7fa93896b835163", func := "substation/substationlaw31.TeleprotectionReverse", spec := "teleprotectionReverse", apart := false }
def TeleprotectionReverseSaid : Prop := teleprotectionReverseRow.holds Try.pinned (OpenSpec.ofChange teleprotectionReverseSpec)

/-- ITS FALSE NEIGHBOUR: 'it returns false'. Refute it at one input. -/
def teleprotectionReverseWrong : ChangeSpec := { name := "teleprotectionReverse", fn := fun _ => fun
  | [d] => { results := [.lit (.bool false)], args := [d] }
  | _ => none }
def TeleprotectionReverseWrongFalsely : Prop := teleprotectionReverseRow.holds Try.pinned (OpenSpec.ofChange teleprotectionReverseWrong)

/-- 'substationlaw31.TeleprotectionAlone': WHATEVER THE INPUT: true; the input reads as it did. -/
def teleprotectionAloneSpec : ChangeSpec := { name := "teleprotectionAlone", fn := fun _ => fun
  | [d1, d2] => { results := [.lit (.bool true)], args := [d1, d2] }
  | _ => none }
def teleprotectionAloneRow : OpenClaim := { program := "ytjleadlkknnioaa", sum := "1d3b754fc8bc07d335c7b9d10664a34f0b26a68c56b954b0c7fa93896b835163", func := "substation/substationlaw31.TeleprotectionAlone", spec := "teleprotectionAlone", apart := false }
def TeleprotectionAloneSaid : Prop := teleprotectionAloneRow.holds Try.pinned (OpenSpec.ofChange teleprotectionAloneSpec)

/-- ITS FALSE NEIGHBOUR: 'it returns false'. Refute it at one input. -/
def teleprotectionAloneWrong : ChangeSpec := { name := "teleprotectionAlone", fn := fun _ => fun
  | [d1, d2] => { results := [.lit (.bool false)], args := [d1, d2] }
  | _ => none }
def TeleprotectionAloneWrongFalsely : Prop := teleprotectionAloneRow.holds Try.pinned (OpenSpec.ofChange teleprotectionAloneWrong)

/- THE SECOND FORM. 'bulk': how many values and letters a reading holds, each counted each time it is reached (what is shared counts as often as it is met; a slice's spare places count too). A statement '..UptoSaid' is the law's where the arguments, and the package variables that the reading takes, are together of bulk at most 1048576: NARROWER than '..Said'. Prove '..Said' where nothing that the law and all that it calls make is longer than what came in: it says more and counts as full. Else prove '..UptoSaid'. A law counts once. -/
mutual
def uptoBulk {H : Type} : DataW H → Nat
  | .lit (.string bytes) => bytes.length + 1
  | .lit _ => 1
  | .nil => 1
  | .ptr d => uptoBulk d + 1
  | .slice elems spare => uptoBulkAll elems + uptoBulkAll spare + 1
  | .agg parts => uptoBulkAll parts + 1
  | .iface _ d => uptoBulk d + 1
  | .map entries => uptoBulkEntries entries + 1
  | .held _ => 1
def uptoBulkAll {H : Type} : List (DataW H) → Nat
  | [] => 0
  | d :: r => uptoBulk d + uptoBulkAll r
def uptoBulkEntries {H : Type} : List (Lit × DataW H) → Nat
  | [] => 0
  | x :: r => uptoBulkEntry x + uptoBulkEntries r
def uptoBulkEntry {H : Type} : Lit × DataW H → Nat
  | (.string bytes, d) => bytes.length + uptoBulk d + 1
  | (_, d) => uptoBulk d + 1
 end
def uptoSmall : (H : Type) → List (DataW H) → Bool := fun _ ds => decide (uptoBulkAll ds ≤ 1048576)
def OpenSpec.upto (s : _root_.Go.ChangeSpec) : _root_.Go.OpenSpec := { _root_.Go.OpenSpec.ofChange s with cond := some uptoSmall }

/-- 'substationlaw31.TeleprotectionExamples', WHERE WHAT IT READS IS OF BULK AT MOST 1048576: true; the input reads as it did. -/
def teleprotectionExamplesUptoRow : OpenClaim := { program := "ytjleadlkknnioaa", sum := "1d3b754fc8bc07d335c7b9d10664a34f0b26a68c56b954b0c7fa93896b835163", func := "substation/substationlaw31.TeleprotectionExamples", spec := "teleprotectionExamples", apart := false, narrowed := true }
def TeleprotectionExamplesUptoSaid : Prop := teleprotectionExamplesUptoRow.holds Try.pinned (OpenSpec.upto teleprotectionExamplesSpec)

/-- 'substationlaw31.TeleprotectionSteps', WHERE WHAT IT READS IS OF BULK AT MOST 1048576: true; the input reads as it did. -/
def teleprotectionStepsUptoRow : OpenClaim := { program := "ytjleadlkknnioaa", sum := "1d3b754fc8bc07d335c7b9d10664a34f0b26a68c56b954b0c7fa93896b835163", func := "substation/substationlaw31.TeleprotectionSteps", spec := "teleprotectionSteps", apart := false, narrowed := true }
def TeleprotectionStepsUptoSaid : Prop := teleprotectionStepsUptoRow.holds Try.pinned (OpenSpec.upto teleprotectionStepsSpec)

/-- 'substationlaw31.TeleprotectionInternal', WHERE WHAT IT READS IS OF BULK AT MOST 1048576: true; the input reads as it did. -/
def teleprotectionInternalUptoRow : OpenClaim := { program := "ytjleadlkknnioaa", sum := "1d3b754fc8bc07d335c7b9d10664a34f0b26a68c56b954b0c7fa93896b835163", func := "substation/substationlaw31.TeleprotectionInternal", spec := "teleprotectionInternal", apart := false, narrowed := true }
def TeleprotectionInternalUptoSaid : Prop := teleprotectionInternalUptoRow.holds Try.pinned (OpenSpec.upto teleprotectionInternalSpec)

/-- 'substationlaw31.TeleprotectionExternal', WHERE WHAT IT READS IS OF BULK AT MOST 1048576: true; the input reads as it did. -/
def teleprotectionExternalUptoRow : OpenClaim := { program := "ytjleadlkknnioaa", sum := "1d3b754fc8bc07d335c7b9d10664a34f0b26a68c56b954b0c7fa93896b835163", func := "substation/substationlaw31.TeleprotectionExternal", spec := "teleprotectionExternal", apart := false, narrowed := true }
def TeleprotectionExternalUptoSaid : Prop := teleprotectionExternalUptoRow.holds Try.pinned (OpenSpec.upto teleprotectionExternalSpec)

/-- 'substationlaw31.TeleprotectionReverse', WHERE WHAT IT READS IS OF BULK AT MOST 1048576: true; the input reads as it did. -/
def teleprotectionReverseUptoRow : OpenClaim := { program := "ytjleadlkknnioaa", sum := "1d3b754fc8bc07d335c7b9d10664a34f0b26a68c56b954b0c7fa93896b835163", func := "substation/substationlaw31.TeleprotectionReverse", spec := "teleprotectionReverse", apart := false, narrowed := true }
def TeleprotectionReverseUptoSaid : Prop := teleprotectionReverseUptoRow.holds Try.pinned (OpenSpec.upto teleprotectionReverseSpec)

/-- 'substationlaw31.TeleprotectionAlone', WHERE WHAT IT READS IS OF BULK AT MOST 1048576: true; the input reads as it did. -/
def teleprotectionAloneUptoRow : OpenClaim := { program := "ytjleadlkknnioaa", sum := "1d3b754fc8bc07d335c7b9d10664a34f0b26a68c56b954b0c7fa93896b835163", func := "substation/substationlaw31.TeleprotectionAlone", spec := "teleprotectionAlone", apart := false, narrowed := true }
def TeleprotectionAloneUptoSaid : Prop := teleprotectionAloneUptoRow.holds Try.pinned (OpenSpec.upto teleprotectionAloneSpec)

end Rows
end Go.Proofs.Ytjleadlkknnioaa
