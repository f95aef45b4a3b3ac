/-
  No cell of these rows narrows 'for every input' (looked for: loops, veiled, ifaces, maps, wideKeys, modest, calm, conditions, laid).
  DERIVED. THE GIVEN ROWS OF THIS SEAT. 7 by the template 'for every input the law returns true; each argument reads behind the call as it read before'; 0 by the template 'total and deterministic' (their statements: YtjhmphkdkclbjaaTotals.lean).
  GIVEN WITH THE SEED: the statements are not yours to turn. If you find one false, say at which input.
  Laid BY PROGRAM, IN A SANDBOX (cutbox-rows.mjs): the forced cells as the released guide's own fill.sh prints them over the translation 89186dc7e2b1ce58… (all of the seat's roots in one cut). By AI agents, Wed Nov 11 2026. No macro, syntax, notation, axiom, sorry.
-/
import Derived.Test.YtjhmphkdkclbjaaChecked
import GoSem.Claim
import GoSem.ClaimJoined
import GoSem.ClaimMapViews
import Derived.JoinedTies
import Derived.KernelRfl
namespace Go.Proofs.Ytjhmphkdkclbjaa
/- THE CELL 'sum', in the pinned program and in every row, IS THE sha256 OF THE DUMP (.gsa) THAT YtjhmphkdkclbjaaProg.lean LOADS. Nothing in Lean hashes anything: it is a label: what it is worth is what the hold of that sum in a sandbox is worth. -/
noncomputable def Try.pinned : Pinned := { name := "ytjhmphkdkclbjaa", sum := "89186dc7e2b1ce5809e27a7a01fb5eb63ff923dc543fb3707fac7d84dfc53fa5", checked := Try.checked }
namespace Rows
def none {H : Type} : Left H := { results := [], args := [] }

/-- 'substationlaw33.BusimageSections': WHATEVER THE INPUT: true; the input reads as it did. -/
def busimageSectionsSpec : ChangeSpec := { name := "busimageSections", fn := fun _ => fun
  | [d1, d2] => { results := [.lit (.bool true)], args := [d1, d2] }
  | _ => none }
def busimageSectionsRow : OpenClaim := { program := "ytjhmphkdkclbjaa", sum := "89186dc7e2b1ce5809e27a7a01fb5eb63ff923dc543fb3707fac7d84dfc53fa5", func := "substation/substationlaw33.BusimageSections", spec := "busimageSections", unfollowed := true, recurses := true, apart := false }
def BusimageSectionsSaid : Prop := busimageSectionsRow.holds Try.pinned (OpenSpec.ofChange busimageSectionsSpec)

/-- ITS FALSE NEIGHBOUR: 'it returns false'. Refute it at one input. -/
def busimageSectionsWrong : ChangeSpec := { name := "busimageSections", fn := fun _ => fun
  | [d1, d2] => { results := [.lit (.bool false)], args := [d1, d2] }
  | _ => none }
def BusimageSectionsWrongFalsely : Prop := busimageSectionsRow.holds Try.pinned (OpenSpec.ofChange busimageSectionsWrong)

/-- 'substationlaw33.BusimagePartition': WHATEVER THE INPUT: true; the input reads as it did. -/
def busimagePartitionSpec : ChangeSpec := { name := "busimagePartition", fn := fun _ => fun
  | [d1, d2, d3] => { results := [.lit (.bool true)], args := [d1, d2, d3] }
  | _ => none }
def busimagePartitionRow : OpenClaim := { program := "ytjhmphkdkclbjaa", sum := "89186dc7e2b1ce5809e27a7a01fb5eb63ff923dc543fb3707fac7d84dfc53fa5", func := "substation/substationlaw33.BusimagePartition", spec := "busimagePartition", unfollowed := true, recurses := true, apart := false }
def BusimagePartitionSaid : Prop := busimagePartitionRow.holds Try.pinned (OpenSpec.ofChange busimagePartitionSpec)

/-- ITS FALSE NEIGHBOUR: 'it returns false'. Refute it at one input. -/
def busimagePartitionWrong : ChangeSpec := { name := "busimagePartition", fn := fun _ => fun
  | [d1, d2, d3] => { results := [.lit (.bool false)], args := [d1, d2, d3] }
  | _ => none }
def BusimagePartitionWrongFalsely : Prop := busimagePartitionRow.holds Try.pinned (OpenSpec.ofChange busimagePartitionWrong)

/-- 'substationlaw33.BusimageBalance': WHATEVER THE INPUT: true; the input reads as it did. -/
def busimageBalanceSpec : ChangeSpec := { name := "busimageBalance", fn := fun _ => fun
  | [d1, d2, d3] => { results := [.lit (.bool true)], args := [d1, d2, d3] }
  | _ => none }
def busimageBalanceRow : OpenClaim := { program := "ytjhmphkdkclbjaa", sum := "89186dc7e2b1ce5809e27a7a01fb5eb63ff923dc543fb3707fac7d84dfc53fa5", func := "substation/substationlaw33.BusimageBalance", spec := "busimageBalance", unfollowed := true, recurses := true, apart := false }
def BusimageBalanceSaid : Prop := busimageBalanceRow.holds Try.pinned (OpenSpec.ofChange busimageBalanceSpec)

/-- ITS FALSE NEIGHBOUR: 'it returns false'. Refute it at one input. -/
def busimageBalanceWrong : ChangeSpec := { name := "busimageBalance", fn := fun _ => fun
  | [d1, d2, d3] => { results := [.lit (.bool false)], args := [d1, d2, d3] }
  | _ => none }
def BusimageBalanceWrongFalsely : Prop := busimageBalanceRow.holds Try.pinned (OpenSpec.ofChange busimageBalanceWrong)

/-- 'substationlaw33.BusimageExamples': WHATEVER THE INPUT: true; the input reads as it did. -/
def busimageExamplesSpec : ChangeSpec := { name := "busimageExamples", fn := fun _ => fun
  | [] => { results := [.lit (.bool true)], args := [] }
  | _ => none }
def busimageExamplesRow : OpenClaim := { program := "ytjhmphkdkclbjaa", sum := "89186dc7e2b1ce5809e27a7a01fb5eb63ff923dc543fb3707fac7d84dfc53fa5", func := "substation/substationlaw33.BusimageExamples", spec := "busimageExamples", unfollowed := true, recurses := true, apart := false }
def BusimageExamplesSaid : Prop := busimageExamplesRow.holds Try.pinned (OpenSpec.ofChange busimageExamplesSpec)

/-- ITS FALSE NEIGHBOUR: 'it returns false'. Refute it at one input. -/
def busimageExamplesWrong : ChangeSpec := { name := "busimageExamples", fn := fun _ => fun
  | [] => { results := [.lit (.bool false)], args := [] }
  | _ => none }
def BusimageExamplesWrongFalsely : Prop := busimageExamplesRow.holds Try.pinned (OpenSpec.ofChange busimageExamplesWrong)

/-- 'substationlaw36.InterlockExamples': WHATEVER THE INPUT: true; the input reads as it did. -/
def interlockExamplesSpec : ChangeSpec := { name := "interlockExamples", fn := fun _ => fun
  | [] => { results := [.lit (.bool true)], args := [] }
  | _ => none }
def interlockExamplesRow : OpenClaim := { program := "ytjhmphkdkclbjaa", sum := "89186dc7e2b1ce5809e27a7a01fb5eb63ff923dc543fb3707fac7d84dfc53fa5", func := "substation/substationlaw36.InterlockExamples", spec := "interlockExamples", unfollowed := true, recurses := true, apart := false }
def InterlockExamplesSaid : Prop := interlockExamplesRow.holds Try.pinned (OpenSpec.ofChange interlockExamplesSpec)

/-- ITS FALSE NEIGHBOUR: 'it returns false'. Refute it at one input. -/
def interlockExamplesWrong : ChangeSpec := { name := "interlockExamples", fn := fun _ => fun
  | [] => { results := [.lit (.bool false)], args := [] }
  | _ => none }
def InterlockExamplesWrongFalsely : Prop := interlockExamplesRow.holds Try.pinned (OpenSpec.ofChange interlockExamplesWrong)

/-- 'substationlaw36.InterlockNoLoad': WHATEVER THE INPUT: true; the input reads as it did. -/
def interlockNoLoadSpec : ChangeSpec := { name := "interlockNoLoad", fn := fun _ => fun
  | [d1, d2, d3] => { results := [.lit (.bool true)], args := [d1, d2, d3] }
  | _ => none }
def interlockNoLoadRow : OpenClaim := { program := "ytjhmphkdkclbjaa", sum := "89186dc7e2b1ce5809e27a7a01fb5eb63ff923dc543fb3707fac7d84dfc53fa5", func := "substation/substationlaw36.InterlockNoLoad", spec := "interlockNoLoad", unfollowed := true, recurses := true, apart := false }
def InterlockNoLoadSaid : Prop := interlockNoLoadRow.holds Try.pinned (OpenSpec.ofChange interlockNoLoadSpec)

/-- ITS FALSE NEIGHBOUR: 'it returns false'. Refute it at one input. -/
def interlockNoLoadWrong : ChangeSpec := { name := "interlockNoLoad", fn := fun _ => fun
  | [d1, d2, d3] => { results := [.lit (.bool false)], args := [d1, d2, d3] }
  | _ => none }
def InterlockNoLoadWrongFalsely : Prop := interlockNoLoadRow.holds Try.pinned (OpenSpec.ofChange interlockNoLoadWrong)

/-- 'substationlaw36.InterlockUndo': WHATEVER THE INPUT: true; the input reads as it did. -/
def interlockUndoSpec : ChangeSpec := { name := "interlockUndo", fn := fun _ => fun
  | [d1, d2, d3] => { results := [.lit (.bool true)], args := [d1, d2, d3] }
  | _ => none }
def interlockUndoRow : OpenClaim := { program := "ytjhmphkdkclbjaa", sum := "89186dc7e2b1ce5809e27a7a01fb5eb63ff923dc543fb3707fac7d84dfc53fa5", func := "substation/substationlaw36.InterlockUndo", spec := "interlockUndo", unfollowed := true, recurses := true, apart := false }
def InterlockUndoSaid : Prop := interlockUndoRow.holds Try.pinned (OpenSpec.ofChange interlockUndoSpec)

/-- ITS FALSE NEIGHBOUR: 'it returns false'. Refute it at one input. -/
def interlockUndoWrong : ChangeSpec := { name := "interlockUndo", fn := fun _ => fun
  | [d1, d2, d3] => { results := [.lit (.bool false)], args := [d1, d2, d3] }
  | _ => none }
def InterlockUndoWrongFalsely : Prop := interlockUndoRow.holds Try.pinned (OpenSpec.ofChange interlockUndoWrong)

/- THE SECOND FORM. 'bulk': how many values and letters a reading holds, each counted each time it is reached (what is shared counts as often as it is met; a slice's spare places count too). A statement '..UptoSaid' is the law's where the arguments, and the package variables that the reading takes, are together of bulk at most 1048576: NARROWER than '..Said'. Prove '..Said' where nothing that the law and all that it calls make is longer than what came in: it says more and counts as full. Else prove '..UptoSaid'. A law counts once. -/
mutual
def uptoBulk {H : Type} : DataW H → Nat
  | .lit (.string bytes) => bytes.length + 1
  | .lit _ => 1
  | .nil => 1
  | .ptr d => uptoBulk d + 1
  | .slice elems spare => uptoBulkAll elems + uptoBulkAll spare + 1
  | .agg parts => uptoBulkAll parts + 1
  | .iface _ d => uptoBulk d + 1
  | .map entries => uptoBulkEntries entries + 1
  | .held _ => 1
def uptoBulkAll {H : Type} : List (DataW H) → Nat
  | [] => 0
  | d :: r => uptoBulk d + uptoBulkAll r
def uptoBulkEntries {H : Type} : List (Lit × DataW H) → Nat
  | [] => 0
  | x :: r => uptoBulkEntry x + uptoBulkEntries r
def uptoBulkEntry {H : Type} : Lit × DataW H → Nat
  | (.string bytes, d) => bytes.length + uptoBulk d + 1
  | (_, d) => uptoBulk d + 1
 end
def uptoSmall : (H : Type) → List (DataW H) → Bool := fun _ ds => decide (uptoBulkAll ds ≤ 1048576)
def OpenSpec.upto (s : _root_.Go.ChangeSpec) : _root_.Go.OpenSpec := { _root_.Go.OpenSpec.ofChange s with cond := some uptoSmall }

/-- 'substationlaw33.BusimageSections', WHERE WHAT IT READS IS OF BULK AT MOST 1048576: true; the input reads as it did. -/
def busimageSectionsUptoRow : OpenClaim := { program := "ytjhmphkdkclbjaa", sum := "89186dc7e2b1ce5809e27a7a01fb5eb63ff923dc543fb3707fac7d84dfc53fa5", func := "substation/substationlaw33.BusimageSections", spec := "busimageSections", unfollowed := true, recurses := true, apart := false, narrowed := true }
def BusimageSectionsUptoSaid : Prop := busimageSectionsUptoRow.holds Try.pinned (OpenSpec.upto busimageSectionsSpec)

/-- 'substationlaw33.BusimagePartition', WHERE WHAT IT READS IS OF BULK AT MOST 1048576: true; the input reads as it did. -/
def busimagePartitionUptoRow : OpenClaim := { program := "ytjhmphkdkclbjaa", sum := "89186dc7e2b1ce5809e27a7a01fb5eb63ff923dc543fb3707fac7d84dfc53fa5", func := "substation/substationlaw33.BusimagePartition", spec := "busimagePartition", unfollowed := true, recurses := true, apart := false, narrowed := true }
def BusimagePartitionUptoSaid : Prop := busimagePartitionUptoRow.holds Try.pinned (OpenSpec.upto busimagePartitionSpec)

/-- 'substationlaw33.BusimageBalance', WHERE WHAT IT READS IS OF BULK AT MOST 1048576: true; the input reads as it did. -/
def busimageBalanceUptoRow : OpenClaim := { program := "ytjhmphkdkclbjaa", sum := "89186dc7e2b1ce5809e27a7a01fb5eb63ff923dc543fb3707fac7d84dfc53fa5", func := "substation/substationlaw33.BusimageBalance", spec := "busimageBalance", unfollowed := true, recurses := true, apart := false, narrowed := true }
def BusimageBalanceUptoSaid : Prop := busimageBalanceUptoRow.holds Try.pinned (OpenSpec.upto busimageBalanceSpec)

/-- 'substationlaw33.BusimageExamples', WHERE WHAT IT READS IS OF BULK AT MOST 1048576: true; the input reads as it did. -/
def busimageExamplesUptoRow : OpenClaim := { program := "ytjhmphkdkclbjaa", sum := "89186dc7e2b1ce5809e27a7a01fb5eb63ff923dc543fb3707fac7d84dfc53fa5", func := "substation/substationlaw33.BusimageExamples", spec := "busimageExamples", unfollowed := true, recurses := true, apart := false, narrowed := true }
def BusimageExamplesUptoSaid : Prop := busimageExamplesUptoRow.holds Try.pinned (OpenSpec.upto busimageExamplesSpec)

/-- 'substationlaw36.InterlockExamples', WHERE WHAT IT READS IS OF BULK AT MOST 1048576: true; the input reads as it did. -/
def interlockExamplesUptoRow : OpenClaim := { program := "ytjhmphkdkclbjaa", sum := "89186dc7e2b1ce5809e27a7a01fb5eb63ff923dc543fb3707fac7d84dfc53fa5", func := "substation/substationlaw36.InterlockExamples", spec := "interlockExamples", unfollowed := true, recurses := true, apart := false, narrowed := true }
def InterlockExamplesUptoSaid : Prop := interlockExamplesUptoRow.holds Try.pinned (OpenSpec.upto interlockExamplesSpec)

/-- 'substationlaw36.InterlockNoLoad', WHERE WHAT IT READS IS OF BULK AT MOST 1048576: true; the input reads as it did. -/
def interlockNoLoadUptoRow : OpenClaim := { program := "ytjhmphkdkclbjaa", sum := "89186dc7e2b1ce5809e27a7a01fb5eb63ff923dc543fb3707fac7d84dfc53fa5", func := "substation/substationlaw36.InterlockNoLoad", spec := "interlockNoLoad", unfollowed := true, recurses := true, apart := false, narrowed := true }
def InterlockNoLoadUptoSaid : Prop := interlockNoLoadUptoRow.holds Try.pinned (OpenSpec.upto interlockNoLoadSpec)

/-- 'substationlaw36.InterlockUndo', WHERE WHAT IT READS IS OF BULK AT MOST 1048576: true; the input reads as it did. -/
def interlockUndoUptoRow : OpenClaim := { program := "ytjhmphkdkclbjaa", sum := "89186dc7e2b1ce5809e27a7a01fb5eb63ff923dc543fb3707fac7d84dfc53fa5", func := "substation/substationlaw36.InterlockUndo", spec := "interlockUndo", unfollowed := true, recurses := true, apart := false, narrowed := true }
def InterlockUndoUptoSaid : Prop := interlockUndoUptoRow.holds Try.pinned (OpenSpec.upto interlockUndoSpec)

end Rows
end Go.Proofs.Ytjhmphkdkclbjaa
