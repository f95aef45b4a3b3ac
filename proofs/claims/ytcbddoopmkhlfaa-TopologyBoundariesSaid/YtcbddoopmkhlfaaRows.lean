/-
  No cell of these rows narrows 'for every input' (looked for: loops, veiled, ifaces, maps, wideKeys, modest, calm, conditions, laid).
  DERIVED. THE GIVEN ROWS OF THIS SEAT. 11 by the template 'for every input the law returns true; each argument reads behind the call as it read before'; 0 by the template 'total and deterministic' (their statements: YtcbddoopmkhlfaaTotals.lean).
  GIVEN WITH THE SEED: the statements are not yours to turn. If you find one false, say at which input.
  Laid BY PROGRAM, IN A SANDBOX (cutbox-rows.mjs): the forced cells as the released guide's own fill.sh prints them over the translation 1b95fede2d59f014… (all of the seat's roots in one cut). By AI agents, Wed Nov 11 2026. No macro, syntax, notation, axiom, sorry.
-/
import Derived.Test.YtcbddoopmkhlfaaChecked
import GoSem.Claim
import GoSem.ClaimJoined
import GoSem.ClaimMapViews
import Derived.JoinedTies
import Derived.KernelRfl
namespace Go.Proofs.Ytcbddoopmkhlfaa
/- THE CELL 'sum', in the pinned program and in every row, IS THE sha256 OF THE DUMP (.gsa) THAT YtcbddoopmkhlfaaProg.lean LOADS. Nothing in Lean hashes anything: it is a label: what it is worth is what the hold of that sum in a sandbox is worth. -/
noncomputable def Try.pinned : Pinned := { name := "ytcbddoopmkhlfaa", sum := "1b95fede2d59f0143c64575f4a85092f5214365eb568f231ac667346accee65a", checked := Try.checked }
namespace Rows
def none {H : Type} : Left H := { results := [], args := [] }

/-- 'substationlaw32.BreakerfailureExamples': WHATEVER THE INPUT: true; the input reads as it did. -/
def breakerfailureExamplesSpec : ChangeSpec := { name := "breakerfailureExamples", fn := fun _ => fun
  | [] => { results := [.lit (.bool true)], args := [] }
  | _ => none }
def breakerfailureExamplesRow : OpenClaim := { program := "ytcbddoopmkhlfaa", sum := "1b95fede2d59f0143c64575f4a85092f5214365eb568f231ac667346accee65a", func := "substation/substationlaw32.BreakerfailureExamples", spec := "breakerfailureExamples", unfollowed := true, recurses := true, plainKeys := false, apart := false }
def BreakerfailureExamplesSaid : Prop := breakerfailureExamplesRow.holds Try.pinned (OpenSpec.ofChange breakerfailureExamplesSpec)

/-- ITS FALSE NEIGHBOUR: 'it returns false'. Refute it at one input. -/
def breakerfailureExamplesWrong : ChangeSpec := { name := "breakerfailureExamples", fn := fun _ => fun
  | [] => { results := [.lit (.bool false)], args := [] }
  | _ => none }
def BreakerfailureExamplesWrongFalsely : Prop := breakerfailureExamplesRow.holds Try.pinned (OpenSpec.ofChange breakerfailureExamplesWrong)

/-- 'substationlaw32.BreakerfailureTargets': WHATEVER THE INPUT: true; the input reads as it did. -/
def breakerfailureTargetsSpec : ChangeSpec := { name := "breakerfailureTargets", fn := fun _ => fun
  | [d1, d2, d3] => { results := [.lit (.bool true)], args := [d1, d2, d3] }
  | _ => none }
def breakerfailureTargetsRow : OpenClaim := { program := "ytcbddoopmkhlfaa", sum := "1b95fede2d59f0143c64575f4a85092f5214365eb568f231ac667346accee65a", func := "substation/substationlaw32.BreakerfailureTargets", spec := "breakerfailureTargets", unfollowed := true, recurses := true, plainKeys := false, apart := false }
def BreakerfailureTargetsSaid : Prop := breakerfailureTargetsRow.holds Try.pinned (OpenSpec.ofChange breakerfailureTargetsSpec)

/-- ITS FALSE NEIGHBOUR: 'it returns false'. Refute it at one input. -/
def breakerfailureTargetsWrong : ChangeSpec := { name := "breakerfailureTargets", fn := fun _ => fun
  | [d1, d2, d3] => { results := [.lit (.bool false)], args := [d1, d2, d3] }
  | _ => none }
def BreakerfailureTargetsWrongFalsely : Prop := breakerfailureTargetsRow.holds Try.pinned (OpenSpec.ofChange breakerfailureTargetsWrong)

/-- 'substationlaw32.BreakerfailureUnion': WHATEVER THE INPUT: true; the input reads as it did. -/
def breakerfailureUnionSpec : ChangeSpec := { name := "breakerfailureUnion", fn := fun _ => fun
  | [d1, d2, d3] => { results := [.lit (.bool true)], args := [d1, d2, d3] }
  | _ => none }
def breakerfailureUnionRow : OpenClaim := { program := "ytcbddoopmkhlfaa", sum := "1b95fede2d59f0143c64575f4a85092f5214365eb568f231ac667346accee65a", func := "substation/substationlaw32.BreakerfailureUnion", spec := "breakerfailureUnion", unfollowed := true, recurses := true, plainKeys := false, apart := false }
def BreakerfailureUnionSaid : Prop := breakerfailureUnionRow.holds Try.pinned (OpenSpec.ofChange breakerfailureUnionSpec)

/-- ITS FALSE NEIGHBOUR: 'it returns false'. Refute it at one input. -/
def breakerfailureUnionWrong : ChangeSpec := { name := "breakerfailureUnion", fn := fun _ => fun
  | [d1, d2, d3] => { results := [.lit (.bool false)], args := [d1, d2, d3] }
  | _ => none }
def BreakerfailureUnionWrongFalsely : Prop := breakerfailureUnionRow.holds Try.pinned (OpenSpec.ofChange breakerfailureUnionWrong)

/-- 'substationlaw06.TopologyFeeds': WHATEVER THE INPUT: true; the input reads as it did. -/
def topologyFeedsSpec : ChangeSpec := { name := "topologyFeeds", fn := fun _ => fun
  | [d1, d2, d3] => { results := [.lit (.bool true)], args := [d1, d2, d3] }
  | _ => none }
def topologyFeedsRow : OpenClaim := { program := "ytcbddoopmkhlfaa", sum := "1b95fede2d59f0143c64575f4a85092f5214365eb568f231ac667346accee65a", func := "substation/substationlaw06.TopologyFeeds", spec := "topologyFeeds", unfollowed := true, recurses := true, plainKeys := false, apart := false }
def TopologyFeedsSaid : Prop := topologyFeedsRow.holds Try.pinned (OpenSpec.ofChange topologyFeedsSpec)

/-- ITS FALSE NEIGHBOUR: 'it returns false'. Refute it at one input. -/
def topologyFeedsWrong : ChangeSpec := { name := "topologyFeeds", fn := fun _ => fun
  | [d1, d2, d3] => { results := [.lit (.bool false)], args := [d1, d2, d3] }
  | _ => none }
def TopologyFeedsWrongFalsely : Prop := topologyFeedsRow.holds Try.pinned (OpenSpec.ofChange topologyFeedsWrong)

/-- 'substationlaw06.TopologyUnion': WHATEVER THE INPUT: true; the input reads as it did. -/
def topologyUnionSpec : ChangeSpec := { name := "topologyUnion", fn := fun _ => fun
  | [d1, d2, d3] => { results := [.lit (.bool true)], args := [d1, d2, d3] }
  | _ => none }
def topologyUnionRow : OpenClaim := { program := "ytcbddoopmkhlfaa", sum := "1b95fede2d59f0143c64575f4a85092f5214365eb568f231ac667346accee65a", func := "substation/substationlaw06.TopologyUnion", spec := "topologyUnion", unfollowed := true, recurses := true, plainKeys := false, apart := false }
def TopologyUnionSaid : Prop := topologyUnionRow.holds Try.pinned (OpenSpec.ofChange topologyUnionSpec)

/-- ITS FALSE NEIGHBOUR: 'it returns false'. Refute it at one input. -/
def topologyUnionWrong : ChangeSpec := { name := "topologyUnion", fn := fun _ => fun
  | [d1, d2, d3] => { results := [.lit (.bool false)], args := [d1, d2, d3] }
  | _ => none }
def TopologyUnionWrongFalsely : Prop := topologyUnionRow.holds Try.pinned (OpenSpec.ofChange topologyUnionWrong)

/-- 'substationlaw06.TopologyLife': WHATEVER THE INPUT: true; the input reads as it did. -/
def topologyLifeSpec : ChangeSpec := { name := "topologyLife", fn := fun _ => fun
  | [d1, d2] => { results := [.lit (.bool true)], args := [d1, d2] }
  | _ => none }
def topologyLifeRow : OpenClaim := { program := "ytcbddoopmkhlfaa", sum := "1b95fede2d59f0143c64575f4a85092f5214365eb568f231ac667346accee65a", func := "substation/substationlaw06.TopologyLife", spec := "topologyLife", unfollowed := true, recurses := true, plainKeys := false, apart := false }
def TopologyLifeSaid : Prop := topologyLifeRow.holds Try.pinned (OpenSpec.ofChange topologyLifeSpec)

/-- ITS FALSE NEIGHBOUR: 'it returns false'. Refute it at one input. -/
def topologyLifeWrong : ChangeSpec := { name := "topologyLife", fn := fun _ => fun
  | [d1, d2] => { results := [.lit (.bool false)], args := [d1, d2] }
  | _ => none }
def TopologyLifeWrongFalsely : Prop := topologyLifeRow.holds Try.pinned (OpenSpec.ofChange topologyLifeWrong)

/-- 'substationlaw06.TopologyBoundaries': WHATEVER THE INPUT: true; the input reads as it did. -/
def topologyBoundariesSpec : ChangeSpec := { name := "topologyBoundaries", fn := fun _ => fun
  | [d1, d2, d3] => { results := [.lit (.bool true)], args := [d1, d2, d3] }
  | _ => none }
def topologyBoundariesRow : OpenClaim := { program := "ytcbddoopmkhlfaa", sum := "1b95fede2d59f0143c64575f4a85092f5214365eb568f231ac667346accee65a", func := "substation/substationlaw06.TopologyBoundaries", spec := "topologyBoundaries", unfollowed := true, recurses := true, plainKeys := false, apart := false }
def TopologyBoundariesSaid : Prop := topologyBoundariesRow.holds Try.pinned (OpenSpec.ofChange topologyBoundariesSpec)

/-- ITS FALSE NEIGHBOUR: 'it returns false'. Refute it at one input. -/
def topologyBoundariesWrong : ChangeSpec := { name := "topologyBoundaries", fn := fun _ => fun
  | [d1, d2, d3] => { results := [.lit (.bool false)], args := [d1, d2, d3] }
  | _ => none }
def TopologyBoundariesWrongFalsely : Prop := topologyBoundariesRow.holds Try.pinned (OpenSpec.ofChange topologyBoundariesWrong)

/-- 'substationlaw06.TopologyMoving': WHATEVER THE INPUT: true; the input reads as it did. -/
def topologyMovingSpec : ChangeSpec := { name := "topologyMoving", fn := fun _ => fun
  | [d1, d2] => { results := [.lit (.bool true)], args := [d1, d2] }
  | _ => none }
def topologyMovingRow : OpenClaim := { program := "ytcbddoopmkhlfaa", sum := "1b95fede2d59f0143c64575f4a85092f5214365eb568f231ac667346accee65a", func := "substation/substationlaw06.TopologyMoving", spec := "topologyMoving", unfollowed := true, recurses := true, plainKeys := false, apart := false }
def TopologyMovingSaid : Prop := topologyMovingRow.holds Try.pinned (OpenSpec.ofChange topologyMovingSpec)

/-- ITS FALSE NEIGHBOUR: 'it returns false'. Refute it at one input. -/
def topologyMovingWrong : ChangeSpec := { name := "topologyMoving", fn := fun _ => fun
  | [d1, d2] => { results := [.lit (.bool false)], args := [d1, d2] }
  | _ => none }
def TopologyMovingWrongFalsely : Prop := topologyMovingRow.holds Try.pinned (OpenSpec.ofChange topologyMovingWrong)

/-- 'substationlaw06.TopologyZones': WHATEVER THE INPUT: true; the input reads as it did. -/
def topologyZonesSpec : ChangeSpec := { name := "topologyZones", fn := fun _ => fun
  | [d1, d2, d3] => { results := [.lit (.bool true)], args := [d1, d2, d3] }
  | _ => none }
def topologyZonesRow : OpenClaim := { program := "ytcbddoopmkhlfaa", sum := "1b95fede2d59f0143c64575f4a85092f5214365eb568f231ac667346accee65a", func := "substation/substationlaw06.TopologyZones", spec := "topologyZones", unfollowed := true, recurses := true, plainKeys := false, apart := false }
def TopologyZonesSaid : Prop := topologyZonesRow.holds Try.pinned (OpenSpec.ofChange topologyZonesSpec)

/-- ITS FALSE NEIGHBOUR: 'it returns false'. Refute it at one input. -/
def topologyZonesWrong : ChangeSpec := { name := "topologyZones", fn := fun _ => fun
  | [d1, d2, d3] => { results := [.lit (.bool false)], args := [d1, d2, d3] }
  | _ => none }
def TopologyZonesWrongFalsely : Prop := topologyZonesRow.holds Try.pinned (OpenSpec.ofChange topologyZonesWrong)

/-- 'substationlaw06.TopologyNeighbours': WHATEVER THE INPUT: true; the input reads as it did. -/
def topologyNeighboursSpec : ChangeSpec := { name := "topologyNeighbours", fn := fun _ => fun
  | [d1, d2] => { results := [.lit (.bool true)], args := [d1, d2] }
  | _ => none }
def topologyNeighboursRow : OpenClaim := { program := "ytcbddoopmkhlfaa", sum := "1b95fede2d59f0143c64575f4a85092f5214365eb568f231ac667346accee65a", func := "substation/substationlaw06.TopologyNeighbours", spec := "topologyNeighbours", unfollowed := true, recurses := true, plainKeys := false, apart := false }
def TopologyNeighboursSaid : Prop := topologyNeighboursRow.holds Try.pinned (OpenSpec.ofChange topologyNeighboursSpec)

/-- ITS FALSE NEIGHBOUR: 'it returns false'. Refute it at one input. -/
def topologyNeighboursWrong : ChangeSpec := { name := "topologyNeighbours", fn := fun _ => fun
  | [d1, d2] => { results := [.lit (.bool false)], args := [d1, d2] }
  | _ => none }
def TopologyNeighboursWrongFalsely : Prop := topologyNeighboursRow.holds Try.pinned (OpenSpec.ofChange topologyNeighboursWrong)

/-- 'substationlaw06.TopologyOpens': WHATEVER THE INPUT: true; the input reads as it did. -/
def topologyOpensSpec : ChangeSpec := { name := "topologyOpens", fn := fun _ => fun
  | [d1, d2, d3] => { results := [.lit (.bool true)], args := [d1, d2, d3] }
  | _ => none }
def topologyOpensRow : OpenClaim := { program := "ytcbddoopmkhlfaa", sum := "1b95fede2d59f0143c64575f4a85092f5214365eb568f231ac667346accee65a", func := "substation/substationlaw06.TopologyOpens", spec := "topologyOpens", unfollowed := true, recurses := true, plainKeys := false, apart := false }
def TopologyOpensSaid : Prop := topologyOpensRow.holds Try.pinned (OpenSpec.ofChange topologyOpensSpec)

/-- ITS FALSE NEIGHBOUR: 'it returns false'. Refute it at one input. -/
def topologyOpensWrong : ChangeSpec := { name := "topologyOpens", fn := fun _ => fun
  | [d1, d2, d3] => { results := [.lit (.bool false)], args := [d1, d2, d3] }
  | _ => none }
def TopologyOpensWrongFalsely : Prop := topologyOpensRow.holds Try.pinned (OpenSpec.ofChange topologyOpensWrong)

/- THE SECOND FORM. 'bulk': how many values and letters a reading holds, each counted each time it is reached (what is shared counts as often as it is met; a slice's spare places count too). A statement '..UptoSaid' is the law's where the arguments, and the package variables that the reading takes, are together of bulk at most 1048576: NARROWER than '..Said'. Prove '..Said' where nothing that the law and all that it calls make is longer than what came in: it says more and counts as full. Else prove '..UptoSaid'. A law counts once. -/
mutual
def uptoBulk {H : Type} : DataW H → Nat
  | .lit (.string bytes) => bytes.length + 1
  | .lit _ => 1
  | .nil => 1
  | .ptr d => uptoBulk d + 1
  | .slice elems spare => uptoBulkAll elems + uptoBulkAll spare + 1
  | .agg parts => uptoBulkAll parts + 1
  | .iface _ d => uptoBulk d + 1
  | .map entries => uptoBulkEntries entries + 1
  | .held _ => 1
def uptoBulkAll {H : Type} : List (DataW H) → Nat
  | [] => 0
  | d :: r => uptoBulk d + uptoBulkAll r
def uptoBulkEntries {H : Type} : List (Lit × DataW H) → Nat
  | [] => 0
  | x :: r => uptoBulkEntry x + uptoBulkEntries r
def uptoBulkEntry {H : Type} : Lit × DataW H → Nat
  | (.string bytes, d) => bytes.length + uptoBulk d + 1
  | (_, d) => uptoBulk d + 1
 end
def uptoSmall : (H : Type) → List (DataW H) → Bool := fun _ ds => decide (uptoBulkAll ds ≤ 1048576)
def OpenSpec.upto (s : _root_.Go.ChangeSpec) : _root_.Go.OpenSpec := { _root_.Go.OpenSpec.ofChange s with cond := some uptoSmall }

/-- 'substationlaw32.BreakerfailureExamples', WHERE WHAT IT READS IS OF BULK AT MOST 1048576: true; the input reads as it did. -/
def breakerfailureExamplesUptoRow : OpenClaim := { program := "ytcbddoopmkhlfaa", sum := "1b95fede2d59f0143c64575f4a85092f5214365eb568f231ac667346accee65a", func := "substation/substationlaw32.BreakerfailureExamples", spec := "breakerfailureExamples", unfollowed := true, recurses := true, plainKeys := false, apart := false, narrowed := true }
def BreakerfailureExamplesUptoSaid : Prop := breakerfailureExamplesUptoRow.holds Try.pinned (OpenSpec.upto breakerfailureExamplesSpec)

/-- 'substationlaw32.BreakerfailureTargets', WHERE WHAT IT READS IS OF BULK AT MOST 1048576: true; the input reads as it did. -/
def breakerfailureTargetsUptoRow : OpenClaim := { program := "ytcbddoopmkhlfaa", sum := "1b95fede2d59f0143c64575f4a85092f5214365eb568f231ac667346accee65a", func := "substation/substationlaw32.BreakerfailureTargets", spec := "breakerfailureTargets", unfollowed := true, recurses := true, plainKeys := false, apart := false, narrowed := true }
def BreakerfailureTargetsUptoSaid : Prop := breakerfailureTargetsUptoRow.holds Try.pinned (OpenSpec.upto breakerfailureTargetsSpec)

/-- 'substationlaw32.BreakerfailureUnion', WHERE WHAT IT READS IS OF BULK AT MOST 1048576: true; the input reads as it did. -/
def breakerfailureUnionUptoRow : OpenClaim := { program := "ytcbddoopmkhlfaa", sum := "1b95fede2d59f0143c64575f4a85092f5214365eb568f231ac667346accee65a", func := "substation/substationlaw32.BreakerfailureUnion", spec := "breakerfailureUnion", unfollowed := true, recurses := true, plainKeys := false, apart := false, narrowed := true }
def BreakerfailureUnionUptoSaid : Prop := breakerfailureUnionUptoRow.holds Try.pinned (OpenSpec.upto breakerfailureUnionSpec)

/-- 'substationlaw06.TopologyFeeds', WHERE WHAT IT READS IS OF BULK AT MOST 1048576: true; the input reads as it did. -/
def topologyFeedsUptoRow : OpenClaim := { program := "ytcbddoopmkhlfaa", sum := "1b95fede2d59f0143c64575f4a85092f5214365eb568f231ac667346accee65a", func := "substation/substationlaw06.TopologyFeeds", spec := "topologyFeeds", unfollowed := true, recurses := true, plainKeys := false, apart := false, narrowed := true }
def TopologyFeedsUptoSaid : Prop := topologyFeedsUptoRow.holds Try.pinned (OpenSpec.upto topologyFeedsSpec)

/-- 'substationlaw06.TopologyUnion', WHERE WHAT IT READS IS OF BULK AT MOST 1048576: true; the input reads as it did. -/
def topologyUnionUptoRow : OpenClaim := { program := "ytcbddoopmkhlfaa", sum := "1b95fede2d59f0143c64575f4a85092f5214365eb568f231ac667346accee65a", func := "substation/substationlaw06.TopologyUnion", spec := "topologyUnion", unfollowed := true, recurses := true, plainKeys := false, apart := false, narrowed := true }
def TopologyUnionUptoSaid : Prop := topologyUnionUptoRow.holds Try.pinned (OpenSpec.upto topologyUnionSpec)

/-- 'substationlaw06.TopologyLife', WHERE WHAT IT READS IS OF BULK AT MOST 1048576: true; the input reads as it did. -/
def topologyLifeUptoRow : OpenClaim := { program := "ytcbddoopmkhlfaa", sum := "1b95fede2d59f0143c64575f4a85092f5214365eb568f231ac667346accee65a", func := "substation/substationlaw06.TopologyLife", spec := "topologyLife", unfollowed := true, recurses := true, plainKeys := false, apart := false, narrowed := true }
def TopologyLifeUptoSaid : Prop := topologyLifeUptoRow.holds Try.pinned (OpenSpec.upto topologyLifeSpec)

/-- 'substationlaw06.TopologyBoundaries', WHERE WHAT IT READS IS OF BULK AT MOST 1048576: true; the input reads as it did. -/
def topologyBoundariesUptoRow : OpenClaim := { program := "ytcbddoopmkhlfaa", sum := "1b95fede2d59f0143c64575f4a85092f5214365eb568f231ac667346accee65a", func := "substation/substationlaw06.TopologyBoundaries", spec := "topologyBoundaries", unfollowed := true, recurses := true, plainKeys := false, apart := false, narrowed := true }
def TopologyBoundariesUptoSaid : Prop := topologyBoundariesUptoRow.holds Try.pinned (OpenSpec.upto topologyBoundariesSpec)

/-- 'substationlaw06.TopologyMoving', WHERE WHAT IT READS IS OF BULK AT MOST 1048576: true; the input reads as it did. -/
def topologyMovingUptoRow : OpenClaim := { program := "ytcbddoopmkhlfaa", sum := "1b95fede2d59f0143c64575f4a85092f5214365eb568f231ac667346accee65a", func := "substation/substationlaw06.TopologyMoving", spec := "topologyMoving", unfollowed := true, recurses := true, plainKeys := false, apart := false, narrowed := true }
def TopologyMovingUptoSaid : Prop := topologyMovingUptoRow.holds Try.pinned (OpenSpec.upto topologyMovingSpec)

/-- 'substationlaw06.TopologyZones', WHERE WHAT IT READS IS OF BULK AT MOST 1048576: true; the input reads as it did. -/
def topologyZonesUptoRow : OpenClaim := { program := "ytcbddoopmkhlfaa", sum := "1b95fede2d59f0143c64575f4a85092f5214365eb568f231ac667346accee65a", func := "substation/substationlaw06.TopologyZones", spec := "topologyZones", unfollowed := true, recurses := true, plainKeys := false, apart := false, narrowed := true }
def TopologyZonesUptoSaid : Prop := topologyZonesUptoRow.holds Try.pinned (OpenSpec.upto topologyZonesSpec)

/-- 'substationlaw06.TopologyNeighbours', WHERE WHAT IT READS IS OF BULK AT MOST 1048576: true; the input reads as it did. -/
def topologyNeighboursUptoRow : OpenClaim := { program := "ytcbddoopmkhlfaa", sum := "1b95fede2d59f0143c64575f4a85092f5214365eb568f231ac667346accee65a", func := "substation/substationlaw06.TopologyNeighbours", spec := "topologyNeighbours", unfollowed := true, recurses := true, plainKeys := false, apart := false, narrowed := true }
def TopologyNeighboursUptoSaid : Prop := topologyNeighboursUptoRow.holds Try.pinned (OpenSpec.upto topologyNeighboursSpec)

/-- 'substationlaw06.TopologyOpens', WHERE WHAT IT READS IS OF BULK AT MOST 1048576: true; the input reads as it did. -/
def topologyOpensUptoRow : OpenClaim := { program := "ytcbddoopmkhlfaa", sum := "1b95fede2d59f0143c64575f4a85092f5214365eb568f231ac667346accee65a", func := "substation/substationlaw06.TopologyOpens", spec := "topologyOpens", unfollowed := true, recurses := true, plainKeys := false, apart := false, narrowed := true }
def TopologyOpensUptoSaid : Prop := topologyOpensUptoRow.holds Try.pinned (OpenSpec.upto topologyOpensSpec)

end Rows
end Go.Proofs.Ytcbddoopmkhlfaa
