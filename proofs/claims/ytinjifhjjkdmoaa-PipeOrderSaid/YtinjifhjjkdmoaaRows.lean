/-
  No cell of these rows narrows 'for every input' (looked for: loops, veiled, ifaces, maps, wideKeys, modest, calm, conditions, laid).
  DERIVED. THE GIVEN ROWS OF THIS SEAT. 11 by the template 'for every input the law returns true; each argument reads behind the call as it read before'; 0 by the template 'total and deterministic' (their statements: YtinjifhjjkdmoaaTotals.lean).
  GIVEN WITH THE SEED: the statements are not yours to turn. If you find one false, say at which input.
  Laid BY PROGRAM, IN A SANDBOX (cutbox-rows.mjs): the forced cells as the released guide's own fill.sh prints them over the translation cddc571b303a2e1e… (all of the seat's roots in one cut). By AI agents, Wed Nov 11 2026. No macro, syntax, notation, axiom, sorry.
-/
import Derived.Test.YtinjifhjjkdmoaaChecked
import GoSem.Claim
import GoSem.ClaimJoined
import GoSem.ClaimMapViews
import Derived.JoinedTies
import Derived.KernelRfl
namespace Go.Proofs.Ytinjifhjjkdmoaa
/- THE CELL 'sum', in the pinned program and in every row, IS THE sha256 OF THE DUMP (.gsa) THAT YtinjifhjjkdmoaaProg.lean LOADS. Nothing in Lean hashes anything: it is a label: what it is worth is what the hold of that sum in a sandbox is worth. -/
noncomputable def Try.pinned : Pinned := { name := "ytinjifhjjkdmoaa", sum := "cddc571b303a2e1efc384d890ea6e67125b466330734aae4cdf41c8c729e0cad", checked := Try.checked }
namespace Rows
def none {H : Type} : Left H := { results := [], args := [] }

/-- 'signalboxlaw41.SliceRuns': WHATEVER THE INPUT: true; the input reads as it did. -/
def sliceRunsSpec : ChangeSpec := { name := "sliceRuns", fn := fun _ => fun
  | [d1, d2] => { results := [.lit (.bool true)], args := [d1, d2] }
  | _ => none }
def sliceRunsRow : OpenClaim := { program := "ytinjifhjjkdmoaa", sum := "cddc571b303a2e1efc384d890ea6e67125b466330734aae4cdf41c8c729e0cad", func := "signalbox/signalboxlaw41.SliceRuns", spec := "sliceRuns", unfollowed := true, recurses := true, apart := false }
def SliceRunsSaid : Prop := sliceRunsRow.holds Try.pinned (OpenSpec.ofChange sliceRunsSpec)

/-- ITS FALSE NEIGHBOUR: 'it returns false'. Refute it at one input. -/
def sliceRunsWrong : ChangeSpec := { name := "sliceRuns", fn := fun _ => fun
  | [d1, d2] => { results := [.lit (.bool false)], args := [d1, d2] }
  | _ => none }
def SliceRunsWrongFalsely : Prop := sliceRunsRow.holds Try.pinned (OpenSpec.ofChange sliceRunsWrong)

/-- 'signalboxlaw41.SliceFair': WHATEVER THE INPUT: true; the input reads as it did. -/
def sliceFairSpec : ChangeSpec := { name := "sliceFair", fn := fun _ => fun
  | [d1, d2] => { results := [.lit (.bool true)], args := [d1, d2] }
  | _ => none }
def sliceFairRow : OpenClaim := { program := "ytinjifhjjkdmoaa", sum := "cddc571b303a2e1efc384d890ea6e67125b466330734aae4cdf41c8c729e0cad", func := "signalbox/signalboxlaw41.SliceFair", spec := "sliceFair", unfollowed := true, recurses := true, apart := false }
def SliceFairSaid : Prop := sliceFairRow.holds Try.pinned (OpenSpec.ofChange sliceFairSpec)

/-- ITS FALSE NEIGHBOUR: 'it returns false'. Refute it at one input. -/
def sliceFairWrong : ChangeSpec := { name := "sliceFair", fn := fun _ => fun
  | [d1, d2] => { results := [.lit (.bool false)], args := [d1, d2] }
  | _ => none }
def SliceFairWrongFalsely : Prop := sliceFairRow.holds Try.pinned (OpenSpec.ofChange sliceFairWrong)

/-- 'signalboxlaw04.DeltaParts': WHATEVER THE INPUT: true; the input reads as it did. -/
def deltaPartsSpec : ChangeSpec := { name := "deltaParts", fn := fun _ => fun
  | [d1, d2, d3] => { results := [.lit (.bool true)], args := [d1, d2, d3] }
  | _ => none }
def deltaPartsRow : OpenClaim := { program := "ytinjifhjjkdmoaa", sum := "cddc571b303a2e1efc384d890ea6e67125b466330734aae4cdf41c8c729e0cad", func := "signalbox/signalboxlaw04.DeltaParts", spec := "deltaParts", unfollowed := true, recurses := true, apart := false }
def DeltaPartsSaid : Prop := deltaPartsRow.holds Try.pinned (OpenSpec.ofChange deltaPartsSpec)

/-- ITS FALSE NEIGHBOUR: 'it returns false'. Refute it at one input. -/
def deltaPartsWrong : ChangeSpec := { name := "deltaParts", fn := fun _ => fun
  | [d1, d2, d3] => { results := [.lit (.bool false)], args := [d1, d2, d3] }
  | _ => none }
def DeltaPartsWrongFalsely : Prop := deltaPartsRow.holds Try.pinned (OpenSpec.ofChange deltaPartsWrong)

/-- 'signalboxlaw04.DeltaPlays': WHATEVER THE INPUT: true; the input reads as it did. -/
def deltaPlaysSpec : ChangeSpec := { name := "deltaPlays", fn := fun _ => fun
  | [d1, d2] => { results := [.lit (.bool true)], args := [d1, d2] }
  | _ => none }
def deltaPlaysRow : OpenClaim := { program := "ytinjifhjjkdmoaa", sum := "cddc571b303a2e1efc384d890ea6e67125b466330734aae4cdf41c8c729e0cad", func := "signalbox/signalboxlaw04.DeltaPlays", spec := "deltaPlays", unfollowed := true, recurses := true, apart := false }
def DeltaPlaysSaid : Prop := deltaPlaysRow.holds Try.pinned (OpenSpec.ofChange deltaPlaysSpec)

/-- ITS FALSE NEIGHBOUR: 'it returns false'. Refute it at one input. -/
def deltaPlaysWrong : ChangeSpec := { name := "deltaPlays", fn := fun _ => fun
  | [d1, d2] => { results := [.lit (.bool false)], args := [d1, d2] }
  | _ => none }
def DeltaPlaysWrongFalsely : Prop := deltaPlaysRow.holds Try.pinned (OpenSpec.ofChange deltaPlaysWrong)

/-- 'signalboxlaw37.PipeOrder': WHATEVER THE INPUT: true; the input reads as it did. -/
def pipeOrderSpec : ChangeSpec := { name := "pipeOrder", fn := fun _ => fun
  | [d1, d2, d3, d4] => { results := [.lit (.bool true)], args := [d1, d2, d3, d4] }
  | _ => none }
def pipeOrderRow : OpenClaim := { program := "ytinjifhjjkdmoaa", sum := "cddc571b303a2e1efc384d890ea6e67125b466330734aae4cdf41c8c729e0cad", func := "signalbox/signalboxlaw37.PipeOrder", spec := "pipeOrder", inPlace := ["internal/bytealg.IndexByte"], apart := false }
def PipeOrderSaid : Prop := pipeOrderRow.holds Try.pinned (OpenSpec.ofChange pipeOrderSpec)

/-- ITS FALSE NEIGHBOUR: 'it returns false'. Refute it at one input. -/
def pipeOrderWrong : ChangeSpec := { name := "pipeOrder", fn := fun _ => fun
  | [d1, d2, d3, d4] => { results := [.lit (.bool false)], args := [d1, d2, d3, d4] }
  | _ => none }
def PipeOrderWrongFalsely : Prop := pipeOrderRow.holds Try.pinned (OpenSpec.ofChange pipeOrderWrong)

/-- 'signalboxlaw40.InheritChain': WHATEVER THE INPUT: true; the input reads as it did. -/
def inheritChainSpec : ChangeSpec := { name := "inheritChain", fn := fun _ => fun
  | [d] => { results := [.lit (.bool true)], args := [d] }
  | _ => none }
def inheritChainRow : OpenClaim := { program := "ytinjifhjjkdmoaa", sum := "cddc571b303a2e1efc384d890ea6e67125b466330734aae4cdf41c8c729e0cad", func := "signalbox/signalboxlaw40.InheritChain", spec := "inheritChain", recurses := true, apart := false }
def InheritChainSaid : Prop := inheritChainRow.holds Try.pinned (OpenSpec.ofChange inheritChainSpec)

/-- ITS FALSE NEIGHBOUR: 'it returns false'. Refute it at one input. -/
def inheritChainWrong : ChangeSpec := { name := "inheritChain", fn := fun _ => fun
  | [d] => { results := [.lit (.bool false)], args := [d] }
  | _ => none }
def InheritChainWrongFalsely : Prop := inheritChainRow.holds Try.pinned (OpenSpec.ofChange inheritChainWrong)

/-- 'signalboxlaw53.RunsWrite': WHATEVER THE INPUT: true; the input reads as it did. -/
def runsWriteSpec : ChangeSpec := { name := "runsWrite", fn := fun _ => fun
  | [d1, d2] => { results := [.lit (.bool true)], args := [d1, d2] }
  | _ => none }
def runsWriteRow : OpenClaim := { program := "ytinjifhjjkdmoaa", sum := "cddc571b303a2e1efc384d890ea6e67125b466330734aae4cdf41c8c729e0cad", func := "signalbox/signalboxlaw53.RunsWrite", spec := "runsWrite", inPlace := ["internal/bytealg.MakeNoZero"], unfollowed := true, recurses := true, apart := false }
def RunsWriteSaid : Prop := runsWriteRow.holds Try.pinned (OpenSpec.ofChange runsWriteSpec)

/-- ITS FALSE NEIGHBOUR: 'it returns false'. Refute it at one input. -/
def runsWriteWrong : ChangeSpec := { name := "runsWrite", fn := fun _ => fun
  | [d1, d2] => { results := [.lit (.bool false)], args := [d1, d2] }
  | _ => none }
def RunsWriteWrongFalsely : Prop := runsWriteRow.holds Try.pinned (OpenSpec.ofChange runsWriteWrong)

/-- 'signalboxlaw53.RunsLong': WHATEVER THE INPUT: true; the input reads as it did. -/
def runsLongSpec : ChangeSpec := { name := "runsLong", fn := fun _ => fun
  | [d1, d2] => { results := [.lit (.bool true)], args := [d1, d2] }
  | _ => none }
def runsLongRow : OpenClaim := { program := "ytinjifhjjkdmoaa", sum := "cddc571b303a2e1efc384d890ea6e67125b466330734aae4cdf41c8c729e0cad", func := "signalbox/signalboxlaw53.RunsLong", spec := "runsLong", inPlace := ["internal/bytealg.MakeNoZero"], unfollowed := true, recurses := true, apart := false }
def RunsLongSaid : Prop := runsLongRow.holds Try.pinned (OpenSpec.ofChange runsLongSpec)

/-- ITS FALSE NEIGHBOUR: 'it returns false'. Refute it at one input. -/
def runsLongWrong : ChangeSpec := { name := "runsLong", fn := fun _ => fun
  | [d1, d2] => { results := [.lit (.bool false)], args := [d1, d2] }
  | _ => none }
def RunsLongWrongFalsely : Prop := runsLongRow.holds Try.pinned (OpenSpec.ofChange runsLongWrong)

/-- 'signalboxlaw53.RunsWorst': WHATEVER THE INPUT: true; the input reads as it did. -/
def runsWorstSpec : ChangeSpec := { name := "runsWorst", fn := fun _ => fun
  | [d] => { results := [.lit (.bool true)], args := [d] }
  | _ => none }
def runsWorstRow : OpenClaim := { program := "ytinjifhjjkdmoaa", sum := "cddc571b303a2e1efc384d890ea6e67125b466330734aae4cdf41c8c729e0cad", func := "signalbox/signalboxlaw53.RunsWorst", spec := "runsWorst", inPlace := ["internal/bytealg.MakeNoZero"], unfollowed := true, recurses := true, apart := false }
def RunsWorstSaid : Prop := runsWorstRow.holds Try.pinned (OpenSpec.ofChange runsWorstSpec)

/-- ITS FALSE NEIGHBOUR: 'it returns false'. Refute it at one input. -/
def runsWorstWrong : ChangeSpec := { name := "runsWorst", fn := fun _ => fun
  | [d] => { results := [.lit (.bool false)], args := [d] }
  | _ => none }
def RunsWorstWrongFalsely : Prop := runsWorstRow.holds Try.pinned (OpenSpec.ofChange runsWorstWrong)

/-- 'signalboxlaw47.TimersPlay': WHATEVER THE INPUT: true; the input reads as it did. -/
def timersPlaySpec : ChangeSpec := { name := "timersPlay", fn := fun _ => fun
  | [d] => { results := [.lit (.bool true)], args := [d] }
  | _ => none }
def timersPlayRow : OpenClaim := { program := "ytinjifhjjkdmoaa", sum := "cddc571b303a2e1efc384d890ea6e67125b466330734aae4cdf41c8c729e0cad", func := "signalbox/signalboxlaw47.TimersPlay", spec := "timersPlay", unfollowed := true, recurses := true, apart := false }
def TimersPlaySaid : Prop := timersPlayRow.holds Try.pinned (OpenSpec.ofChange timersPlaySpec)

/-- ITS FALSE NEIGHBOUR: 'it returns false'. Refute it at one input. -/
def timersPlayWrong : ChangeSpec := { name := "timersPlay", fn := fun _ => fun
  | [d] => { results := [.lit (.bool false)], args := [d] }
  | _ => none }
def TimersPlayWrongFalsely : Prop := timersPlayRow.holds Try.pinned (OpenSpec.ofChange timersPlayWrong)

/-- 'signalboxlaw47.TimersParts': WHATEVER THE INPUT: true; the input reads as it did. -/
def timersPartsSpec : ChangeSpec := { name := "timersParts", fn := fun _ => fun
  | [d1, d2, d3] => { results := [.lit (.bool true)], args := [d1, d2, d3] }
  | _ => none }
def timersPartsRow : OpenClaim := { program := "ytinjifhjjkdmoaa", sum := "cddc571b303a2e1efc384d890ea6e67125b466330734aae4cdf41c8c729e0cad", func := "signalbox/signalboxlaw47.TimersParts", spec := "timersParts", unfollowed := true, recurses := true, apart := false }
def TimersPartsSaid : Prop := timersPartsRow.holds Try.pinned (OpenSpec.ofChange timersPartsSpec)

/-- ITS FALSE NEIGHBOUR: 'it returns false'. Refute it at one input. -/
def timersPartsWrong : ChangeSpec := { name := "timersParts", fn := fun _ => fun
  | [d1, d2, d3] => { results := [.lit (.bool false)], args := [d1, d2, d3] }
  | _ => none }
def TimersPartsWrongFalsely : Prop := timersPartsRow.holds Try.pinned (OpenSpec.ofChange timersPartsWrong)

/- THE SECOND FORM. 'bulk': how many values and letters a reading holds, each counted each time it is reached (what is shared counts as often as it is met; a slice's spare places count too). A statement '..UptoSaid' is the law's where the arguments, and the package variables that the reading takes, are together of bulk at most 1048576: NARROWER than '..Said'. Prove '..Said' where nothing that the law and all that it calls make is longer than what came in: it says more and counts as full. Else prove '..UptoSaid'. A law counts once. -/
mutual
def uptoBulk {H : Type} : DataW H → Nat
  | .lit (.string bytes) => bytes.length + 1
  | .lit _ => 1
  | .nil => 1
  | .ptr d => uptoBulk d + 1
  | .slice elems spare => uptoBulkAll elems + uptoBulkAll spare + 1
  | .agg parts => uptoBulkAll parts + 1
  | .iface _ d => uptoBulk d + 1
  | .map entries => uptoBulkEntries entries + 1
  | .held _ => 1
def uptoBulkAll {H : Type} : List (DataW H) → Nat
  | [] => 0
  | d :: r => uptoBulk d + uptoBulkAll r
def uptoBulkEntries {H : Type} : List (Lit × DataW H) → Nat
  | [] => 0
  | x :: r => uptoBulkEntry x + uptoBulkEntries r
def uptoBulkEntry {H : Type} : Lit × DataW H → Nat
  | (.string bytes, d) => bytes.length + uptoBulk d + 1
  | (_, d) => uptoBulk d + 1
 end
def uptoSmall : (H : Type) → List (DataW H) → Bool := fun _ ds => decide (uptoBulkAll ds ≤ 1048576)
def OpenSpec.upto (s : _root_.Go.ChangeSpec) : _root_.Go.OpenSpec := { _root_.Go.OpenSpec.ofChange s with cond := some uptoSmall }

/-- 'signalboxlaw41.SliceRuns', WHERE WHAT IT READS IS OF BULK AT MOST 1048576: true; the input reads as it did. -/
def sliceRunsUptoRow : OpenClaim := { program := "ytinjifhjjkdmoaa", sum := "cddc571b303a2e1efc384d890ea6e67125b466330734aae4cdf41c8c729e0cad", func := "signalbox/signalboxlaw41.SliceRuns", spec := "sliceRuns", unfollowed := true, recurses := true, apart := false, narrowed := true }
def SliceRunsUptoSaid : Prop := sliceRunsUptoRow.holds Try.pinned (OpenSpec.upto sliceRunsSpec)

/-- 'signalboxlaw41.SliceFair', WHERE WHAT IT READS IS OF BULK AT MOST 1048576: true; the input reads as it did. -/
def sliceFairUptoRow : OpenClaim := { program := "ytinjifhjjkdmoaa", sum := "cddc571b303a2e1efc384d890ea6e67125b466330734aae4cdf41c8c729e0cad", func := "signalbox/signalboxlaw41.SliceFair", spec := "sliceFair", unfollowed := true, recurses := true, apart := false, narrowed := true }
def SliceFairUptoSaid : Prop := sliceFairUptoRow.holds Try.pinned (OpenSpec.upto sliceFairSpec)

/-- 'signalboxlaw04.DeltaParts', WHERE WHAT IT READS IS OF BULK AT MOST 1048576: true; the input reads as it did. -/
def deltaPartsUptoRow : OpenClaim := { program := "ytinjifhjjkdmoaa", sum := "cddc571b303a2e1efc384d890ea6e67125b466330734aae4cdf41c8c729e0cad", func := "signalbox/signalboxlaw04.DeltaParts", spec := "deltaParts", unfollowed := true, recurses := true, apart := false, narrowed := true }
def DeltaPartsUptoSaid : Prop := deltaPartsUptoRow.holds Try.pinned (OpenSpec.upto deltaPartsSpec)

/-- 'signalboxlaw04.DeltaPlays', WHERE WHAT IT READS IS OF BULK AT MOST 1048576: true; the input reads as it did. -/
def deltaPlaysUptoRow : OpenClaim := { program := "ytinjifhjjkdmoaa", sum := "cddc571b303a2e1efc384d890ea6e67125b466330734aae4cdf41c8c729e0cad", func := "signalbox/signalboxlaw04.DeltaPlays", spec := "deltaPlays", unfollowed := true, recurses := true, apart := false, narrowed := true }
def DeltaPlaysUptoSaid : Prop := deltaPlaysUptoRow.holds Try.pinned (OpenSpec.upto deltaPlaysSpec)

/-- 'signalboxlaw37.PipeOrder', WHERE WHAT IT READS IS OF BULK AT MOST 1048576: true; the input reads as it did. -/
def pipeOrderUptoRow : OpenClaim := { program := "ytinjifhjjkdmoaa", sum := "cddc571b303a2e1efc384d890ea6e67125b466330734aae4cdf41c8c729e0cad", func := "signalbox/signalboxlaw37.PipeOrder", spec := "pipeOrder", inPlace := ["internal/bytealg.IndexByte"], apart := false, narrowed := true }
def PipeOrderUptoSaid : Prop := pipeOrderUptoRow.holds Try.pinned (OpenSpec.upto pipeOrderSpec)

/-- 'signalboxlaw40.InheritChain', WHERE WHAT IT READS IS OF BULK AT MOST 1048576: true; the input reads as it did. -/
def inheritChainUptoRow : OpenClaim := { program := "ytinjifhjjkdmoaa", sum := "cddc571b303a2e1efc384d890ea6e67125b466330734aae4cdf41c8c729e0cad", func := "signalbox/signalboxlaw40.InheritChain", spec := "inheritChain", recurses := true, apart := false, narrowed := true }
def InheritChainUptoSaid : Prop := inheritChainUptoRow.holds Try.pinned (OpenSpec.upto inheritChainSpec)

/-- 'signalboxlaw53.RunsWrite', WHERE WHAT IT READS IS OF BULK AT MOST 1048576: true; the input reads as it did. -/
def runsWriteUptoRow : OpenClaim := { program := "ytinjifhjjkdmoaa", sum := "cddc571b303a2e1efc384d890ea6e67125b466330734aae4cdf41c8c729e0cad", func := "signalbox/signalboxlaw53.RunsWrite", spec := "runsWrite", inPlace := ["internal/bytealg.MakeNoZero"], unfollowed := true, recurses := true, apart := false, narrowed := true }
def RunsWriteUptoSaid : Prop := runsWriteUptoRow.holds Try.pinned (OpenSpec.upto runsWriteSpec)

/-- 'signalboxlaw53.RunsLong', WHERE WHAT IT READS IS OF BULK AT MOST 1048576: true; the input reads as it did. -/
def runsLongUptoRow : OpenClaim := { program := "ytinjifhjjkdmoaa", sum := "cddc571b303a2e1efc384d890ea6e67125b466330734aae4cdf41c8c729e0cad", func := "signalbox/signalboxlaw53.RunsLong", spec := "runsLong", inPlace := ["internal/bytealg.MakeNoZero"], unfollowed := true, recurses := true, apart := false, narrowed := true }
def RunsLongUptoSaid : Prop := runsLongUptoRow.holds Try.pinned (OpenSpec.upto runsLongSpec)

/-- 'signalboxlaw53.RunsWorst', WHERE WHAT IT READS IS OF BULK AT MOST 1048576: true; the input reads as it did. -/
def runsWorstUptoRow : OpenClaim := { program := "ytinjifhjjkdmoaa", sum := "cddc571b303a2e1efc384d890ea6e67125b466330734aae4cdf41c8c729e0cad", func := "signalbox/signalboxlaw53.RunsWorst", spec := "runsWorst", inPlace := ["internal/bytealg.MakeNoZero"], unfollowed := true, recurses := true, apart := false, narrowed := true }
def RunsWorstUptoSaid : Prop := runsWorstUptoRow.holds Try.pinned (OpenSpec.upto runsWorstSpec)

/-- 'signalboxlaw47.TimersPlay', WHERE WHAT IT READS IS OF BULK AT MOST 1048576: true; the input reads as it did. -/
def timersPlayUptoRow : OpenClaim := { program := "ytinjifhjjkdmoaa", sum := "cddc571b303a2e1efc384d890ea6e67125b466330734aae4cdf41c8c729e0cad", func := "signalbox/signalboxlaw47.TimersPlay", spec := "timersPlay", unfollowed := true, recurses := true, apart := false, narrowed := true }
def TimersPlayUptoSaid : Prop := timersPlayUptoRow.holds Try.pinned (OpenSpec.upto timersPlaySpec)

/-- 'signalboxlaw47.TimersParts', WHERE WHAT IT READS IS OF BULK AT MOST 1048576: true; the input reads as it did. -/
def timersPartsUptoRow : OpenClaim := { program := "ytinjifhjjkdmoaa", sum := "cddc571b303a2e1efc384d890ea6e67125b466330734aae4cdf41c8c729e0cad", func := "signalbox/signalboxlaw47.TimersParts", spec := "timersParts", unfollowed := true, recurses := true, apart := false, narrowed := true }
def TimersPartsUptoSaid : Prop := timersPartsUptoRow.holds Try.pinned (OpenSpec.upto timersPartsSpec)

end Rows
end Go.Proofs.Ytinjifhjjkdmoaa
