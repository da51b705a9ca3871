/-
  No cell of these rows narrows 'for every input' (looked for: loops, veiled, ifaces, maps, wideKeys, modest, calm, conditions, laid).
  DERIVED. THE GIVEN ROWS OF THIS SEAT. 12 by the template 'for every input the law returns true; each argument reads behind the call as it read before'; 0 by the template 'total and deterministic' (their statements: YtkoenpliddhhoaaTotals.lean).
  GIVEN WITH THE SEED: the statements are not yours to turn. If you find one false, say at which input.
  Laid BY PROGRAM, IN A SANDBOX (cutbox-rows.mjs): the forced cells as the released guide's own fill.sh prints them over the translation 5b56297031d7b431… (all of the seat's roots in one cut). By AI agents, Wed Nov 11 2026. No macro, syntax, notation, axiom, sorry.
-/
import Derived.Test.YtkoenpliddhhoaaChecked
import GoSem.Claim
import GoSem.ClaimJoined
import GoSem.ClaimMapViews
import Derived.JoinedTies
import Derived.KernelRfl
namespace Go.Proofs.Ytkoenpliddhhoaa
/- THE CELL 'sum', in the pinned program and in every row, IS THE sha256 OF THE DUMP (.gsa) THAT YtkoenpliddhhoaaProg.lean LOADS. Nothing in Lean hashes anything: it is a label: what it is worth is what the hold of that sum in a sandbox is worth. -/
noncomputable def Try.pinned : Pinned := { name := "ytkoenpliddhhoaa", sum := "5b56297031d7b4314e94192120fdec722713bd9e193873eaa4469601b3564005", checked := Try.checked }
namespace Rows
def none {H : Type} : Left H := { results := [], args := [] }

/-- 'signalboxlaw19.MonitorFlags': WHATEVER THE INPUT: true; the input reads as it did. -/
def monitorFlagsSpec : ChangeSpec := { name := "monitorFlags", fn := fun _ => fun
  | [d1, d2, d3] => { results := [.lit (.bool true)], args := [d1, d2, d3] }
  | _ => none }
def monitorFlagsRow : OpenClaim := { program := "ytkoenpliddhhoaa", sum := "5b56297031d7b4314e94192120fdec722713bd9e193873eaa4469601b3564005", func := "signalbox/signalboxlaw19.MonitorFlags", spec := "monitorFlags", apart := false }
def MonitorFlagsSaid : Prop := monitorFlagsRow.holds Try.pinned (OpenSpec.ofChange monitorFlagsSpec)

/-- ITS FALSE NEIGHBOUR: 'it returns false'. Refute it at one input. -/
def monitorFlagsWrong : ChangeSpec := { name := "monitorFlags", fn := fun _ => fun
  | [d1, d2, d3] => { results := [.lit (.bool false)], args := [d1, d2, d3] }
  | _ => none }
def MonitorFlagsWrongFalsely : Prop := monitorFlagsRow.holds Try.pinned (OpenSpec.ofChange monitorFlagsWrong)

/-- 'signalboxlaw19.MonitorLate': WHATEVER THE INPUT: true; the input reads as it did. -/
def monitorLateSpec : ChangeSpec := { name := "monitorLate", fn := fun _ => fun
  | [d1, d2, d3] => { results := [.lit (.bool true)], args := [d1, d2, d3] }
  | _ => none }
def monitorLateRow : OpenClaim := { program := "ytkoenpliddhhoaa", sum := "5b56297031d7b4314e94192120fdec722713bd9e193873eaa4469601b3564005", func := "signalbox/signalboxlaw19.MonitorLate", spec := "monitorLate", apart := false }
def MonitorLateSaid : Prop := monitorLateRow.holds Try.pinned (OpenSpec.ofChange monitorLateSpec)

/-- ITS FALSE NEIGHBOUR: 'it returns false'. Refute it at one input. -/
def monitorLateWrong : ChangeSpec := { name := "monitorLate", fn := fun _ => fun
  | [d1, d2, d3] => { results := [.lit (.bool false)], args := [d1, d2, d3] }
  | _ => none }
def MonitorLateWrongFalsely : Prop := monitorLateRow.holds Try.pinned (OpenSpec.ofChange monitorLateWrong)

/-- 'signalboxlaw08.CacheAges': WHATEVER THE INPUT: true; the input reads as it did. -/
def cacheAgesSpec : ChangeSpec := { name := "cacheAges", fn := fun _ => fun
  | [d1, d2, d3, d4, d5] => { results := [.lit (.bool true)], args := [d1, d2, d3, d4, d5] }
  | _ => none }
def cacheAgesRow : OpenClaim := { program := "ytkoenpliddhhoaa", sum := "5b56297031d7b4314e94192120fdec722713bd9e193873eaa4469601b3564005", func := "signalbox/signalboxlaw08.CacheAges", spec := "cacheAges", apart := false }
def CacheAgesSaid : Prop := cacheAgesRow.holds Try.pinned (OpenSpec.ofChange cacheAgesSpec)

/-- ITS FALSE NEIGHBOUR: 'it returns false'. Refute it at one input. -/
def cacheAgesWrong : ChangeSpec := { name := "cacheAges", fn := fun _ => fun
  | [d1, d2, d3, d4, d5] => { results := [.lit (.bool false)], args := [d1, d2, d3, d4, d5] }
  | _ => none }
def CacheAgesWrongFalsely : Prop := cacheAgesRow.holds Try.pinned (OpenSpec.ofChange cacheAgesWrong)

/-- 'signalboxlaw08.CacheTwin': WHATEVER THE INPUT: true; the input reads as it did. -/
def cacheTwinSpec : ChangeSpec := { name := "cacheTwin", fn := fun _ => fun
  | [d1, d2, d3, d4] => { results := [.lit (.bool true)], args := [d1, d2, d3, d4] }
  | _ => none }
def cacheTwinRow : OpenClaim := { program := "ytkoenpliddhhoaa", sum := "5b56297031d7b4314e94192120fdec722713bd9e193873eaa4469601b3564005", func := "signalbox/signalboxlaw08.CacheTwin", spec := "cacheTwin", apart := false }
def CacheTwinSaid : Prop := cacheTwinRow.holds Try.pinned (OpenSpec.ofChange cacheTwinSpec)

/-- ITS FALSE NEIGHBOUR: 'it returns false'. Refute it at one input. -/
def cacheTwinWrong : ChangeSpec := { name := "cacheTwin", fn := fun _ => fun
  | [d1, d2, d3, d4] => { results := [.lit (.bool false)], args := [d1, d2, d3, d4] }
  | _ => none }
def CacheTwinWrongFalsely : Prop := cacheTwinRow.holds Try.pinned (OpenSpec.ofChange cacheTwinWrong)

/-- 'signalboxlaw15.FramesPlay': WHATEVER THE INPUT: true; the input reads as it did. -/
def framesPlaySpec : ChangeSpec := { name := "framesPlay", fn := fun _ => fun
  | [d] => { results := [.lit (.bool true)], args := [d] }
  | _ => none }
def framesPlayRow : OpenClaim := { program := "ytkoenpliddhhoaa", sum := "5b56297031d7b4314e94192120fdec722713bd9e193873eaa4469601b3564005", func := "signalbox/signalboxlaw15.FramesPlay", spec := "framesPlay", apart := false }
def FramesPlaySaid : Prop := framesPlayRow.holds Try.pinned (OpenSpec.ofChange framesPlaySpec)

/-- ITS FALSE NEIGHBOUR: 'it returns false'. Refute it at one input. -/
def framesPlayWrong : ChangeSpec := { name := "framesPlay", fn := fun _ => fun
  | [d] => { results := [.lit (.bool false)], args := [d] }
  | _ => none }
def FramesPlayWrongFalsely : Prop := framesPlayRow.holds Try.pinned (OpenSpec.ofChange framesPlayWrong)

/-- 'signalboxlaw15.FramesNest': WHATEVER THE INPUT: true; the input reads as it did. -/
def framesNestSpec : ChangeSpec := { name := "framesNest", fn := fun _ => fun
  | [d] => { results := [.lit (.bool true)], args := [d] }
  | _ => none }
def framesNestRow : OpenClaim := { program := "ytkoenpliddhhoaa", sum := "5b56297031d7b4314e94192120fdec722713bd9e193873eaa4469601b3564005", func := "signalbox/signalboxlaw15.FramesNest", spec := "framesNest", apart := false }
def FramesNestSaid : Prop := framesNestRow.holds Try.pinned (OpenSpec.ofChange framesNestSpec)

/-- ITS FALSE NEIGHBOUR: 'it returns false'. Refute it at one input. -/
def framesNestWrong : ChangeSpec := { name := "framesNest", fn := fun _ => fun
  | [d] => { results := [.lit (.bool false)], args := [d] }
  | _ => none }
def FramesNestWrongFalsely : Prop := framesNestRow.holds Try.pinned (OpenSpec.ofChange framesNestWrong)

/-- 'signalboxlaw01.SatLeast': WHATEVER THE INPUT: true; the input reads as it did. -/
def satLeastSpec : ChangeSpec := { name := "satLeast", fn := fun _ => fun
  | [d1, d2, d3, d4] => { results := [.lit (.bool true)], args := [d1, d2, d3, d4] }
  | _ => none }
def satLeastRow : OpenClaim := { program := "ytkoenpliddhhoaa", sum := "5b56297031d7b4314e94192120fdec722713bd9e193873eaa4469601b3564005", func := "signalbox/signalboxlaw01.SatLeast", spec := "satLeast", inPlace := ["math/bits.Add64"], unfollowed := true, recurses := true, apart := false }
def SatLeastSaid : Prop := satLeastRow.holds Try.pinned (OpenSpec.ofChange satLeastSpec)

/-- ITS FALSE NEIGHBOUR: 'it returns false'. Refute it at one input. -/
def satLeastWrong : ChangeSpec := { name := "satLeast", fn := fun _ => fun
  | [d1, d2, d3, d4] => { results := [.lit (.bool false)], args := [d1, d2, d3, d4] }
  | _ => none }
def SatLeastWrongFalsely : Prop := satLeastRow.holds Try.pinned (OpenSpec.ofChange satLeastWrong)

/-- 'signalboxlaw01.SatSums': WHATEVER THE INPUT: true; the input reads as it did. -/
def satSumsSpec : ChangeSpec := { name := "satSums", fn := fun _ => fun
  | [d] => { results := [.lit (.bool true)], args := [d] }
  | _ => none }
def satSumsRow : OpenClaim := { program := "ytkoenpliddhhoaa", sum := "5b56297031d7b4314e94192120fdec722713bd9e193873eaa4469601b3564005", func := "signalbox/signalboxlaw01.SatSums", spec := "satSums", inPlace := ["math/bits.Add64"], unfollowed := true, recurses := true, apart := false }
def SatSumsSaid : Prop := satSumsRow.holds Try.pinned (OpenSpec.ofChange satSumsSpec)

/-- ITS FALSE NEIGHBOUR: 'it returns false'. Refute it at one input. -/
def satSumsWrong : ChangeSpec := { name := "satSums", fn := fun _ => fun
  | [d] => { results := [.lit (.bool false)], args := [d] }
  | _ => none }
def SatSumsWrongFalsely : Prop := satSumsRow.holds Try.pinned (OpenSpec.ofChange satSumsWrong)

/-- 'signalboxlaw36.PoolApart': WHATEVER THE INPUT: true; the input reads as it did. -/
def poolApartSpec : ChangeSpec := { name := "poolApart", fn := fun _ => fun
  | [d1, d2] => { results := [.lit (.bool true)], args := [d1, d2] }
  | _ => none }
def poolApartRow : OpenClaim := { program := "ytkoenpliddhhoaa", sum := "5b56297031d7b4314e94192120fdec722713bd9e193873eaa4469601b3564005", func := "signalbox/signalboxlaw36.PoolApart", spec := "poolApart", apart := false }
def PoolApartSaid : Prop := poolApartRow.holds Try.pinned (OpenSpec.ofChange poolApartSpec)

/-- ITS FALSE NEIGHBOUR: 'it returns false'. Refute it at one input. -/
def poolApartWrong : ChangeSpec := { name := "poolApart", fn := fun _ => fun
  | [d1, d2] => { results := [.lit (.bool false)], args := [d1, d2] }
  | _ => none }
def PoolApartWrongFalsely : Prop := poolApartRow.holds Try.pinned (OpenSpec.ofChange poolApartWrong)

/-- 'signalboxlaw36.PoolPlays': WHATEVER THE INPUT: true; the input reads as it did. -/
def poolPlaysSpec : ChangeSpec := { name := "poolPlays", fn := fun _ => fun
  | [d1, d2, d3] => { results := [.lit (.bool true)], args := [d1, d2, d3] }
  | _ => none }
def poolPlaysRow : OpenClaim := { program := "ytkoenpliddhhoaa", sum := "5b56297031d7b4314e94192120fdec722713bd9e193873eaa4469601b3564005", func := "signalbox/signalboxlaw36.PoolPlays", spec := "poolPlays", apart := false }
def PoolPlaysSaid : Prop := poolPlaysRow.holds Try.pinned (OpenSpec.ofChange poolPlaysSpec)

/-- ITS FALSE NEIGHBOUR: 'it returns false'. Refute it at one input. -/
def poolPlaysWrong : ChangeSpec := { name := "poolPlays", fn := fun _ => fun
  | [d1, d2, d3] => { results := [.lit (.bool false)], args := [d1, d2, d3] }
  | _ => none }
def PoolPlaysWrongFalsely : Prop := poolPlaysRow.holds Try.pinned (OpenSpec.ofChange poolPlaysWrong)

/-- 'signalboxlaw41.SliceRuns': WHATEVER THE INPUT: true; the input reads as it did. -/
def sliceRunsSpec : ChangeSpec := { name := "sliceRuns", fn := fun _ => fun
  | [d1, d2] => { results := [.lit (.bool true)], args := [d1, d2] }
  | _ => none }
def sliceRunsRow : OpenClaim := { program := "ytkoenpliddhhoaa", sum := "5b56297031d7b4314e94192120fdec722713bd9e193873eaa4469601b3564005", func := "signalbox/signalboxlaw41.SliceRuns", spec := "sliceRuns", unfollowed := true, recurses := true, apart := false }
def SliceRunsSaid : Prop := sliceRunsRow.holds Try.pinned (OpenSpec.ofChange sliceRunsSpec)

/-- ITS FALSE NEIGHBOUR: 'it returns false'. Refute it at one input. -/
def sliceRunsWrong : ChangeSpec := { name := "sliceRuns", fn := fun _ => fun
  | [d1, d2] => { results := [.lit (.bool false)], args := [d1, d2] }
  | _ => none }
def SliceRunsWrongFalsely : Prop := sliceRunsRow.holds Try.pinned (OpenSpec.ofChange sliceRunsWrong)

/-- 'signalboxlaw41.SliceFair': WHATEVER THE INPUT: true; the input reads as it did. -/
def sliceFairSpec : ChangeSpec := { name := "sliceFair", fn := fun _ => fun
  | [d1, d2] => { results := [.lit (.bool true)], args := [d1, d2] }
  | _ => none }
def sliceFairRow : OpenClaim := { program := "ytkoenpliddhhoaa", sum := "5b56297031d7b4314e94192120fdec722713bd9e193873eaa4469601b3564005", func := "signalbox/signalboxlaw41.SliceFair", spec := "sliceFair", unfollowed := true, recurses := true, apart := false }
def SliceFairSaid : Prop := sliceFairRow.holds Try.pinned (OpenSpec.ofChange sliceFairSpec)

/-- ITS FALSE NEIGHBOUR: 'it returns false'. Refute it at one input. -/
def sliceFairWrong : ChangeSpec := { name := "sliceFair", fn := fun _ => fun
  | [d1, d2] => { results := [.lit (.bool false)], args := [d1, d2] }
  | _ => none }
def SliceFairWrongFalsely : Prop := sliceFairRow.holds Try.pinned (OpenSpec.ofChange sliceFairWrong)

/- THE SECOND FORM. 'bulk': how many values and letters a reading holds, each counted each time it is reached (what is shared counts as often as it is met; a slice's spare places count too). A statement '..UptoSaid' is the law's where the arguments, and the package variables that the reading takes, are together of bulk at most 1048576: NARROWER than '..Said'. Prove '..Said' where nothing that the law and all that it calls make is longer than what came in: it says more and counts as full. Else prove '..UptoSaid'. A law counts once. -/
mutual
def uptoBulk {H : Type} : DataW H → Nat
  | .lit (.string bytes) => bytes.length + 1
  | .lit _ => 1
  | .nil => 1
  | .ptr d => uptoBulk d + 1
  | .slice elems spare => uptoBulkAll elems + uptoBulkAll spare + 1
  | .agg parts => uptoBulkAll parts + 1
  | .iface _ d => uptoBulk d + 1
  | .map entries => uptoBulkEntries entries + 1
  | .held _ => 1
def uptoBulkAll {H : Type} : List (DataW H) → Nat
  | [] => 0
  | d :: r => uptoBulk d + uptoBulkAll r
def uptoBulkEntries {H : Type} : List (Lit × DataW H) → Nat
  | [] => 0
  | x :: r => uptoBulkEntry x + uptoBulkEntries r
def uptoBulkEntry {H : Type} : Lit × DataW H → Nat
  | (.string bytes, d) => bytes.length + uptoBulk d + 1
  | (_, d) => uptoBulk d + 1
 end
def uptoSmall : (H : Type) → List (DataW H) → Bool := fun _ ds => decide (uptoBulkAll ds ≤ 1048576)
def OpenSpec.upto (s : _root_.Go.ChangeSpec) : _root_.Go.OpenSpec := { _root_.Go.OpenSpec.ofChange s with cond := some uptoSmall }

/-- 'signalboxlaw19.MonitorFlags', WHERE WHAT IT READS IS OF BULK AT MOST 1048576: true; the input reads as it did. -/
def monitorFlagsUptoRow : OpenClaim := { program := "ytkoenpliddhhoaa", sum := "5b56297031d7b4314e94192120fdec722713bd9e193873eaa4469601b3564005", func := "signalbox/signalboxlaw19.MonitorFlags", spec := "monitorFlags", apart := false, narrowed := true }
def MonitorFlagsUptoSaid : Prop := monitorFlagsUptoRow.holds Try.pinned (OpenSpec.upto monitorFlagsSpec)

/-- 'signalboxlaw19.MonitorLate', WHERE WHAT IT READS IS OF BULK AT MOST 1048576: true; the input reads as it did. -/
def monitorLateUptoRow : OpenClaim := { program := "ytkoenpliddhhoaa", sum := "5b56297031d7b4314e94192120fdec722713bd9e193873eaa4469601b3564005", func := "signalbox/signalboxlaw19.MonitorLate", spec := "monitorLate", apart := false, narrowed := true }
def MonitorLateUptoSaid : Prop := monitorLateUptoRow.holds Try.pinned (OpenSpec.upto monitorLateSpec)

/-- 'signalboxlaw08.CacheAges', WHERE WHAT IT READS IS OF BULK AT MOST 1048576: true; the input reads as it did. -/
def cacheAgesUptoRow : OpenClaim := { program := "ytkoenpliddhhoaa", sum := "5b56297031d7b4314e94192120fdec722713bd9e193873eaa4469601b3564005", func := "signalbox/signalboxlaw08.CacheAges", spec := "cacheAges", apart := false, narrowed := true }
def CacheAgesUptoSaid : Prop := cacheAgesUptoRow.holds Try.pinned (OpenSpec.upto cacheAgesSpec)

/-- 'signalboxlaw08.CacheTwin', WHERE WHAT IT READS IS OF BULK AT MOST 1048576: true; the input reads as it did. -/
def cacheTwinUptoRow : OpenClaim := { program := "ytkoenpliddhhoaa", sum := "5b56297031d7b4314e94192120fdec722713bd9e193873eaa4469601b3564005", func := "signalbox/signalboxlaw08.CacheTwin", spec := "cacheTwin", apart := false, narrowed := true }
def CacheTwinUptoSaid : Prop := cacheTwinUptoRow.holds Try.pinned (OpenSpec.upto cacheTwinSpec)

/-- 'signalboxlaw15.FramesPlay', WHERE WHAT IT READS IS OF BULK AT MOST 1048576: true; the input reads as it did. -/
def framesPlayUptoRow : OpenClaim := { program := "ytkoenpliddhhoaa", sum := "5b56297031d7b4314e94192120fdec722713bd9e193873eaa4469601b3564005", func := "signalbox/signalboxlaw15.FramesPlay", spec := "framesPlay", apart := false, narrowed := true }
def FramesPlayUptoSaid : Prop := framesPlayUptoRow.holds Try.pinned (OpenSpec.upto framesPlaySpec)

/-- 'signalboxlaw15.FramesNest', WHERE WHAT IT READS IS OF BULK AT MOST 1048576: true; the input reads as it did. -/
def framesNestUptoRow : OpenClaim := { program := "ytkoenpliddhhoaa", sum := "5b56297031d7b4314e94192120fdec722713bd9e193873eaa4469601b3564005", func := "signalbox/signalboxlaw15.FramesNest", spec := "framesNest", apart := false, narrowed := true }
def FramesNestUptoSaid : Prop := framesNestUptoRow.holds Try.pinned (OpenSpec.upto framesNestSpec)

/-- 'signalboxlaw01.SatLeast', WHERE WHAT IT READS IS OF BULK AT MOST 1048576: true; the input reads as it did. -/
def satLeastUptoRow : OpenClaim := { program := "ytkoenpliddhhoaa", sum := "5b56297031d7b4314e94192120fdec722713bd9e193873eaa4469601b3564005", func := "signalbox/signalboxlaw01.SatLeast", spec := "satLeast", inPlace := ["math/bits.Add64"], unfollowed := true, recurses := true, apart := false, narrowed := true }
def SatLeastUptoSaid : Prop := satLeastUptoRow.holds Try.pinned (OpenSpec.upto satLeastSpec)

/-- 'signalboxlaw01.SatSums', WHERE WHAT IT READS IS OF BULK AT MOST 1048576: true; the input reads as it did. -/
def satSumsUptoRow : OpenClaim := { program := "ytkoenpliddhhoaa", sum := "5b56297031d7b4314e94192120fdec722713bd9e193873eaa4469601b3564005", func := "signalbox/signalboxlaw01.SatSums", spec := "satSums", inPlace := ["math/bits.Add64"], unfollowed := true, recurses := true, apart := false, narrowed := true }
def SatSumsUptoSaid : Prop := satSumsUptoRow.holds Try.pinned (OpenSpec.upto satSumsSpec)

/-- 'signalboxlaw36.PoolApart', WHERE WHAT IT READS IS OF BULK AT MOST 1048576: true; the input reads as it did. -/
def poolApartUptoRow : OpenClaim := { program := "ytkoenpliddhhoaa", sum := "5b56297031d7b4314e94192120fdec722713bd9e193873eaa4469601b3564005", func := "signalbox/signalboxlaw36.PoolApart", spec := "poolApart", apart := false, narrowed := true }
def PoolApartUptoSaid : Prop := poolApartUptoRow.holds Try.pinned (OpenSpec.upto poolApartSpec)

/-- 'signalboxlaw36.PoolPlays', WHERE WHAT IT READS IS OF BULK AT MOST 1048576: true; the input reads as it did. -/
def poolPlaysUptoRow : OpenClaim := { program := "ytkoenpliddhhoaa", sum := "5b56297031d7b4314e94192120fdec722713bd9e193873eaa4469601b3564005", func := "signalbox/signalboxlaw36.PoolPlays", spec := "poolPlays", apart := false, narrowed := true }
def PoolPlaysUptoSaid : Prop := poolPlaysUptoRow.holds Try.pinned (OpenSpec.upto poolPlaysSpec)

/-- 'signalboxlaw41.SliceRuns', WHERE WHAT IT READS IS OF BULK AT MOST 1048576: true; the input reads as it did. -/
def sliceRunsUptoRow : OpenClaim := { program := "ytkoenpliddhhoaa", sum := "5b56297031d7b4314e94192120fdec722713bd9e193873eaa4469601b3564005", func := "signalbox/signalboxlaw41.SliceRuns", spec := "sliceRuns", unfollowed := true, recurses := true, apart := false, narrowed := true }
def SliceRunsUptoSaid : Prop := sliceRunsUptoRow.holds Try.pinned (OpenSpec.upto sliceRunsSpec)

/-- 'signalboxlaw41.SliceFair', WHERE WHAT IT READS IS OF BULK AT MOST 1048576: true; the input reads as it did. -/
def sliceFairUptoRow : OpenClaim := { program := "ytkoenpliddhhoaa", sum := "5b56297031d7b4314e94192120fdec722713bd9e193873eaa4469601b3564005", func := "signalbox/signalboxlaw41.SliceFair", spec := "sliceFair", unfollowed := true, recurses := true, apart := false, narrowed := true }
def SliceFairUptoSaid : Prop := sliceFairUptoRow.holds Try.pinned (OpenSpec.upto sliceFairSpec)

end Rows
end Go.Proofs.Ytkoenpliddhhoaa
