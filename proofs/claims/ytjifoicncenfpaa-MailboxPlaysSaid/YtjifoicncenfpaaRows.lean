/-
  No cell of these rows narrows 'for every input' (looked for: loops, veiled, ifaces, maps, wideKeys, modest, calm, conditions, laid).
  DERIVED. THE GIVEN ROWS OF THIS SEAT. 12 by the template 'for every input the law returns true; each argument reads behind the call as it read before'; 0 by the template 'total and deterministic' (their statements: YtjifoicncenfpaaTotals.lean).
  GIVEN WITH THE SEED: the statements are not yours to turn. If you find one false, say at which input.
  Laid BY PROGRAM, IN A SANDBOX (cutbox-rows.mjs): the forced cells as the released guide's own fill.sh prints them over the translation 1556a4115ae94c18… (all of the seat's roots in one cut). By AI agents, Wed Nov 11 2026. No macro, syntax, notation, axiom, sorry.
-/
import Derived.Test.YtjifoicncenfpaaChecked
import GoSem.Claim
import GoSem.ClaimJoined
import GoSem.ClaimMapViews
import Derived.JoinedTies
import Derived.KernelRfl
namespace Go.Proofs.Ytjifoicncenfpaa
/- THE CELL 'sum', in the pinned program and in every row, IS THE sha256 OF THE DUMP (.gsa) THAT YtjifoicncenfpaaProg.lean LOADS. Nothing in Lean hashes anything: it is a label: what it is worth is what the hold of that sum in a sandbox is worth. -/
noncomputable def Try.pinned : Pinned := { name := "ytjifoicncenfpaa", sum := "1556a4115ae94c18d8f1c66f99a1d123823bb6e6636500bc9b9bdf651fcef844", checked := Try.checked }
namespace Rows
def none {H : Type} : Left H := { results := [], args := [] }

/-- 'signalboxlaw10.MailboxOrder': WHATEVER THE INPUT: true; the input reads as it did. -/
def mailboxOrderSpec : ChangeSpec := { name := "mailboxOrder", fn := fun _ => fun
  | [d1, d2] => { results := [.lit (.bool true)], args := [d1, d2] }
  | _ => none }
def mailboxOrderRow : OpenClaim := { program := "ytjifoicncenfpaa", sum := "1556a4115ae94c18d8f1c66f99a1d123823bb6e6636500bc9b9bdf651fcef844", func := "signalbox/signalboxlaw10.MailboxOrder", spec := "mailboxOrder", apart := false }
def MailboxOrderSaid : Prop := mailboxOrderRow.holds Try.pinned (OpenSpec.ofChange mailboxOrderSpec)

/-- ITS FALSE NEIGHBOUR: 'it returns false'. Refute it at one input. -/
def mailboxOrderWrong : ChangeSpec := { name := "mailboxOrder", fn := fun _ => fun
  | [d1, d2] => { results := [.lit (.bool false)], args := [d1, d2] }
  | _ => none }
def MailboxOrderWrongFalsely : Prop := mailboxOrderRow.holds Try.pinned (OpenSpec.ofChange mailboxOrderWrong)

/-- 'signalboxlaw10.MailboxPlays': WHATEVER THE INPUT: true; the input reads as it did. -/
def mailboxPlaysSpec : ChangeSpec := { name := "mailboxPlays", fn := fun _ => fun
  | [d1, d2] => { results := [.lit (.bool true)], args := [d1, d2] }
  | _ => none }
def mailboxPlaysRow : OpenClaim := { program := "ytjifoicncenfpaa", sum := "1556a4115ae94c18d8f1c66f99a1d123823bb6e6636500bc9b9bdf651fcef844", func := "signalbox/signalboxlaw10.MailboxPlays", spec := "mailboxPlays", apart := false }
def MailboxPlaysSaid : Prop := mailboxPlaysRow.holds Try.pinned (OpenSpec.ofChange mailboxPlaysSpec)

/-- ITS FALSE NEIGHBOUR: 'it returns false'. Refute it at one input. -/
def mailboxPlaysWrong : ChangeSpec := { name := "mailboxPlays", fn := fun _ => fun
  | [d1, d2] => { results := [.lit (.bool false)], args := [d1, d2] }
  | _ => none }
def MailboxPlaysWrongFalsely : Prop := mailboxPlaysRow.holds Try.pinned (OpenSpec.ofChange mailboxPlaysWrong)

/-- 'signalboxlaw17.JobParts': WHATEVER THE INPUT: true; the input reads as it did. -/
def jobPartsSpec : ChangeSpec := { name := "jobParts", fn := fun _ => fun
  | [d1, d2, d3, d4, d5] => { results := [.lit (.bool true)], args := [d1, d2, d3, d4, d5] }
  | _ => none }
def jobPartsRow : OpenClaim := { program := "ytjifoicncenfpaa", sum := "1556a4115ae94c18d8f1c66f99a1d123823bb6e6636500bc9b9bdf651fcef844", func := "signalbox/signalboxlaw17.JobParts", spec := "jobParts", apart := false }
def JobPartsSaid : Prop := jobPartsRow.holds Try.pinned (OpenSpec.ofChange jobPartsSpec)

/-- ITS FALSE NEIGHBOUR: 'it returns false'. Refute it at one input. -/
def jobPartsWrong : ChangeSpec := { name := "jobParts", fn := fun _ => fun
  | [d1, d2, d3, d4, d5] => { results := [.lit (.bool false)], args := [d1, d2, d3, d4, d5] }
  | _ => none }
def JobPartsWrongFalsely : Prop := jobPartsRow.holds Try.pinned (OpenSpec.ofChange jobPartsWrong)

/-- 'signalboxlaw17.JobRuns': WHATEVER THE INPUT: true; the input reads as it did. -/
def jobRunsSpec : ChangeSpec := { name := "jobRuns", fn := fun _ => fun
  | [d1, d2] => { results := [.lit (.bool true)], args := [d1, d2] }
  | _ => none }
def jobRunsRow : OpenClaim := { program := "ytjifoicncenfpaa", sum := "1556a4115ae94c18d8f1c66f99a1d123823bb6e6636500bc9b9bdf651fcef844", func := "signalbox/signalboxlaw17.JobRuns", spec := "jobRuns", apart := false }
def JobRunsSaid : Prop := jobRunsRow.holds Try.pinned (OpenSpec.ofChange jobRunsSpec)

/-- ITS FALSE NEIGHBOUR: 'it returns false'. Refute it at one input. -/
def jobRunsWrong : ChangeSpec := { name := "jobRuns", fn := fun _ => fun
  | [d1, d2] => { results := [.lit (.bool false)], args := [d1, d2] }
  | _ => none }
def JobRunsWrongFalsely : Prop := jobRunsRow.holds Try.pinned (OpenSpec.ofChange jobRunsWrong)

/-- 'signalboxlaw17.JobNone': WHATEVER THE INPUT: true; the input reads as it did. -/
def jobNoneSpec : ChangeSpec := { name := "jobNone", fn := fun _ => fun
  | [d] => { results := [.lit (.bool true)], args := [d] }
  | _ => none }
def jobNoneRow : OpenClaim := { program := "ytjifoicncenfpaa", sum := "1556a4115ae94c18d8f1c66f99a1d123823bb6e6636500bc9b9bdf651fcef844", func := "signalbox/signalboxlaw17.JobNone", spec := "jobNone", apart := false }
def JobNoneSaid : Prop := jobNoneRow.holds Try.pinned (OpenSpec.ofChange jobNoneSpec)

/-- ITS FALSE NEIGHBOUR: 'it returns false'. Refute it at one input. -/
def jobNoneWrong : ChangeSpec := { name := "jobNone", fn := fun _ => fun
  | [d] => { results := [.lit (.bool false)], args := [d] }
  | _ => none }
def JobNoneWrongFalsely : Prop := jobNoneRow.holds Try.pinned (OpenSpec.ofChange jobNoneWrong)

/-- 'signalboxlaw37.PipeOrder': WHATEVER THE INPUT: true; the input reads as it did. -/
def pipeOrderSpec : ChangeSpec := { name := "pipeOrder", fn := fun _ => fun
  | [d1, d2, d3, d4] => { results := [.lit (.bool true)], args := [d1, d2, d3, d4] }
  | _ => none }
def pipeOrderRow : OpenClaim := { program := "ytjifoicncenfpaa", sum := "1556a4115ae94c18d8f1c66f99a1d123823bb6e6636500bc9b9bdf651fcef844", func := "signalbox/signalboxlaw37.PipeOrder", spec := "pipeOrder", inPlace := ["internal/bytealg.IndexByte"], apart := false }
def PipeOrderSaid : Prop := pipeOrderRow.holds Try.pinned (OpenSpec.ofChange pipeOrderSpec)

/-- ITS FALSE NEIGHBOUR: 'it returns false'. Refute it at one input. -/
def pipeOrderWrong : ChangeSpec := { name := "pipeOrder", fn := fun _ => fun
  | [d1, d2, d3, d4] => { results := [.lit (.bool false)], args := [d1, d2, d3, d4] }
  | _ => none }
def PipeOrderWrongFalsely : Prop := pipeOrderRow.holds Try.pinned (OpenSpec.ofChange pipeOrderWrong)

/-- 'signalboxlaw04.DeltaParts': WHATEVER THE INPUT: true; the input reads as it did. -/
def deltaPartsSpec : ChangeSpec := { name := "deltaParts", fn := fun _ => fun
  | [d1, d2, d3] => { results := [.lit (.bool true)], args := [d1, d2, d3] }
  | _ => none }
def deltaPartsRow : OpenClaim := { program := "ytjifoicncenfpaa", sum := "1556a4115ae94c18d8f1c66f99a1d123823bb6e6636500bc9b9bdf651fcef844", func := "signalbox/signalboxlaw04.DeltaParts", spec := "deltaParts", unfollowed := true, recurses := true, apart := false }
def DeltaPartsSaid : Prop := deltaPartsRow.holds Try.pinned (OpenSpec.ofChange deltaPartsSpec)

/-- ITS FALSE NEIGHBOUR: 'it returns false'. Refute it at one input. -/
def deltaPartsWrong : ChangeSpec := { name := "deltaParts", fn := fun _ => fun
  | [d1, d2, d3] => { results := [.lit (.bool false)], args := [d1, d2, d3] }
  | _ => none }
def DeltaPartsWrongFalsely : Prop := deltaPartsRow.holds Try.pinned (OpenSpec.ofChange deltaPartsWrong)

/-- 'signalboxlaw04.DeltaPlays': WHATEVER THE INPUT: true; the input reads as it did. -/
def deltaPlaysSpec : ChangeSpec := { name := "deltaPlays", fn := fun _ => fun
  | [d1, d2] => { results := [.lit (.bool true)], args := [d1, d2] }
  | _ => none }
def deltaPlaysRow : OpenClaim := { program := "ytjifoicncenfpaa", sum := "1556a4115ae94c18d8f1c66f99a1d123823bb6e6636500bc9b9bdf651fcef844", func := "signalbox/signalboxlaw04.DeltaPlays", spec := "deltaPlays", unfollowed := true, recurses := true, apart := false }
def DeltaPlaysSaid : Prop := deltaPlaysRow.holds Try.pinned (OpenSpec.ofChange deltaPlaysSpec)

/-- ITS FALSE NEIGHBOUR: 'it returns false'. Refute it at one input. -/
def deltaPlaysWrong : ChangeSpec := { name := "deltaPlays", fn := fun _ => fun
  | [d1, d2] => { results := [.lit (.bool false)], args := [d1, d2] }
  | _ => none }
def DeltaPlaysWrongFalsely : Prop := deltaPlaysRow.holds Try.pinned (OpenSpec.ofChange deltaPlaysWrong)

/-- 'signalboxlaw25.BusyWindows': WHATEVER THE INPUT: true; the input reads as it did. -/
def busyWindowsSpec : ChangeSpec := { name := "busyWindows", fn := fun _ => fun
  | [d1, d2, d3, d4] => { results := [.lit (.bool true)], args := [d1, d2, d3, d4] }
  | _ => none }
def busyWindowsRow : OpenClaim := { program := "ytjifoicncenfpaa", sum := "1556a4115ae94c18d8f1c66f99a1d123823bb6e6636500bc9b9bdf651fcef844", func := "signalbox/signalboxlaw25.BusyWindows", spec := "busyWindows", inPlace := ["math/bits.Add64"], unfollowed := true, recurses := true, apart := false }
def BusyWindowsSaid : Prop := busyWindowsRow.holds Try.pinned (OpenSpec.ofChange busyWindowsSpec)

/-- ITS FALSE NEIGHBOUR: 'it returns false'. Refute it at one input. -/
def busyWindowsWrong : ChangeSpec := { name := "busyWindows", fn := fun _ => fun
  | [d1, d2, d3, d4] => { results := [.lit (.bool false)], args := [d1, d2, d3, d4] }
  | _ => none }
def BusyWindowsWrongFalsely : Prop := busyWindowsRow.holds Try.pinned (OpenSpec.ofChange busyWindowsWrong)

/-- 'signalboxlaw25.BusySlacks': WHATEVER THE INPUT: true; the input reads as it did. -/
def busySlacksSpec : ChangeSpec := { name := "busySlacks", fn := fun _ => fun
  | [d1, d2] => { results := [.lit (.bool true)], args := [d1, d2] }
  | _ => none }
def busySlacksRow : OpenClaim := { program := "ytjifoicncenfpaa", sum := "1556a4115ae94c18d8f1c66f99a1d123823bb6e6636500bc9b9bdf651fcef844", func := "signalbox/signalboxlaw25.BusySlacks", spec := "busySlacks", inPlace := ["math/bits.Add64"], unfollowed := true, recurses := true, apart := false }
def BusySlacksSaid : Prop := busySlacksRow.holds Try.pinned (OpenSpec.ofChange busySlacksSpec)

/-- ITS FALSE NEIGHBOUR: 'it returns false'. Refute it at one input. -/
def busySlacksWrong : ChangeSpec := { name := "busySlacks", fn := fun _ => fun
  | [d1, d2] => { results := [.lit (.bool false)], args := [d1, d2] }
  | _ => none }
def BusySlacksWrongFalsely : Prop := busySlacksRow.holds Try.pinned (OpenSpec.ofChange busySlacksWrong)

/-- 'signalboxlaw25.BusyRises': WHATEVER THE INPUT: true; the input reads as it did. -/
def busyRisesSpec : ChangeSpec := { name := "busyRises", fn := fun _ => fun
  | [d1, d2, d3, d4] => { results := [.lit (.bool true)], args := [d1, d2, d3, d4] }
  | _ => none }
def busyRisesRow : OpenClaim := { program := "ytjifoicncenfpaa", sum := "1556a4115ae94c18d8f1c66f99a1d123823bb6e6636500bc9b9bdf651fcef844", func := "signalbox/signalboxlaw25.BusyRises", spec := "busyRises", inPlace := ["math/bits.Add64"], unfollowed := true, recurses := true, apart := false }
def BusyRisesSaid : Prop := busyRisesRow.holds Try.pinned (OpenSpec.ofChange busyRisesSpec)

/-- ITS FALSE NEIGHBOUR: 'it returns false'. Refute it at one input. -/
def busyRisesWrong : ChangeSpec := { name := "busyRises", fn := fun _ => fun
  | [d1, d2, d3, d4] => { results := [.lit (.bool false)], args := [d1, d2, d3, d4] }
  | _ => none }
def BusyRisesWrongFalsely : Prop := busyRisesRow.holds Try.pinned (OpenSpec.ofChange busyRisesWrong)

/-- 'signalboxlaw25.BusyWorks': WHATEVER THE INPUT: true; the input reads as it did. -/
def busyWorksSpec : ChangeSpec := { name := "busyWorks", fn := fun _ => fun
  | [d1, d2, d3] => { results := [.lit (.bool true)], args := [d1, d2, d3] }
  | _ => none }
def busyWorksRow : OpenClaim := { program := "ytjifoicncenfpaa", sum := "1556a4115ae94c18d8f1c66f99a1d123823bb6e6636500bc9b9bdf651fcef844", func := "signalbox/signalboxlaw25.BusyWorks", spec := "busyWorks", inPlace := ["math/bits.Add64"], unfollowed := true, recurses := true, apart := false }
def BusyWorksSaid : Prop := busyWorksRow.holds Try.pinned (OpenSpec.ofChange busyWorksSpec)

/-- ITS FALSE NEIGHBOUR: 'it returns false'. Refute it at one input. -/
def busyWorksWrong : ChangeSpec := { name := "busyWorks", fn := fun _ => fun
  | [d1, d2, d3] => { results := [.lit (.bool false)], args := [d1, d2, d3] }
  | _ => none }
def BusyWorksWrongFalsely : Prop := busyWorksRow.holds Try.pinned (OpenSpec.ofChange busyWorksWrong)

/- THE SECOND FORM. 'bulk': how many values and letters a reading holds, each counted each time it is reached (what is shared counts as often as it is met; a slice's spare places count too). A statement '..UptoSaid' is the law's where the arguments, and the package variables that the reading takes, are together of bulk at most 1048576: NARROWER than '..Said'. Prove '..Said' where nothing that the law and all that it calls make is longer than what came in: it says more and counts as full. Else prove '..UptoSaid'. A law counts once. -/
mutual
def uptoBulk {H : Type} : DataW H → Nat
  | .lit (.string bytes) => bytes.length + 1
  | .lit _ => 1
  | .nil => 1
  | .ptr d => uptoBulk d + 1
  | .slice elems spare => uptoBulkAll elems + uptoBulkAll spare + 1
  | .agg parts => uptoBulkAll parts + 1
  | .iface _ d => uptoBulk d + 1
  | .map entries => uptoBulkEntries entries + 1
  | .held _ => 1
def uptoBulkAll {H : Type} : List (DataW H) → Nat
  | [] => 0
  | d :: r => uptoBulk d + uptoBulkAll r
def uptoBulkEntries {H : Type} : List (Lit × DataW H) → Nat
  | [] => 0
  | x :: r => uptoBulkEntry x + uptoBulkEntries r
def uptoBulkEntry {H : Type} : Lit × DataW H → Nat
  | (.string bytes, d) => bytes.length + uptoBulk d + 1
  | (_, d) => uptoBulk d + 1
 end
def uptoSmall : (H : Type) → List (DataW H) → Bool := fun _ ds => decide (uptoBulkAll ds ≤ 1048576)
def OpenSpec.upto (s : _root_.Go.ChangeSpec) : _root_.Go.OpenSpec := { _root_.Go.OpenSpec.ofChange s with cond := some uptoSmall }

/-- 'signalboxlaw10.MailboxOrder', WHERE WHAT IT READS IS OF BULK AT MOST 1048576: true; the input reads as it did. -/
def mailboxOrderUptoRow : OpenClaim := { program := "ytjifoicncenfpaa", sum := "1556a4115ae94c18d8f1c66f99a1d123823bb6e6636500bc9b9bdf651fcef844", func := "signalbox/signalboxlaw10.MailboxOrder", spec := "mailboxOrder", apart := false, narrowed := true }
def MailboxOrderUptoSaid : Prop := mailboxOrderUptoRow.holds Try.pinned (OpenSpec.upto mailboxOrderSpec)

/-- 'signalboxlaw10.MailboxPlays', WHERE WHAT IT READS IS OF BULK AT MOST 1048576: true; the input reads as it did. -/
def mailboxPlaysUptoRow : OpenClaim := { program := "ytjifoicncenfpaa", sum := "1556a4115ae94c18d8f1c66f99a1d123823bb6e6636500bc9b9bdf651fcef844", func := "signalbox/signalboxlaw10.MailboxPlays", spec := "mailboxPlays", apart := false, narrowed := true }
def MailboxPlaysUptoSaid : Prop := mailboxPlaysUptoRow.holds Try.pinned (OpenSpec.upto mailboxPlaysSpec)

/-- 'signalboxlaw17.JobParts', WHERE WHAT IT READS IS OF BULK AT MOST 1048576: true; the input reads as it did. -/
def jobPartsUptoRow : OpenClaim := { program := "ytjifoicncenfpaa", sum := "1556a4115ae94c18d8f1c66f99a1d123823bb6e6636500bc9b9bdf651fcef844", func := "signalbox/signalboxlaw17.JobParts", spec := "jobParts", apart := false, narrowed := true }
def JobPartsUptoSaid : Prop := jobPartsUptoRow.holds Try.pinned (OpenSpec.upto jobPartsSpec)

/-- 'signalboxlaw17.JobRuns', WHERE WHAT IT READS IS OF BULK AT MOST 1048576: true; the input reads as it did. -/
def jobRunsUptoRow : OpenClaim := { program := "ytjifoicncenfpaa", sum := "1556a4115ae94c18d8f1c66f99a1d123823bb6e6636500bc9b9bdf651fcef844", func := "signalbox/signalboxlaw17.JobRuns", spec := "jobRuns", apart := false, narrowed := true }
def JobRunsUptoSaid : Prop := jobRunsUptoRow.holds Try.pinned (OpenSpec.upto jobRunsSpec)

/-- 'signalboxlaw17.JobNone', WHERE WHAT IT READS IS OF BULK AT MOST 1048576: true; the input reads as it did. -/
def jobNoneUptoRow : OpenClaim := { program := "ytjifoicncenfpaa", sum := "1556a4115ae94c18d8f1c66f99a1d123823bb6e6636500bc9b9bdf651fcef844", func := "signalbox/signalboxlaw17.JobNone", spec := "jobNone", apart := false, narrowed := true }
def JobNoneUptoSaid : Prop := jobNoneUptoRow.holds Try.pinned (OpenSpec.upto jobNoneSpec)

/-- 'signalboxlaw37.PipeOrder', WHERE WHAT IT READS IS OF BULK AT MOST 1048576: true; the input reads as it did. -/
def pipeOrderUptoRow : OpenClaim := { program := "ytjifoicncenfpaa", sum := "1556a4115ae94c18d8f1c66f99a1d123823bb6e6636500bc9b9bdf651fcef844", func := "signalbox/signalboxlaw37.PipeOrder", spec := "pipeOrder", inPlace := ["internal/bytealg.IndexByte"], apart := false, narrowed := true }
def PipeOrderUptoSaid : Prop := pipeOrderUptoRow.holds Try.pinned (OpenSpec.upto pipeOrderSpec)

/-- 'signalboxlaw04.DeltaParts', WHERE WHAT IT READS IS OF BULK AT MOST 1048576: true; the input reads as it did. -/
def deltaPartsUptoRow : OpenClaim := { program := "ytjifoicncenfpaa", sum := "1556a4115ae94c18d8f1c66f99a1d123823bb6e6636500bc9b9bdf651fcef844", func := "signalbox/signalboxlaw04.DeltaParts", spec := "deltaParts", unfollowed := true, recurses := true, apart := false, narrowed := true }
def DeltaPartsUptoSaid : Prop := deltaPartsUptoRow.holds Try.pinned (OpenSpec.upto deltaPartsSpec)

/-- 'signalboxlaw04.DeltaPlays', WHERE WHAT IT READS IS OF BULK AT MOST 1048576: true; the input reads as it did. -/
def deltaPlaysUptoRow : OpenClaim := { program := "ytjifoicncenfpaa", sum := "1556a4115ae94c18d8f1c66f99a1d123823bb6e6636500bc9b9bdf651fcef844", func := "signalbox/signalboxlaw04.DeltaPlays", spec := "deltaPlays", unfollowed := true, recurses := true, apart := false, narrowed := true }
def DeltaPlaysUptoSaid : Prop := deltaPlaysUptoRow.holds Try.pinned (OpenSpec.upto deltaPlaysSpec)

/-- 'signalboxlaw25.BusyWindows', WHERE WHAT IT READS IS OF BULK AT MOST 1048576: true; the input reads as it did. -/
def busyWindowsUptoRow : OpenClaim := { program := "ytjifoicncenfpaa", sum := "1556a4115ae94c18d8f1c66f99a1d123823bb6e6636500bc9b9bdf651fcef844", func := "signalbox/signalboxlaw25.BusyWindows", spec := "busyWindows", inPlace := ["math/bits.Add64"], unfollowed := true, recurses := true, apart := false, narrowed := true }
def BusyWindowsUptoSaid : Prop := busyWindowsUptoRow.holds Try.pinned (OpenSpec.upto busyWindowsSpec)

/-- 'signalboxlaw25.BusySlacks', WHERE WHAT IT READS IS OF BULK AT MOST 1048576: true; the input reads as it did. -/
def busySlacksUptoRow : OpenClaim := { program := "ytjifoicncenfpaa", sum := "1556a4115ae94c18d8f1c66f99a1d123823bb6e6636500bc9b9bdf651fcef844", func := "signalbox/signalboxlaw25.BusySlacks", spec := "busySlacks", inPlace := ["math/bits.Add64"], unfollowed := true, recurses := true, apart := false, narrowed := true }
def BusySlacksUptoSaid : Prop := busySlacksUptoRow.holds Try.pinned (OpenSpec.upto busySlacksSpec)

/-- 'signalboxlaw25.BusyRises', WHERE WHAT IT READS IS OF BULK AT MOST 1048576: true; the input reads as it did. -/
def busyRisesUptoRow : OpenClaim := { program := "ytjifoicncenfpaa", sum := "1556a4115ae94c18d8f1c66f99a1d123823bb6e6636500bc9b9bdf651fcef844", func := "signalbox/signalboxlaw25.BusyRises", spec := "busyRises", inPlace := ["math/bits.Add64"], unfollowed := true, recurses := true, apart := false, narrowed := true }
def BusyRisesUptoSaid : Prop := busyRisesUptoRow.holds Try.pinned (OpenSpec.upto busyRisesSpec)

/-- 'signalboxlaw25.BusyWorks', WHERE WHAT IT READS IS OF BULK AT MOST 1048576: true; the input reads as it did. -/
def busyWorksUptoRow : OpenClaim := { program := "ytjifoicncenfpaa", sum := "1556a4115ae94c18d8f1c66f99a1d123823bb6e6636500bc9b9bdf651fcef844", func := "signalbox/signalboxlaw25.BusyWorks", spec := "busyWorks", inPlace := ["math/bits.Add64"], unfollowed := true, recurses := true, apart := false, narrowed := true }
def BusyWorksUptoSaid : Prop := busyWorksUptoRow.holds Try.pinned (OpenSpec.upto busyWorksSpec)

end Rows
end Go.Proofs.Ytjifoicncenfpaa
