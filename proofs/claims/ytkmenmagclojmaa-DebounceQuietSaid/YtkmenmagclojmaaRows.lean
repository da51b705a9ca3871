/-
  No cell of these rows narrows 'for every input' (looked for: loops, veiled, ifaces, maps, wideKeys, modest, calm, conditions, laid).
  DERIVED. THE GIVEN ROWS OF THIS SEAT. 12 by the template 'for every input the law returns true; each argument reads behind the call as it read before'; 0 by the template 'total and deterministic' (their statements: YtkmenmagclojmaaTotals.lean).
  GIVEN WITH THE SEED: the statements are not yours to turn. If you find one false, say at which input.
  Laid BY PROGRAM, IN A SANDBOX (cutbox-rows.mjs): the forced cells as the released guide's own fill.sh prints them over the translation 051c1442d89c1756… (all of the seat's roots in one cut). By AI agents, Wed Nov 11 2026. No macro, syntax, notation, axiom, sorry.
-/
import Derived.Test.YtkmenmagclojmaaChecked
import GoSem.Claim
import GoSem.ClaimJoined
import GoSem.ClaimMapViews
import Derived.JoinedTies
import Derived.KernelRfl
namespace Go.Proofs.Ytkmenmagclojmaa
/- THE CELL 'sum', in the pinned program and in every row, IS THE sha256 OF THE DUMP (.gsa) THAT YtkmenmagclojmaaProg.lean LOADS. Nothing in Lean hashes anything: it is a label: what it is worth is what the hold of that sum in a sandbox is worth. -/
noncomputable def Try.pinned : Pinned := { name := "ytkmenmagclojmaa", sum := "051c1442d89c1756aacd058f04793a9a98b14e44dc91d5d850eefec9f598a09c", checked := Try.checked }
namespace Rows
def none {H : Type} : Left H := { results := [], args := [] }

/-- 'signalboxlaw12.CountPlays': WHATEVER THE INPUT: true; the input reads as it did. -/
def countPlaysSpec : ChangeSpec := { name := "countPlays", fn := fun _ => fun
  | [d1, d2, d3] => { results := [.lit (.bool true)], args := [d1, d2, d3] }
  | _ => none }
def countPlaysRow : OpenClaim := { program := "ytkmenmagclojmaa", sum := "051c1442d89c1756aacd058f04793a9a98b14e44dc91d5d850eefec9f598a09c", func := "signalbox/signalboxlaw12.CountPlays", spec := "countPlays", apart := false }
def CountPlaysSaid : Prop := countPlaysRow.holds Try.pinned (OpenSpec.ofChange countPlaysSpec)

/-- ITS FALSE NEIGHBOUR: 'it returns false'. Refute it at one input. -/
def countPlaysWrong : ChangeSpec := { name := "countPlays", fn := fun _ => fun
  | [d1, d2, d3] => { results := [.lit (.bool false)], args := [d1, d2, d3] }
  | _ => none }
def CountPlaysWrongFalsely : Prop := countPlaysRow.holds Try.pinned (OpenSpec.ofChange countPlaysWrong)

/-- 'signalboxlaw12.CountBalance': WHATEVER THE INPUT: true; the input reads as it did. -/
def countBalanceSpec : ChangeSpec := { name := "countBalance", fn := fun _ => fun
  | [d1, d2] => { results := [.lit (.bool true)], args := [d1, d2] }
  | _ => none }
def countBalanceRow : OpenClaim := { program := "ytkmenmagclojmaa", sum := "051c1442d89c1756aacd058f04793a9a98b14e44dc91d5d850eefec9f598a09c", func := "signalbox/signalboxlaw12.CountBalance", spec := "countBalance", apart := false }
def CountBalanceSaid : Prop := countBalanceRow.holds Try.pinned (OpenSpec.ofChange countBalanceSpec)

/-- ITS FALSE NEIGHBOUR: 'it returns false'. Refute it at one input. -/
def countBalanceWrong : ChangeSpec := { name := "countBalance", fn := fun _ => fun
  | [d1, d2] => { results := [.lit (.bool false)], args := [d1, d2] }
  | _ => none }
def CountBalanceWrongFalsely : Prop := countBalanceRow.holds Try.pinned (OpenSpec.ofChange countBalanceWrong)

/-- 'signalboxlaw11.FlagsPlay': WHATEVER THE INPUT: true; the input reads as it did. -/
def flagsPlaySpec : ChangeSpec := { name := "flagsPlay", fn := fun _ => fun
  | [d1, d2] => { results := [.lit (.bool true)], args := [d1, d2] }
  | _ => none }
def flagsPlayRow : OpenClaim := { program := "ytkmenmagclojmaa", sum := "051c1442d89c1756aacd058f04793a9a98b14e44dc91d5d850eefec9f598a09c", func := "signalbox/signalboxlaw11.FlagsPlay", spec := "flagsPlay", unfollowed := true, recurses := true, apart := false }
def FlagsPlaySaid : Prop := flagsPlayRow.holds Try.pinned (OpenSpec.ofChange flagsPlaySpec)

/-- ITS FALSE NEIGHBOUR: 'it returns false'. Refute it at one input. -/
def flagsPlayWrong : ChangeSpec := { name := "flagsPlay", fn := fun _ => fun
  | [d1, d2] => { results := [.lit (.bool false)], args := [d1, d2] }
  | _ => none }
def FlagsPlayWrongFalsely : Prop := flagsPlayRow.holds Try.pinned (OpenSpec.ofChange flagsPlayWrong)

/-- 'signalboxlaw11.FlagsBack': WHATEVER THE INPUT: true; the input reads as it did. -/
def flagsBackSpec : ChangeSpec := { name := "flagsBack", fn := fun _ => fun
  | [d1, d2, d3] => { results := [.lit (.bool true)], args := [d1, d2, d3] }
  | _ => none }
def flagsBackRow : OpenClaim := { program := "ytkmenmagclojmaa", sum := "051c1442d89c1756aacd058f04793a9a98b14e44dc91d5d850eefec9f598a09c", func := "signalbox/signalboxlaw11.FlagsBack", spec := "flagsBack", unfollowed := true, recurses := true, apart := false }
def FlagsBackSaid : Prop := flagsBackRow.holds Try.pinned (OpenSpec.ofChange flagsBackSpec)

/-- ITS FALSE NEIGHBOUR: 'it returns false'. Refute it at one input. -/
def flagsBackWrong : ChangeSpec := { name := "flagsBack", fn := fun _ => fun
  | [d1, d2, d3] => { results := [.lit (.bool false)], args := [d1, d2, d3] }
  | _ => none }
def FlagsBackWrongFalsely : Prop := flagsBackRow.holds Try.pinned (OpenSpec.ofChange flagsBackWrong)

/-- 'signalboxlaw14.LinesOnce': WHATEVER THE INPUT: true; the input reads as it did. -/
def linesOnceSpec : ChangeSpec := { name := "linesOnce", fn := fun _ => fun
  | [d1, d2] => { results := [.lit (.bool true)], args := [d1, d2] }
  | _ => none }
def linesOnceRow : OpenClaim := { program := "ytkmenmagclojmaa", sum := "051c1442d89c1756aacd058f04793a9a98b14e44dc91d5d850eefec9f598a09c", func := "signalbox/signalboxlaw14.LinesOnce", spec := "linesOnce", apart := false }
def LinesOnceSaid : Prop := linesOnceRow.holds Try.pinned (OpenSpec.ofChange linesOnceSpec)

/-- ITS FALSE NEIGHBOUR: 'it returns false'. Refute it at one input. -/
def linesOnceWrong : ChangeSpec := { name := "linesOnce", fn := fun _ => fun
  | [d1, d2] => { results := [.lit (.bool false)], args := [d1, d2] }
  | _ => none }
def LinesOnceWrongFalsely : Prop := linesOnceRow.holds Try.pinned (OpenSpec.ofChange linesOnceWrong)

/-- 'signalboxlaw52.WatchdogKept': WHATEVER THE INPUT: true; the input reads as it did. -/
def watchdogKeptSpec : ChangeSpec := { name := "watchdogKept", fn := fun _ => fun
  | [d1, d2, d3, d4] => { results := [.lit (.bool true)], args := [d1, d2, d3, d4] }
  | _ => none }
def watchdogKeptRow : OpenClaim := { program := "ytkmenmagclojmaa", sum := "051c1442d89c1756aacd058f04793a9a98b14e44dc91d5d850eefec9f598a09c", func := "signalbox/signalboxlaw52.WatchdogKept", spec := "watchdogKept", apart := false }
def WatchdogKeptSaid : Prop := watchdogKeptRow.holds Try.pinned (OpenSpec.ofChange watchdogKeptSpec)

/-- ITS FALSE NEIGHBOUR: 'it returns false'. Refute it at one input. -/
def watchdogKeptWrong : ChangeSpec := { name := "watchdogKept", fn := fun _ => fun
  | [d1, d2, d3, d4] => { results := [.lit (.bool false)], args := [d1, d2, d3, d4] }
  | _ => none }
def WatchdogKeptWrongFalsely : Prop := watchdogKeptRow.holds Try.pinned (OpenSpec.ofChange watchdogKeptWrong)

/-- 'signalboxlaw14.LinesPlay': WHATEVER THE INPUT: true; the input reads as it did. -/
def linesPlaySpec : ChangeSpec := { name := "linesPlay", fn := fun _ => fun
  | [d1, d2] => { results := [.lit (.bool true)], args := [d1, d2] }
  | _ => none }
def linesPlayRow : OpenClaim := { program := "ytkmenmagclojmaa", sum := "051c1442d89c1756aacd058f04793a9a98b14e44dc91d5d850eefec9f598a09c", func := "signalbox/signalboxlaw14.LinesPlay", spec := "linesPlay", apart := false }
def LinesPlaySaid : Prop := linesPlayRow.holds Try.pinned (OpenSpec.ofChange linesPlaySpec)

/-- ITS FALSE NEIGHBOUR: 'it returns false'. Refute it at one input. -/
def linesPlayWrong : ChangeSpec := { name := "linesPlay", fn := fun _ => fun
  | [d1, d2] => { results := [.lit (.bool false)], args := [d1, d2] }
  | _ => none }
def LinesPlayWrongFalsely : Prop := linesPlayRow.holds Try.pinned (OpenSpec.ofChange linesPlayWrong)

/-- 'signalboxlaw03.RingTexts': WHATEVER THE INPUT: true; the input reads as it did. -/
def ringTextsSpec : ChangeSpec := { name := "ringTexts", fn := fun _ => fun
  | [d1, d2] => { results := [.lit (.bool true)], args := [d1, d2] }
  | _ => none }
def ringTextsRow : OpenClaim := { program := "ytkmenmagclojmaa", sum := "051c1442d89c1756aacd058f04793a9a98b14e44dc91d5d850eefec9f598a09c", func := "signalbox/signalboxlaw03.RingTexts", spec := "ringTexts", apart := false }
def RingTextsSaid : Prop := ringTextsRow.holds Try.pinned (OpenSpec.ofChange ringTextsSpec)

/-- ITS FALSE NEIGHBOUR: 'it returns false'. Refute it at one input. -/
def ringTextsWrong : ChangeSpec := { name := "ringTexts", fn := fun _ => fun
  | [d1, d2] => { results := [.lit (.bool false)], args := [d1, d2] }
  | _ => none }
def RingTextsWrongFalsely : Prop := ringTextsRow.holds Try.pinned (OpenSpec.ofChange ringTextsWrong)

/-- 'signalboxlaw54.DebounceHears': WHATEVER THE INPUT: true; the input reads as it did. -/
def debounceHearsSpec : ChangeSpec := { name := "debounceHears", fn := fun _ => fun
  | [d1, d2] => { results := [.lit (.bool true)], args := [d1, d2] }
  | _ => none }
def debounceHearsRow : OpenClaim := { program := "ytkmenmagclojmaa", sum := "051c1442d89c1756aacd058f04793a9a98b14e44dc91d5d850eefec9f598a09c", func := "signalbox/signalboxlaw54.DebounceHears", spec := "debounceHears", unfollowed := true, recurses := true, apart := false }
def DebounceHearsSaid : Prop := debounceHearsRow.holds Try.pinned (OpenSpec.ofChange debounceHearsSpec)

/-- ITS FALSE NEIGHBOUR: 'it returns false'. Refute it at one input. -/
def debounceHearsWrong : ChangeSpec := { name := "debounceHears", fn := fun _ => fun
  | [d1, d2] => { results := [.lit (.bool false)], args := [d1, d2] }
  | _ => none }
def DebounceHearsWrongFalsely : Prop := debounceHearsRow.holds Try.pinned (OpenSpec.ofChange debounceHearsWrong)

/-- 'signalboxlaw54.DebounceQuiet': WHATEVER THE INPUT: true; the input reads as it did. -/
def debounceQuietSpec : ChangeSpec := { name := "debounceQuiet", fn := fun _ => fun
  | [d1, d2] => { results := [.lit (.bool true)], args := [d1, d2] }
  | _ => none }
def debounceQuietRow : OpenClaim := { program := "ytkmenmagclojmaa", sum := "051c1442d89c1756aacd058f04793a9a98b14e44dc91d5d850eefec9f598a09c", func := "signalbox/signalboxlaw54.DebounceQuiet", spec := "debounceQuiet", unfollowed := true, recurses := true, apart := false }
def DebounceQuietSaid : Prop := debounceQuietRow.holds Try.pinned (OpenSpec.ofChange debounceQuietSpec)

/-- ITS FALSE NEIGHBOUR: 'it returns false'. Refute it at one input. -/
def debounceQuietWrong : ChangeSpec := { name := "debounceQuiet", fn := fun _ => fun
  | [d1, d2] => { results := [.lit (.bool false)], args := [d1, d2] }
  | _ => none }
def DebounceQuietWrongFalsely : Prop := debounceQuietRow.holds Try.pinned (OpenSpec.ofChange debounceQuietWrong)

/-- 'signalboxlaw52.WatchdogPlays': WHATEVER THE INPUT: true; the input reads as it did. -/
def watchdogPlaysSpec : ChangeSpec := { name := "watchdogPlays", fn := fun _ => fun
  | [d1, d2, d3] => { results := [.lit (.bool true)], args := [d1, d2, d3] }
  | _ => none }
def watchdogPlaysRow : OpenClaim := { program := "ytkmenmagclojmaa", sum := "051c1442d89c1756aacd058f04793a9a98b14e44dc91d5d850eefec9f598a09c", func := "signalbox/signalboxlaw52.WatchdogPlays", spec := "watchdogPlays", apart := false }
def WatchdogPlaysSaid : Prop := watchdogPlaysRow.holds Try.pinned (OpenSpec.ofChange watchdogPlaysSpec)

/-- ITS FALSE NEIGHBOUR: 'it returns false'. Refute it at one input. -/
def watchdogPlaysWrong : ChangeSpec := { name := "watchdogPlays", fn := fun _ => fun
  | [d1, d2, d3] => { results := [.lit (.bool false)], args := [d1, d2, d3] }
  | _ => none }
def WatchdogPlaysWrongFalsely : Prop := watchdogPlaysRow.holds Try.pinned (OpenSpec.ofChange watchdogPlaysWrong)

/-- 'signalboxlaw03.RingPlays': WHATEVER THE INPUT: true; the input reads as it did. -/
def ringPlaysSpec : ChangeSpec := { name := "ringPlays", fn := fun _ => fun
  | [d1, d2, d3] => { results := [.lit (.bool true)], args := [d1, d2, d3] }
  | _ => none }
def ringPlaysRow : OpenClaim := { program := "ytkmenmagclojmaa", sum := "051c1442d89c1756aacd058f04793a9a98b14e44dc91d5d850eefec9f598a09c", func := "signalbox/signalboxlaw03.RingPlays", spec := "ringPlays", apart := false }
def RingPlaysSaid : Prop := ringPlaysRow.holds Try.pinned (OpenSpec.ofChange ringPlaysSpec)

/-- ITS FALSE NEIGHBOUR: 'it returns false'. Refute it at one input. -/
def ringPlaysWrong : ChangeSpec := { name := "ringPlays", fn := fun _ => fun
  | [d1, d2, d3] => { results := [.lit (.bool false)], args := [d1, d2, d3] }
  | _ => none }
def RingPlaysWrongFalsely : Prop := ringPlaysRow.holds Try.pinned (OpenSpec.ofChange ringPlaysWrong)

/- THE SECOND FORM. 'bulk': how many values and letters a reading holds, each counted each time it is reached (what is shared counts as often as it is met; a slice's spare places count too). A statement '..UptoSaid' is the law's where the arguments, and the package variables that the reading takes, are together of bulk at most 1048576: NARROWER than '..Said'. Prove '..Said' where nothing that the law and all that it calls make is longer than what came in: it says more and counts as full. Else prove '..UptoSaid'. A law counts once. -/
mutual
def uptoBulk {H : Type} : DataW H → Nat
  | .lit (.string bytes) => bytes.length + 1
  | .lit _ => 1
  | .nil => 1
  | .ptr d => uptoBulk d + 1
  | .slice elems spare => uptoBulkAll elems + uptoBulkAll spare + 1
  | .agg parts => uptoBulkAll parts + 1
  | .iface _ d => uptoBulk d + 1
  | .map entries => uptoBulkEntries entries + 1
  | .held _ => 1
def uptoBulkAll {H : Type} : List (DataW H) → Nat
  | [] => 0
  | d :: r => uptoBulk d + uptoBulkAll r
def uptoBulkEntries {H : Type} : List (Lit × DataW H) → Nat
  | [] => 0
  | x :: r => uptoBulkEntry x + uptoBulkEntries r
def uptoBulkEntry {H : Type} : Lit × DataW H → Nat
  | (.string bytes, d) => bytes.length + uptoBulk d + 1
  | (_, d) => uptoBulk d + 1
 end
def uptoSmall : (H : Type) → List (DataW H) → Bool := fun _ ds => decide (uptoBulkAll ds ≤ 1048576)
def OpenSpec.upto (s : _root_.Go.ChangeSpec) : _root_.Go.OpenSpec := { _root_.Go.OpenSpec.ofChange s with cond := some uptoSmall }

/-- 'signalboxlaw12.CountPlays', WHERE WHAT IT READS IS OF BULK AT MOST 1048576: true; the input reads as it did. -/
def countPlaysUptoRow : OpenClaim := { program := "ytkmenmagclojmaa", sum := "051c1442d89c1756aacd058f04793a9a98b14e44dc91d5d850eefec9f598a09c", func := "signalbox/signalboxlaw12.CountPlays", spec := "countPlays", apart := false, narrowed := true }
def CountPlaysUptoSaid : Prop := countPlaysUptoRow.holds Try.pinned (OpenSpec.upto countPlaysSpec)

/-- 'signalboxlaw12.CountBalance', WHERE WHAT IT READS IS OF BULK AT MOST 1048576: true; the input reads as it did. -/
def countBalanceUptoRow : OpenClaim := { program := "ytkmenmagclojmaa", sum := "051c1442d89c1756aacd058f04793a9a98b14e44dc91d5d850eefec9f598a09c", func := "signalbox/signalboxlaw12.CountBalance", spec := "countBalance", apart := false, narrowed := true }
def CountBalanceUptoSaid : Prop := countBalanceUptoRow.holds Try.pinned (OpenSpec.upto countBalanceSpec)

/-- 'signalboxlaw11.FlagsPlay', WHERE WHAT IT READS IS OF BULK AT MOST 1048576: true; the input reads as it did. -/
def flagsPlayUptoRow : OpenClaim := { program := "ytkmenmagclojmaa", sum := "051c1442d89c1756aacd058f04793a9a98b14e44dc91d5d850eefec9f598a09c", func := "signalbox/signalboxlaw11.FlagsPlay", spec := "flagsPlay", unfollowed := true, recurses := true, apart := false, narrowed := true }
def FlagsPlayUptoSaid : Prop := flagsPlayUptoRow.holds Try.pinned (OpenSpec.upto flagsPlaySpec)

/-- 'signalboxlaw11.FlagsBack', WHERE WHAT IT READS IS OF BULK AT MOST 1048576: true; the input reads as it did. -/
def flagsBackUptoRow : OpenClaim := { program := "ytkmenmagclojmaa", sum := "051c1442d89c1756aacd058f04793a9a98b14e44dc91d5d850eefec9f598a09c", func := "signalbox/signalboxlaw11.FlagsBack", spec := "flagsBack", unfollowed := true, recurses := true, apart := false, narrowed := true }
def FlagsBackUptoSaid : Prop := flagsBackUptoRow.holds Try.pinned (OpenSpec.upto flagsBackSpec)

/-- 'signalboxlaw14.LinesOnce', WHERE WHAT IT READS IS OF BULK AT MOST 1048576: true; the input reads as it did. -/
def linesOnceUptoRow : OpenClaim := { program := "ytkmenmagclojmaa", sum := "051c1442d89c1756aacd058f04793a9a98b14e44dc91d5d850eefec9f598a09c", func := "signalbox/signalboxlaw14.LinesOnce", spec := "linesOnce", apart := false, narrowed := true }
def LinesOnceUptoSaid : Prop := linesOnceUptoRow.holds Try.pinned (OpenSpec.upto linesOnceSpec)

/-- 'signalboxlaw52.WatchdogKept', WHERE WHAT IT READS IS OF BULK AT MOST 1048576: true; the input reads as it did. -/
def watchdogKeptUptoRow : OpenClaim := { program := "ytkmenmagclojmaa", sum := "051c1442d89c1756aacd058f04793a9a98b14e44dc91d5d850eefec9f598a09c", func := "signalbox/signalboxlaw52.WatchdogKept", spec := "watchdogKept", apart := false, narrowed := true }
def WatchdogKeptUptoSaid : Prop := watchdogKeptUptoRow.holds Try.pinned (OpenSpec.upto watchdogKeptSpec)

/-- 'signalboxlaw14.LinesPlay', WHERE WHAT IT READS IS OF BULK AT MOST 1048576: true; the input reads as it did. -/
def linesPlayUptoRow : OpenClaim := { program := "ytkmenmagclojmaa", sum := "051c1442d89c1756aacd058f04793a9a98b14e44dc91d5d850eefec9f598a09c", func := "signalbox/signalboxlaw14.LinesPlay", spec := "linesPlay", apart := false, narrowed := true }
def LinesPlayUptoSaid : Prop := linesPlayUptoRow.holds Try.pinned (OpenSpec.upto linesPlaySpec)

/-- 'signalboxlaw03.RingTexts', WHERE WHAT IT READS IS OF BULK AT MOST 1048576: true; the input reads as it did. -/
def ringTextsUptoRow : OpenClaim := { program := "ytkmenmagclojmaa", sum := "051c1442d89c1756aacd058f04793a9a98b14e44dc91d5d850eefec9f598a09c", func := "signalbox/signalboxlaw03.RingTexts", spec := "ringTexts", apart := false, narrowed := true }
def RingTextsUptoSaid : Prop := ringTextsUptoRow.holds Try.pinned (OpenSpec.upto ringTextsSpec)

/-- 'signalboxlaw54.DebounceHears', WHERE WHAT IT READS IS OF BULK AT MOST 1048576: true; the input reads as it did. -/
def debounceHearsUptoRow : OpenClaim := { program := "ytkmenmagclojmaa", sum := "051c1442d89c1756aacd058f04793a9a98b14e44dc91d5d850eefec9f598a09c", func := "signalbox/signalboxlaw54.DebounceHears", spec := "debounceHears", unfollowed := true, recurses := true, apart := false, narrowed := true }
def DebounceHearsUptoSaid : Prop := debounceHearsUptoRow.holds Try.pinned (OpenSpec.upto debounceHearsSpec)

/-- 'signalboxlaw54.DebounceQuiet', WHERE WHAT IT READS IS OF BULK AT MOST 1048576: true; the input reads as it did. -/
def debounceQuietUptoRow : OpenClaim := { program := "ytkmenmagclojmaa", sum := "051c1442d89c1756aacd058f04793a9a98b14e44dc91d5d850eefec9f598a09c", func := "signalbox/signalboxlaw54.DebounceQuiet", spec := "debounceQuiet", unfollowed := true, recurses := true, apart := false, narrowed := true }
def DebounceQuietUptoSaid : Prop := debounceQuietUptoRow.holds Try.pinned (OpenSpec.upto debounceQuietSpec)

/-- 'signalboxlaw52.WatchdogPlays', WHERE WHAT IT READS IS OF BULK AT MOST 1048576: true; the input reads as it did. -/
def watchdogPlaysUptoRow : OpenClaim := { program := "ytkmenmagclojmaa", sum := "051c1442d89c1756aacd058f04793a9a98b14e44dc91d5d850eefec9f598a09c", func := "signalbox/signalboxlaw52.WatchdogPlays", spec := "watchdogPlays", apart := false, narrowed := true }
def WatchdogPlaysUptoSaid : Prop := watchdogPlaysUptoRow.holds Try.pinned (OpenSpec.upto watchdogPlaysSpec)

/-- 'signalboxlaw03.RingPlays', WHERE WHAT IT READS IS OF BULK AT MOST 1048576: true; the input reads as it did. -/
def ringPlaysUptoRow : OpenClaim := { program := "ytkmenmagclojmaa", sum := "051c1442d89c1756aacd058f04793a9a98b14e44dc91d5d850eefec9f598a09c", func := "signalbox/signalboxlaw03.RingPlays", spec := "ringPlays", apart := false, narrowed := true }
def RingPlaysUptoSaid : Prop := ringPlaysUptoRow.holds Try.pinned (OpenSpec.upto ringPlaysSpec)

end Rows
end Go.Proofs.Ytkmenmagclojmaa
