/-
  No cell of these rows narrows 'for every input' (looked for: loops, veiled, ifaces, maps, wideKeys, modest, calm, conditions, laid).
  DERIVED. THE GIVEN ROWS OF THIS SEAT. 4 by the template 'for every input the law returns true; each argument reads behind the call as it read before'; 0 by the template 'total and deterministic' (their statements: YtimpaammdmeocaaTotals.lean).
  GIVEN WITH THE SEED: the statements are not yours to turn. If you find one false, say at which input.
  Laid BY PROGRAM, IN A SANDBOX (cutbox-rows.mjs): the forced cells as the released guide's own fill.sh prints them over the translation 754d241799ff48a9… (all of the seat's roots in one cut). By AI agents, Wed Nov 11 2026. No macro, syntax, notation, axiom, sorry.
-/
import Derived.Test.YtimpaammdmeocaaChecked
import GoSem.Claim
import GoSem.ClaimJoined
import GoSem.ClaimMapViews
import Derived.JoinedTies
import Derived.KernelRfl
namespace Go.Proofs.Ytimpaammdmeocaa
/- THE CELL 'sum', in the pinned program and in every row, IS THE sha256 OF THE DUMP (.gsa) THAT YtimpaammdmeocaaProg.lean LOADS. Nothing in Lean hashes anything: it is a label: what it is worth is what the hold of that sum in a sandbox is worth. -/
noncomputable def Try.pinned : Pinned := { name := "ytimpaammdmeocaa", sum := "754d241799ff48a9048b743f6c81aef73111b40d267749a8ff5ee4c3fc8b9bcd", checked := Try.checked }
namespace Rows
def none {H : Type} : Left H := { results := [], args := [] }

/-- 'signalboxlaw46.CodeNumbers': WHATEVER THE INPUT: true; the input reads as it did. -/
def codeNumbersSpec : ChangeSpec := { name := "codeNumbers", fn := fun _ => fun
  | [d1, d2] => { results := [.lit (.bool true)], args := [d1, d2] }
  | _ => none }
def codeNumbersRow : OpenClaim := { program := "ytimpaammdmeocaa", sum := "754d241799ff48a9048b743f6c81aef73111b40d267749a8ff5ee4c3fc8b9bcd", func := "signalbox/signalboxlaw46.CodeNumbers", spec := "codeNumbers", unfollowed := true, recurses := true, apart := false }
def CodeNumbersSaid : Prop := codeNumbersRow.holds Try.pinned (OpenSpec.ofChange codeNumbersSpec)

/-- ITS FALSE NEIGHBOUR: 'it returns false'. Refute it at one input. -/
def codeNumbersWrong : ChangeSpec := { name := "codeNumbers", fn := fun _ => fun
  | [d1, d2] => { results := [.lit (.bool false)], args := [d1, d2] }
  | _ => none }
def CodeNumbersWrongFalsely : Prop := codeNumbersRow.holds Try.pinned (OpenSpec.ofChange codeNumbersWrong)

/-- 'signalboxlaw46.CodeBytes': WHATEVER THE INPUT: true; the input reads as it did. -/
def codeBytesSpec : ChangeSpec := { name := "codeBytes", fn := fun _ => fun
  | [d] => { results := [.lit (.bool true)], args := [d] }
  | _ => none }
def codeBytesRow : OpenClaim := { program := "ytimpaammdmeocaa", sum := "754d241799ff48a9048b743f6c81aef73111b40d267749a8ff5ee4c3fc8b9bcd", func := "signalbox/signalboxlaw46.CodeBytes", spec := "codeBytes", unfollowed := true, recurses := true, apart := false }
def CodeBytesSaid : Prop := codeBytesRow.holds Try.pinned (OpenSpec.ofChange codeBytesSpec)

/-- ITS FALSE NEIGHBOUR: 'it returns false'. Refute it at one input. -/
def codeBytesWrong : ChangeSpec := { name := "codeBytes", fn := fun _ => fun
  | [d] => { results := [.lit (.bool false)], args := [d] }
  | _ => none }
def CodeBytesWrongFalsely : Prop := codeBytesRow.holds Try.pinned (OpenSpec.ofChange codeBytesWrong)

/-- 'signalboxlaw46.CodeParses': WHATEVER THE INPUT: true; the input reads as it did. -/
def codeParsesSpec : ChangeSpec := { name := "codeParses", fn := fun _ => fun
  | [d1, d2, d3, d4] => { results := [.lit (.bool true)], args := [d1, d2, d3, d4] }
  | _ => none }
def codeParsesRow : OpenClaim := { program := "ytimpaammdmeocaa", sum := "754d241799ff48a9048b743f6c81aef73111b40d267749a8ff5ee4c3fc8b9bcd", func := "signalbox/signalboxlaw46.CodeParses", spec := "codeParses", unfollowed := true, recurses := true, apart := false }
def CodeParsesSaid : Prop := codeParsesRow.holds Try.pinned (OpenSpec.ofChange codeParsesSpec)

/-- ITS FALSE NEIGHBOUR: 'it returns false'. Refute it at one input. -/
def codeParsesWrong : ChangeSpec := { name := "codeParses", fn := fun _ => fun
  | [d1, d2, d3, d4] => { results := [.lit (.bool false)], args := [d1, d2, d3, d4] }
  | _ => none }
def CodeParsesWrongFalsely : Prop := codeParsesRow.holds Try.pinned (OpenSpec.ofChange codeParsesWrong)

/-- 'signalboxlaw16.ReadyPlays': WHATEVER THE INPUT: true; the input reads as it did. -/
def readyPlaysSpec : ChangeSpec := { name := "readyPlays", fn := fun _ => fun
  | [d1, d2] => { results := [.lit (.bool true)], args := [d1, d2] }
  | _ => none }
def readyPlaysRow : OpenClaim := { program := "ytimpaammdmeocaa", sum := "754d241799ff48a9048b743f6c81aef73111b40d267749a8ff5ee4c3fc8b9bcd", func := "signalbox/signalboxlaw16.ReadyPlays", spec := "readyPlays", unfollowed := true, recurses := true, apart := false }
def ReadyPlaysSaid : Prop := readyPlaysRow.holds Try.pinned (OpenSpec.ofChange readyPlaysSpec)

/-- ITS FALSE NEIGHBOUR: 'it returns false'. Refute it at one input. -/
def readyPlaysWrong : ChangeSpec := { name := "readyPlays", fn := fun _ => fun
  | [d1, d2] => { results := [.lit (.bool false)], args := [d1, d2] }
  | _ => none }
def ReadyPlaysWrongFalsely : Prop := readyPlaysRow.holds Try.pinned (OpenSpec.ofChange readyPlaysWrong)

/- THE SECOND FORM. 'bulk': how many values and letters a reading holds, each counted each time it is reached (what is shared counts as often as it is met; a slice's spare places count too). A statement '..UptoSaid' is the law's where the arguments, and the package variables that the reading takes, are together of bulk at most 1048576: NARROWER than '..Said'. Prove '..Said' where nothing that the law and all that it calls make is longer than what came in: it says more and counts as full. Else prove '..UptoSaid'. A law counts once. -/
mutual
def uptoBulk {H : Type} : DataW H → Nat
  | .lit (.string bytes) => bytes.length + 1
  | .lit _ => 1
  | .nil => 1
  | .ptr d => uptoBulk d + 1
  | .slice elems spare => uptoBulkAll elems + uptoBulkAll spare + 1
  | .agg parts => uptoBulkAll parts + 1
  | .iface _ d => uptoBulk d + 1
  | .map entries => uptoBulkEntries entries + 1
  | .held _ => 1
def uptoBulkAll {H : Type} : List (DataW H) → Nat
  | [] => 0
  | d :: r => uptoBulk d + uptoBulkAll r
def uptoBulkEntries {H : Type} : List (Lit × DataW H) → Nat
  | [] => 0
  | x :: r => uptoBulkEntry x + uptoBulkEntries r
def uptoBulkEntry {H : Type} : Lit × DataW H → Nat
  | (.string bytes, d) => bytes.length + uptoBulk d + 1
  | (_, d) => uptoBulk d + 1
 end
def uptoSmall : (H : Type) → List (DataW H) → Bool := fun _ ds => decide (uptoBulkAll ds ≤ 1048576)
def OpenSpec.upto (s : _root_.Go.ChangeSpec) : _root_.Go.OpenSpec := { _root_.Go.OpenSpec.ofChange s with cond := some uptoSmall }

/-- 'signalboxlaw46.CodeNumbers', WHERE WHAT IT READS IS OF BULK AT MOST 1048576: true; the input reads as it did. -/
def codeNumbersUptoRow : OpenClaim := { program := "ytimpaammdmeocaa", sum := "754d241799ff48a9048b743f6c81aef73111b40d267749a8ff5ee4c3fc8b9bcd", func := "signalbox/signalboxlaw46.CodeNumbers", spec := "codeNumbers", unfollowed := true, recurses := true, apart := false, narrowed := true }
def CodeNumbersUptoSaid : Prop := codeNumbersUptoRow.holds Try.pinned (OpenSpec.upto codeNumbersSpec)

/-- 'signalboxlaw46.CodeBytes', WHERE WHAT IT READS IS OF BULK AT MOST 1048576: true; the input reads as it did. -/
def codeBytesUptoRow : OpenClaim := { program := "ytimpaammdmeocaa", sum := "754d241799ff48a9048b743f6c81aef73111b40d267749a8ff5ee4c3fc8b9bcd", func := "signalbox/signalboxlaw46.CodeBytes", spec := "codeBytes", unfollowed := true, recurses := true, apart := false, narrowed := true }
def CodeBytesUptoSaid : Prop := codeBytesUptoRow.holds Try.pinned (OpenSpec.upto codeBytesSpec)

/-- 'signalboxlaw46.CodeParses', WHERE WHAT IT READS IS OF BULK AT MOST 1048576: true; the input reads as it did. -/
def codeParsesUptoRow : OpenClaim := { program := "ytimpaammdmeocaa", sum := "754d241799ff48a9048b743f6c81aef73111b40d267749a8ff5ee4c3fc8b9bcd", func := "signalbox/signalboxlaw46.CodeParses", spec := "codeParses", unfollowed := true, recurses := true, apart := false, narrowed := true }
def CodeParsesUptoSaid : Prop := codeParsesUptoRow.holds Try.pinned (OpenSpec.upto codeParsesSpec)

/-- 'signalboxlaw16.ReadyPlays', WHERE WHAT IT READS IS OF BULK AT MOST 1048576: true; the input reads as it did. -/
def readyPlaysUptoRow : OpenClaim := { program := "ytimpaammdmeocaa", sum := "754d241799ff48a9048b743f6c81aef73111b40d267749a8ff5ee4c3fc8b9bcd", func := "signalbox/signalboxlaw16.ReadyPlays", spec := "readyPlays", unfollowed := true, recurses := true, apart := false, narrowed := true }
def ReadyPlaysUptoSaid : Prop := readyPlaysUptoRow.holds Try.pinned (OpenSpec.upto readyPlaysSpec)

end Rows
end Go.Proofs.Ytimpaammdmeocaa
