/-
  No cell of these rows narrows 'for every input' (looked for: loops, veiled, ifaces, maps, wideKeys, modest, calm, conditions, laid).
  DERIVED. THE GIVEN ROWS OF THIS SEAT. 12 by the template 'for every input the law returns true; each argument reads behind the call as it read before'; 0 by the template 'total and deterministic' (their statements: YtbpnpmknamghkaaTotals.lean).
  GIVEN WITH THE SEED: the statements are not yours to turn. If you find one false, say at which input.
  Laid BY PROGRAM, IN A SANDBOX (cutbox-rows.mjs): the forced cells as the released guide's own fill.sh prints them over the translation 1c98cb15c535e27f… (all of the seat's roots in one cut). By AI agents, Wed Nov 11 2026. No macro, syntax, notation, axiom, sorry.
-/
import Derived.Test.YtbpnpmknamghkaaChecked
import GoSem.Claim
import GoSem.ClaimJoined
import GoSem.ClaimMapViews
import Derived.JoinedTies
import Derived.KernelRfl
namespace Go.Proofs.Ytbpnpmknamghkaa
/- THE CELL 'sum', in the pinned program and in every row, IS THE sha256 OF THE DUMP (.gsa) THAT YtbpnpmknamghkaaProg.lean LOADS. Nothing in Lean hashes anything: it is a label: what it is worth is what the hold of that sum in a sandbox is worth. -/
noncomputable def Try.pinned : Pinned := { name := "ytbpnpmknamghkaa", sum := "1c98cb15c535e27fedbf7f1f154bfbfb5ded5ab2793de68c5e403d03ff5b6aea", checked := Try.checked }
namespace Rows
def none {H : Type} : Left H := { results := [], args := [] }

/-- 'signalboxlaw32.HyperTells': WHATEVER THE INPUT: true; the input reads as it did. -/
def hyperTellsSpec : ChangeSpec := { name := "hyperTells", fn := fun _ => fun
  | [d1, d2, d3] => { results := [.lit (.bool true)], args := [d1, d2, d3] }
  | _ => none }
def hyperTellsRow : OpenClaim := { program := "ytbpnpmknamghkaa", sum := "1c98cb15c535e27fedbf7f1f154bfbfb5ded5ab2793de68c5e403d03ff5b6aea", func := "signalbox/signalboxlaw32.HyperTells", spec := "hyperTells", inPlace := ["math/bits.Add64"], apart := false }
def HyperTellsSaid : Prop := hyperTellsRow.holds Try.pinned (OpenSpec.ofChange hyperTellsSpec)

/-- ITS FALSE NEIGHBOUR: 'it returns false'. Refute it at one input. -/
def hyperTellsWrong : ChangeSpec := { name := "hyperTells", fn := fun _ => fun
  | [d1, d2, d3] => { results := [.lit (.bool false)], args := [d1, d2, d3] }
  | _ => none }
def HyperTellsWrongFalsely : Prop := hyperTellsRow.holds Try.pinned (OpenSpec.ofChange hyperTellsWrong)

/-- 'signalboxlaw32.HyperShares': WHATEVER THE INPUT: true; the input reads as it did. -/
def hyperSharesSpec : ChangeSpec := { name := "hyperShares", fn := fun _ => fun
  | [d1, d2] => { results := [.lit (.bool true)], args := [d1, d2] }
  | _ => none }
def hyperSharesRow : OpenClaim := { program := "ytbpnpmknamghkaa", sum := "1c98cb15c535e27fedbf7f1f154bfbfb5ded5ab2793de68c5e403d03ff5b6aea", func := "signalbox/signalboxlaw32.HyperShares", spec := "hyperShares", inPlace := ["math/bits.Add64"], recurses := true, apart := false }
def HyperSharesSaid : Prop := hyperSharesRow.holds Try.pinned (OpenSpec.ofChange hyperSharesSpec)

/-- ITS FALSE NEIGHBOUR: 'it returns false'. Refute it at one input. -/
def hyperSharesWrong : ChangeSpec := { name := "hyperShares", fn := fun _ => fun
  | [d1, d2] => { results := [.lit (.bool false)], args := [d1, d2] }
  | _ => none }
def HyperSharesWrongFalsely : Prop := hyperSharesRow.holds Try.pinned (OpenSpec.ofChange hyperSharesWrong)

/-- 'signalboxlaw32.HyperDivides': WHATEVER THE INPUT: true; the input reads as it did. -/
def hyperDividesSpec : ChangeSpec := { name := "hyperDivides", fn := fun _ => fun
  | [d1, d2] => { results := [.lit (.bool true)], args := [d1, d2] }
  | _ => none }
def hyperDividesRow : OpenClaim := { program := "ytbpnpmknamghkaa", sum := "1c98cb15c535e27fedbf7f1f154bfbfb5ded5ab2793de68c5e403d03ff5b6aea", func := "signalbox/signalboxlaw32.HyperDivides", spec := "hyperDivides", inPlace := ["math/bits.Add64"], apart := false }
def HyperDividesSaid : Prop := hyperDividesRow.holds Try.pinned (OpenSpec.ofChange hyperDividesSpec)

/-- ITS FALSE NEIGHBOUR: 'it returns false'. Refute it at one input. -/
def hyperDividesWrong : ChangeSpec := { name := "hyperDivides", fn := fun _ => fun
  | [d1, d2] => { results := [.lit (.bool false)], args := [d1, d2] }
  | _ => none }
def HyperDividesWrongFalsely : Prop := hyperDividesRow.holds Try.pinned (OpenSpec.ofChange hyperDividesWrong)

/-- 'signalboxlaw32.HyperOrders': WHATEVER THE INPUT: true; the input reads as it did. -/
def hyperOrdersSpec : ChangeSpec := { name := "hyperOrders", fn := fun _ => fun
  | [d1, d2, d3] => { results := [.lit (.bool true)], args := [d1, d2, d3] }
  | _ => none }
def hyperOrdersRow : OpenClaim := { program := "ytbpnpmknamghkaa", sum := "1c98cb15c535e27fedbf7f1f154bfbfb5ded5ab2793de68c5e403d03ff5b6aea", func := "signalbox/signalboxlaw32.HyperOrders", spec := "hyperOrders", inPlace := ["math/bits.Add64"], apart := false }
def HyperOrdersSaid : Prop := hyperOrdersRow.holds Try.pinned (OpenSpec.ofChange hyperOrdersSpec)

/-- ITS FALSE NEIGHBOUR: 'it returns false'. Refute it at one input. -/
def hyperOrdersWrong : ChangeSpec := { name := "hyperOrders", fn := fun _ => fun
  | [d1, d2, d3] => { results := [.lit (.bool false)], args := [d1, d2, d3] }
  | _ => none }
def HyperOrdersWrongFalsely : Prop := hyperOrdersRow.holds Try.pinned (OpenSpec.ofChange hyperOrdersWrong)

/-- 'signalboxlaw51.AgingBound': WHATEVER THE INPUT: true; the input reads as it did. -/
def agingBoundSpec : ChangeSpec := { name := "agingBound", fn := fun _ => fun
  | [d1, d2, d3, d4] => { results := [.lit (.bool true)], args := [d1, d2, d3, d4] }
  | _ => none }
def agingBoundRow : OpenClaim := { program := "ytbpnpmknamghkaa", sum := "1c98cb15c535e27fedbf7f1f154bfbfb5ded5ab2793de68c5e403d03ff5b6aea", func := "signalbox/signalboxlaw51.AgingBound", spec := "agingBound", unfollowed := true, recurses := true, apart := false }
def AgingBoundSaid : Prop := agingBoundRow.holds Try.pinned (OpenSpec.ofChange agingBoundSpec)

/-- ITS FALSE NEIGHBOUR: 'it returns false'. Refute it at one input. -/
def agingBoundWrong : ChangeSpec := { name := "agingBound", fn := fun _ => fun
  | [d1, d2, d3, d4] => { results := [.lit (.bool false)], args := [d1, d2, d3, d4] }
  | _ => none }
def AgingBoundWrongFalsely : Prop := agingBoundRow.holds Try.pinned (OpenSpec.ofChange agingBoundWrong)

/-- 'signalboxlaw51.AgingPlays': WHATEVER THE INPUT: true; the input reads as it did. -/
def agingPlaysSpec : ChangeSpec := { name := "agingPlays", fn := fun _ => fun
  | [d1, d2] => { results := [.lit (.bool true)], args := [d1, d2] }
  | _ => none }
def agingPlaysRow : OpenClaim := { program := "ytbpnpmknamghkaa", sum := "1c98cb15c535e27fedbf7f1f154bfbfb5ded5ab2793de68c5e403d03ff5b6aea", func := "signalbox/signalboxlaw51.AgingPlays", spec := "agingPlays", unfollowed := true, recurses := true, apart := false }
def AgingPlaysSaid : Prop := agingPlaysRow.holds Try.pinned (OpenSpec.ofChange agingPlaysSpec)

/-- ITS FALSE NEIGHBOUR: 'it returns false'. Refute it at one input. -/
def agingPlaysWrong : ChangeSpec := { name := "agingPlays", fn := fun _ => fun
  | [d1, d2] => { results := [.lit (.bool false)], args := [d1, d2] }
  | _ => none }
def AgingPlaysWrongFalsely : Prop := agingPlaysRow.holds Try.pinned (OpenSpec.ofChange agingPlaysWrong)

/-- 'signalboxlaw42.BucketPlays': WHATEVER THE INPUT: true; the input reads as it did. -/
def bucketPlaysSpec : ChangeSpec := { name := "bucketPlays", fn := fun _ => fun
  | [d1, d2, d3, d4, d5] => { results := [.lit (.bool true)], args := [d1, d2, d3, d4, d5] }
  | _ => none }
def bucketPlaysRow : OpenClaim := { program := "ytbpnpmknamghkaa", sum := "1c98cb15c535e27fedbf7f1f154bfbfb5ded5ab2793de68c5e403d03ff5b6aea", func := "signalbox/signalboxlaw42.BucketPlays", spec := "bucketPlays", inPlace := ["math/bits.Add64"], apart := false }
def BucketPlaysSaid : Prop := bucketPlaysRow.holds Try.pinned (OpenSpec.ofChange bucketPlaysSpec)

/-- ITS FALSE NEIGHBOUR: 'it returns false'. Refute it at one input. -/
def bucketPlaysWrong : ChangeSpec := { name := "bucketPlays", fn := fun _ => fun
  | [d1, d2, d3, d4, d5] => { results := [.lit (.bool false)], args := [d1, d2, d3, d4, d5] }
  | _ => none }
def BucketPlaysWrongFalsely : Prop := bucketPlaysRow.holds Try.pinned (OpenSpec.ofChange bucketPlaysWrong)

/-- 'signalboxlaw42.BucketBound': WHATEVER THE INPUT: true; the input reads as it did. -/
def bucketBoundSpec : ChangeSpec := { name := "bucketBound", fn := fun _ => fun
  | [d1, d2, d3, d4, d5, d6] => { results := [.lit (.bool true)], args := [d1, d2, d3, d4, d5, d6] }
  | _ => none }
def bucketBoundRow : OpenClaim := { program := "ytbpnpmknamghkaa", sum := "1c98cb15c535e27fedbf7f1f154bfbfb5ded5ab2793de68c5e403d03ff5b6aea", func := "signalbox/signalboxlaw42.BucketBound", spec := "bucketBound", inPlace := ["math/bits.Add64"], apart := false }
def BucketBoundSaid : Prop := bucketBoundRow.holds Try.pinned (OpenSpec.ofChange bucketBoundSpec)

/-- ITS FALSE NEIGHBOUR: 'it returns false'. Refute it at one input. -/
def bucketBoundWrong : ChangeSpec := { name := "bucketBound", fn := fun _ => fun
  | [d1, d2, d3, d4, d5, d6] => { results := [.lit (.bool false)], args := [d1, d2, d3, d4, d5, d6] }
  | _ => none }
def BucketBoundWrongFalsely : Prop := bucketBoundRow.holds Try.pinned (OpenSpec.ofChange bucketBoundWrong)

/-- 'signalboxlaw38.RwlockPlays': WHATEVER THE INPUT: true; the input reads as it did. -/
def rwlockPlaysSpec : ChangeSpec := { name := "rwlockPlays", fn := fun _ => fun
  | [d] => { results := [.lit (.bool true)], args := [d] }
  | _ => none }
def rwlockPlaysRow : OpenClaim := { program := "ytbpnpmknamghkaa", sum := "1c98cb15c535e27fedbf7f1f154bfbfb5ded5ab2793de68c5e403d03ff5b6aea", func := "signalbox/signalboxlaw38.RwlockPlays", spec := "rwlockPlays", unfollowed := true, recurses := true, apart := false }
def RwlockPlaysSaid : Prop := rwlockPlaysRow.holds Try.pinned (OpenSpec.ofChange rwlockPlaysSpec)

/-- ITS FALSE NEIGHBOUR: 'it returns false'. Refute it at one input. -/
def rwlockPlaysWrong : ChangeSpec := { name := "rwlockPlays", fn := fun _ => fun
  | [d] => { results := [.lit (.bool false)], args := [d] }
  | _ => none }
def RwlockPlaysWrongFalsely : Prop := rwlockPlaysRow.holds Try.pinned (OpenSpec.ofChange rwlockPlaysWrong)

/-- 'signalboxlaw38.RwlockNone': WHATEVER THE INPUT: true; the input reads as it did. -/
def rwlockNoneSpec : ChangeSpec := { name := "rwlockNone", fn := fun _ => fun
  | [d1, d2] => { results := [.lit (.bool true)], args := [d1, d2] }
  | _ => none }
def rwlockNoneRow : OpenClaim := { program := "ytbpnpmknamghkaa", sum := "1c98cb15c535e27fedbf7f1f154bfbfb5ded5ab2793de68c5e403d03ff5b6aea", func := "signalbox/signalboxlaw38.RwlockNone", spec := "rwlockNone", unfollowed := true, recurses := true, apart := false }
def RwlockNoneSaid : Prop := rwlockNoneRow.holds Try.pinned (OpenSpec.ofChange rwlockNoneSpec)

/-- ITS FALSE NEIGHBOUR: 'it returns false'. Refute it at one input. -/
def rwlockNoneWrong : ChangeSpec := { name := "rwlockNone", fn := fun _ => fun
  | [d1, d2] => { results := [.lit (.bool false)], args := [d1, d2] }
  | _ => none }
def RwlockNoneWrongFalsely : Prop := rwlockNoneRow.holds Try.pinned (OpenSpec.ofChange rwlockNoneWrong)

/-- 'signalboxlaw38.RwlockShared': WHATEVER THE INPUT: true; the input reads as it did. -/
def rwlockSharedSpec : ChangeSpec := { name := "rwlockShared", fn := fun _ => fun
  | [d1, d2] => { results := [.lit (.bool true)], args := [d1, d2] }
  | _ => none }
def rwlockSharedRow : OpenClaim := { program := "ytbpnpmknamghkaa", sum := "1c98cb15c535e27fedbf7f1f154bfbfb5ded5ab2793de68c5e403d03ff5b6aea", func := "signalbox/signalboxlaw38.RwlockShared", spec := "rwlockShared", unfollowed := true, recurses := true, apart := false }
def RwlockSharedSaid : Prop := rwlockSharedRow.holds Try.pinned (OpenSpec.ofChange rwlockSharedSpec)

/-- ITS FALSE NEIGHBOUR: 'it returns false'. Refute it at one input. -/
def rwlockSharedWrong : ChangeSpec := { name := "rwlockShared", fn := fun _ => fun
  | [d1, d2] => { results := [.lit (.bool false)], args := [d1, d2] }
  | _ => none }
def RwlockSharedWrongFalsely : Prop := rwlockSharedRow.holds Try.pinned (OpenSpec.ofChange rwlockSharedWrong)

/-- 'signalboxlaw02.BandNone': WHATEVER THE INPUT: true; the input reads as it did. -/
def bandNoneSpec : ChangeSpec := { name := "bandNone", fn := fun _ => fun
  | [d] => { results := [.lit (.bool true)], args := [d] }
  | _ => none }
def bandNoneRow : OpenClaim := { program := "ytbpnpmknamghkaa", sum := "1c98cb15c535e27fedbf7f1f154bfbfb5ded5ab2793de68c5e403d03ff5b6aea", func := "signalbox/signalboxlaw02.BandNone", spec := "bandNone", apart := false }
def BandNoneSaid : Prop := bandNoneRow.holds Try.pinned (OpenSpec.ofChange bandNoneSpec)

/-- ITS FALSE NEIGHBOUR: 'it returns false'. Refute it at one input. -/
def bandNoneWrong : ChangeSpec := { name := "bandNone", fn := fun _ => fun
  | [d] => { results := [.lit (.bool false)], args := [d] }
  | _ => none }
def BandNoneWrongFalsely : Prop := bandNoneRow.holds Try.pinned (OpenSpec.ofChange bandNoneWrong)

/- THE SECOND FORM. 'bulk': how many values and letters a reading holds, each counted each time it is reached (what is shared counts as often as it is met; a slice's spare places count too). A statement '..UptoSaid' is the law's where the arguments, and the package variables that the reading takes, are together of bulk at most 1048576: NARROWER than '..Said'. Prove '..Said' where nothing that the law and all that it calls make is longer than what came in: it says more and counts as full. Else prove '..UptoSaid'. A law counts once. -/
mutual
def uptoBulk {H : Type} : DataW H → Nat
  | .lit (.string bytes) => bytes.length + 1
  | .lit _ => 1
  | .nil => 1
  | .ptr d => uptoBulk d + 1
  | .slice elems spare => uptoBulkAll elems + uptoBulkAll spare + 1
  | .agg parts => uptoBulkAll parts + 1
  | .iface _ d => uptoBulk d + 1
  | .map entries => uptoBulkEntries entries + 1
  | .held _ => 1
def uptoBulkAll {H : Type} : List (DataW H) → Nat
  | [] => 0
  | d :: r => uptoBulk d + uptoBulkAll r
def uptoBulkEntries {H : Type} : List (Lit × DataW H) → Nat
  | [] => 0
  | x :: r => uptoBulkEntry x + uptoBulkEntries r
def uptoBulkEntry {H : Type} : Lit × DataW H → Nat
  | (.string bytes, d) => bytes.length + uptoBulk d + 1
  | (_, d) => uptoBulk d + 1
 end
def uptoSmall : (H : Type) → List (DataW H) → Bool := fun _ ds => decide (uptoBulkAll ds ≤ 1048576)
def OpenSpec.upto (s : _root_.Go.ChangeSpec) : _root_.Go.OpenSpec := { _root_.Go.OpenSpec.ofChange s with cond := some uptoSmall }

/-- 'signalboxlaw32.HyperTells', WHERE WHAT IT READS IS OF BULK AT MOST 1048576: true; the input reads as it did. -/
def hyperTellsUptoRow : OpenClaim := { program := "ytbpnpmknamghkaa", sum := "1c98cb15c535e27fedbf7f1f154bfbfb5ded5ab2793de68c5e403d03ff5b6aea", func := "signalbox/signalboxlaw32.HyperTells", spec := "hyperTells", inPlace := ["math/bits.Add64"], apart := false, narrowed := true }
def HyperTellsUptoSaid : Prop := hyperTellsUptoRow.holds Try.pinned (OpenSpec.upto hyperTellsSpec)

/-- 'signalboxlaw32.HyperShares', WHERE WHAT IT READS IS OF BULK AT MOST 1048576: true; the input reads as it did. -/
def hyperSharesUptoRow : OpenClaim := { program := "ytbpnpmknamghkaa", sum := "1c98cb15c535e27fedbf7f1f154bfbfb5ded5ab2793de68c5e403d03ff5b6aea", func := "signalbox/signalboxlaw32.HyperShares", spec := "hyperShares", inPlace := ["math/bits.Add64"], recurses := true, apart := false, narrowed := true }
def HyperSharesUptoSaid : Prop := hyperSharesUptoRow.holds Try.pinned (OpenSpec.upto hyperSharesSpec)

/-- 'signalboxlaw32.HyperDivides', WHERE WHAT IT READS IS OF BULK AT MOST 1048576: true; the input reads as it did. -/
def hyperDividesUptoRow : OpenClaim := { program := "ytbpnpmknamghkaa", sum := "1c98cb15c535e27fedbf7f1f154bfbfb5ded5ab2793de68c5e403d03ff5b6aea", func := "signalbox/signalboxlaw32.HyperDivides", spec := "hyperDivides", inPlace := ["math/bits.Add64"], apart := false, narrowed := true }
def HyperDividesUptoSaid : Prop := hyperDividesUptoRow.holds Try.pinned (OpenSpec.upto hyperDividesSpec)

/-- 'signalboxlaw32.HyperOrders', WHERE WHAT IT READS IS OF BULK AT MOST 1048576: true; the input reads as it did. -/
def hyperOrdersUptoRow : OpenClaim := { program := "ytbpnpmknamghkaa", sum := "1c98cb15c535e27fedbf7f1f154bfbfb5ded5ab2793de68c5e403d03ff5b6aea", func := "signalbox/signalboxlaw32.HyperOrders", spec := "hyperOrders", inPlace := ["math/bits.Add64"], apart := false, narrowed := true }
def HyperOrdersUptoSaid : Prop := hyperOrdersUptoRow.holds Try.pinned (OpenSpec.upto hyperOrdersSpec)

/-- 'signalboxlaw51.AgingBound', WHERE WHAT IT READS IS OF BULK AT MOST 1048576: true; the input reads as it did. -/
def agingBoundUptoRow : OpenClaim := { program := "ytbpnpmknamghkaa", sum := "1c98cb15c535e27fedbf7f1f154bfbfb5ded5ab2793de68c5e403d03ff5b6aea", func := "signalbox/signalboxlaw51.AgingBound", spec := "agingBound", unfollowed := true, recurses := true, apart := false, narrowed := true }
def AgingBoundUptoSaid : Prop := agingBoundUptoRow.holds Try.pinned (OpenSpec.upto agingBoundSpec)

/-- 'signalboxlaw51.AgingPlays', WHERE WHAT IT READS IS OF BULK AT MOST 1048576: true; the input reads as it did. -/
def agingPlaysUptoRow : OpenClaim := { program := "ytbpnpmknamghkaa", sum := "1c98cb15c535e27fedbf7f1f154bfbfb5ded5ab2793de68c5e403d03ff5b6aea", func := "signalbox/signalboxlaw51.AgingPlays", spec := "agingPlays", unfollowed := true, recurses := true, apart := false, narrowed := true }
def AgingPlaysUptoSaid : Prop := agingPlaysUptoRow.holds Try.pinned (OpenSpec.upto agingPlaysSpec)

/-- 'signalboxlaw42.BucketPlays', WHERE WHAT IT READS IS OF BULK AT MOST 1048576: true; the input reads as it did. -/
def bucketPlaysUptoRow : OpenClaim := { program := "ytbpnpmknamghkaa", sum := "1c98cb15c535e27fedbf7f1f154bfbfb5ded5ab2793de68c5e403d03ff5b6aea", func := "signalbox/signalboxlaw42.BucketPlays", spec := "bucketPlays", inPlace := ["math/bits.Add64"], apart := false, narrowed := true }
def BucketPlaysUptoSaid : Prop := bucketPlaysUptoRow.holds Try.pinned (OpenSpec.upto bucketPlaysSpec)

/-- 'signalboxlaw42.BucketBound', WHERE WHAT IT READS IS OF BULK AT MOST 1048576: true; the input reads as it did. -/
def bucketBoundUptoRow : OpenClaim := { program := "ytbpnpmknamghkaa", sum := "1c98cb15c535e27fedbf7f1f154bfbfb5ded5ab2793de68c5e403d03ff5b6aea", func := "signalbox/signalboxlaw42.BucketBound", spec := "bucketBound", inPlace := ["math/bits.Add64"], apart := false, narrowed := true }
def BucketBoundUptoSaid : Prop := bucketBoundUptoRow.holds Try.pinned (OpenSpec.upto bucketBoundSpec)

/-- 'signalboxlaw38.RwlockPlays', WHERE WHAT IT READS IS OF BULK AT MOST 1048576: true; the input reads as it did. -/
def rwlockPlaysUptoRow : OpenClaim := { program := "ytbpnpmknamghkaa", sum := "1c98cb15c535e27fedbf7f1f154bfbfb5ded5ab2793de68c5e403d03ff5b6aea", func := "signalbox/signalboxlaw38.RwlockPlays", spec := "rwlockPlays", unfollowed := true, recurses := true, apart := false, narrowed := true }
def RwlockPlaysUptoSaid : Prop := rwlockPlaysUptoRow.holds Try.pinned (OpenSpec.upto rwlockPlaysSpec)

/-- 'signalboxlaw38.RwlockNone', WHERE WHAT IT READS IS OF BULK AT MOST 1048576: true; the input reads as it did. -/
def rwlockNoneUptoRow : OpenClaim := { program := "ytbpnpmknamghkaa", sum := "1c98cb15c535e27fedbf7f1f154bfbfb5ded5ab2793de68c5e403d03ff5b6aea", func := "signalbox/signalboxlaw38.RwlockNone", spec := "rwlockNone", unfollowed := true, recurses := true, apart := false, narrowed := true }
def RwlockNoneUptoSaid : Prop := rwlockNoneUptoRow.holds Try.pinned (OpenSpec.upto rwlockNoneSpec)

/-- 'signalboxlaw38.RwlockShared', WHERE WHAT IT READS IS OF BULK AT MOST 1048576: true; the input reads as it did. -/
def rwlockSharedUptoRow : OpenClaim := { program := "ytbpnpmknamghkaa", sum := "1c98cb15c535e27fedbf7f1f154bfbfb5ded5ab2793de68c5e403d03ff5b6aea", func := "signalbox/signalboxlaw38.RwlockShared", spec := "rwlockShared", unfollowed := true, recurses := true, apart := false, narrowed := true }
def RwlockSharedUptoSaid : Prop := rwlockSharedUptoRow.holds Try.pinned (OpenSpec.upto rwlockSharedSpec)

/-- 'signalboxlaw02.BandNone', WHERE WHAT IT READS IS OF BULK AT MOST 1048576: true; the input reads as it did. -/
def bandNoneUptoRow : OpenClaim := { program := "ytbpnpmknamghkaa", sum := "1c98cb15c535e27fedbf7f1f154bfbfb5ded5ab2793de68c5e403d03ff5b6aea", func := "signalbox/signalboxlaw02.BandNone", spec := "bandNone", apart := false, narrowed := true }
def BandNoneUptoSaid : Prop := bandNoneUptoRow.holds Try.pinned (OpenSpec.upto bandNoneSpec)

end Rows
end Go.Proofs.Ytbpnpmknamghkaa
