/-
  No cell of these rows narrows 'for every input' (looked for: loops, veiled, ifaces, maps, wideKeys, modest, calm, conditions, laid).
  DERIVED. THE GIVEN ROWS OF THIS SEAT. 8 by the template 'for every input the law returns true; each argument reads behind the call as it read before'; 0 by the template 'total and deterministic' (their statements: YtlidbaejhmamjaaTotals.lean).
  GIVEN WITH THE SEED: the statements are not yours to turn. If you find one false, say at which input.
  Laid BY PROGRAM, IN A SANDBOX (cutbox-rows.mjs): the forced cells as the released guide's own fill.sh prints them over the translation 3bf981c55667cffd… (all of the seat's roots in one cut). By AI agents, Wed Nov 11 2026. No macro, syntax, notation, axiom, sorry.
-/
import Derived.Test.YtlidbaejhmamjaaChecked
import GoSem.Claim
import GoSem.ClaimJoined
import GoSem.ClaimMapViews
import Derived.JoinedTies
import Derived.KernelRfl
namespace Go.Proofs.Ytlidbaejhmamjaa
/- THE CELL 'sum', in the pinned program and in every row, IS THE sha256 OF THE DUMP (.gsa) THAT YtlidbaejhmamjaaProg.lean LOADS. Nothing in Lean hashes anything: it is a label: what it is worth is what the hold of that sum in a sandbox is worth. -/
noncomputable def Try.pinned : Pinned := { name := "ytlidbaejhmamjaa", sum := "3bf981c55667cffdd04365eaaf35b4c96f1e4d2b063813f40ad438f82ee81aa9", checked := Try.checked }
namespace Rows
def none {H : Type} : Left H := { results := [], args := [] }

/-- 'ambitlaw18.SplitWhole': WHATEVER THE INPUT: true; the input reads as it did. -/
def splitWholeSpec : ChangeSpec := { name := "splitWhole", fn := fun _ => fun
  | [d] => { results := [.lit (.bool true)], args := [d] }
  | _ => none }
def splitWholeRow : OpenClaim := { program := "ytlidbaejhmamjaa", sum := "3bf981c55667cffdd04365eaaf35b4c96f1e4d2b063813f40ad438f82ee81aa9", func := "ambit/ambitlaw18.SplitWhole", spec := "splitWhole", inPlace := ["math.Float64bits", "math/bits.Sub64", "math/bits.Add64"], apart := false }
def SplitWholeSaid : Prop := splitWholeRow.holds Try.pinned (OpenSpec.ofChange splitWholeSpec)

/-- ITS FALSE NEIGHBOUR: 'it returns false'. Refute it at one input. -/
def splitWholeWrong : ChangeSpec := { name := "splitWhole", fn := fun _ => fun
  | [d] => { results := [.lit (.bool false)], args := [d] }
  | _ => none }
def SplitWholeWrongFalsely : Prop := splitWholeRow.holds Try.pinned (OpenSpec.ofChange splitWholeWrong)

/-- 'ambitlaw18.SplitRegions': WHATEVER THE INPUT: true; the input reads as it did. -/
def splitRegionsSpec : ChangeSpec := { name := "splitRegions", fn := fun _ => fun
  | [d1, d2, d3, d4, d5, d6, d7] => { results := [.lit (.bool true)], args := [d1, d2, d3, d4, d5, d6, d7] }
  | _ => none }
def splitRegionsRow : OpenClaim := { program := "ytlidbaejhmamjaa", sum := "3bf981c55667cffdd04365eaaf35b4c96f1e4d2b063813f40ad438f82ee81aa9", func := "ambit/ambitlaw18.SplitRegions", spec := "splitRegions", inPlace := ["math.Float64bits", "math/bits.Sub64", "math/bits.Add64"], apart := false }
def SplitRegionsSaid : Prop := splitRegionsRow.holds Try.pinned (OpenSpec.ofChange splitRegionsSpec)

/-- ITS FALSE NEIGHBOUR: 'it returns false'. Refute it at one input. -/
def splitRegionsWrong : ChangeSpec := { name := "splitRegions", fn := fun _ => fun
  | [d1, d2, d3, d4, d5, d6, d7] => { results := [.lit (.bool false)], args := [d1, d2, d3, d4, d5, d6, d7] }
  | _ => none }
def SplitRegionsWrongFalsely : Prop := splitRegionsRow.holds Try.pinned (OpenSpec.ofChange splitRegionsWrong)

/-- 'ambitlaw18.SplitPlays': WHATEVER THE INPUT: true; the input reads as it did. -/
def splitPlaysSpec : ChangeSpec := { name := "splitPlays", fn := fun _ => fun
  | [d1, d2, d3, d4, d5, d6] => { results := [.lit (.bool true)], args := [d1, d2, d3, d4, d5, d6] }
  | _ => none }
def splitPlaysRow : OpenClaim := { program := "ytlidbaejhmamjaa", sum := "3bf981c55667cffdd04365eaaf35b4c96f1e4d2b063813f40ad438f82ee81aa9", func := "ambit/ambitlaw18.SplitPlays", spec := "splitPlays", inPlace := ["math.Float64bits", "math/bits.Sub64", "math/bits.Add64"], apart := false }
def SplitPlaysSaid : Prop := splitPlaysRow.holds Try.pinned (OpenSpec.ofChange splitPlaysSpec)

/-- ITS FALSE NEIGHBOUR: 'it returns false'. Refute it at one input. -/
def splitPlaysWrong : ChangeSpec := { name := "splitPlays", fn := fun _ => fun
  | [d1, d2, d3, d4, d5, d6] => { results := [.lit (.bool false)], args := [d1, d2, d3, d4, d5, d6] }
  | _ => none }
def SplitPlaysWrongFalsely : Prop := splitPlaysRow.holds Try.pinned (OpenSpec.ofChange splitPlaysWrong)

/-- 'ambitlaw18.SplitCovers': WHATEVER THE INPUT: true; the input reads as it did. -/
def splitCoversSpec : ChangeSpec := { name := "splitCovers", fn := fun _ => fun
  | [d1, d2, d3, d4] => { results := [.lit (.bool true)], args := [d1, d2, d3, d4] }
  | _ => none }
def splitCoversRow : OpenClaim := { program := "ytlidbaejhmamjaa", sum := "3bf981c55667cffdd04365eaaf35b4c96f1e4d2b063813f40ad438f82ee81aa9", func := "ambit/ambitlaw18.SplitCovers", spec := "splitCovers", inPlace := ["math.Float64bits", "math/bits.Sub64", "math/bits.Add64"], apart := false }
def SplitCoversSaid : Prop := splitCoversRow.holds Try.pinned (OpenSpec.ofChange splitCoversSpec)

/-- ITS FALSE NEIGHBOUR: 'it returns false'. Refute it at one input. -/
def splitCoversWrong : ChangeSpec := { name := "splitCovers", fn := fun _ => fun
  | [d1, d2, d3, d4] => { results := [.lit (.bool false)], args := [d1, d2, d3, d4] }
  | _ => none }
def SplitCoversWrongFalsely : Prop := splitCoversRow.holds Try.pinned (OpenSpec.ofChange splitCoversWrong)

/-- 'ambitlaw18.SplitEnds': WHATEVER THE INPUT: true; the input reads as it did. -/
def splitEndsSpec : ChangeSpec := { name := "splitEnds", fn := fun _ => fun
  | [d1, d2, d3, d4] => { results := [.lit (.bool true)], args := [d1, d2, d3, d4] }
  | _ => none }
def splitEndsRow : OpenClaim := { program := "ytlidbaejhmamjaa", sum := "3bf981c55667cffdd04365eaaf35b4c96f1e4d2b063813f40ad438f82ee81aa9", func := "ambit/ambitlaw18.SplitEnds", spec := "splitEnds", inPlace := ["math.Float64bits", "math/bits.Sub64", "math/bits.Add64"], apart := false }
def SplitEndsSaid : Prop := splitEndsRow.holds Try.pinned (OpenSpec.ofChange splitEndsSpec)

/-- ITS FALSE NEIGHBOUR: 'it returns false'. Refute it at one input. -/
def splitEndsWrong : ChangeSpec := { name := "splitEnds", fn := fun _ => fun
  | [d1, d2, d3, d4] => { results := [.lit (.bool false)], args := [d1, d2, d3, d4] }
  | _ => none }
def SplitEndsWrongFalsely : Prop := splitEndsRow.holds Try.pinned (OpenSpec.ofChange splitEndsWrong)

/-- 'ambitlaw18.SplitLent': WHATEVER THE INPUT: true; the input reads as it did. -/
def splitLentSpec : ChangeSpec := { name := "splitLent", fn := fun _ => fun
  | [d1, d2] => { results := [.lit (.bool true)], args := [d1, d2] }
  | _ => none }
def splitLentRow : OpenClaim := { program := "ytlidbaejhmamjaa", sum := "3bf981c55667cffdd04365eaaf35b4c96f1e4d2b063813f40ad438f82ee81aa9", func := "ambit/ambitlaw18.SplitLent", spec := "splitLent", inPlace := ["math.Float64bits", "math/bits.Sub64", "math/bits.Add64"], apart := false }
def SplitLentSaid : Prop := splitLentRow.holds Try.pinned (OpenSpec.ofChange splitLentSpec)

/-- ITS FALSE NEIGHBOUR: 'it returns false'. Refute it at one input. -/
def splitLentWrong : ChangeSpec := { name := "splitLent", fn := fun _ => fun
  | [d1, d2] => { results := [.lit (.bool false)], args := [d1, d2] }
  | _ => none }
def SplitLentWrongFalsely : Prop := splitLentRow.holds Try.pinned (OpenSpec.ofChange splitLentWrong)

/-- 'ambitlaw18.SplitChooses': WHATEVER THE INPUT: true; the input reads as it did. -/
def splitChoosesSpec : ChangeSpec := { name := "splitChooses", fn := fun _ => fun
  | [d1, d2, d3, d4] => { results := [.lit (.bool true)], args := [d1, d2, d3, d4] }
  | _ => none }
def splitChoosesRow : OpenClaim := { program := "ytlidbaejhmamjaa", sum := "3bf981c55667cffdd04365eaaf35b4c96f1e4d2b063813f40ad438f82ee81aa9", func := "ambit/ambitlaw18.SplitChooses", spec := "splitChooses", inPlace := ["math.Float64bits", "math.Float64frombits", "math/bits.Sub64", "math/bits.Add64"], unfollowed := true, recurses := true, apart := false }
def SplitChoosesSaid : Prop := splitChoosesRow.holds Try.pinned (OpenSpec.ofChange splitChoosesSpec)

/-- ITS FALSE NEIGHBOUR: 'it returns false'. Refute it at one input. -/
def splitChoosesWrong : ChangeSpec := { name := "splitChooses", fn := fun _ => fun
  | [d1, d2, d3, d4] => { results := [.lit (.bool false)], args := [d1, d2, d3, d4] }
  | _ => none }
def SplitChoosesWrongFalsely : Prop := splitChoosesRow.holds Try.pinned (OpenSpec.ofChange splitChoosesWrong)

/-- 'ambitlaw18.SplitRoom': WHATEVER THE INPUT: true; the input reads as it did. -/
def splitRoomSpec : ChangeSpec := { name := "splitRoom", fn := fun _ => fun
  | [d1, d2, d3, d4, d5, d6, d7, d8, d9] => { results := [.lit (.bool true)], args := [d1, d2, d3, d4, d5, d6, d7, d8, d9] }
  | _ => none }
def splitRoomRow : OpenClaim := { program := "ytlidbaejhmamjaa", sum := "3bf981c55667cffdd04365eaaf35b4c96f1e4d2b063813f40ad438f82ee81aa9", func := "ambit/ambitlaw18.SplitRoom", spec := "splitRoom", inPlace := ["math.Float64bits", "math/bits.Sub64", "math/bits.Add64", "math.Float64frombits"], unfollowed := true, recurses := true, apart := false }
def SplitRoomSaid : Prop := splitRoomRow.holds Try.pinned (OpenSpec.ofChange splitRoomSpec)

/-- ITS FALSE NEIGHBOUR: 'it returns false'. Refute it at one input. -/
def splitRoomWrong : ChangeSpec := { name := "splitRoom", fn := fun _ => fun
  | [d1, d2, d3, d4, d5, d6, d7, d8, d9] => { results := [.lit (.bool false)], args := [d1, d2, d3, d4, d5, d6, d7, d8, d9] }
  | _ => none }
def SplitRoomWrongFalsely : Prop := splitRoomRow.holds Try.pinned (OpenSpec.ofChange splitRoomWrong)

/- THE SECOND FORM. 'bulk': how many values and letters a reading holds, each counted each time it is reached (what is shared counts as often as it is met; a slice's spare places count too). A statement '..UptoSaid' is the law's where the arguments, and the package variables that the reading takes, are together of bulk at most 1048576: NARROWER than '..Said'. Prove '..Said' where nothing that the law and all that it calls make is longer than what came in: it says more and counts as full. Else prove '..UptoSaid'. A law counts once. -/
mutual
def uptoBulk {H : Type} : DataW H → Nat
  | .lit (.string bytes) => bytes.length + 1
  | .lit _ => 1
  | .nil => 1
  | .ptr d => uptoBulk d + 1
  | .slice elems spare => uptoBulkAll elems + uptoBulkAll spare + 1
  | .agg parts => uptoBulkAll parts + 1
  | .iface _ d => uptoBulk d + 1
  | .map entries => uptoBulkEntries entries + 1
  | .held _ => 1
def uptoBulkAll {H : Type} : List (DataW H) → Nat
  | [] => 0
  | d :: r => uptoBulk d + uptoBulkAll r
def uptoBulkEntries {H : Type} : List (Lit × DataW H) → Nat
  | [] => 0
  | x :: r => uptoBulkEntry x + uptoBulkEntries r
def uptoBulkEntry {H : Type} : Lit × DataW H → Nat
  | (.string bytes, d) => bytes.length + uptoBulk d + 1
  | (_, d) => uptoBulk d + 1
 end
def uptoSmall : (H : Type) → List (DataW H) → Bool := fun _ ds => decide (uptoBulkAll ds ≤ 1048576)
def OpenSpec.upto (s : _root_.Go.ChangeSpec) : _root_.Go.OpenSpec := { _root_.Go.OpenSpec.ofChange s with cond := some uptoSmall }

/-- 'ambitlaw18.SplitWhole', WHERE WHAT IT READS IS OF BULK AT MOST 1048576: true; the input reads as it did. -/
def splitWholeUptoRow : OpenClaim := { program := "ytlidbaejhmamjaa", sum := "3bf981c55667cffdd04365eaaf35b4c96f1e4d2b063813f40ad438f82ee81aa9", func := "ambit/ambitlaw18.SplitWhole", spec := "splitWhole", inPlace := ["math.Float64bits", "math/bits.Sub64", "math/bits.Add64"], apart := false, narrowed := true }
def SplitWholeUptoSaid : Prop := splitWholeUptoRow.holds Try.pinned (OpenSpec.upto splitWholeSpec)

/-- 'ambitlaw18.SplitRegions', WHERE WHAT IT READS IS OF BULK AT MOST 1048576: true; the input reads as it did. -/
def splitRegionsUptoRow : OpenClaim := { program := "ytlidbaejhmamjaa", sum := "3bf981c55667cffdd04365eaaf35b4c96f1e4d2b063813f40ad438f82ee81aa9", func := "ambit/ambitlaw18.SplitRegions", spec := "splitRegions", inPlace := ["math.Float64bits", "math/bits.Sub64", "math/bits.Add64"], apart := false, narrowed := true }
def SplitRegionsUptoSaid : Prop := splitRegionsUptoRow.holds Try.pinned (OpenSpec.upto splitRegionsSpec)

/-- 'ambitlaw18.SplitPlays', WHERE WHAT IT READS IS OF BULK AT MOST 1048576: true; the input reads as it did. -/
def splitPlaysUptoRow : OpenClaim := { program := "ytlidbaejhmamjaa", sum := "3bf981c55667cffdd04365eaaf35b4c96f1e4d2b063813f40ad438f82ee81aa9", func := "ambit/ambitlaw18.SplitPlays", spec := "splitPlays", inPlace := ["math.Float64bits", "math/bits.Sub64", "math/bits.Add64"], apart := false, narrowed := true }
def SplitPlaysUptoSaid : Prop := splitPlaysUptoRow.holds Try.pinned (OpenSpec.upto splitPlaysSpec)

/-- 'ambitlaw18.SplitCovers', WHERE WHAT IT READS IS OF BULK AT MOST 1048576: true; the input reads as it did. -/
def splitCoversUptoRow : OpenClaim := { program := "ytlidbaejhmamjaa", sum := "3bf981c55667cffdd04365eaaf35b4c96f1e4d2b063813f40ad438f82ee81aa9", func := "ambit/ambitlaw18.SplitCovers", spec := "splitCovers", inPlace := ["math.Float64bits", "math/bits.Sub64", "math/bits.Add64"], apart := false, narrowed := true }
def SplitCoversUptoSaid : Prop := splitCoversUptoRow.holds Try.pinned (OpenSpec.upto splitCoversSpec)

/-- 'ambitlaw18.SplitEnds', WHERE WHAT IT READS IS OF BULK AT MOST 1048576: true; the input reads as it did. -/
def splitEndsUptoRow : OpenClaim := { program := "ytlidbaejhmamjaa", sum := "3bf981c55667cffdd04365eaaf35b4c96f1e4d2b063813f40ad438f82ee81aa9", func := "ambit/ambitlaw18.SplitEnds", spec := "splitEnds", inPlace := ["math.Float64bits", "math/bits.Sub64", "math/bits.Add64"], apart := false, narrowed := true }
def SplitEndsUptoSaid : Prop := splitEndsUptoRow.holds Try.pinned (OpenSpec.upto splitEndsSpec)

/-- 'ambitlaw18.SplitLent', WHERE WHAT IT READS IS OF BULK AT MOST 1048576: true; the input reads as it did. -/
def splitLentUptoRow : OpenClaim := { program := "ytlidbaejhmamjaa", sum := "3bf981c55667cffdd04365eaaf35b4c96f1e4d2b063813f40ad438f82ee81aa9", func := "ambit/ambitlaw18.SplitLent", spec := "splitLent", inPlace := ["math.Float64bits", "math/bits.Sub64", "math/bits.Add64"], apart := false, narrowed := true }
def SplitLentUptoSaid : Prop := splitLentUptoRow.holds Try.pinned (OpenSpec.upto splitLentSpec)

/-- 'ambitlaw18.SplitChooses', WHERE WHAT IT READS IS OF BULK AT MOST 1048576: true; the input reads as it did. -/
def splitChoosesUptoRow : OpenClaim := { program := "ytlidbaejhmamjaa", sum := "3bf981c55667cffdd04365eaaf35b4c96f1e4d2b063813f40ad438f82ee81aa9", func := "ambit/ambitlaw18.SplitChooses", spec := "splitChooses", inPlace := ["math.Float64bits", "math.Float64frombits", "math/bits.Sub64", "math/bits.Add64"], unfollowed := true, recurses := true, apart := false, narrowed := true }
def SplitChoosesUptoSaid : Prop := splitChoosesUptoRow.holds Try.pinned (OpenSpec.upto splitChoosesSpec)

/-- 'ambitlaw18.SplitRoom', WHERE WHAT IT READS IS OF BULK AT MOST 1048576: true; the input reads as it did. -/
def splitRoomUptoRow : OpenClaim := { program := "ytlidbaejhmamjaa", sum := "3bf981c55667cffdd04365eaaf35b4c96f1e4d2b063813f40ad438f82ee81aa9", func := "ambit/ambitlaw18.SplitRoom", spec := "splitRoom", inPlace := ["math.Float64bits", "math/bits.Sub64", "math/bits.Add64", "math.Float64frombits"], unfollowed := true, recurses := true, apart := false, narrowed := true }
def SplitRoomUptoSaid : Prop := splitRoomUptoRow.holds Try.pinned (OpenSpec.upto splitRoomSpec)

end Rows
end Go.Proofs.Ytlidbaejhmamjaa
