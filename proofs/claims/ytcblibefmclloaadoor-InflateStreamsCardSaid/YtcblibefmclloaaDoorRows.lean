/-
  NARROWER THAN 'FOR EVERY INPUT', by the rows' own cells (each row's printed sentence says how): LensPacks: laid · LensUnpacks: laid · LensReads: laid · LensSteps: laid · InflateAll: laid · InflateStreams: laid · InflateParts: laid · InflateBehind: laid · InflateNil: laid · LensNil: laid · LensRound: laid · LensWrites: laid.
  DERIVED. THE GIVEN ROWS OF THIS SEAT. 12 by the template 'for every input the law returns true; each argument reads behind the call as it read before'; 0 by the template 'total and deterministic' (their statements: YtcblibefmclloaaDoorTotals.lean).
  GIVEN WITH THE SEED: the statements are not yours to turn. If you find one false, say at which input.
  Laid BY PROGRAM, IN A SANDBOX (cutbox-rows.mjs): the forced cells as the released guide's own fill.sh prints them over the translation 5b5bc609ecb411d8… (all of the seat's roots in one cut). By AI agents, Wed Nov 11 2026. No macro, syntax, notation, axiom, sorry.
-/
import Derived.Test.YtcblibefmclloaaDoorChecked
import GoSem.Claim
import GoSem.ClaimJoined
import GoSem.ClaimMapViews
import Derived.JoinedTies
import Derived.KernelRfl
namespace Go.Proofs.YtcblibefmclloaaDoor
/- THE CELL 'sum', in the pinned program and in every row, IS THE sha256 OF THE DUMP (.gsa) THAT YtcblibefmclloaaDoorProg.lean LOADS. Nothing in Lean hashes anything: it is a label: what it is worth is what the hold of that sum in a sandbox is worth. -/
noncomputable def Tryd.pinned : Pinned := { name := "ytcblibefmclloaadoor", sum := "5b5bc609ecb411d82dca99ea56cdd8a3cedbc0cccb37bebd7edd5a343c825b8a", checked := Tryd.checked }
namespace Rows
def none {H : Type} : Left H := { results := [], args := [] }

/- WHAT THE LISTED PACKAGE-LEVEL VARIABLES READ AS WHEN THE CALL BEGINS. Each datum BY PROGRAM (the guide's laid-datum.mjs) off the statement by which the dump's own 'gosem.cut.vars' lays the variable. In a bare row this is a premise. The card (YtcblibefmclloaaDoorCards.lean) ties it to the program's text. -/
def laid_haversack_lens_order {H : Type} : DataW H := .agg [.lit (.int .i64 16), .lit (.int .i64 17), .lit (.int .i64 18), .lit (.int .i64 0), .lit (.int .i64 8), .lit (.int .i64 7), .lit (.int .i64 9), .lit (.int .i64 6), .lit (.int .i64 10), .lit (.int .i64 5), .lit (.int .i64 11), .lit (.int .i64 4), .lit (.int .i64 12), .lit (.int .i64 3), .lit (.int .i64 13), .lit (.int .i64 2), .lit (.int .i64 14), .lit (.int .i64 1), .lit (.int .i64 15)]
def laid_haversack_lens_wide {H : Type} : DataW H := .agg [.lit (.int .i64 0), .lit (.int .i64 0), .lit (.int .i64 0), .lit (.int .i64 0), .lit (.int .i64 0), .lit (.int .i64 0), .lit (.int .i64 0), .lit (.int .i64 0), .lit (.int .i64 0), .lit (.int .i64 0), .lit (.int .i64 0), .lit (.int .i64 0), .lit (.int .i64 0), .lit (.int .i64 0), .lit (.int .i64 0), .lit (.int .i64 0), .lit (.int .i64 2), .lit (.int .i64 3), .lit (.int .i64 7)]
def laid_haversack_lens_from {H : Type} : DataW H := .agg [.lit (.int .i64 0), .lit (.int .i64 0), .lit (.int .i64 0), .lit (.int .i64 0), .lit (.int .i64 0), .lit (.int .i64 0), .lit (.int .i64 0), .lit (.int .i64 0), .lit (.int .i64 0), .lit (.int .i64 0), .lit (.int .i64 0), .lit (.int .i64 0), .lit (.int .i64 0), .lit (.int .i64 0), .lit (.int .i64 0), .lit (.int .i64 0), .lit (.int .i64 3), .lit (.int .i64 3), .lit (.int .i64 11)]

/-- 'haversacklaw04.LensPacks': WHATEVER THE INPUT: true; the input reads as it did. -/
def lensPacksSpec : ChangeSpec := { name := "lensPacks", fn := fun _ => fun
  | [d] => { results := [.lit (.bool true)], args := [d] }
  | _ => none }
def lensPacksRow : OpenClaim := { program := "ytcblibefmclloaadoor", sum := "5b5bc609ecb411d82dca99ea56cdd8a3cedbc0cccb37bebd7edd5a343c825b8a", func := "haversack/haversacklaw04.LensPacks", spec := "lensPacks", unfollowed := true, recurses := true, named := ["haversack/lens.from", "haversack/lens.wide", "haversack/lens.order"], apart := false, laid := [("haversack/lens.order", laid_haversack_lens_order), ("haversack/lens.wide", laid_haversack_lens_wide), ("haversack/lens.from", laid_haversack_lens_from)] }
def LensPacksSaid : Prop := lensPacksRow.holds Tryd.pinned (OpenSpec.ofChange lensPacksSpec)

/-- ITS FALSE NEIGHBOUR: 'it returns false'. Refute it at one input. -/
def lensPacksWrong : ChangeSpec := { name := "lensPacks", fn := fun _ => fun
  | [d] => { results := [.lit (.bool false)], args := [d] }
  | _ => none }
def LensPacksWrongFalsely : Prop := lensPacksRow.holds Tryd.pinned (OpenSpec.ofChange lensPacksWrong)

/-- 'haversacklaw04.LensUnpacks': WHATEVER THE INPUT: true; the input reads as it did. -/
def lensUnpacksSpec : ChangeSpec := { name := "lensUnpacks", fn := fun _ => fun
  | [d1, d2] => { results := [.lit (.bool true)], args := [d1, d2] }
  | _ => none }
def lensUnpacksRow : OpenClaim := { program := "ytcblibefmclloaadoor", sum := "5b5bc609ecb411d82dca99ea56cdd8a3cedbc0cccb37bebd7edd5a343c825b8a", func := "haversack/haversacklaw04.LensUnpacks", spec := "lensUnpacks", unfollowed := true, recurses := true, named := ["haversack/lens.from", "haversack/lens.wide", "haversack/lens.order"], apart := false, laid := [("haversack/lens.order", laid_haversack_lens_order), ("haversack/lens.wide", laid_haversack_lens_wide), ("haversack/lens.from", laid_haversack_lens_from)] }
def LensUnpacksSaid : Prop := lensUnpacksRow.holds Tryd.pinned (OpenSpec.ofChange lensUnpacksSpec)

/-- ITS FALSE NEIGHBOUR: 'it returns false'. Refute it at one input. -/
def lensUnpacksWrong : ChangeSpec := { name := "lensUnpacks", fn := fun _ => fun
  | [d1, d2] => { results := [.lit (.bool false)], args := [d1, d2] }
  | _ => none }
def LensUnpacksWrongFalsely : Prop := lensUnpacksRow.holds Tryd.pinned (OpenSpec.ofChange lensUnpacksWrong)

/-- 'haversacklaw04.LensReads': WHATEVER THE INPUT: true; the input reads as it did. -/
def lensReadsSpec : ChangeSpec := { name := "lensReads", fn := fun _ => fun
  | [d1, d2] => { results := [.lit (.bool true)], args := [d1, d2] }
  | _ => none }
def lensReadsRow : OpenClaim := { program := "ytcblibefmclloaadoor", sum := "5b5bc609ecb411d82dca99ea56cdd8a3cedbc0cccb37bebd7edd5a343c825b8a", func := "haversack/haversacklaw04.LensReads", spec := "lensReads", unfollowed := true, recurses := true, named := ["haversack/lens.from", "haversack/lens.wide", "haversack/lens.order"], apart := false, laid := [("haversack/lens.order", laid_haversack_lens_order), ("haversack/lens.wide", laid_haversack_lens_wide), ("haversack/lens.from", laid_haversack_lens_from)] }
def LensReadsSaid : Prop := lensReadsRow.holds Tryd.pinned (OpenSpec.ofChange lensReadsSpec)

/-- ITS FALSE NEIGHBOUR: 'it returns false'. Refute it at one input. -/
def lensReadsWrong : ChangeSpec := { name := "lensReads", fn := fun _ => fun
  | [d1, d2] => { results := [.lit (.bool false)], args := [d1, d2] }
  | _ => none }
def LensReadsWrongFalsely : Prop := lensReadsRow.holds Tryd.pinned (OpenSpec.ofChange lensReadsWrong)

/-- 'haversacklaw04.LensSteps': WHATEVER THE INPUT: true; the input reads as it did. -/
def lensStepsSpec : ChangeSpec := { name := "lensSteps", fn := fun _ => fun
  | [d] => { results := [.lit (.bool true)], args := [d] }
  | _ => none }
def lensStepsRow : OpenClaim := { program := "ytcblibefmclloaadoor", sum := "5b5bc609ecb411d82dca99ea56cdd8a3cedbc0cccb37bebd7edd5a343c825b8a", func := "haversack/haversacklaw04.LensSteps", spec := "lensSteps", unfollowed := true, recurses := true, named := ["haversack/lens.from", "haversack/lens.wide", "haversack/lens.order"], apart := false, laid := [("haversack/lens.order", laid_haversack_lens_order), ("haversack/lens.wide", laid_haversack_lens_wide), ("haversack/lens.from", laid_haversack_lens_from)] }
def LensStepsSaid : Prop := lensStepsRow.holds Tryd.pinned (OpenSpec.ofChange lensStepsSpec)

/-- ITS FALSE NEIGHBOUR: 'it returns false'. Refute it at one input. -/
def lensStepsWrong : ChangeSpec := { name := "lensSteps", fn := fun _ => fun
  | [d] => { results := [.lit (.bool false)], args := [d] }
  | _ => none }
def LensStepsWrongFalsely : Prop := lensStepsRow.holds Tryd.pinned (OpenSpec.ofChange lensStepsWrong)

/-- 'haversacklaw05.InflateAll': WHATEVER THE INPUT: true; the input reads as it did. -/
def inflateAllSpec : ChangeSpec := { name := "inflateAll", fn := fun _ => fun
  | [d1, d2] => { results := [.lit (.bool true)], args := [d1, d2] }
  | _ => none }
def inflateAllRow : OpenClaim := { program := "ytcblibefmclloaadoor", sum := "5b5bc609ecb411d82dca99ea56cdd8a3cedbc0cccb37bebd7edd5a343c825b8a", func := "haversack/haversacklaw05.InflateAll", spec := "inflateAll", unfollowed := true, recurses := true, named := ["haversack/lens.order", "haversack/lens.wide", "haversack/lens.from"], apart := false, laid := [("haversack/lens.order", laid_haversack_lens_order), ("haversack/lens.wide", laid_haversack_lens_wide), ("haversack/lens.from", laid_haversack_lens_from)] }
def InflateAllSaid : Prop := inflateAllRow.holds Tryd.pinned (OpenSpec.ofChange inflateAllSpec)

/-- ITS FALSE NEIGHBOUR: 'it returns false'. Refute it at one input. -/
def inflateAllWrong : ChangeSpec := { name := "inflateAll", fn := fun _ => fun
  | [d1, d2] => { results := [.lit (.bool false)], args := [d1, d2] }
  | _ => none }
def InflateAllWrongFalsely : Prop := inflateAllRow.holds Tryd.pinned (OpenSpec.ofChange inflateAllWrong)

/-- 'haversacklaw05.InflateStreams': WHATEVER THE INPUT: true; the input reads as it did. -/
def inflateStreamsSpec : ChangeSpec := { name := "inflateStreams", fn := fun _ => fun
  | [d1, d2, d3] => { results := [.lit (.bool true)], args := [d1, d2, d3] }
  | _ => none }
def inflateStreamsRow : OpenClaim := { program := "ytcblibefmclloaadoor", sum := "5b5bc609ecb411d82dca99ea56cdd8a3cedbc0cccb37bebd7edd5a343c825b8a", func := "haversack/haversacklaw05.InflateStreams", spec := "inflateStreams", unfollowed := true, recurses := true, named := ["haversack/lens.order", "haversack/lens.wide", "haversack/lens.from"], apart := false, laid := [("haversack/lens.order", laid_haversack_lens_order), ("haversack/lens.wide", laid_haversack_lens_wide), ("haversack/lens.from", laid_haversack_lens_from)] }
def InflateStreamsSaid : Prop := inflateStreamsRow.holds Tryd.pinned (OpenSpec.ofChange inflateStreamsSpec)

/-- ITS FALSE NEIGHBOUR: 'it returns false'. Refute it at one input. -/
def inflateStreamsWrong : ChangeSpec := { name := "inflateStreams", fn := fun _ => fun
  | [d1, d2, d3] => { results := [.lit (.bool false)], args := [d1, d2, d3] }
  | _ => none }
def InflateStreamsWrongFalsely : Prop := inflateStreamsRow.holds Tryd.pinned (OpenSpec.ofChange inflateStreamsWrong)

/-- 'haversacklaw05.InflateParts': WHATEVER THE INPUT: true; the input reads as it did. -/
def inflatePartsSpec : ChangeSpec := { name := "inflateParts", fn := fun _ => fun
  | [d1, d2, d3, d4] => { results := [.lit (.bool true)], args := [d1, d2, d3, d4] }
  | _ => none }
def inflatePartsRow : OpenClaim := { program := "ytcblibefmclloaadoor", sum := "5b5bc609ecb411d82dca99ea56cdd8a3cedbc0cccb37bebd7edd5a343c825b8a", func := "haversack/haversacklaw05.InflateParts", spec := "inflateParts", unfollowed := true, recurses := true, named := ["haversack/lens.order", "haversack/lens.wide", "haversack/lens.from"], apart := false, laid := [("haversack/lens.order", laid_haversack_lens_order), ("haversack/lens.wide", laid_haversack_lens_wide), ("haversack/lens.from", laid_haversack_lens_from)] }
def InflatePartsSaid : Prop := inflatePartsRow.holds Tryd.pinned (OpenSpec.ofChange inflatePartsSpec)

/-- ITS FALSE NEIGHBOUR: 'it returns false'. Refute it at one input. -/
def inflatePartsWrong : ChangeSpec := { name := "inflateParts", fn := fun _ => fun
  | [d1, d2, d3, d4] => { results := [.lit (.bool false)], args := [d1, d2, d3, d4] }
  | _ => none }
def InflatePartsWrongFalsely : Prop := inflatePartsRow.holds Tryd.pinned (OpenSpec.ofChange inflatePartsWrong)

/-- 'haversacklaw05.InflateBehind': WHATEVER THE INPUT: true; the input reads as it did. -/
def inflateBehindSpec : ChangeSpec := { name := "inflateBehind", fn := fun _ => fun
  | [d1, d2, d3, d4] => { results := [.lit (.bool true)], args := [d1, d2, d3, d4] }
  | _ => none }
def inflateBehindRow : OpenClaim := { program := "ytcblibefmclloaadoor", sum := "5b5bc609ecb411d82dca99ea56cdd8a3cedbc0cccb37bebd7edd5a343c825b8a", func := "haversack/haversacklaw05.InflateBehind", spec := "inflateBehind", unfollowed := true, recurses := true, named := ["haversack/lens.order", "haversack/lens.wide", "haversack/lens.from"], apart := false, laid := [("haversack/lens.order", laid_haversack_lens_order), ("haversack/lens.wide", laid_haversack_lens_wide), ("haversack/lens.from", laid_haversack_lens_from)] }
def InflateBehindSaid : Prop := inflateBehindRow.holds Tryd.pinned (OpenSpec.ofChange inflateBehindSpec)

/-- ITS FALSE NEIGHBOUR: 'it returns false'. Refute it at one input. -/
def inflateBehindWrong : ChangeSpec := { name := "inflateBehind", fn := fun _ => fun
  | [d1, d2, d3, d4] => { results := [.lit (.bool false)], args := [d1, d2, d3, d4] }
  | _ => none }
def InflateBehindWrongFalsely : Prop := inflateBehindRow.holds Tryd.pinned (OpenSpec.ofChange inflateBehindWrong)

/-- 'haversacklaw05.InflateNil': WHATEVER THE INPUT: true; the input reads as it did. -/
def inflateNilSpec : ChangeSpec := { name := "inflateNil", fn := fun _ => fun
  | [d] => { results := [.lit (.bool true)], args := [d] }
  | _ => none }
def inflateNilRow : OpenClaim := { program := "ytcblibefmclloaadoor", sum := "5b5bc609ecb411d82dca99ea56cdd8a3cedbc0cccb37bebd7edd5a343c825b8a", func := "haversack/haversacklaw05.InflateNil", spec := "inflateNil", unfollowed := true, recurses := true, named := ["haversack/lens.order", "haversack/lens.wide", "haversack/lens.from"], apart := false, laid := [("haversack/lens.order", laid_haversack_lens_order), ("haversack/lens.wide", laid_haversack_lens_wide), ("haversack/lens.from", laid_haversack_lens_from)] }
def InflateNilSaid : Prop := inflateNilRow.holds Tryd.pinned (OpenSpec.ofChange inflateNilSpec)

/-- ITS FALSE NEIGHBOUR: 'it returns false'. Refute it at one input. -/
def inflateNilWrong : ChangeSpec := { name := "inflateNil", fn := fun _ => fun
  | [d] => { results := [.lit (.bool false)], args := [d] }
  | _ => none }
def InflateNilWrongFalsely : Prop := inflateNilRow.holds Tryd.pinned (OpenSpec.ofChange inflateNilWrong)

/-- 'haversacklaw04.LensNil': WHATEVER THE INPUT: true; the input reads as it did. -/
def lensNilSpec : ChangeSpec := { name := "lensNil", fn := fun _ => fun
  | [d1, d2] => { results := [.lit (.bool true)], args := [d1, d2] }
  | _ => none }
def lensNilRow : OpenClaim := { program := "ytcblibefmclloaadoor", sum := "5b5bc609ecb411d82dca99ea56cdd8a3cedbc0cccb37bebd7edd5a343c825b8a", func := "haversack/haversacklaw04.LensNil", spec := "lensNil", unfollowed := true, recurses := true, named := ["haversack/lens.from", "haversack/lens.wide", "haversack/lens.order"], apart := false, laid := [("haversack/lens.order", laid_haversack_lens_order), ("haversack/lens.wide", laid_haversack_lens_wide), ("haversack/lens.from", laid_haversack_lens_from)] }
def LensNilSaid : Prop := lensNilRow.holds Tryd.pinned (OpenSpec.ofChange lensNilSpec)

/-- ITS FALSE NEIGHBOUR: 'it returns false'. Refute it at one input. -/
def lensNilWrong : ChangeSpec := { name := "lensNil", fn := fun _ => fun
  | [d1, d2] => { results := [.lit (.bool false)], args := [d1, d2] }
  | _ => none }
def LensNilWrongFalsely : Prop := lensNilRow.holds Tryd.pinned (OpenSpec.ofChange lensNilWrong)

/-- 'haversacklaw04.LensRound': WHATEVER THE INPUT: true; the input reads as it did. -/
def lensRoundSpec : ChangeSpec := { name := "lensRound", fn := fun _ => fun
  | [d1, d2, d3, d4] => { results := [.lit (.bool true)], args := [d1, d2, d3, d4] }
  | _ => none }
def lensRoundRow : OpenClaim := { program := "ytcblibefmclloaadoor", sum := "5b5bc609ecb411d82dca99ea56cdd8a3cedbc0cccb37bebd7edd5a343c825b8a", func := "haversack/haversacklaw04.LensRound", spec := "lensRound", unfollowed := true, recurses := true, named := ["haversack/lens.from", "haversack/lens.wide", "haversack/lens.order"], apart := false, laid := [("haversack/lens.order", laid_haversack_lens_order), ("haversack/lens.wide", laid_haversack_lens_wide), ("haversack/lens.from", laid_haversack_lens_from)] }
def LensRoundSaid : Prop := lensRoundRow.holds Tryd.pinned (OpenSpec.ofChange lensRoundSpec)

/-- ITS FALSE NEIGHBOUR: 'it returns false'. Refute it at one input. -/
def lensRoundWrong : ChangeSpec := { name := "lensRound", fn := fun _ => fun
  | [d1, d2, d3, d4] => { results := [.lit (.bool false)], args := [d1, d2, d3, d4] }
  | _ => none }
def LensRoundWrongFalsely : Prop := lensRoundRow.holds Tryd.pinned (OpenSpec.ofChange lensRoundWrong)

/-- 'haversacklaw04.LensWrites': WHATEVER THE INPUT: true; the input reads as it did. -/
def lensWritesSpec : ChangeSpec := { name := "lensWrites", fn := fun _ => fun
  | [d1, d2, d3] => { results := [.lit (.bool true)], args := [d1, d2, d3] }
  | _ => none }
def lensWritesRow : OpenClaim := { program := "ytcblibefmclloaadoor", sum := "5b5bc609ecb411d82dca99ea56cdd8a3cedbc0cccb37bebd7edd5a343c825b8a", func := "haversack/haversacklaw04.LensWrites", spec := "lensWrites", unfollowed := true, recurses := true, named := ["haversack/lens.from", "haversack/lens.wide", "haversack/lens.order"], apart := false, laid := [("haversack/lens.order", laid_haversack_lens_order), ("haversack/lens.wide", laid_haversack_lens_wide), ("haversack/lens.from", laid_haversack_lens_from)] }
def LensWritesSaid : Prop := lensWritesRow.holds Tryd.pinned (OpenSpec.ofChange lensWritesSpec)

/-- ITS FALSE NEIGHBOUR: 'it returns false'. Refute it at one input. -/
def lensWritesWrong : ChangeSpec := { name := "lensWrites", fn := fun _ => fun
  | [d1, d2, d3] => { results := [.lit (.bool false)], args := [d1, d2, d3] }
  | _ => none }
def LensWritesWrongFalsely : Prop := lensWritesRow.holds Tryd.pinned (OpenSpec.ofChange lensWritesWrong)

/- THE SECOND FORM. 'bulk': how many values and letters a reading holds, each counted each time it is reached (what is shared counts as often as it is met; a slice's spare places count too). A statement '..UptoSaid' is the law's where the arguments, and the package variables that the reading takes, are together of bulk at most 1048576: NARROWER than '..Said'. Prove '..Said' where nothing that the law and all that it calls make is longer than what came in: it says more and counts as full. Else prove '..UptoSaid'. A law counts once. -/
mutual
def uptoBulk {H : Type} : DataW H → Nat
  | .lit (.string bytes) => bytes.length + 1
  | .lit _ => 1
  | .nil => 1
  | .ptr d => uptoBulk d + 1
  | .slice elems spare => uptoBulkAll elems + uptoBulkAll spare + 1
  | .agg parts => uptoBulkAll parts + 1
  | .iface _ d => uptoBulk d + 1
  | .map entries => uptoBulkEntries entries + 1
  | .held _ => 1
def uptoBulkAll {H : Type} : List (DataW H) → Nat
  | [] => 0
  | d :: r => uptoBulk d + uptoBulkAll r
def uptoBulkEntries {H : Type} : List (Lit × DataW H) → Nat
  | [] => 0
  | x :: r => uptoBulkEntry x + uptoBulkEntries r
def uptoBulkEntry {H : Type} : Lit × DataW H → Nat
  | (.string bytes, d) => bytes.length + uptoBulk d + 1
  | (_, d) => uptoBulk d + 1
 end
def uptoSmall : (H : Type) → List (DataW H) → Bool := fun _ ds => decide (uptoBulkAll ds ≤ 1048576)
def OpenSpec.upto (s : _root_.Go.ChangeSpec) : _root_.Go.OpenSpec := { _root_.Go.OpenSpec.ofChange s with cond := some uptoSmall }

/-- 'haversacklaw04.LensPacks', WHERE WHAT IT READS IS OF BULK AT MOST 1048576: true; the input reads as it did. -/
def lensPacksUptoRow : OpenClaim := { program := "ytcblibefmclloaadoor", sum := "5b5bc609ecb411d82dca99ea56cdd8a3cedbc0cccb37bebd7edd5a343c825b8a", func := "haversack/haversacklaw04.LensPacks", spec := "lensPacks", unfollowed := true, recurses := true, named := ["haversack/lens.from", "haversack/lens.wide", "haversack/lens.order"], apart := false, laid := [("haversack/lens.order", laid_haversack_lens_order), ("haversack/lens.wide", laid_haversack_lens_wide), ("haversack/lens.from", laid_haversack_lens_from)], narrowed := true }
def LensPacksUptoSaid : Prop := lensPacksUptoRow.holds Tryd.pinned (OpenSpec.upto lensPacksSpec)

/-- 'haversacklaw04.LensUnpacks', WHERE WHAT IT READS IS OF BULK AT MOST 1048576: true; the input reads as it did. -/
def lensUnpacksUptoRow : OpenClaim := { program := "ytcblibefmclloaadoor", sum := "5b5bc609ecb411d82dca99ea56cdd8a3cedbc0cccb37bebd7edd5a343c825b8a", func := "haversack/haversacklaw04.LensUnpacks", spec := "lensUnpacks", unfollowed := true, recurses := true, named := ["haversack/lens.from", "haversack/lens.wide", "haversack/lens.order"], apart := false, laid := [("haversack/lens.order", laid_haversack_lens_order), ("haversack/lens.wide", laid_haversack_lens_wide), ("haversack/lens.from", laid_haversack_lens_from)], narrowed := true }
def LensUnpacksUptoSaid : Prop := lensUnpacksUptoRow.holds Tryd.pinned (OpenSpec.upto lensUnpacksSpec)

/-- 'haversacklaw04.LensReads', WHERE WHAT IT READS IS OF BULK AT MOST 1048576: true; the input reads as it did. -/
def lensReadsUptoRow : OpenClaim := { program := "ytcblibefmclloaadoor", sum := "5b5bc609ecb411d82dca99ea56cdd8a3cedbc0cccb37bebd7edd5a343c825b8a", func := "haversack/haversacklaw04.LensReads", spec := "lensReads", unfollowed := true, recurses := true, named := ["haversack/lens.from", "haversack/lens.wide", "haversack/lens.order"], apart := false, laid := [("haversack/lens.order", laid_haversack_lens_order), ("haversack/lens.wide", laid_haversack_lens_wide), ("haversack/lens.from", laid_haversack_lens_from)], narrowed := true }
def LensReadsUptoSaid : Prop := lensReadsUptoRow.holds Tryd.pinned (OpenSpec.upto lensReadsSpec)

/-- 'haversacklaw04.LensSteps', WHERE WHAT IT READS IS OF BULK AT MOST 1048576: true; the input reads as it did. -/
def lensStepsUptoRow : OpenClaim := { program := "ytcblibefmclloaadoor", sum := "5b5bc609ecb411d82dca99ea56cdd8a3cedbc0cccb37bebd7edd5a343c825b8a", func := "haversack/haversacklaw04.LensSteps", spec := "lensSteps", unfollowed := true, recurses := true, named := ["haversack/lens.from", "haversack/lens.wide", "haversack/lens.order"], apart := false, laid := [("haversack/lens.order", laid_haversack_lens_order), ("haversack/lens.wide", laid_haversack_lens_wide), ("haversack/lens.from", laid_haversack_lens_from)], narrowed := true }
def LensStepsUptoSaid : Prop := lensStepsUptoRow.holds Tryd.pinned (OpenSpec.upto lensStepsSpec)

/-- 'haversacklaw05.InflateAll', WHERE WHAT IT READS IS OF BULK AT MOST 1048576: true; the input reads as it did. -/
def inflateAllUptoRow : OpenClaim := { program := "ytcblibefmclloaadoor", sum := "5b5bc609ecb411d82dca99ea56cdd8a3cedbc0cccb37bebd7edd5a343c825b8a", func := "haversack/haversacklaw05.InflateAll", spec := "inflateAll", unfollowed := true, recurses := true, named := ["haversack/lens.order", "haversack/lens.wide", "haversack/lens.from"], apart := false, laid := [("haversack/lens.order", laid_haversack_lens_order), ("haversack/lens.wide", laid_haversack_lens_wide), ("haversack/lens.from", laid_haversack_lens_from)], narrowed := true }
def InflateAllUptoSaid : Prop := inflateAllUptoRow.holds Tryd.pinned (OpenSpec.upto inflateAllSpec)

/-- 'haversacklaw05.InflateStreams', WHERE WHAT IT READS IS OF BULK AT MOST 1048576: true; the input reads as it did. -/
def inflateStreamsUptoRow : OpenClaim := { program := "ytcblibefmclloaadoor", sum := "5b5bc609ecb411d82dca99ea56cdd8a3cedbc0cccb37bebd7edd5a343c825b8a", func := "haversack/haversacklaw05.InflateStreams", spec := "inflateStreams", unfollowed := true, recurses := true, named := ["haversack/lens.order", "haversack/lens.wide", "haversack/lens.from"], apart := false, laid := [("haversack/lens.order", laid_haversack_lens_order), ("haversack/lens.wide", laid_haversack_lens_wide), ("haversack/lens.from", laid_haversack_lens_from)], narrowed := true }
def InflateStreamsUptoSaid : Prop := inflateStreamsUptoRow.holds Tryd.pinned (OpenSpec.upto inflateStreamsSpec)

/-- 'haversacklaw05.InflateParts', WHERE WHAT IT READS IS OF BULK AT MOST 1048576: true; the input reads as it did. -/
def inflatePartsUptoRow : OpenClaim := { program := "ytcblibefmclloaadoor", sum := "5b5bc609ecb411d82dca99ea56cdd8a3cedbc0cccb37bebd7edd5a343c825b8a", func := "haversack/haversacklaw05.InflateParts", spec := "inflateParts", unfollowed := true, recurses := true, named := ["haversack/lens.order", "haversack/lens.wide", "haversack/lens.from"], apart := false, laid := [("haversack/lens.order", laid_haversack_lens_order), ("haversack/lens.wide", laid_haversack_lens_wide), ("haversack/lens.from", laid_haversack_lens_from)], narrowed := true }
def InflatePartsUptoSaid : Prop := inflatePartsUptoRow.holds Tryd.pinned (OpenSpec.upto inflatePartsSpec)

/-- 'haversacklaw05.InflateBehind', WHERE WHAT IT READS IS OF BULK AT MOST 1048576: true; the input reads as it did. -/
def inflateBehindUptoRow : OpenClaim := { program := "ytcblibefmclloaadoor", sum := "5b5bc609ecb411d82dca99ea56cdd8a3cedbc0cccb37bebd7edd5a343c825b8a", func := "haversack/haversacklaw05.InflateBehind", spec := "inflateBehind", unfollowed := true, recurses := true, named := ["haversack/lens.order", "haversack/lens.wide", "haversack/lens.from"], apart := false, laid := [("haversack/lens.order", laid_haversack_lens_order), ("haversack/lens.wide", laid_haversack_lens_wide), ("haversack/lens.from", laid_haversack_lens_from)], narrowed := true }
def InflateBehindUptoSaid : Prop := inflateBehindUptoRow.holds Tryd.pinned (OpenSpec.upto inflateBehindSpec)

/-- 'haversacklaw05.InflateNil', WHERE WHAT IT READS IS OF BULK AT MOST 1048576: true; the input reads as it did. -/
def inflateNilUptoRow : OpenClaim := { program := "ytcblibefmclloaadoor", sum := "5b5bc609ecb411d82dca99ea56cdd8a3cedbc0cccb37bebd7edd5a343c825b8a", func := "haversack/haversacklaw05.InflateNil", spec := "inflateNil", unfollowed := true, recurses := true, named := ["haversack/lens.order", "haversack/lens.wide", "haversack/lens.from"], apart := false, laid := [("haversack/lens.order", laid_haversack_lens_order), ("haversack/lens.wide", laid_haversack_lens_wide), ("haversack/lens.from", laid_haversack_lens_from)], narrowed := true }
def InflateNilUptoSaid : Prop := inflateNilUptoRow.holds Tryd.pinned (OpenSpec.upto inflateNilSpec)

/-- 'haversacklaw04.LensNil', WHERE WHAT IT READS IS OF BULK AT MOST 1048576: true; the input reads as it did. -/
def lensNilUptoRow : OpenClaim := { program := "ytcblibefmclloaadoor", sum := "5b5bc609ecb411d82dca99ea56cdd8a3cedbc0cccb37bebd7edd5a343c825b8a", func := "haversack/haversacklaw04.LensNil", spec := "lensNil", unfollowed := true, recurses := true, named := ["haversack/lens.from", "haversack/lens.wide", "haversack/lens.order"], apart := false, laid := [("haversack/lens.order", laid_haversack_lens_order), ("haversack/lens.wide", laid_haversack_lens_wide), ("haversack/lens.from", laid_haversack_lens_from)], narrowed := true }
def LensNilUptoSaid : Prop := lensNilUptoRow.holds Tryd.pinned (OpenSpec.upto lensNilSpec)

/-- 'haversacklaw04.LensRound', WHERE WHAT IT READS IS OF BULK AT MOST 1048576: true; the input reads as it did. -/
def lensRoundUptoRow : OpenClaim := { program := "ytcblibefmclloaadoor", sum := "5b5bc609ecb411d82dca99ea56cdd8a3cedbc0cccb37bebd7edd5a343c825b8a", func := "haversack/haversacklaw04.LensRound", spec := "lensRound", unfollowed := true, recurses := true, named := ["haversack/lens.from", "haversack/lens.wide", "haversack/lens.order"], apart := false, laid := [("haversack/lens.order", laid_haversack_lens_order), ("haversack/lens.wide", laid_haversack_lens_wide), ("haversack/lens.from", laid_haversack_lens_from)], narrowed := true }
def LensRoundUptoSaid : Prop := lensRoundUptoRow.holds Tryd.pinned (OpenSpec.upto lensRoundSpec)

/-- 'haversacklaw04.LensWrites', WHERE WHAT IT READS IS OF BULK AT MOST 1048576: true; the input reads as it did. -/
def lensWritesUptoRow : OpenClaim := { program := "ytcblibefmclloaadoor", sum := "5b5bc609ecb411d82dca99ea56cdd8a3cedbc0cccb37bebd7edd5a343c825b8a", func := "haversack/haversacklaw04.LensWrites", spec := "lensWrites", unfollowed := true, recurses := true, named := ["haversack/lens.from", "haversack/lens.wide", "haversack/lens.order"], apart := false, laid := [("haversack/lens.order", laid_haversack_lens_order), ("haversack/lens.wide", laid_haversack_lens_wide), ("haversack/lens.from", laid_haversack_lens_from)], narrowed := true }
def LensWritesUptoSaid : Prop := lensWritesUptoRow.holds Tryd.pinned (OpenSpec.upto lensWritesSpec)

end Rows
end Go.Proofs.YtcblibefmclloaaDoor
