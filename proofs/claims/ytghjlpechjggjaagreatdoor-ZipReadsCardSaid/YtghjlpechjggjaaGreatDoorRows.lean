/-
  NARROWER THAN 'FOR EVERY INPUT', by the rows' own cells (each row's printed sentence says how): ZipNames: laid · ZipWrites: laid · ZipCuts: laid · ZipReads: laid · ZipRound: laid · ZipTells: laid.
  DERIVED. THE GIVEN ROWS OF THIS SEAT. 6 by the template 'for every input the law returns true; each argument reads behind the call as it read before'; 0 by the template 'total and deterministic' (their statements: YtghjlpechjggjaaGreatDoorTotals.lean).
  GIVEN WITH THE SEED: the statements are not yours to turn. If you find one false, say at which input.
  Laid BY PROGRAM, IN A SANDBOX (cutbox-rows.mjs): the forced cells as the released guide's own fill.sh prints them over the translation 86e8f9cc4c810c5d… (all of the seat's roots in one cut). By AI agents, Wed Nov 11 2026. No macro, syntax, notation, axiom, sorry.
-/
import Derived.Test.YtghjlpechjggjaaGreatDoorChecked
import GoSem.PinnedTables
import GoSem.Claim
import GoSem.ClaimJoined
import GoSem.ClaimMapViews
import Derived.JoinedTies
import Derived.KernelRfl
namespace Go.Proofs.YtghjlpechjggjaaGreatDoor
/- THE CELL 'sum', in the pinned program and in every row, IS THE sha256 OF THE DUMP (.gsa) THAT YtghjlpechjggjaaGreatDoorProg.lean LOADS. Nothing in Lean hashes anything: it is a label: what it is worth is what the hold of that sum in a sandbox is worth. -/
noncomputable def Tryz.pinned : Pinned := { name := "ytghjlpechjggjaagreatdoor", sum := "86e8f9cc4c810c5d876ffb4f5ce5c168e3e669b4ce1d1c3b2a240200ec068a66", checked := Tryz.checked }
namespace Rows
def none {H : Type} : Left H := { results := [], args := [] }

/- WHAT THE LISTED PACKAGE-LEVEL VARIABLES READ AS WHEN THE CALL BEGINS. Each datum BY PROGRAM (the guide's laid-datum.mjs) off the statement by which the dump's own 'gosem.cut.vars' lays the variable. In a bare row this is a premise. The card (YtghjlpechjggjaaGreatDoorCards.lean) ties it to the program's text. -/
def laid_unicode_utf8_acceptRanges {H : Type} : DataW H := .agg [.agg [.lit (.int .u8 128), .lit (.int .u8 191)], .agg [.lit (.int .u8 160), .lit (.int .u8 191)], .agg [.lit (.int .u8 128), .lit (.int .u8 159)], .agg [.lit (.int .u8 144), .lit (.int .u8 191)], .agg [.lit (.int .u8 128), .lit (.int .u8 143)], .agg [.lit (.int .u8 0), .lit (.int .u8 0)], .agg [.lit (.int .u8 0), .lit (.int .u8 0)], .agg [.lit (.int .u8 0), .lit (.int .u8 0)], .agg [.lit (.int .u8 0), .lit (.int .u8 0)], .agg [.lit (.int .u8 0), .lit (.int .u8 0)], .agg [.lit (.int .u8 0), .lit (.int .u8 0)], .agg [.lit (.int .u8 0), .lit (.int .u8 0)], .agg [.lit (.int .u8 0), .lit (.int .u8 0)], .agg [.lit (.int .u8 0), .lit (.int .u8 0)], .agg [.lit (.int .u8 0), .lit (.int .u8 0)], .agg [.lit (.int .u8 0), .lit (.int .u8 0)]]
def laid_haversack_lens_order {H : Type} : DataW H := .agg [.lit (.int .i64 16), .lit (.int .i64 17), .lit (.int .i64 18), .lit (.int .i64 0), .lit (.int .i64 8), .lit (.int .i64 7), .lit (.int .i64 9), .lit (.int .i64 6), .lit (.int .i64 10), .lit (.int .i64 5), .lit (.int .i64 11), .lit (.int .i64 4), .lit (.int .i64 12), .lit (.int .i64 3), .lit (.int .i64 13), .lit (.int .i64 2), .lit (.int .i64 14), .lit (.int .i64 1), .lit (.int .i64 15)]
def laid_haversack_lens_wide {H : Type} : DataW H := .agg [.lit (.int .i64 0), .lit (.int .i64 0), .lit (.int .i64 0), .lit (.int .i64 0), .lit (.int .i64 0), .lit (.int .i64 0), .lit (.int .i64 0), .lit (.int .i64 0), .lit (.int .i64 0), .lit (.int .i64 0), .lit (.int .i64 0), .lit (.int .i64 0), .lit (.int .i64 0), .lit (.int .i64 0), .lit (.int .i64 0), .lit (.int .i64 0), .lit (.int .i64 2), .lit (.int .i64 3), .lit (.int .i64 7)]
def laid_haversack_lens_from {H : Type} : DataW H := .agg [.lit (.int .i64 0), .lit (.int .i64 0), .lit (.int .i64 0), .lit (.int .i64 0), .lit (.int .i64 0), .lit (.int .i64 0), .lit (.int .i64 0), .lit (.int .i64 0), .lit (.int .i64 0), .lit (.int .i64 0), .lit (.int .i64 0), .lit (.int .i64 0), .lit (.int .i64 0), .lit (.int .i64 0), .lit (.int .i64 0), .lit (.int .i64 0), .lit (.int .i64 3), .lit (.int .i64 3), .lit (.int .i64 11)]
def laid_haversack_little_steps {H : Type} : DataW H := .agg [.lit (.int .u32 0), .lit (.int .u32 498536548), .lit (.int .u32 997073096), .lit (.int .u32 651767980), .lit (.int .u32 1994146192), .lit (.int .u32 1802195444), .lit (.int .u32 1303535960), .lit (.int .u32 1342533948), .lit (.int .u32 3988292384), .lit (.int .u32 4027552580), .lit (.int .u32 3604390888), .lit (.int .u32 3412177804), .lit (.int .u32 2607071920), .lit (.int .u32 2262029012), .lit (.int .u32 2685067896), .lit (.int .u32 3183342108)]
/-- One of Go's own tables, pinned by name: the form's constant. -/
def laid_unicode_utf8_first : DataW Unit := Go.Pinned.utf8First

/-- 'haversacklaw08.ZipNames': WHATEVER THE INPUT: true; the input reads as it did. -/
def zipNamesSpec : ChangeSpec := { name := "zipNames", fn := fun _ => fun
  | [d] => { results := [.lit (.bool true)], args := [d] }
  | _ => none }
def zipNamesRow : OpenClaim := { program := "ytghjlpechjggjaagreatdoor", sum := "86e8f9cc4c810c5d876ffb4f5ce5c168e3e669b4ce1d1c3b2a240200ec068a66", func := "haversack/haversacklaw08.ZipNames", spec := "zipNames", inPlace := ["internal/bytealg.IndexByteString", "internal/bytealg.IndexString"], unfollowed := true, recurses := true, named := ["unicode/utf8.first", "unicode/utf8.acceptRanges", "internal/bytealg.MaxLen", "haversack/lens.order", "haversack/lens.wide", "haversack/lens.from", "haversack/little.steps"], apart := false, laid := [("unicode/utf8.acceptRanges", laid_unicode_utf8_acceptRanges), ("haversack/lens.order", laid_haversack_lens_order), ("haversack/lens.wide", laid_haversack_lens_wide), ("haversack/lens.from", laid_haversack_lens_from), ("haversack/little.steps", laid_haversack_little_steps), ("unicode/utf8.first", laid_unicode_utf8_first)] }
def ZipNamesSaid : Prop := zipNamesRow.holds Tryz.pinned (OpenSpec.ofChange zipNamesSpec)

/-- ITS FALSE NEIGHBOUR: 'it returns false'. Refute it at one input. -/
def zipNamesWrong : ChangeSpec := { name := "zipNames", fn := fun _ => fun
  | [d] => { results := [.lit (.bool false)], args := [d] }
  | _ => none }
def ZipNamesWrongFalsely : Prop := zipNamesRow.holds Tryz.pinned (OpenSpec.ofChange zipNamesWrong)

/-- 'haversacklaw08.ZipWrites': WHATEVER THE INPUT: true; the input reads as it did. -/
def zipWritesSpec : ChangeSpec := { name := "zipWrites", fn := fun _ => fun
  | [d] => { results := [.lit (.bool true)], args := [d] }
  | _ => none }
def zipWritesRow : OpenClaim := { program := "ytghjlpechjggjaagreatdoor", sum := "86e8f9cc4c810c5d876ffb4f5ce5c168e3e669b4ce1d1c3b2a240200ec068a66", func := "haversack/haversacklaw08.ZipWrites", spec := "zipWrites", inPlace := ["internal/bytealg.IndexByteString", "internal/bytealg.IndexString"], unfollowed := true, recurses := true, named := ["unicode/utf8.first", "unicode/utf8.acceptRanges", "internal/bytealg.MaxLen", "haversack/lens.order", "haversack/lens.wide", "haversack/lens.from", "haversack/little.steps"], apart := false, laid := [("unicode/utf8.acceptRanges", laid_unicode_utf8_acceptRanges), ("haversack/lens.order", laid_haversack_lens_order), ("haversack/lens.wide", laid_haversack_lens_wide), ("haversack/lens.from", laid_haversack_lens_from), ("haversack/little.steps", laid_haversack_little_steps), ("unicode/utf8.first", laid_unicode_utf8_first)] }
def ZipWritesSaid : Prop := zipWritesRow.holds Tryz.pinned (OpenSpec.ofChange zipWritesSpec)

/-- ITS FALSE NEIGHBOUR: 'it returns false'. Refute it at one input. -/
def zipWritesWrong : ChangeSpec := { name := "zipWrites", fn := fun _ => fun
  | [d] => { results := [.lit (.bool false)], args := [d] }
  | _ => none }
def ZipWritesWrongFalsely : Prop := zipWritesRow.holds Tryz.pinned (OpenSpec.ofChange zipWritesWrong)

/-- 'haversacklaw08.ZipCuts': WHATEVER THE INPUT: true; the input reads as it did. -/
def zipCutsSpec : ChangeSpec := { name := "zipCuts", fn := fun _ => fun
  | [d1, d2] => { results := [.lit (.bool true)], args := [d1, d2] }
  | _ => none }
def zipCutsRow : OpenClaim := { program := "ytghjlpechjggjaagreatdoor", sum := "86e8f9cc4c810c5d876ffb4f5ce5c168e3e669b4ce1d1c3b2a240200ec068a66", func := "haversack/haversacklaw08.ZipCuts", spec := "zipCuts", inPlace := ["internal/bytealg.IndexByteString", "internal/bytealg.IndexString"], unfollowed := true, recurses := true, named := ["unicode/utf8.first", "unicode/utf8.acceptRanges", "internal/bytealg.MaxLen", "haversack/lens.order", "haversack/lens.wide", "haversack/lens.from", "haversack/little.steps"], apart := false, laid := [("unicode/utf8.acceptRanges", laid_unicode_utf8_acceptRanges), ("haversack/lens.order", laid_haversack_lens_order), ("haversack/lens.wide", laid_haversack_lens_wide), ("haversack/lens.from", laid_haversack_lens_from), ("haversack/little.steps", laid_haversack_little_steps), ("unicode/utf8.first", laid_unicode_utf8_first)] }
def ZipCutsSaid : Prop := zipCutsRow.holds Tryz.pinned (OpenSpec.ofChange zipCutsSpec)

/-- ITS FALSE NEIGHBOUR: 'it returns false'. Refute it at one input. -/
def zipCutsWrong : ChangeSpec := { name := "zipCuts", fn := fun _ => fun
  | [d1, d2] => { results := [.lit (.bool false)], args := [d1, d2] }
  | _ => none }
def ZipCutsWrongFalsely : Prop := zipCutsRow.holds Tryz.pinned (OpenSpec.ofChange zipCutsWrong)

/-- 'haversacklaw08.ZipReads': WHATEVER THE INPUT: true; the input reads as it did. -/
def zipReadsSpec : ChangeSpec := { name := "zipReads", fn := fun _ => fun
  | [d1, d2] => { results := [.lit (.bool true)], args := [d1, d2] }
  | _ => none }
def zipReadsRow : OpenClaim := { program := "ytghjlpechjggjaagreatdoor", sum := "86e8f9cc4c810c5d876ffb4f5ce5c168e3e669b4ce1d1c3b2a240200ec068a66", func := "haversack/haversacklaw08.ZipReads", spec := "zipReads", inPlace := ["internal/bytealg.IndexByteString", "internal/bytealg.IndexString"], unfollowed := true, recurses := true, named := ["unicode/utf8.first", "unicode/utf8.acceptRanges", "internal/bytealg.MaxLen", "haversack/lens.order", "haversack/lens.wide", "haversack/lens.from", "haversack/little.steps"], apart := false, laid := [("unicode/utf8.acceptRanges", laid_unicode_utf8_acceptRanges), ("haversack/lens.order", laid_haversack_lens_order), ("haversack/lens.wide", laid_haversack_lens_wide), ("haversack/lens.from", laid_haversack_lens_from), ("haversack/little.steps", laid_haversack_little_steps), ("unicode/utf8.first", laid_unicode_utf8_first)] }
def ZipReadsSaid : Prop := zipReadsRow.holds Tryz.pinned (OpenSpec.ofChange zipReadsSpec)

/-- ITS FALSE NEIGHBOUR: 'it returns false'. Refute it at one input. -/
def zipReadsWrong : ChangeSpec := { name := "zipReads", fn := fun _ => fun
  | [d1, d2] => { results := [.lit (.bool false)], args := [d1, d2] }
  | _ => none }
def ZipReadsWrongFalsely : Prop := zipReadsRow.holds Tryz.pinned (OpenSpec.ofChange zipReadsWrong)

/-- 'haversacklaw08.ZipRound': WHATEVER THE INPUT: true; the input reads as it did. -/
def zipRoundSpec : ChangeSpec := { name := "zipRound", fn := fun _ => fun
  | [d] => { results := [.lit (.bool true)], args := [d] }
  | _ => none }
def zipRoundRow : OpenClaim := { program := "ytghjlpechjggjaagreatdoor", sum := "86e8f9cc4c810c5d876ffb4f5ce5c168e3e669b4ce1d1c3b2a240200ec068a66", func := "haversack/haversacklaw08.ZipRound", spec := "zipRound", inPlace := ["internal/bytealg.IndexByteString", "internal/bytealg.IndexString"], unfollowed := true, recurses := true, named := ["unicode/utf8.first", "unicode/utf8.acceptRanges", "internal/bytealg.MaxLen", "haversack/lens.order", "haversack/lens.wide", "haversack/lens.from", "haversack/little.steps"], apart := false, laid := [("unicode/utf8.acceptRanges", laid_unicode_utf8_acceptRanges), ("haversack/lens.order", laid_haversack_lens_order), ("haversack/lens.wide", laid_haversack_lens_wide), ("haversack/lens.from", laid_haversack_lens_from), ("haversack/little.steps", laid_haversack_little_steps), ("unicode/utf8.first", laid_unicode_utf8_first)] }
def ZipRoundSaid : Prop := zipRoundRow.holds Tryz.pinned (OpenSpec.ofChange zipRoundSpec)

/-- ITS FALSE NEIGHBOUR: 'it returns false'. Refute it at one input. -/
def zipRoundWrong : ChangeSpec := { name := "zipRound", fn := fun _ => fun
  | [d] => { results := [.lit (.bool false)], args := [d] }
  | _ => none }
def ZipRoundWrongFalsely : Prop := zipRoundRow.holds Tryz.pinned (OpenSpec.ofChange zipRoundWrong)

/-- 'haversacklaw08.ZipTells': WHATEVER THE INPUT: true; the input reads as it did. -/
def zipTellsSpec : ChangeSpec := { name := "zipTells", fn := fun _ => fun
  | [d1, d2, d3] => { results := [.lit (.bool true)], args := [d1, d2, d3] }
  | _ => none }
def zipTellsRow : OpenClaim := { program := "ytghjlpechjggjaagreatdoor", sum := "86e8f9cc4c810c5d876ffb4f5ce5c168e3e669b4ce1d1c3b2a240200ec068a66", func := "haversack/haversacklaw08.ZipTells", spec := "zipTells", inPlace := ["internal/bytealg.IndexByteString", "internal/bytealg.IndexString"], unfollowed := true, recurses := true, named := ["unicode/utf8.first", "unicode/utf8.acceptRanges", "internal/bytealg.MaxLen", "haversack/lens.order", "haversack/lens.wide", "haversack/lens.from", "haversack/little.steps"], apart := false, laid := [("unicode/utf8.acceptRanges", laid_unicode_utf8_acceptRanges), ("haversack/lens.order", laid_haversack_lens_order), ("haversack/lens.wide", laid_haversack_lens_wide), ("haversack/lens.from", laid_haversack_lens_from), ("haversack/little.steps", laid_haversack_little_steps), ("unicode/utf8.first", laid_unicode_utf8_first)] }
def ZipTellsSaid : Prop := zipTellsRow.holds Tryz.pinned (OpenSpec.ofChange zipTellsSpec)

/-- ITS FALSE NEIGHBOUR: 'it returns false'. Refute it at one input. -/
def zipTellsWrong : ChangeSpec := { name := "zipTells", fn := fun _ => fun
  | [d1, d2, d3] => { results := [.lit (.bool false)], args := [d1, d2, d3] }
  | _ => none }
def ZipTellsWrongFalsely : Prop := zipTellsRow.holds Tryz.pinned (OpenSpec.ofChange zipTellsWrong)

/- THE SECOND FORM. 'bulk': how many values and letters a reading holds, each counted each time it is reached (what is shared counts as often as it is met; a slice's spare places count too). A statement '..UptoSaid' is the law's where the arguments, and the package variables that the reading takes, are together of bulk at most 1048576: NARROWER than '..Said'. Prove '..Said' where nothing that the law and all that it calls make is longer than what came in: it says more and counts as full. Else prove '..UptoSaid'. A law counts once. -/
mutual
def uptoBulk {H : Type} : DataW H → Nat
  | .lit (.string bytes) => bytes.length + 1
  | .lit _ => 1
  | .nil => 1
  | .ptr d => uptoBulk d + 1
  | .slice elems spare => uptoBulkAll elems + uptoBulkAll spare + 1
  | .agg parts => uptoBulkAll parts + 1
  | .iface _ d => uptoBulk d + 1
  | .map entries => uptoBulkEntries entries + 1
  | .held _ => 1
def uptoBulkAll {H : Type} : List (DataW H) → Nat
  | [] => 0
  | d :: r => uptoBulk d + uptoBulkAll r
def uptoBulkEntries {H : Type} : List (Lit × DataW H) → Nat
  | [] => 0
  | x :: r => uptoBulkEntry x + uptoBulkEntries r
def uptoBulkEntry {H : Type} : Lit × DataW H → Nat
  | (.string bytes, d) => bytes.length + uptoBulk d + 1
  | (_, d) => uptoBulk d + 1
 end
def uptoSmall : (H : Type) → List (DataW H) → Bool := fun _ ds => decide (uptoBulkAll ds ≤ 1048576)
def OpenSpec.upto (s : _root_.Go.ChangeSpec) : _root_.Go.OpenSpec := { _root_.Go.OpenSpec.ofChange s with cond := some uptoSmall }

/-- 'haversacklaw08.ZipNames', WHERE WHAT IT READS IS OF BULK AT MOST 1048576: true; the input reads as it did. -/
def zipNamesUptoRow : OpenClaim := { program := "ytghjlpechjggjaagreatdoor", sum := "86e8f9cc4c810c5d876ffb4f5ce5c168e3e669b4ce1d1c3b2a240200ec068a66", func := "haversack/haversacklaw08.ZipNames", spec := "zipNames", inPlace := ["internal/bytealg.IndexByteString", "internal/bytealg.IndexString"], unfollowed := true, recurses := true, named := ["unicode/utf8.first", "unicode/utf8.acceptRanges", "internal/bytealg.MaxLen", "haversack/lens.order", "haversack/lens.wide", "haversack/lens.from", "haversack/little.steps"], apart := false, laid := [("unicode/utf8.acceptRanges", laid_unicode_utf8_acceptRanges), ("haversack/lens.order", laid_haversack_lens_order), ("haversack/lens.wide", laid_haversack_lens_wide), ("haversack/lens.from", laid_haversack_lens_from), ("haversack/little.steps", laid_haversack_little_steps), ("unicode/utf8.first", laid_unicode_utf8_first)], narrowed := true }
def ZipNamesUptoSaid : Prop := zipNamesUptoRow.holds Tryz.pinned (OpenSpec.upto zipNamesSpec)

/-- 'haversacklaw08.ZipWrites', WHERE WHAT IT READS IS OF BULK AT MOST 1048576: true; the input reads as it did. -/
def zipWritesUptoRow : OpenClaim := { program := "ytghjlpechjggjaagreatdoor", sum := "86e8f9cc4c810c5d876ffb4f5ce5c168e3e669b4ce1d1c3b2a240200ec068a66", func := "haversack/haversacklaw08.ZipWrites", spec := "zipWrites", inPlace := ["internal/bytealg.IndexByteString", "internal/bytealg.IndexString"], unfollowed := true, recurses := true, named := ["unicode/utf8.first", "unicode/utf8.acceptRanges", "internal/bytealg.MaxLen", "haversack/lens.order", "haversack/lens.wide", "haversack/lens.from", "haversack/little.steps"], apart := false, laid := [("unicode/utf8.acceptRanges", laid_unicode_utf8_acceptRanges), ("haversack/lens.order", laid_haversack_lens_order), ("haversack/lens.wide", laid_haversack_lens_wide), ("haversack/lens.from", laid_haversack_lens_from), ("haversack/little.steps", laid_haversack_little_steps), ("unicode/utf8.first", laid_unicode_utf8_first)], narrowed := true }
def ZipWritesUptoSaid : Prop := zipWritesUptoRow.holds Tryz.pinned (OpenSpec.upto zipWritesSpec)

/-- 'haversacklaw08.ZipCuts', WHERE WHAT IT READS IS OF BULK AT MOST 1048576: true; the input reads as it did. -/
def zipCutsUptoRow : OpenClaim := { program := "ytghjlpechjggjaagreatdoor", sum := "86e8f9cc4c810c5d876ffb4f5ce5c168e3e669b4ce1d1c3b2a240200ec068a66", func := "haversack/haversacklaw08.ZipCuts", spec := "zipCuts", inPlace := ["internal/bytealg.IndexByteString", "internal/bytealg.IndexString"], unfollowed := true, recurses := true, named := ["unicode/utf8.first", "unicode/utf8.acceptRanges", "internal/bytealg.MaxLen", "haversack/lens.order", "haversack/lens.wide", "haversack/lens.from", "haversack/little.steps"], apart := false, laid := [("unicode/utf8.acceptRanges", laid_unicode_utf8_acceptRanges), ("haversack/lens.order", laid_haversack_lens_order), ("haversack/lens.wide", laid_haversack_lens_wide), ("haversack/lens.from", laid_haversack_lens_from), ("haversack/little.steps", laid_haversack_little_steps), ("unicode/utf8.first", laid_unicode_utf8_first)], narrowed := true }
def ZipCutsUptoSaid : Prop := zipCutsUptoRow.holds Tryz.pinned (OpenSpec.upto zipCutsSpec)

/-- 'haversacklaw08.ZipReads', WHERE WHAT IT READS IS OF BULK AT MOST 1048576: true; the input reads as it did. -/
def zipReadsUptoRow : OpenClaim := { program := "ytghjlpechjggjaagreatdoor", sum := "86e8f9cc4c810c5d876ffb4f5ce5c168e3e669b4ce1d1c3b2a240200ec068a66", func := "haversack/haversacklaw08.ZipReads", spec := "zipReads", inPlace := ["internal/bytealg.IndexByteString", "internal/bytealg.IndexString"], unfollowed := true, recurses := true, named := ["unicode/utf8.first", "unicode/utf8.acceptRanges", "internal/bytealg.MaxLen", "haversack/lens.order", "haversack/lens.wide", "haversack/lens.from", "haversack/little.steps"], apart := false, laid := [("unicode/utf8.acceptRanges", laid_unicode_utf8_acceptRanges), ("haversack/lens.order", laid_haversack_lens_order), ("haversack/lens.wide", laid_haversack_lens_wide), ("haversack/lens.from", laid_haversack_lens_from), ("haversack/little.steps", laid_haversack_little_steps), ("unicode/utf8.first", laid_unicode_utf8_first)], narrowed := true }
def ZipReadsUptoSaid : Prop := zipReadsUptoRow.holds Tryz.pinned (OpenSpec.upto zipReadsSpec)

/-- 'haversacklaw08.ZipRound', WHERE WHAT IT READS IS OF BULK AT MOST 1048576: true; the input reads as it did. -/
def zipRoundUptoRow : OpenClaim := { program := "ytghjlpechjggjaagreatdoor", sum := "86e8f9cc4c810c5d876ffb4f5ce5c168e3e669b4ce1d1c3b2a240200ec068a66", func := "haversack/haversacklaw08.ZipRound", spec := "zipRound", inPlace := ["internal/bytealg.IndexByteString", "internal/bytealg.IndexString"], unfollowed := true, recurses := true, named := ["unicode/utf8.first", "unicode/utf8.acceptRanges", "internal/bytealg.MaxLen", "haversack/lens.order", "haversack/lens.wide", "haversack/lens.from", "haversack/little.steps"], apart := false, laid := [("unicode/utf8.acceptRanges", laid_unicode_utf8_acceptRanges), ("haversack/lens.order", laid_haversack_lens_order), ("haversack/lens.wide", laid_haversack_lens_wide), ("haversack/lens.from", laid_haversack_lens_from), ("haversack/little.steps", laid_haversack_little_steps), ("unicode/utf8.first", laid_unicode_utf8_first)], narrowed := true }
def ZipRoundUptoSaid : Prop := zipRoundUptoRow.holds Tryz.pinned (OpenSpec.upto zipRoundSpec)

/-- 'haversacklaw08.ZipTells', WHERE WHAT IT READS IS OF BULK AT MOST 1048576: true; the input reads as it did. -/
def zipTellsUptoRow : OpenClaim := { program := "ytghjlpechjggjaagreatdoor", sum := "86e8f9cc4c810c5d876ffb4f5ce5c168e3e669b4ce1d1c3b2a240200ec068a66", func := "haversack/haversacklaw08.ZipTells", spec := "zipTells", inPlace := ["internal/bytealg.IndexByteString", "internal/bytealg.IndexString"], unfollowed := true, recurses := true, named := ["unicode/utf8.first", "unicode/utf8.acceptRanges", "internal/bytealg.MaxLen", "haversack/lens.order", "haversack/lens.wide", "haversack/lens.from", "haversack/little.steps"], apart := false, laid := [("unicode/utf8.acceptRanges", laid_unicode_utf8_acceptRanges), ("haversack/lens.order", laid_haversack_lens_order), ("haversack/lens.wide", laid_haversack_lens_wide), ("haversack/lens.from", laid_haversack_lens_from), ("haversack/little.steps", laid_haversack_little_steps), ("unicode/utf8.first", laid_unicode_utf8_first)], narrowed := true }
def ZipTellsUptoSaid : Prop := zipTellsUptoRow.holds Tryz.pinned (OpenSpec.upto zipTellsSpec)

end Rows
end Go.Proofs.YtghjlpechjggjaaGreatDoor
