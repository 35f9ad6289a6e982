/-
  No cell of these rows narrows 'for every input' (looked for: loops, veiled, ifaces, maps, wideKeys, modest, calm, conditions, laid).
  DERIVED. THE GIVEN ROWS OF THIS SEAT. 6 by the template 'for every input the law returns true; each argument reads behind the call as it read before'; 0 by the template 'total and deterministic' (their statements: YtcblibefmclloaaTotals.lean).
  GIVEN WITH THE SEED: the statements are not yours to turn. If you find one false, say at which input.
  Laid BY PROGRAM, IN A SANDBOX (cutbox-rows.mjs): the forced cells as the released guide's own fill.sh prints them over the translation dfa0362136d1edb4… (all of the seat's roots in one cut). By AI agents, Wed Nov 11 2026. No macro, syntax, notation, axiom, sorry.
-/
import Derived.Test.YtcblibefmclloaaChecked
import GoSem.Claim
import GoSem.ClaimJoined
import GoSem.ClaimMapViews
import Derived.JoinedTies
import Derived.KernelRfl
namespace Go.Proofs.Ytcblibefmclloaa
/- THE CELL 'sum', in the pinned program and in every row, IS THE sha256 OF THE DUMP (.gsa) THAT YtcblibefmclloaaProg.lean LOADS. Nothing in Lean hashes anything: it is a label: what it is worth is what the hold of that sum in a sandbox is worth. -/
noncomputable def Try.pinned : Pinned := { name := "ytcblibefmclloaa", sum := "dfa0362136d1edb48ba5e9a0a65212abd7e5f056b182a98296082ec0cb148d8f", checked := Try.checked }
namespace Rows
def none {H : Type} : Left H := { results := [], args := [] }

/-- 'haversacklaw03.HuffCodes': WHATEVER THE INPUT: true; the input reads as it did. -/
def huffCodesSpec : ChangeSpec := { name := "huffCodes", fn := fun _ => fun
  | [d] => { results := [.lit (.bool true)], args := [d] }
  | _ => none }
def huffCodesRow : OpenClaim := { program := "ytcblibefmclloaa", sum := "dfa0362136d1edb48ba5e9a0a65212abd7e5f056b182a98296082ec0cb148d8f", func := "haversack/haversacklaw03.HuffCodes", spec := "huffCodes", unfollowed := true, recurses := true, apart := false }
def HuffCodesSaid : Prop := huffCodesRow.holds Try.pinned (OpenSpec.ofChange huffCodesSpec)

/-- ITS FALSE NEIGHBOUR: 'it returns false'. Refute it at one input. -/
def huffCodesWrong : ChangeSpec := { name := "huffCodes", fn := fun _ => fun
  | [d] => { results := [.lit (.bool false)], args := [d] }
  | _ => none }
def HuffCodesWrongFalsely : Prop := huffCodesRow.holds Try.pinned (OpenSpec.ofChange huffCodesWrong)

/-- 'haversacklaw03.HuffLimits': WHATEVER THE INPUT: true; the input reads as it did. -/
def huffLimitsSpec : ChangeSpec := { name := "huffLimits", fn := fun _ => fun
  | [d1, d2] => { results := [.lit (.bool true)], args := [d1, d2] }
  | _ => none }
def huffLimitsRow : OpenClaim := { program := "ytcblibefmclloaa", sum := "dfa0362136d1edb48ba5e9a0a65212abd7e5f056b182a98296082ec0cb148d8f", func := "haversack/haversacklaw03.HuffLimits", spec := "huffLimits", unfollowed := true, recurses := true, apart := false }
def HuffLimitsSaid : Prop := huffLimitsRow.holds Try.pinned (OpenSpec.ofChange huffLimitsSpec)

/-- ITS FALSE NEIGHBOUR: 'it returns false'. Refute it at one input. -/
def huffLimitsWrong : ChangeSpec := { name := "huffLimits", fn := fun _ => fun
  | [d1, d2] => { results := [.lit (.bool false)], args := [d1, d2] }
  | _ => none }
def HuffLimitsWrongFalsely : Prop := huffLimitsRow.holds Try.pinned (OpenSpec.ofChange huffLimitsWrong)

/-- 'haversacklaw03.HuffFair': WHATEVER THE INPUT: true; the input reads as it did. -/
def huffFairSpec : ChangeSpec := { name := "huffFair", fn := fun _ => fun
  | [d1, d2] => { results := [.lit (.bool true)], args := [d1, d2] }
  | _ => none }
def huffFairRow : OpenClaim := { program := "ytcblibefmclloaa", sum := "dfa0362136d1edb48ba5e9a0a65212abd7e5f056b182a98296082ec0cb148d8f", func := "haversack/haversacklaw03.HuffFair", spec := "huffFair", unfollowed := true, recurses := true, apart := false }
def HuffFairSaid : Prop := huffFairRow.holds Try.pinned (OpenSpec.ofChange huffFairSpec)

/-- ITS FALSE NEIGHBOUR: 'it returns false'. Refute it at one input. -/
def huffFairWrong : ChangeSpec := { name := "huffFair", fn := fun _ => fun
  | [d1, d2] => { results := [.lit (.bool false)], args := [d1, d2] }
  | _ => none }
def HuffFairWrongFalsely : Prop := huffFairRow.holds Try.pinned (OpenSpec.ofChange huffFairWrong)

/-- 'haversacklaw03.HuffNexts': WHATEVER THE INPUT: true; the input reads as it did. -/
def huffNextsSpec : ChangeSpec := { name := "huffNexts", fn := fun _ => fun
  | [d1, d2] => { results := [.lit (.bool true)], args := [d1, d2] }
  | _ => none }
def huffNextsRow : OpenClaim := { program := "ytcblibefmclloaa", sum := "dfa0362136d1edb48ba5e9a0a65212abd7e5f056b182a98296082ec0cb148d8f", func := "haversack/haversacklaw03.HuffNexts", spec := "huffNexts", unfollowed := true, recurses := true, apart := false }
def HuffNextsSaid : Prop := huffNextsRow.holds Try.pinned (OpenSpec.ofChange huffNextsSpec)

/-- ITS FALSE NEIGHBOUR: 'it returns false'. Refute it at one input. -/
def huffNextsWrong : ChangeSpec := { name := "huffNexts", fn := fun _ => fun
  | [d1, d2] => { results := [.lit (.bool false)], args := [d1, d2] }
  | _ => none }
def HuffNextsWrongFalsely : Prop := huffNextsRow.holds Try.pinned (OpenSpec.ofChange huffNextsWrong)

/-- 'haversacklaw03.HuffNil': WHATEVER THE INPUT: true; the input reads as it did. -/
def huffNilSpec : ChangeSpec := { name := "huffNil", fn := fun _ => fun
  | [d] => { results := [.lit (.bool true)], args := [d] }
  | _ => none }
def huffNilRow : OpenClaim := { program := "ytcblibefmclloaa", sum := "dfa0362136d1edb48ba5e9a0a65212abd7e5f056b182a98296082ec0cb148d8f", func := "haversack/haversacklaw03.HuffNil", spec := "huffNil", unfollowed := true, recurses := true, apart := false }
def HuffNilSaid : Prop := huffNilRow.holds Try.pinned (OpenSpec.ofChange huffNilSpec)

/-- ITS FALSE NEIGHBOUR: 'it returns false'. Refute it at one input. -/
def huffNilWrong : ChangeSpec := { name := "huffNil", fn := fun _ => fun
  | [d] => { results := [.lit (.bool false)], args := [d] }
  | _ => none }
def HuffNilWrongFalsely : Prop := huffNilRow.holds Try.pinned (OpenSpec.ofChange huffNilWrong)

/-- 'haversacklaw03.HuffRound': WHATEVER THE INPUT: true; the input reads as it did. -/
def huffRoundSpec : ChangeSpec := { name := "huffRound", fn := fun _ => fun
  | [d1, d2] => { results := [.lit (.bool true)], args := [d1, d2] }
  | _ => none }
def huffRoundRow : OpenClaim := { program := "ytcblibefmclloaa", sum := "dfa0362136d1edb48ba5e9a0a65212abd7e5f056b182a98296082ec0cb148d8f", func := "haversack/haversacklaw03.HuffRound", spec := "huffRound", unfollowed := true, recurses := true, apart := false }
def HuffRoundSaid : Prop := huffRoundRow.holds Try.pinned (OpenSpec.ofChange huffRoundSpec)

/-- ITS FALSE NEIGHBOUR: 'it returns false'. Refute it at one input. -/
def huffRoundWrong : ChangeSpec := { name := "huffRound", fn := fun _ => fun
  | [d1, d2] => { results := [.lit (.bool false)], args := [d1, d2] }
  | _ => none }
def HuffRoundWrongFalsely : Prop := huffRoundRow.holds Try.pinned (OpenSpec.ofChange huffRoundWrong)

/- THE SECOND FORM. 'bulk': how many values and letters a reading holds, each counted each time it is reached (what is shared counts as often as it is met; a slice's spare places count too). A statement '..UptoSaid' is the law's where the arguments, and the package variables that the reading takes, are together of bulk at most 1048576: NARROWER than '..Said'. Prove '..Said' where nothing that the law and all that it calls make is longer than what came in: it says more and counts as full. Else prove '..UptoSaid'. A law counts once. -/
mutual
def uptoBulk {H : Type} : DataW H → Nat
  | .lit (.string bytes) => bytes.length + 1
  | .lit _ => 1
  | .nil => 1
  | .ptr d => uptoBulk d + 1
  | .slice elems spare => uptoBulkAll elems + uptoBulkAll spare + 1
  | .agg parts => uptoBulkAll parts + 1
  | .iface _ d => uptoBulk d + 1
  | .map entries => uptoBulkEntries entries + 1
  | .held _ => 1
def uptoBulkAll {H : Type} : List (DataW H) → Nat
  | [] => 0
  | d :: r => uptoBulk d + uptoBulkAll r
def uptoBulkEntries {H : Type} : List (Lit × DataW H) → Nat
  | [] => 0
  | x :: r => uptoBulkEntry x + uptoBulkEntries r
def uptoBulkEntry {H : Type} : Lit × DataW H → Nat
  | (.string bytes, d) => bytes.length + uptoBulk d + 1
  | (_, d) => uptoBulk d + 1
 end
def uptoSmall : (H : Type) → List (DataW H) → Bool := fun _ ds => decide (uptoBulkAll ds ≤ 1048576)
def OpenSpec.upto (s : _root_.Go.ChangeSpec) : _root_.Go.OpenSpec := { _root_.Go.OpenSpec.ofChange s with cond := some uptoSmall }

/-- 'haversacklaw03.HuffCodes', WHERE WHAT IT READS IS OF BULK AT MOST 1048576: true; the input reads as it did. -/
def huffCodesUptoRow : OpenClaim := { program := "ytcblibefmclloaa", sum := "dfa0362136d1edb48ba5e9a0a65212abd7e5f056b182a98296082ec0cb148d8f", func := "haversack/haversacklaw03.HuffCodes", spec := "huffCodes", unfollowed := true, recurses := true, apart := false, narrowed := true }
def HuffCodesUptoSaid : Prop := huffCodesUptoRow.holds Try.pinned (OpenSpec.upto huffCodesSpec)

/-- 'haversacklaw03.HuffLimits', WHERE WHAT IT READS IS OF BULK AT MOST 1048576: true; the input reads as it did. -/
def huffLimitsUptoRow : OpenClaim := { program := "ytcblibefmclloaa", sum := "dfa0362136d1edb48ba5e9a0a65212abd7e5f056b182a98296082ec0cb148d8f", func := "haversack/haversacklaw03.HuffLimits", spec := "huffLimits", unfollowed := true, recurses := true, apart := false, narrowed := true }
def HuffLimitsUptoSaid : Prop := huffLimitsUptoRow.holds Try.pinned (OpenSpec.upto huffLimitsSpec)

/-- 'haversacklaw03.HuffFair', WHERE WHAT IT READS IS OF BULK AT MOST 1048576: true; the input reads as it did. -/
def huffFairUptoRow : OpenClaim := { program := "ytcblibefmclloaa", sum := "dfa0362136d1edb48ba5e9a0a65212abd7e5f056b182a98296082ec0cb148d8f", func := "haversack/haversacklaw03.HuffFair", spec := "huffFair", unfollowed := true, recurses := true, apart := false, narrowed := true }
def HuffFairUptoSaid : Prop := huffFairUptoRow.holds Try.pinned (OpenSpec.upto huffFairSpec)

/-- 'haversacklaw03.HuffNexts', WHERE WHAT IT READS IS OF BULK AT MOST 1048576: true; the input reads as it did. -/
def huffNextsUptoRow : OpenClaim := { program := "ytcblibefmclloaa", sum := "dfa0362136d1edb48ba5e9a0a65212abd7e5f056b182a98296082ec0cb148d8f", func := "haversack/haversacklaw03.HuffNexts", spec := "huffNexts", unfollowed := true, recurses := true, apart := false, narrowed := true }
def HuffNextsUptoSaid : Prop := huffNextsUptoRow.holds Try.pinned (OpenSpec.upto huffNextsSpec)

/-- 'haversacklaw03.HuffNil', WHERE WHAT IT READS IS OF BULK AT MOST 1048576: true; the input reads as it did. -/
def huffNilUptoRow : OpenClaim := { program := "ytcblibefmclloaa", sum := "dfa0362136d1edb48ba5e9a0a65212abd7e5f056b182a98296082ec0cb148d8f", func := "haversack/haversacklaw03.HuffNil", spec := "huffNil", unfollowed := true, recurses := true, apart := false, narrowed := true }
def HuffNilUptoSaid : Prop := huffNilUptoRow.holds Try.pinned (OpenSpec.upto huffNilSpec)

/-- 'haversacklaw03.HuffRound', WHERE WHAT IT READS IS OF BULK AT MOST 1048576: true; the input reads as it did. -/
def huffRoundUptoRow : OpenClaim := { program := "ytcblibefmclloaa", sum := "dfa0362136d1edb48ba5e9a0a65212abd7e5f056b182a98296082ec0cb148d8f", func := "haversack/haversacklaw03.HuffRound", spec := "huffRound", unfollowed := true, recurses := true, apart := false, narrowed := true }
def HuffRoundUptoSaid : Prop := huffRoundUptoRow.holds Try.pinned (OpenSpec.upto huffRoundSpec)

end Rows
end Go.Proofs.Ytcblibefmclloaa
