import Derived.Test.YtcblibefmclloaaBase
import Derived.WalkMore
set_option linter.unusedVariables false
set_option linter.unusedSimpArgs false
namespace Go.Proofs.Ytcblibefmclloaa
open Go.RowKit
set_option maxRecDepth 100000 in
set_option maxHeartbeats 400000 in
theorem next_nod (w : World) (g : Nat) :
    Calls Try.prog 23 #[.pointer none, .pointer (some ⟨g, 0, none⟩)] w fun e w' => e = .returned (.tuple #[.int .i64 0, .int .i64 3]) ∧ Dr w w' := by
  go_enter Try.func23, Try.ntmps23
  go_wp2_with fail
  go_step3
  go_wp2_with fail
  dsimp only [Exit.noGoto]
  go_ret2
  exact ⟨rfl, 0, rfl⟩
set_option maxRecDepth 100000 in
set_option maxHeartbeats 400000 in
theorem next_nor (w : World) (g : Nat) :
    Calls Try.prog 23 #[.pointer (some ⟨g, 0, none⟩), .pointer none] w fun e w' => e = .returned (.tuple #[.int .i64 0, .int .i64 3]) ∧ Dr w w' := by
  go_enter Try.func23, Try.ntmps23
  go_wp2_with fail
  go_step3
  go_wp2_with fail
  dsimp only [Exit.noGoto]
  go_ret2
  exact ⟨rfl, 0, rfl⟩
end Go.Proofs.Ytcblibefmclloaa
