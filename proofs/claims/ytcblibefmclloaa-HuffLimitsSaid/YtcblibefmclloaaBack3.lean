import Derived.Test.YtcblibefmclloaaLent3
import Derived.RegionTactic
import Derived.BigRegion
set_option linter.unusedVariables false
set_option linter.unusedSimpArgs false
namespace Go.Proofs.Ytcblibefmclloaa
open Go.RowKit
set_option maxRecDepth 100000 in
set_option maxHeartbeats 400000 in
theorem back3_calls (w : World) (g : Nat) (A : Option Addr) (n c : Nat) (xs : List Int) (hx : RI .i64 w A n xs) (hB : Blk w g 3 (ints .i64 (xs ++ [-77]))) (hn : n ≤ 1048576) :
    Calls Try.prog 13 #[.slice (some ⟨g, 0, none⟩) n (n + 1), .slice A n c] w fun e w' => e = .returned (.bool true) ∧ Dr w w' := by
  have lx := hx.len
  have hr : RI .i64 w (some ⟨g, 0, none⟩) n xs := by have := hB.ri; rwa [lx] at this
  have hc1 : w.cell? ⟨g, n, none⟩ = some (.int .i64 (-77)) := by rw [hB.cell, ints_getElem?]; simp [lx]
  have HX := Lib.hid hx
  have HR := Lib.hid hr
  clear hx hr lx hB
  have hn2 : n ≤ 140737488355328 := by omega
  go_enter Try.func13, Try.ntmps13
  go_wp2_with fail
  refine (ints_calls w _ _ n n _ _ xs xs HR.out HX.out hn2 hn2).mono ?_
  rintro e w' ⟨rfl, q, rfl⟩
  rw [beq_self_eq_true]
  go_wp2_with fail
  go_ret
  exact ⟨rfl, _, rfl⟩
end Go.Proofs.Ytcblibefmclloaa
