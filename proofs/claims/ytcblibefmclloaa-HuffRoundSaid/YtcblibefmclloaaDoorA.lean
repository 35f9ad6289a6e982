/- What every row of this seat uses: a slice of numbers that came in. -/
import Derived.Test.YtcblibefmclloaaRows
import Derived.Test.YtcblibefmclloaaBase
import Derived.ProofKit
import Derived.OpenShut
set_option linter.unusedVariables false
set_option linter.unusedSimpArgs false
namespace Go.Proofs.Ytcblibefmclloaa
open Go.ChangeShapes Go.WideShapes Go.ChangeAt Go.RowKit
theorem own : ownKnob Try.prog.godebug = none := by kernel_rfl
theorem laidOut : laidOutB Try.prog = true := by kernel_rfl
theorem cellsInt : Try.prog.cellsOf 3 = 1 := by kernel_rfl
theorem cellsU8 : Try.prog.cellsOf 5 = 1 := by kernel_rfl
/-- A slice of numbers that came in. -/
theorem ri_came {H : Type} {enc : TypeId × Value → H} {W : World} {k : IntKind} {t e : TypeId} {a0 : Option Addr} {len0 cap0 : Nat} {d : DataW H} {p : List MemPlace}
    (ht : Try.prog.underlying t = some (.slice e)) (he : Try.prog.underlying e = some (.int k)) (hc : Try.prog.cellsOf e = 1)
    (h : DataW.Trod enc Try.prog W 0 (fun _ => true) true t (Value.slice a0 len0 cap0) d p) :
    ∃ xs, RI k W a0 len0 xs ∧ len0 ≤ maxLen ∧ (a0 = none → len0 = 0 ∧ cap0 = 0) ∧ ∀ x ∈ xs, (Lit.int k x).wf = true := by
  obtain ⟨fuel, hf⟩ := h
  rcases open_ints ht he hc hf with ⟨hcs, _⟩ | ⟨x, l, c, zs, hcs, _, hl, hm, hz, _, hcell, hwz⟩
  · simp [Value.cells] at hcs
    obtain ⟨rfl, rfl, rfl⟩ := hcs
    exact ⟨[], ⟨rfl, by omega, by simp⟩, by omega, fun _ => ⟨rfl, rfl⟩, by simp⟩
  · simp [Value.cells] at hcs
    obtain ⟨rfl, rfl, rfl⟩ := hcs
    have hz' : zs.length = cap0 := by simpa using hz
    refine ⟨zs.take len0, ⟨by simp; omega, fun hp => ?_, fun b o ha j hj => ?_⟩, by omega, (by simp), fun y hy => hwz y (List.mem_of_mem_take hy)⟩
    · obtain ⟨b, o, rfl, _⟩ := ints_at hcell (by omega)
      exact ⟨b, o, rfl⟩
    · obtain rfl := Option.some.inj ha
      rw [nth_take _ _ _ hj, ← add_plain2]
      exact hcell j (by omega)
end Go.Proofs.Ytcblibefmclloaa
