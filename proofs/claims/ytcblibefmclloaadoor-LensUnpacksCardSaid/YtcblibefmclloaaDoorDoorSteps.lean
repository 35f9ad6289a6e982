/- A slice of steps that came in. -/
import Derived.Test.YtcblibefmclloaaDoorDoor
import Derived.Test.YtcblibefmclloaaDoorSteps
import Derived.Deep.SlicePairs
set_option linter.unusedVariables false
set_option linter.unusedSimpArgs false
namespace Go.Proofs.YtcblibefmclloaaDoor
open Go.ChangeShapes Go.WideShapes Go.ChangeAt Go.RowKit
theorem rp_came {H : Type} {enc : TypeId × Value → H} {W : World} {a0 : Option Addr} {len0 cap0 : Nat} {d : DataW H} {p : List MemPlace}
    (h : DataW.Trod enc Tryd.prog W 0 (fun _ => true) true 25 (Value.slice a0 len0 cap0) d p) :
    ∃ xs, RP W a0 len0 xs ∧ len0 ≤ maxLen ∧ (a0 = none → len0 = 0 ∧ cap0 = 0) := by
  obtain ⟨fuel, hf⟩ := h
  rcases Go.Deep.open_slice_pairs Tryd.underlying25 Tryd.underlying31 (by kernel_rfl) rfl rfl (by kernel_rfl) (by kernel_rfl) hf with ⟨hcs, _⟩ | ⟨a, len, cap, m, n, V0, V1, D0, D1, P0, P1, hcs, _, hl, hm, hmm, _, hcell⟩
  · simp [Value.cells] at hcs
    obtain ⟨rfl, rfl, rfl⟩ := hcs
    exact ⟨[], ⟨rfl, by omega, by simp⟩, by omega, fun _ => ⟨rfl, rfl⟩⟩
  · simp [Value.cells] at hcs
    obtain ⟨rfl, rfl, rfl⟩ := hcs
    have hm' : m = cap0 := by simpa using hmm
    have each : ∀ i, i < len0 → ∃ q : Int × Int, W.cell? (a.add (i * 2)) = some (.int .i64 q.1) ∧ W.cell? (a.add (i * 2 + 1)) = some (.int .i64 q.2) := by
      intro i hi
      obtain ⟨h1, h2, h3, h4⟩ := hcell i (by omega)
      obtain ⟨n1, e1, _, _⟩ := DataW.trod_int (k := .i64) Tryd.underlying3 h3
      obtain ⟨n2, e2, _, _⟩ := DataW.trod_int (k := .i64) Tryd.underlying3 h4
      injection e1 with e1; injection e2 with e2
      exact ⟨(n1, n2), by rw [h1, e1], by rw [h2, e2]⟩
    let f : Nat → Int × Int := fun i => if h : i < len0 then Classical.choose (each i h) else (0, 0)
    have hfs : ∀ i, i < len0 → W.cell? (a.add (i * 2)) = some (.int .i64 (f i).1) ∧ W.cell? (a.add (i * 2 + 1)) = some (.int .i64 (f i).2) := by
      intro i hi
      simp only [f, hi, dite_true]
      exact Classical.choose_spec (each i hi)
    refine ⟨(List.range len0).map f, ⟨by simp, fun hp => ?_, fun b o ha j hj => ?_⟩, by omega, by simp⟩
    · obtain ⟨b, off, spot⟩ := a
      have hspot : spot = none := by simpa [Addr.add] using World.cell?_spot (hfs 0 hp).1
      subst hspot
      exact ⟨_, _, rfl⟩
    · obtain rfl := Option.some.inj ha
      have hp : pth ((List.range len0).map f) j = f j := by simp [pth, List.getD, hj]
      rw [hp, Nat.add_assoc, ← add_plain2, ← add_plain2]
      exact hfs j hj
end Go.Proofs.YtcblibefmclloaaDoor
