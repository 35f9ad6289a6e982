/- What every row of this seat uses: the tables as the row lists them, a world for the witness, a slice of numbers that came in. -/
import Derived.Test.YtcblibefmclloaaDoorCards
import Derived.Test.YtcblibefmclloaaDoorTie
import Derived.Test.YtcblibefmclloaaDoorPack1
import Derived.ProofKit
import Derived.OpenShut
import Derived.ChangeOld
import Derived.Deep.DeepHandedRow
import Derived.Deep.DeepLaidRun
import Derived.Lib.LaidTab
set_option linter.unusedVariables false
set_option linter.unusedSimpArgs false
namespace Go.Proofs.YtcblibefmclloaaDoor
open Go.ChangeShapes Go.WideShapes Go.ChangeAt Go.RowKit
theorem own : ownKnob Tryd.prog.godebug = none := by kernel_rfl
theorem laidOut : laidOutB Tryd.prog = true := by kernel_rfl
abbrev theLaid : List (String × DataW Unit) := [("haversack/lens.order", Rows.laid_haversack_lens_order), ("haversack/lens.wide", Rows.laid_haversack_lens_wide), ("haversack/lens.from", Rows.laid_haversack_lens_from)]
theorem cellsArr : Tryd.prog.cellsOf 77 = 19 := by kernel_rfl
theorem cellsInt : Tryd.prog.cellsOf 3 = 1 := by kernel_rfl
theorem cellsU8 : Tryd.prog.cellsOf 5 = 1 := by kernel_rfl
theorem gFrom : Tryd.prog.globalNamed "haversack/lens.from" = some 0 := by kernel_rfl
theorem gWide : Tryd.prog.globalNamed "haversack/lens.wide" = some 2 := by kernel_rfl
theorem gOrder : Tryd.prog.globalNamed "haversack/lens.order" = some 1 := by kernel_rfl
theorem tFrom : (Tryd.prog.globals[0]?).map (·.type) = some 77 := by kernel_rfl
theorem tWide : (Tryd.prog.globals[2]?).map (·.type) = some 77 := by kernel_rfl
theorem tOrder : (Tryd.prog.globals[1]?).map (·.type) = some 77 := by kernel_rfl
theorem ri_of_tab {W : World} {g : Nat} {zs : List Int} (hl : zs.length = 19) (h : ∀ i, i < zs.length → W.cell? ⟨g, i, none⟩ = some (.int .i64 (zs.getD i 0))) : RI .i64 W (some ⟨g, 0, none⟩) 19 zs :=
  ⟨hl, fun _ => ⟨_, _, rfl⟩, fun b o ha j hj => by
    injection ha with ha; injection ha with h1 h2 h3; subst h1; subst h2
    rw [Nat.zero_add]; exact h j (by omega)⟩
theorem tabs_of {W : World} (h : laidMet Tryd.prog theLaid W) : Tabs W := by
  have h1 : laidMet Tryd.prog [("haversack/lens.from", Lib.tabData .i64 fromL)] W := laidMet.filter (fun x => x.1 == "haversack/lens.from") h
  have h2 : laidMet Tryd.prog [("haversack/lens.wide", Lib.tabData .i64 wideL)] W := laidMet.filter (fun x => x.1 == "haversack/lens.wide") h
  have h3 : laidMet Tryd.prog [("haversack/lens.order", Lib.tabData .i64 orderL)] W := laidMet.filter (fun x => x.1 == "haversack/lens.order") h
  have t1 := Lib.tabIs_of_head (rest := []) gFrom tFrom Tryd.underlying77 Tryd.underlying3 cellsInt cellsArr h1
  have t2 := Lib.tabIs_of_head (rest := []) gWide tWide Tryd.underlying77 Tryd.underlying3 cellsInt cellsArr h2
  have t3 := Lib.tabIs_of_head (rest := []) gOrder tOrder Tryd.underlying77 Tryd.underlying3 cellsInt cellsArr h3
  exact ⟨ri_of_tab rfl (t1.cell gFrom), ri_of_tab rfl (t2.cell gWide), ri_of_tab rfl (t3.cell gOrder)⟩
def setTab (zs : List Int) : Obj → Obj
  | .cells _ t frozen => .cells (ints .i64 zs).toArray t frozen
  | o => o
/-- A world for the witness: the settled one, the tables holding what their initialisers lay. -/
noncomputable def laidWorld (os : Os) : World :=
  { World.holding Tryd.prog os ⟨#[], #[], []⟩ with heap := (((World.holding Tryd.prog os ⟨#[], #[], []⟩).heap.modify 0 (setTab fromL)).modify 2 (setTab wideL)).modify 1 (setTab orderL) }
theorem laid_met (os : Os) (args : Array Value) : laidMet Tryd.prog theLaid ((laidWorld os).forCall (fun _ _ => 0) ⟨#[], args, []⟩).memory :=
  laidMet_of_run3 8 (by kernel_rfl) (by kernel_rfl) (by kernel_rfl)
/-- A slice of numbers that came in. -/
theorem ri_came {H : Type} {enc : TypeId × Value → H} {W : World} {k : IntKind} {t e : TypeId} {a0 : Option Addr} {len0 cap0 : Nat} {d : DataW H} {p : List MemPlace}
    (ht : Tryd.prog.underlying t = some (.slice e)) (he : Tryd.prog.underlying e = some (.int k)) (hc : Tryd.prog.cellsOf e = 1)
    (h : DataW.Trod enc Tryd.prog W 0 (fun _ => true) true t (Value.slice a0 len0 cap0) d p) :
    ∃ xs, RI k W a0 len0 xs ∧ len0 ≤ maxLen ∧ (a0 = none → len0 = 0 ∧ cap0 = 0) ∧ ∀ x ∈ xs, (Lit.int k x).wf = true := by
  obtain ⟨fuel, hf⟩ := h
  rcases open_ints ht he hc hf with ⟨hcs, _⟩ | ⟨x, l, c, zs, hcs, _, hl, hm, hz, _, hcell, hwz⟩
  · simp [Value.cells] at hcs
    obtain ⟨rfl, rfl, rfl⟩ := hcs
    exact ⟨[], ⟨rfl, by omega, by simp⟩, by omega, fun _ => ⟨rfl, rfl⟩, by simp⟩
  · simp [Value.cells] at hcs
    obtain ⟨rfl, rfl, rfl⟩ := hcs
    have hz' : zs.length = cap0 := by simpa using hz
    refine ⟨zs.take len0, ⟨by simp; omega, fun hp => ?_, fun b o ha j hj => ?_⟩, by omega, (by simp), fun y hy => hwz y (List.mem_of_mem_take hy)⟩
    · obtain ⟨b, o, rfl, _⟩ := ints_at hcell (by omega)
      exact ⟨b, o, rfl⟩
    · obtain rfl := Option.some.inj ha
      rw [nth_take _ _ _ hj, ← add_plain2]
      exact hcell j (by omega)
end Go.Proofs.YtcblibefmclloaaDoor
