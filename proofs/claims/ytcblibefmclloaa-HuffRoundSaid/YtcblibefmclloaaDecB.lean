/- A decoder in memory. -/
import Derived.Test.YtcblibefmclloaaMDec
import Derived.Test.YtcblibefmclloaaGrow
import Derived.Deep.MidRow
set_option linter.unusedVariables false
set_option linter.unusedSimpArgs false
namespace Go.Proofs.Ytcblibefmclloaa
open Go.RowKit
def setL (cs : List Value) : Nat → List Value → List Value
  | _, [] => cs
  | o, v :: r => setL (cs.set o v) (o + 1) r
theorem setL_mid : ∀ (vs a old b : List Value), old.length = vs.length → setL (a ++ (old ++ b)) a.length vs = a ++ (vs ++ b)
  | [], a, old, b, h => by
    obtain rfl := List.eq_nil_of_length_eq_zero (by simpa using h)
    rfl
  | v :: r, a, [], b, h => by simp at h
  | v :: r, a, x :: old, b, h => by
    have e : (a ++ (x :: old ++ b)).set a.length v = (a ++ [v]) ++ (old ++ b) := by simp
    rw [setL, e]
    have := setL_mid r (a ++ [v]) old b (by simpa using h)
    rw [show (a ++ [v]).length = a.length + 1 by simp] at this
    rw [this]; simp
theorem Blk.there {w : World} {g : Nat} {t : TypeId} {cs : List Value} (h : Blk w g t cs) (o n : Nat) (ho : o + n ≤ cs.length) : w.there g o n := fun j hj => by
  rw [h.cell]
  refine ⟨?_, h.frozen _⟩
  rw [List.getElem?_eq_getElem (by omega)]; rfl
theorem Blk.setCells {g : Nat} {t : TypeId} : ∀ (vs : List Value) (w : World) (cs : List Value) (o : Nat), Blk w g t cs → Blk (w.setCells g o vs) g t (setL cs o vs)
  | [], w, cs, o, h => h
  | v :: r, w, cs, o, h => by
    rw [World.setCells, setL]
    exact Blk.setCells r _ _ _ (h.set o v)
theorem Keeps.setCells {S : List Nat} {w0 : World} {g : Nat} (hp : g ∈ S ∨ w0.heap.size ≤ g) : ∀ (vs : List Value) (w : World) (o : Nat), Keeps S w0 w → Keeps S w0 (w.setCells g o vs)
  | [], w, o, h => h
  | v :: r, w, o, h => by
    rw [World.setCells]
    exact Keeps.setCells hp r _ _ (h.setCell (p := ⟨g, o, none⟩) hp v)
/-- A decoder's cells. -/
def dcells (cd ct az : List Int) (v : Value) (L : Int) : List Value := ints .i64 cd ++ (ints .i64 ct ++ (ints .i64 az ++ [v, .int .i64 L]))
def DB (w : World) (g : Nat) (cd ct az : List Int) (v : Value) (L : Int) : Prop := cd.length = 16 ∧ ct.length = 16 ∧ az.length = 16 ∧ Blk w g 73 (dcells cd ct az v L)
theorem DB.lt {w : World} {g : Nat} {cd ct az : List Int} {v : Value} {L : Int} (h : DB w g cd ct az v L) : g < w.heap.size := h.2.2.2.lt
theorem DB.keeps {S : List Nat} {w w' : World} {g : Nat} {cd ct az : List Int} {v : Value} {L : Int} (h : DB w g cd ct az v L) (hk : Keeps S w w') (hn : g ∉ S) : DB w' g cd ct az v L :=
  ⟨h.1, h.2.1, h.2.2.1, h.2.2.2.keeps hk hn⟩
theorem DB.code {w : World} {g : Nat} {cd ct az : List Int} {v : Value} {L : Int} (h : DB w g cd ct az v L) {j : Nat} (hj : j < 16) : w.cell? ⟨g, j, none⟩ = some (.int .i64 (nth cd j)) := by
  obtain ⟨h1, h2, h3, h4⟩ := h
  rw [h4.cell, dcells, List.getElem?_append_left (by simp [ints]; omega), ints_getElem?, nth_lt (by omega), List.getElem?_eq_getElem (by omega)]; rfl
theorem DB.count {w : World} {g : Nat} {cd ct az : List Int} {v : Value} {L : Int} (h : DB w g cd ct az v L) {j : Nat} (hj : j < 16) : w.cell? ⟨g, 16 + j, none⟩ = some (.int .i64 (nth ct j)) := by
  obtain ⟨h1, h2, h3, h4⟩ := h
  have e : (ints .i64 cd).length = 16 := by simp [ints, h1]
  rw [h4.cell, dcells, List.getElem?_append_right (by omega), e, show 16 + j - 16 = j by omega, List.getElem?_append_left (by simp [ints]; omega), ints_getElem?, nth_lt (by omega), List.getElem?_eq_getElem (by omega)]; rfl
theorem DB.at {w : World} {g : Nat} {cd ct az : List Int} {v : Value} {L : Int} (h : DB w g cd ct az v L) {j : Nat} (hj : j < 16) : w.cell? ⟨g, 32 + j, none⟩ = some (.int .i64 (nth az j)) := by
  obtain ⟨h1, h2, h3, h4⟩ := h
  have e : (ints .i64 cd).length = 16 := by simp [ints, h1]
  have e2 : (ints .i64 ct).length = 16 := by simp [ints, h2]
  rw [h4.cell, dcells, List.getElem?_append_right (by omega), e, List.getElem?_append_right (by omega), e2, show 32 + j - 16 - 16 = j by omega, List.getElem?_append_left (by simp [ints]; omega), ints_getElem?, nth_lt (by omega), List.getElem?_eq_getElem (by omega)]; rfl
theorem DB.syms {w : World} {g : Nat} {cd ct az : List Int} {v : Value} {L : Int} (h : DB w g cd ct az v L) : w.cell? ⟨g, 48, none⟩ = some v ∧ w.cell? ⟨g, 49, none⟩ = some (.int .i64 L) := by
  obtain ⟨h1, h2, h3, h4⟩ := h
  have e : (ints .i64 cd).length = 16 := by simp [ints, h1]
  have e2 : (ints .i64 ct).length = 16 := by simp [ints, h2]
  have e3 : (ints .i64 az).length = 16 := by simp [ints, h3]
  constructor
  · rw [h4.cell, dcells, List.getElem?_append_right (by omega), e, List.getElem?_append_right (by omega), e2, List.getElem?_append_right (by omega), e3]; rfl
  · rw [h4.cell, dcells, List.getElem?_append_right (by omega), e, List.getElem?_append_right (by omega), e2, List.getElem?_append_right (by omega), e3]; rfl
theorem DB.free {w : World} {g : Nat} {cd ct az : List Int} {v : Value} {L : Int} (h : DB w g cd ct az v L) (j : Nat) : w.frozen? ⟨g, j, none⟩ = false := h.2.2.2.frozen j
theorem DB.setAt {w : World} {g : Nat} {cd ct az : List Int} {v : Value} {L : Int} (h : DB w g cd ct az v L) {j : Nat} (hj : j < 16) (x : Int) : DB (w.setCell ⟨g, 32 + j, none⟩ (.int .i64 x)) g cd ct (az.set j x) v L := by
  obtain ⟨h1, h2, h3, h4⟩ := h
  have e : (ints .i64 cd).length = 16 := by simp [ints, h1]
  have e2 : (ints .i64 ct).length = 16 := by simp [ints, h2]
  have e3 : (ints .i64 az).length = 16 := by simp [ints, h3]
  refine ⟨h1, h2, by simp [h3], ?_⟩
  have := h4.set (32 + j) (.int .i64 x)
  unfold dcells at this ⊢
  rw [List.set_append_right _ _ (by omega), e, List.set_append_right _ _ (by omega), e2, show 32 + j - 16 - 16 = j by omega, List.set_append_left _ _ (by omega)] at this
  simpa [ints, List.map_set] using this
theorem DB.setSyms {w : World} {g : Nat} {cd ct az : List Int} {v : Value} {L : Int} (h : DB w g cd ct az v L) (v' : Value) : DB (w.setCell ⟨g, 48, none⟩ v') g cd ct az v' L := by
  obtain ⟨h1, h2, h3, h4⟩ := h
  have e : (ints .i64 cd).length = 16 := by simp [ints, h1]
  have e2 : (ints .i64 ct).length = 16 := by simp [ints, h2]
  have e3 : (ints .i64 az).length = 16 := by simp [ints, h3]
  refine ⟨h1, h2, h3, ?_⟩
  have := h4.set 48 v'
  unfold dcells at this ⊢
  rw [List.set_append_right _ _ (by omega), e, List.set_append_right _ _ (by omega), e2, List.set_append_right _ _ (by omega), e3] at this
  exact this
theorem DB.setLong {w : World} {g : Nat} {cd ct az : List Int} {v : Value} {L : Int} (h : DB w g cd ct az v L) (x : Int) : DB (w.setCell ⟨g, 49, none⟩ (.int .i64 x)) g cd ct az v x := by
  obtain ⟨h1, h2, h3, h4⟩ := h
  have e : (ints .i64 cd).length = 16 := by simp [ints, h1]
  have e2 : (ints .i64 ct).length = 16 := by simp [ints, h2]
  have e3 : (ints .i64 az).length = 16 := by simp [ints, h3]
  refine ⟨h1, h2, h3, ?_⟩
  have := h4.set 49 (.int .i64 x)
  unfold dcells at this ⊢
  rw [List.set_append_right _ _ (by omega), e, List.set_append_right _ _ (by omega), e2, List.set_append_right _ _ (by omega), e3] at this
  exact this
/-- A new decoder's rows are laid. -/
theorem DB.start {w : World} {g : Nat} {Z : List Value} (hZ : Z = dcells (List.replicate 16 0) (List.replicate 16 0) (List.replicate 16 0) (.slice none 0 0) 0) (h : Blk w g 73 Z) (cd ct : List Int) (h1 : cd.length = 16) (h2 : ct.length = 16) :
    w.there g 0 (ints .i64 cd).toArray.size ∧ (w.setCells g 0 (ints .i64 cd)).there g 16 (ints .i64 ct).toArray.size ∧ DB ((w.setCells g 0 (ints .i64 cd)).setCells g 16 (ints .i64 ct)) g cd ct (List.replicate 16 0) (.slice none 0 0) 0 := by
  subst hZ
  have e : (ints .i64 cd).length = 16 := by simp [ints, h1]
  have e2 : (ints .i64 ct).length = 16 := by simp [ints, h2]
  have a := Blk.setCells (ints .i64 cd) w _ 0 h
  have b := setL_mid (ints .i64 cd) [] (ints .i64 (List.replicate 16 0)) (ints .i64 (List.replicate 16 0) ++ (ints .i64 (List.replicate 16 0) ++ [.slice none 0 0, .int .i64 0])) (by rw [e]; simp [ints])
  rw [show setL (dcells (List.replicate 16 0) (List.replicate 16 0) (List.replicate 16 0) (.slice none 0 0) 0) 0 (ints .i64 cd) = _ from b] at a
  rw [List.nil_append] at a
  have c := Blk.setCells (ints .i64 ct) _ _ 16 a
  have d := setL_mid (ints .i64 ct) (ints .i64 cd) (ints .i64 (List.replicate 16 0)) (ints .i64 (List.replicate 16 0) ++ [.slice none 0 0, .int .i64 0]) (by rw [e2]; simp [ints])
  rw [e] at d
  rw [d] at c
  refine ⟨h.there _ _ ?_, a.there _ _ ?_, h1, h2, by simp, c⟩
  · simp [dcells, ints, h1]
  · simp [ints, h1, h2]
theorem there_append {xs : List Value} {n : Nat} (h : xs.length = n) : xs.toArray.size = n := by simpa using h
end Go.Proofs.Ytcblibefmclloaa
