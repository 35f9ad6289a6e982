/- Packs in memory: a block known whole; the order by weight. -/
import Derived.Test.YtcblibefmclloaaBase
import Derived.RegionTactic
import Derived.BigRegion
import Derived.ChangeAlike
import Derived.StillTailTactics
import Derived.Outline
set_option linter.unusedVariables false
set_option linter.unusedSimpArgs false
namespace Go.Proofs.Ytcblibefmclloaa
open Go.RowKit
/-- A pack as it stands in memory: its weight and the slice of its symbols. -/
structure Pk where
  w : Int
  a : Option Addr
  n : Nat
  c : Nat
instance : Inhabited Pk := ⟨⟨0, none, 0, 0⟩⟩
def kcells : List Pk → List Value
  | [] => []
  | p :: r => .int .i64 p.w :: .slice p.a p.n p.c :: kcells r
theorem kcells_append (xs ys : List Pk) : kcells (xs ++ ys) = kcells xs ++ kcells ys := by
  induction xs with
  | nil => rfl
  | cons p r ih => simp [kcells, ih]
theorem kcells_length (xs : List Pk) : (kcells xs).length = xs.length * 2 := by
  induction xs with
  | nil => rfl
  | cons p r ih => simp [kcells, ih]; omega
theorem kcells_one (xs : List Pk) : ∀ v ∈ kcells xs, v.oneCell' = true := by
  induction xs with
  | nil => simp [kcells]
  | cons p r ih =>
    intro v hv
    simp only [kcells, List.mem_cons] at hv
    rcases hv with rfl | rfl | h
    · rfl
    · rfl
    · exact ih v h
/-- The pack at a place. -/
def kth (xs : List Pk) (j : Nat) : Pk := xs.getD j default
theorem kth_lt {xs : List Pk} {j : Nat} (h : j < xs.length) : kth xs j = xs[j] := by simp [kth, List.getD, h]
theorem kcells_get (xs : List Pk) (R : List Value) : ∀ j, j < xs.length → (kcells xs ++ R)[j * 2]? = some (.int .i64 (kth xs j).w) ∧ (kcells xs ++ R)[j * 2 + 1]? = some (.slice (kth xs j).a (kth xs j).n (kth xs j).c) := by
  induction xs with
  | nil => intro j hj; simp at hj
  | cons p r ih =>
    intro j hj
    match j with
    | 0 => exact ⟨rfl, rfl⟩
    | j + 1 =>
      have := ih j (by simpa using hj)
      rw [show (j + 1) * 2 = j * 2 + 1 + 1 by omega]
      exact this
theorem kcells_set (xs : List Pk) (R : List Value) (p : Pk) : ∀ j, j < xs.length → ((kcells xs ++ R).set (j * 2) (.int .i64 p.w)).set (j * 2 + 1) (.slice p.a p.n p.c) = kcells (xs.set j p) ++ R := by
  induction xs with
  | nil => intro j hj; simp at hj
  | cons q r ih =>
    intro j hj
    match j with
    | 0 => rfl
    | j + 1 =>
      have := ih j (by simpa using hj)
      rw [show (j + 1) * 2 = j * 2 + 1 + 1 by omega]
      simp only [kcells, List.cons_append, List.set_cons_succ, this]
/-- A block holds packs, and behind them what is spare. -/
def PB (w : World) (g : Nat) (L : List Pk) (R : List Value) : Prop := Blk w g 64 (kcells L ++ R)
theorem PB.lt {w : World} {g : Nat} {L : List Pk} {R : List Value} (h : PB w g L R) : g < w.heap.size := Blk.lt h
theorem PB.keeps {S : List Nat} {w w' : World} {g : Nat} {L : List Pk} {R : List Value} (h : PB w g L R) (hk : Keeps S w w') (hn : g ∉ S) : PB w' g L R := Blk.keeps h hk hn
theorem PB.cell {w : World} {g : Nat} {L : List Pk} {R : List Value} (h : PB w g L R) {j : Nat} (hj : j < L.length) :
    w.cell? ⟨g, j * 2, none⟩ = some (.int .i64 (kth L j).w) ∧ w.cell? ⟨g, j * 2 + 1, none⟩ = some (.slice (kth L j).a (kth L j).n (kth L j).c) := by
  have := kcells_get L R j hj
  exact ⟨(Blk.cell h _).trans this.1, (Blk.cell h _).trans this.2⟩
theorem PB.free {w : World} {g : Nat} {L : List Pk} {R : List Value} (h : PB w g L R) (j : Nat) : w.frozen? ⟨g, j, none⟩ = false := Blk.frozen h j
theorem PB.set {w : World} {g : Nat} {L : List Pk} {R : List Value} (h : PB w g L R) {j : Nat} (hj : j < L.length) (p : Pk) :
    PB ((w.setCell ⟨g, j * 2, none⟩ (.int .i64 p.w)).setCell ⟨g, j * 2 + 1, none⟩ (.slice p.a p.n p.c)) g (L.set j p) R := by
  have h1 := Blk.set h (j * 2) (.int .i64 p.w)
  have h2 := Blk.set h1 (j * 2 + 1) (.slice p.a p.n p.c)
  rw [kcells_set L R p j hj] at h2
  exact h2
theorem PB.dr {w w' : World} {g : Nat} {L : List Pk} {R : List Value} (h : PB w g L R) (hd : Dr w w') : PB w' g L R := h.keeps (hd.keeps (S := [])) (by simp)
theorem Keeps.put {w w' : World} {g j : Nat} (h : Keeps [g] w w') (u : Value) : Keeps [g] w (w'.setCell ⟨g, j, none⟩ u) := h.setCell (Or.inl (by simp)) u
def pv (p : Pk) : Value := .agg #[.int .i64 p.w, .slice p.a p.n p.c]
set_option maxHeartbeats 400000 in
/-- The order: by weight. -/
theorem lighter_calls (w : World) (x y : Int) (xa ya : Option Addr) (xn xc yn yc : Nat) (hx0 : 0 ≤ x) (hx : x ≤ 100000000000000000) (hy0 : 0 ≤ y) (hy : y ≤ 100000000000000000) :
    Calls Try.prog 33 #[.agg #[.int .i64 x, .slice xa xn xc], .agg #[.int .i64 y, .slice ya yn yc]] w fun e w' => e = .returned (.int .i64 (x - y)) ∧ Keeps [] w w' := by
  go_enter Try.func33, Try.ntmps33
  go_wp2
  go_ret
  exact ⟨rfl, by repeat (first | exact Keeps.refl _ _ | apply Keeps.drewN | apply Keeps.drew | apply Keeps.alloc)⟩
end Go.Proofs.Ytcblibefmclloaa
