/- Rows of bytes, in memory. -/
import Derived.Test.YtcblibefmclloaaMRows
import Derived.Test.YtcblibefmclloaaGrow
set_option linter.unusedVariables false
set_option linter.unusedSimpArgs false
namespace Go.Proofs.Ytcblibefmclloaa
open Go.RowKit
def rth (rs : List (List Int)) (j : Nat) : List Int := rs.getD j []
theorem rth_lt {rs : List (List Int)} {j : Nat} (h : j < rs.length) : rth rs j = rs[j] := by simp [rth, List.getD, h]
/-- A block of slices, each of bytes in memory behind it. -/
def RB (w : World) (g n : Nat) (rs : List (List Int)) : Prop :=
  rs.length = n ∧ ∃ vs : List Value, vs.length = n ∧ Blk w g 38 vs ∧ ∀ j v, vs[j]? = some v → w.ownsRow (g + 1) 5 1 v (rth rs j).length (ints .u8 (rth rs j))
theorem RB.len {w : World} {g n : Nat} {rs : List (List Int)} (h : RB w g n rs) : rs.length = n := h.1
theorem RB.lt {w : World} {g n : Nat} {rs : List (List Int)} (h : RB w g n rs) : g < w.heap.size := by
  obtain ⟨_, vs, _, h2, _⟩ := h; exact h2.lt
theorem RB.keeps {w w' : World} {g n : Nat} {rs : List (List Int)} {S : List Nat} (h : RB w g n rs) (hk : Keeps S w w') (hS : ∀ x ∈ S, x < g ∨ w.heap.size ≤ x) : RB w' g n rs := by
  obtain ⟨h0, vs, h1, h2, h3⟩ := h
  refine ⟨h0, vs, h1, h2.keeps hk (fun hm => by have := h2.lt; rcases hS g hm with h | h <;> omega), fun j v hv => own_keeps (h3 j v hv) hk fun x hx hm => ?_⟩
  have a := own_lo (h3 j v hv) x hx
  have b := own_hi (h3 j v hv) x hx
  rcases hS x hm with h | h <;> omega
theorem RB.below {w w' : World} {g n : Nat} {rs : List (List Int)} (h : RB w g n rs) (hk : Below w.heap.size w w') : RB w' g n rs := h.keeps (Keeps.of_below (S := []) hk) (by simp)
theorem RB.set {w : World} {g n : Nat} {rs : List (List Int)} (h : RB w g n rs) (i : Nat) (v : Value) (row : List Int) (ho : w.ownsRow (g + 1) 5 1 v row.length (ints .u8 row)) :
    RB (w.setCell ⟨g, i, none⟩ v) g n (rs.set i row) := by
  obtain ⟨h0, vs, h1, h2, h3⟩ := h
  have hk : Keeps [g] w (w.setCell ⟨g, i, none⟩ v) := (Keeps.refl [g] w).setCell (Or.inl (by simp)) v
  have hne : ∀ {u : Value} {m : Nat} {xs : List Value}, w.ownsRow (g + 1) 5 1 u m xs → ∀ x, u.ownBlock = some x → x ∉ [g] := fun ho x hx hm => by
    have := own_lo ho x hx; rw [List.mem_singleton.1 hm] at this; omega
  refine ⟨by simp [h0], vs.set i v, by simp [h1], h2.set i v, fun j u hu => ?_⟩
  rw [List.getElem?_set] at hu
  by_cases e : i = j
  · subst e
    by_cases hj : i < vs.length
    · rw [if_pos rfl, if_pos hj] at hu
      obtain rfl := Option.some.inj hu
      have : rth (rs.set i row) i = row := by simp [rth, List.getD, show i < rs.length by omega]
      rw [this]
      exact own_keeps ho hk (hne ho)
    · rw [if_pos rfl, if_neg hj] at hu; simp at hu
  · rw [if_neg e] at hu
    have : rth (rs.set i row) j = rth rs j := by simp [rth, List.getD, e]
    rw [this]
    exact own_keeps (h3 j u hu) hk (hne (h3 j u hu))
theorem RB.new (w : World) (n : Nat) : RB (w.alloc (.cells (List.replicate n (Value.slice none 0 0)).toArray 38 (0, 0))) w.heap.size n (List.replicate n []) := by
  refine ⟨by simp, _, by simp, blk_new w _ _, fun j v hv => ?_⟩
  have hj : j < n := by
    have := (List.getElem?_eq_some_iff.1 hv).1; simpa using this
  have e : v = .slice none 0 0 := by
    rw [List.getElem?_eq_getElem (by simpa using hj)] at hv; simpa using hv.symm
  have e2 : rth (List.replicate n []) j = [] := by simp [rth, List.getD, hj]
  rw [e, e2]
  exact World.ownsRow_nil _ _ _ _
theorem RB.at {w : World} {g n : Nat} {rs : List (List Int)} (h : RB w g n rs) {j : Nat} (hj : j < n) :
    ∃ A c, w.cell? ⟨g, j, none⟩ = some (.slice A (rth rs j).length c) ∧ RI .u8 w A (rth rs j).length (rth rs j) ∧ (∀ a, A = some a → g + 1 ≤ a.block ∧ a.block < w.heap.size) := by
  obtain ⟨h0, vs, h1, h2, h3⟩ := h
  obtain ⟨A, c, e, hr, _, ha⟩ := own_ri (h3 j _ (List.getElem?_eq_getElem (by omega)))
  refine ⟨A, c, ?_, hr, fun a h => ⟨(ha a h).1, (ha a h).2.1⟩⟩
  rw [h2.cell, List.getElem?_eq_getElem (by omega), e]
theorem RB.free {w : World} {g n : Nat} {rs : List (List Int)} (h : RB w g n rs) (j : Nat) : w.frozen? ⟨g, j, none⟩ = false := by
  obtain ⟨_, vs, _, h2, _⟩ := h; exact h2.frozen j
theorem info_row : (Try.prog.info? 38).map (fun i => (i.zero, i.size, i.bytes)) = some (some (.slice none 0 0), 1, 24) := by kernel_rfl
/-- 'make([][]byte, n)'. -/
theorem make_rows (w : World) (n : Nat) (hn : n ≤ 1000000) :
    (Instr.makeSlice 42 (.int .i64 n) (.int .i64 n)).run Try.prog w = .ok (.slice (some ⟨w.heap.size, 0, none⟩) n n) (w.alloc (.cells (List.replicate n (Value.slice none 0 0)).toArray 38)) := by
  obtain ⟨i, hi, hz, hs, hb⟩ := info_parts info_row
  have e1 : (i.bytes : Int) * (n : Int) ≤ 281474976710656 := by rw [hb]; omega
  rw [run_make w 42 38 i _ Try.underlying42 hi hz .i64 .i64 n n (by omega) (Int.le_refl _) e1 (by omega)]
  simp only [Int.toNat_natCast]
  congr 4
  rw [hs, Nat.mul_one]
  apply Array.toList_inj.1
  show (madeCells #[.slice none 0 0] n).toList = _
  rw [toList_madeCells_one]
end Go.Proofs.Ytcblibefmclloaa
