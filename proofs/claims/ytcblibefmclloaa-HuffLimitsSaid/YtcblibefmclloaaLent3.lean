import Derived.Test.YtcblibefmclloaaKeep
set_option linter.unusedVariables false
set_option linter.unusedSimpArgs false
namespace Go.Proofs.Ytcblibefmclloaa
open Go.RowKit

set_option maxRecDepth 100000 in
set_option maxHeartbeats 400000 in
theorem lent3_calls (w : World) (A : Option Addr) (n c : Nat) (xs : List Int) (hx : RI .i64 w A n xs) (hn : n ≤ 1048576) :
    Calls Try.prog 9 #[.slice A n c] w fun e w' => ∃ g, e = .returned (.slice (some ⟨g, 0, none⟩) n (n + 1)) ∧ Blk w' g 3 (ints .i64 (xs ++ [-77])) ∧ w.heap.size ≤ g ∧ Keeps [] w w' := by
  have lx := hx.len
  have HX := Lib.hid hx
  have LX := Lib.hid lx
  clear hx lx
  have hmk := fun w => make_ints (P := Try.prog) w 22 3 .i64 8 Try.underlying22 info_int ((n : Int) + 1) (n + 1) (by omega) (by omega) (by omega)
  go_enter Try.func9, Try.ntmps9
  go_wp2_with (with_reducible refine wpList_copy_splice rfl (.tmp 8) (.tmp 9) _ _ rfl 3 Try.underlying22 size_int _ _ _ _ _ _ rfl rfl w.heap.size 0 (ints .i64 (List.replicate (n + 1) 0)) 3 ?h1 (ints .i64 xs) ?h2 ?h3 ?h4 ?h5 w.heap.size w ?h6 (Nat.le_refl _) ?_)
  case h1 => exact blk_new w _ _
  case h2 => have := LX.out; simp [ints]; omega
  case h3 =>
    intro hp
    obtain ⟨a, o, ha⟩ := HX.out.hd (by have := LX.out; simpa [ints, this] using hp)
    refine ⟨_, ha, fun j v hv => ?_⟩
    have hj : j < n := by have := LX.out; have := (List.getElem?_eq_some_iff.1 hv).1; simp [ints] at this; omega
    have hc := HX.out.cell a o ha j hj
    have e : (ints .i64 xs)[j]? = some (.int .i64 (nth xs j)) := by rw [ints_getElem?]; simp [nth, List.getD, show j < xs.length from by have := LX.out; omega]
    rw [e] at hv
    rw [← Option.some.inj hv, add_plain2]
    exact (Keeps.refl [] w).alloc _ |>.cell (by simp) hc
  case h4 => have := LX.out; simp [ints]; omega
  case h5 => intro v hv; simp only [ints, List.mem_map] at hv; obtain ⟨x, _, rfl⟩ := hv; rfl
  case h6 => exact (Below.refl _ _).alloc (Nat.le_refl _) _
  intro w1 hg1 hb1
  have hB : Blk w1 w.heap.size 3 (splice (ints .i64 (List.replicate (n + 1) 0)) 0 (ints .i64 xs)) := hg1.out
  have hsp : splice (ints .i64 (List.replicate (n + 1) 0)) 0 (ints .i64 xs) = ints .i64 (xs ++ [0]) := by
    have := LX.out
    simp [splice, ints, this]
  rw [hsp] at hB
  clear hg1 hsp
  have hc1 : w1.cell? ⟨w.heap.size, n, none⟩ = some (.int .i64 0) := by
    rw [hB.cell, ints_getElem?]; have := LX.out; simp [this]
  have hf1 := hB.frozen n
  have hB2 := hB.set n (.int .i64 (-77))
  have hz : (ints .i64 (xs ++ [0])).set n (.int .i64 (-77)) = ints .i64 (xs ++ [-77]) := by
    have := LX.out
    simp [ints, List.set_append, this]
  rw [hz] at hB2
  have HB2 := Lib.hid hB2
  have HB1 := Lib.hid hb1
  clear hB hz hmk hB2 hb1
  go_wp2
  go_ret
  exact ⟨_, rfl, HB2.out, Nat.le_refl _, (Keeps.of_below HB1.out).setCell (Or.inr (Nat.le_refl _)) _⟩
end Go.Proofs.Ytcblibefmclloaa
