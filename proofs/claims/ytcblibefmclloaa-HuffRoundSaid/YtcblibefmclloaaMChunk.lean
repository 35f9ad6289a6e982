/- Rows sorted piece by piece: plain lists. -/
import Derived.Test.YtcblibefmclloaaMSym
set_option linter.unusedVariables false
set_option linter.unusedSimpArgs false
namespace Go.Proofs.Ytcblibefmclloaa
/-- The piece at a place. -/
def pc (l : List Pk) (k b : Nat) : List Pk := (l.drop k).take b
/-- Sorted piece by piece. -/
def Ch (b : Nat) (r l : List Pk) : Prop := r.length = l.length ∧ ∀ k, SS (pc r (k * b) b) (pc l (k * b) b)
theorem ss_nil : SS [] [] := ⟨srt_nil, same.refl _⟩
theorem pc_app_left {x r : List Pk} {k b : Nat} (h : k + b ≤ x.length) : pc (x ++ r) k b = pc x k b := by
  unfold pc
  rw [List.drop_append_of_le_length (by omega), List.take_append_of_le_length (by rw [List.length_drop]; omega)]
theorem pc_app_right {x r : List Pk} {k b : Nat} (h : x.length ≤ k) : pc (x ++ r) k b = pc r (k - x.length) b := by
  unfold pc
  rw [List.drop_append, List.drop_eq_nil_of_le h, List.nil_append]
theorem pc_all {r : List Pk} {b : Nat} (h : r.length ≤ b) : pc r 0 b = r := by
  unfold pc; rw [List.drop_zero, List.take_of_length_le h]
theorem pc_none {r : List Pk} {k b : Nat} (h : r.length ≤ k) : pc r k b = [] := by
  unfold pc; rw [List.drop_eq_nil_of_le h, List.take_nil]
theorem ch_nil (b : Nat) : Ch b [] [] := ⟨rfl, fun k => by rw [pc_none (by simp)]; exact ss_nil⟩
theorem ch_app {b k : Nat} {x y r s : List Pk} (h : Ch b x y) (hk : x.length = k * b) (hs : SS r s) (hl : s.length ≤ b) : Ch b (x ++ r) (y ++ s) := by
  have hxy := h.1
  refine ⟨by rw [List.length_append, List.length_append, hxy, hs.len], fun j => ?_⟩
  rcases Nat.lt_trichotomy j k with hj | rfl | hj
  · have : (j + 1) * b ≤ k * b := Nat.mul_le_mul_right b hj
    rw [Nat.add_mul, Nat.one_mul] at this
    rw [pc_app_left (by omega), pc_app_left (by omega)]
    exact h.2 j
  · rw [pc_app_right (by omega), pc_app_right (by omega), hk, ← hxy, hk, Nat.sub_self, pc_all (by rw [hs.len]; exact hl), pc_all hl]
    exact hs
  · have : (k + 1) * b ≤ j * b := Nat.mul_le_mul_right b hj
    rw [Nat.add_mul, Nat.one_mul] at this
    have e1 : r.length ≤ j * b - x.length := by rw [hs.len]; omega
    have e2 : s.length ≤ j * b - y.length := by omega
    rw [pc_app_right (by omega), pc_app_right (by omega), pc_none e1, pc_none e2]
    exact ss_nil
theorem ch_done {b : Nat} {r l : List Pk} (h : Ch b r l) (hb : l.length ≤ b) : SS r l := by
  have := h.2 0
  rwa [Nat.zero_mul, pc_all (by rw [h.1]; exact hb), pc_all hb] at this
theorem ss_trans_app {c s t s0 t0 : List Pk} (h : SS c (s ++ t)) (hs : SS s s0) (ht : SS t t0) : SS c (s0 ++ t0) := h.of_same (hs.2.app ht.2)
theorem pc_two (l : List Pk) (k b : Nat) : pc l k (2 * b) = pc l k b ++ pc l (k + b) b := by
  unfold pc
  rw [show 2 * b = b + b by omega, List.take_add, List.drop_drop]
/-- The row behind a place, as a piece and the rest. -/
theorem drop_pc (l : List Pk) (k b : Nat) : l.drop k = pc l k b ++ l.drop (k + b) := by
  unfold pc
  rw [← List.drop_drop, List.take_append_drop]
theorem pc_len (l : List Pk) (k b : Nat) : (pc l k b).length = min b (l.length - k) := by unfold pc; rw [List.length_take, List.length_drop]
theorem ch_at {b k a : Nat} {r l : List Pk} (h : Ch b r l) (ha : a = k * b) : SS (pc r a b) (pc l a b) := by subst ha; exact h.2 k
theorem take_pc (l : List Pk) (k b : Nat) : l.take (k + b) = l.take k ++ pc l k b := by unfold pc; rw [List.take_add]
end Go.Proofs.Ytcblibefmclloaa
