/- Lists of code lengths: plain numbers. -/
import Derived.Test.YtcblibefmclloaaBase
set_option linter.unusedVariables false
set_option linter.unusedSimpArgs false
namespace Go.Proofs.Ytcblibefmclloaa
/-- May a length be? -/
def okLen (x : Int) : Bool := decide (0 ≤ x) && decide (x ≤ 15)
/-- What a length takes of all codes, in parts of 2^15. -/
def part (x : Int) : Nat := if 0 < x then 2 ^ (15 - x).toNat else 0
def usedF (l : List Int) : Nat := (l.filter fun x => decide (0 < x)).length
def measF (l : List Int) : Nat := (l.map part).sum
/-- What is wrong with a list of lengths. -/
def checkF (l : List Int) : Int :=
  if l.length < 1 ∨ 288 < l.length then 1
  else if l.all okLen = false then 1
  else if 32768 < measF l then 30
  else if measF l = 32768 then 0
  else if usedF l = 1 ∧ measF l = 16384 then 0
  else 31
theorem part_le (x : Int) (h : okLen x = true) : part x ≤ 16384 := by
  unfold okLen at h
  simp only [Bool.and_eq_true, decide_eq_true_eq] at h
  unfold part
  split
  · have : 2 ^ (15 - x).toNat ≤ 2 ^ 14 := Nat.pow_le_pow_right (by decide) (by omega)
    exact this
  · omega
theorem take_snoc' (l : List Int) (k : Nat) (h : k < l.length) : l.take (k + 1) = l.take k ++ [nth l k] := by
  rw [List.take_succ_eq_append_getElem h, nth_lt h]
theorem usedF_snoc (l : List Int) (k : Nat) (h : k < l.length) : usedF (l.take (k + 1)) = usedF (l.take k) + if 0 < nth l k then 1 else 0 := by
  rw [take_snoc' l k h]
  unfold usedF
  rw [List.filter_append, List.length_append]
  by_cases h0 : 0 < nth l k <;> simp [List.filter_cons, h0]
theorem measF_snoc (l : List Int) (k : Nat) (h : k < l.length) : measF (l.take (k + 1)) = measF (l.take k) + part (nth l k) := by
  rw [take_snoc' l k h]; simp [measF]
theorem all_snoc (l : List Int) (k : Nat) (h : k < l.length) : (l.take (k + 1)).all okLen = ((l.take k).all okLen && okLen (nth l k)) := by
  rw [take_snoc' l k h]; simp
theorem usedF_le (l : List Int) : usedF l ≤ l.length := List.length_filter_le _ _
theorem measF_le (l : List Int) (h : l.all okLen = true) : measF l ≤ l.length * 16384 := by
  induction l with
  | nil => simp [measF]
  | cons x r ih =>
    simp only [List.all_cons, Bool.and_eq_true] at h
    have h1 := part_le x h.1
    have h2 := ih h.2
    simp only [measF, List.map_cons, List.sum_cons, List.length_cons] at *
    omega
theorem all_hit (l : List Int) (k : Nat) (h : k < l.length) (hb : okLen (nth l k) = false) : l.all okLen = false := by
  rw [List.all_eq_false]
  rw [nth_lt h] at hb
  exact ⟨_, List.getElem_mem h, by simp [hb]⟩
theorem part_pos (x : Int) (h0 : 0 < x) (h15 : x ≤ 15) : (part x : Int) = 2 ^ (15 - x).toNat := by
  unfold part; rw [if_pos h0]; simp
theorem part_zero (x : Int) (h0 : ¬ 0 < x) : part x = 0 := by unfold part; rw [if_neg h0]
theorem check_ok {l : List Int} (h : checkF l = 0) : l.length ≤ 288 ∧ l.all okLen = true := by
  unfold checkF at h
  split at h
  · cases h
  · rename_i h1
    split at h
    · cases h
    · rename_i h2
      exact ⟨by omega, by simpa using h2⟩
end Go.Proofs.Ytcblibefmclloaa
