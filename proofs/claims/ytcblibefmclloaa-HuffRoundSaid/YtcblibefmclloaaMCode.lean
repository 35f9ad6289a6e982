/- Codes of a list of lengths: plain numbers. -/
import Derived.Test.YtcblibefmclloaaMHuff
import Derived.Test.YtcblibefmclloaaMLim
set_option linter.unusedVariables false
set_option linter.unusedSimpArgs false
namespace Go.Proofs.Ytcblibefmclloaa
/-- How many have each length. -/
def lenCnt (l : List Int) : List Int := cntF 16 (l.filter fun x => decide (0 < x))
/-- The least code of each length. -/
def lowF (cnt : List Int) : Nat → Int
  | 0 => 0
  | n + 1 => 2 * (lowF cnt n + nth cnt n)
def lowL (cnt : List Int) (n : Nat) : List Int := (List.range 16).map fun j => if j < n then lowF cnt j else 0
theorem lenCnt_len (l : List Int) : (lenCnt l).length = 16 := cntF_len _ _
theorem lowL_len (c : List Int) (n : Nat) : (lowL c n).length = 16 := by simp [lowL]
theorem lenCnt_snoc (l : List Int) (k : Nat) (h : k < l.length) (h0 : 0 < nth l k) (h15 : nth l k ≤ 15) : ∃ s : Nat, nth l k = s ∧ s < 16 ∧ lenCnt (l.take (k + 1)) = (lenCnt (l.take k)).set s (nth (lenCnt (l.take k)) s + 1) := by
  obtain ⟨s, hs⟩ := Int.eq_ofNat_of_zero_le (show 0 ≤ nth l k by omega)
  refine ⟨s, hs, by omega, ?_⟩
  unfold lenCnt
  rw [take_snoc' l k h, List.filter_append, List.filter_cons_of_pos (by simpa using h0), List.filter_nil, hs]
  exact cntF_snoc 16 _ s (by omega)
theorem lenCnt_skip (l : List Int) (k : Nat) (h : k < l.length) (h0 : ¬ 0 < nth l k) : lenCnt (l.take (k + 1)) = lenCnt (l.take k) := by
  unfold lenCnt
  rw [take_snoc' l k h, List.filter_append, List.filter_cons_of_neg (by simpa using h0), List.filter_nil, List.append_nil]
theorem lenCnt_bd (l : List Int) (s : Nat) (h : s < 16) : 0 ≤ nth (lenCnt l) s ∧ nth (lenCnt l) s ≤ l.length := by
  unfold lenCnt
  rw [cntF_nth _ _ _ h]
  have h1 := List.count_le_length (a := (s : Int)) (l := l.filter fun x => decide (0 < x))
  have h2 := List.length_filter_le (fun x => decide (0 < x)) l
  omega
theorem lowF_bd (l : List Int) (hl : l.length ≤ 288) (n : Nat) (hn : n ≤ 16) : 0 ≤ lowF (lenCnt l) n ∧ lowF (lenCnt l) n ≤ (2 ^ n - 1) * 576 := by
  induction n with
  | zero => simp [lowF]
  | succ n ih =>
    have h1 := ih (by omega)
    have h2 := lenCnt_bd l n (by omega)
    rw [lowF]
    have h3 : (2 : Int) ^ (n + 1) = 2 * 2 ^ n := by rw [Int.pow_succ]; omega
    rw [h3]
    generalize (2 : Int) ^ n = P at *
    omega
theorem pow16 (n : Nat) (hn : n ≤ 16) : (2 : Int) ^ n ≤ 65536 := by
  have : 2 ^ n ≤ 2 ^ 16 := Nat.pow_le_pow_right (by decide) hn
  have : ((2 ^ n : Nat) : Int) ≤ ((2 ^ 16 : Nat) : Int) := by exact_mod_cast this
  simpa using this
theorem lowF_small (l : List Int) (hl : l.length ≤ 288) (n : Nat) (hn : n ≤ 16) : 0 ≤ lowF (lenCnt l) n ∧ lowF (lenCnt l) n ≤ 40000000 := by
  have := lowF_bd l hl n hn
  have := pow16 n hn
  omega
theorem lowL_zero (c : List Int) : lowL c 1 = List.replicate 16 0 := by
  refine List.ext_getElem (by simp [lowL]) fun j h1 h2 => ?_
  simp only [lowL, List.getElem_map, List.getElem_range, List.getElem_replicate]
  split
  · rw [show j = 0 by omega]; rfl
  · rfl
theorem lowL_succ (c : List Int) (n : Nat) (hn : n < 16) : lowL c (n + 1) = (lowL c n).set n (lowF c n) := by
  refine List.ext_getElem (by simp [lowL]) fun j h1 h2 => ?_
  rw [List.getElem_set]
  simp only [lowL, List.getElem_map, List.getElem_range]
  by_cases e : n = j
  · subst e; rw [if_pos rfl, if_pos (by omega)]
  · rw [if_neg e]
    by_cases e2 : j < n
    · rw [if_pos (by omega), if_pos e2]
    · rw [if_neg (by omega), if_neg e2]
end Go.Proofs.Ytcblibefmclloaa
