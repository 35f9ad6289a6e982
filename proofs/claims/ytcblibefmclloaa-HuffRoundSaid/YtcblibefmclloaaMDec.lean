/- What a decoder holds: plain numbers. -/
import Derived.Test.YtcblibefmclloaaMRows
set_option linter.unusedVariables false
set_option linter.unusedSimpArgs false
namespace Go.Proofs.Ytcblibefmclloaa
/-- How many of the first have this length. -/
def cntN (l : List Int) (n i : Nat) : Int := nth (lenCnt (l.take i)) n
theorem cntN_zero (l : List Int) (n : Nat) (hn : n < 16) : cntN l n 0 = 0 := by
  unfold cntN; rw [List.take_zero]; unfold lenCnt; rw [cntF_nth _ _ _ hn]; simp
theorem cntN_all (l : List Int) (n : Nat) : cntN l n l.length = nth (lenCnt l) n := by unfold cntN; rw [List.take_length]
theorem cntN_skip (l : List Int) (n i : Nat) (hn : n < 16) (hi : i < l.length) (h : nth l i ≠ n) : cntN l n (i + 1) = cntN l n i := by
  have := posF_skip l n i hn hi h
  unfold posF at this
  unfold cntN; omega
theorem cntN_step (l : List Int) (n i : Nat) (hn : n < 16) (h1 : 1 ≤ n) (hi : i < l.length) (h : nth l i = n) : cntN l n (i + 1) = cntN l n i + 1 := by
  have := posF_step l n i hn h1 hi h
  unfold posF at this
  unfold cntN; omega
theorem cntN_nn (l : List Int) (n i : Nat) (hn : n < 16) : 0 ≤ cntN l n i := (lenCnt_bd (l.take i) n hn).1
/-- The symbols of a length among the first. -/
def symsOf (l : List Int) (n : Nat) : Nat → List Int
  | 0 => []
  | i + 1 => symsOf l n i ++ (if nth l i = n then [(i : Int)] else [])
theorem symsOf_skip (l : List Int) (n i : Nat) (h : nth l i ≠ n) : symsOf l n (i + 1) = symsOf l n i := by simp [symsOf, h]
theorem symsOf_step (l : List Int) (n i : Nat) (h : nth l i = n) : symsOf l n (i + 1) = symsOf l n i ++ [(i : Int)] := by simp [symsOf, h]
theorem symsOf_len (l : List Int) (n : Nat) : ∀ i, (symsOf l n i).length ≤ i
  | 0 => by simp [symsOf]
  | i + 1 => by
    have := symsOf_len l n i
    unfold symsOf
    rw [List.length_append]
    split <;> simp <;> omega
theorem symsOf_cnt (l : List Int) (n : Nat) (hn : n < 16) (h1 : 1 ≤ n) : ∀ i, i ≤ l.length → ((symsOf l n i).length : Int) = cntN l n i
  | 0, _ => by rw [cntN_zero l n hn]; rfl
  | i + 1, hi => by
    have := symsOf_cnt l n hn h1 i (by omega)
    by_cases h : nth l i = n
    · rw [symsOf_step l n i h, cntN_step l n i hn h1 (by omega) h, List.length_append]; simp; omega
    · rw [symsOf_skip l n i h, cntN_skip l n i hn (by omega) h]; exact this
theorem nth_append_left (xs ys : List Int) (k : Nat) (h : k < xs.length) : nth (xs ++ ys) k = nth xs k := by simp [nth, List.getD, List.getElem?_append_left h]
theorem nth_append_right (xs ys : List Int) (k : Nat) : nth (xs ++ ys) (xs.length + k) = nth ys k := by simp [nth, List.getD, List.getElem?_append_right]
/-- Which symbol stands at a place. -/
theorem symsOf_at (l : List Int) (n : Nat) (hn : n < 16) (h1 : 1 ≤ n) : ∀ i k, i ≤ l.length → k < (symsOf l n i).length → ∃ j, j < i ∧ nth (symsOf l n i) k = (j : Int) ∧ nth l j = n ∧ cntN l n j = k
  | 0, k, _, hk => by simp [symsOf] at hk
  | i + 1, k, hi, hk => by
    by_cases h : nth l i = n
    · rw [symsOf_step l n i h] at hk ⊢
      by_cases e : k < (symsOf l n i).length
      · obtain ⟨j, a, b, c, d⟩ := symsOf_at l n hn h1 i k (by omega) e
        exact ⟨j, by omega, by rw [nth_append_left _ _ _ e]; exact b, c, d⟩
      · have hk' : k = (symsOf l n i).length := by rw [List.length_append] at hk; simp at hk; omega
        refine ⟨i, by omega, ?_, h, ?_⟩
        · have := nth_append_right (symsOf l n i) [(i : Int)] 0
          rw [Nat.add_zero, ← hk'] at this
          rw [this]; rfl
        · rw [hk']; exact (symsOf_cnt l n hn h1 i (by omega)).symm
    · rw [symsOf_skip l n i h] at hk ⊢
      obtain ⟨j, a, b, c, d⟩ := symsOf_at l n hn h1 i k (by omega) hk
      exact ⟨j, by omega, b, c, d⟩
/-- All symbols of the lengths before. -/
def symsB (l : List Int) : Nat → List Int
  | 0 => []
  | n + 1 => symsB l n ++ (if n = 0 then [] else symsOf l n l.length)
theorem symsB_one (l : List Int) : symsB l 1 = [] := by simp [symsB]
theorem symsB_next (l : List Int) (n : Nat) (h : 1 ≤ n) : symsB l (n + 1) = symsB l n ++ symsOf l n l.length := by
  rw [symsB, if_neg (by omega)]
theorem symsB_len (l : List Int) : ∀ n, (symsB l n).length ≤ n * l.length
  | 0 => by simp [symsB]
  | n + 1 => by
    have h1 := symsB_len l n
    have h2 := symsOf_len l n l.length
    rw [symsB, List.length_append, Nat.add_mul]
    split <;> simp <;> omega
theorem symsB_split (l : List Int) (n : Nat) (h : 1 ≤ n) : ∀ d, ∃ r, symsB l (n + 1 + d) = symsB l n ++ (symsOf l n l.length ++ r)
  | 0 => ⟨[], by rw [Nat.add_zero, symsB_next l n h, List.append_nil]⟩
  | d + 1 => by
    obtain ⟨r, hr⟩ := symsB_split l n h d
    exact ⟨r ++ symsOf l (n + 1 + d) l.length, by rw [show n + 1 + (d + 1) = (n + 1 + d) + 1 by omega, symsB_next l _ (by omega), hr]; simp only [List.append_assoc]⟩
/-- The symbol that a code says. -/
theorem symsB_at (l : List Int) (n : Nat) (hn : n < 16) (h1 : 1 ≤ n) (k : Nat) (hk : (k : Int) < nth (lenCnt l) n) :
    (symsB l n).length + k < (symsB l 16).length ∧ ∃ j, j < l.length ∧ nth (symsB l 16) ((symsB l n).length + k) = (j : Int) ∧ nth l j = n ∧ codeI l j = lowF (lenCnt l) n + k := by
  have hc := symsOf_cnt l n hn h1 l.length (Nat.le_refl _)
  rw [cntN_all] at hc
  obtain ⟨r, hr⟩ := symsB_split l n h1 (15 - n)
  rw [show n + 1 + (15 - n) = 16 by omega] at hr
  have hk2 : k < (symsOf l n l.length).length := by omega
  obtain ⟨j, a, b, c, d⟩ := symsOf_at l n hn h1 l.length k (Nat.le_refl _) hk2
  refine ⟨by rw [hr]; simp; omega, j, a, ?_, c, ?_⟩
  · rw [hr, nth_append_right, nth_append_left _ _ _ hk2]; exact b
  · rw [posF_code l n j c]; unfold posF; unfold cntN at d; rw [d]
/-- Where each length's symbols begin. -/
def atL (l : List Int) (n : Nat) : List Int := (List.range 16).map fun m => if 1 ≤ m ∧ m < n then ((symsB l m).length : Int) else 0
theorem atL_len (l : List Int) (n : Nat) : (atL l n).length = 16 := by simp [atL]
theorem atL_one (l : List Int) : atL l 1 = List.replicate 16 0 := by
  refine List.ext_getElem (by simp [atL]) fun j h1 h2 => ?_
  simp only [atL, List.getElem_map, List.getElem_range, List.getElem_replicate]
  rw [if_neg (by omega)]
theorem atL_next (l : List Int) (n : Nat) (h1 : 1 ≤ n) (hn : n < 16) : atL l (n + 1) = (atL l n).set n ((symsB l n).length : Int) := by
  refine List.ext_getElem (by simp [atL]) fun j h1 h2 => ?_
  rw [List.getElem_set]
  simp only [atL, List.getElem_map, List.getElem_range]
  by_cases e : n = j
  · subst e; rw [if_pos rfl, if_pos (by omega)]
  · rw [if_neg e]
    by_cases e2 : 1 ≤ j ∧ j < n
    · rw [if_pos (by omega), if_pos e2]
    · rw [if_neg (by omega), if_neg e2]
theorem atL_at (l : List Int) (n : Nat) (h1 : 1 ≤ n) (hn : n < 16) : nth (atL l 16) n = ((symsB l n).length : Int) := by
  unfold atL; rw [show nth ((List.range 16).map fun m => if 1 ≤ m ∧ m < 16 then ((symsB l m).length : Int) else 0) n = (fun m => if 1 ≤ m ∧ m < 16 then ((symsB l m).length : Int) else 0) n by simp [nth, List.getD, hn]]
  simp only []
  rw [if_pos ⟨h1, hn⟩]
/-- The longest length before. -/
def longN (l : List Int) : Nat → Nat
  | 0 => 0
  | n + 1 => if 1 ≤ n ∧ 0 < nth (lenCnt l) n then n else longN l n
def longA (l : List Int) (n i : Nat) : Nat := if 0 < cntN l n i then n else longN l n
theorem longN_one (l : List Int) : longN l 1 = 0 := by simp [longN]
theorem longA_zero (l : List Int) (n : Nat) (hn : n < 16) : longA l n 0 = longN l n := by unfold longA; rw [cntN_zero l n hn, if_neg (by omega)]
theorem longA_all (l : List Int) (n : Nat) (h1 : 1 ≤ n) : longA l n l.length = longN l (n + 1) := by
  unfold longA
  rw [cntN_all, longN]
  by_cases h : 0 < nth (lenCnt l) n
  · rw [if_pos h, if_pos ⟨h1, h⟩]
  · rw [if_neg h, if_neg (fun h' => h h'.2)]
theorem longA_skip (l : List Int) (n i : Nat) (hn : n < 16) (hi : i < l.length) (h : nth l i ≠ n) : longA l n (i + 1) = longA l n i := by
  unfold longA; rw [cntN_skip l n i hn hi h]
theorem longA_step (l : List Int) (n i : Nat) (hn : n < 16) (h1 : 1 ≤ n) (hi : i < l.length) (h : nth l i = n) : longA l n (i + 1) = n := by
  unfold longA; rw [cntN_step l n i hn h1 hi h, if_pos (by have := cntN_nn l n i hn; omega)]
theorem longN_le (l : List Int) : ∀ n, longN l n < n ∨ n = 0
  | 0 => .inr rfl
  | n + 1 => by
    left
    rw [longN]
    split
    · omega
    · have := longN_le l n
      rcases this with h | h
      · omega
      · subst h; simp [longN]
theorem longN_top (l : List Int) : ∀ n m, longN l n < m → m < n → nth (lenCnt l) m ≤ 0 ∨ m = 0
  | 0, m, _, h => by omega
  | n + 1, m, h1, h2 => by
    rw [longN] at h1
    split at h1
    · omega
    · rename_i h3
      by_cases e : m = n
      · subst e
        by_cases h0 : m = 0
        · exact .inr h0
        · left; omega
      · exact longN_top l n m h1 (by omega)
theorem longN_has (l : List Int) : ∀ n, longN l n = 0 ∨ 0 < nth (lenCnt l) (longN l n)
  | 0 => .inl rfl
  | n + 1 => by
    rw [longN]
    split
    · rename_i h; exact .inr h.2
    · exact longN_has l n
end Go.Proofs.Ytcblibefmclloaa
