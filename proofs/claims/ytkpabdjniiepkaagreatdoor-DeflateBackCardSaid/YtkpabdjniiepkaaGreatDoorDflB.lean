import Derived.Test.YtkpabdjniiepkaaGreatDoorDflA
import Derived.Laws.AppendOwnNone
import Derived.OneCell
import Derived.Lib.AppendZerosOnto
import Derived.OwnWalk
import Derived.Laws.StructEq
/- Rows of bits of codes: plain numbers. -/
set_option linter.unusedVariables false
set_option linter.unusedSimpArgs false
namespace Go.Proofs.YtkpabdjniiepkaaGreatDoor
/-- The n bits of a code, the highest first. -/
def msbF (c : Int) (n : Nat) : List Int := (List.range n).map fun t => c / 2 ^ (n - 1 - t) % 2
/-- The last j of them. -/
def msbP (c : Int) (n j : Nat) : List Int := (List.range n).map fun t => if n ≤ t + j then c / 2 ^ (n - 1 - t) % 2 else 0
theorem msbP_zero (c : Int) (n : Nat) : msbP c n 0 = List.replicate n 0 := by
  refine List.ext_getElem (by simp [msbP]) fun t h1 h2 => ?_
  have ht : t < n := by simpa [msbP] using h1
  simp only [msbP, List.getElem_map, List.getElem_range, List.getElem_replicate]
  rw [if_neg (by omega)]
theorem msbP_all (c : Int) (n : Nat) : msbP c n n = msbF c n := by
  refine List.ext_getElem (by simp [msbP, msbF]) fun t h1 h2 => ?_
  simp only [msbP, msbF, List.getElem_map, List.getElem_range]
  rw [if_pos (by omega)]
theorem msbP_len (c : Int) (n j : Nat) : (msbP c n j).length = n := by simp [msbP]
theorem msbF_len (c : Int) (n : Nat) : (msbF c n).length = n := by simp [msbF]
theorem msbF_nth (c : Int) (n t : Nat) (h : t < n) : nth (msbF c n) t = c / 2 ^ (n - 1 - t) % 2 := by
  unfold msbF; rw [nth_map_range _ _ _ h]
theorem msbP_step (c : Int) (n j : Nat) (h : j < n) : msbP c n (j + 1) = (msbP c n j).set (n - 1 - j) (c / 2 ^ j % 2) := by
  refine List.ext_getElem (by simp [msbP]) fun t h1 h2 => ?_
  have ht : t < n := by simpa [msbP] using h1
  rw [List.getElem_set]
  simp only [msbP, List.getElem_map, List.getElem_range]
  by_cases e : n - 1 - j = t
  · rw [if_pos e, if_pos (by omega), show n - 1 - t = j by omega]
  · rw [if_neg e]
    by_cases hj : n ≤ t + j
    · rw [if_pos (by omega), if_pos hj]
    · rw [if_neg (by omega), if_neg hj]
/-- The rows that are laid before the n-th length's i-th symbol. -/
def rowsAt (l : List Int) (n i : Nat) : List (List Int) := (List.range l.length).map fun j => if 0 < nth l j ∧ (nth l j < n ∨ nth l j = n ∧ j < i) then msbF (codeI l j) (nth l j).toNat else []
def rowsF (l : List Int) : List (List Int) := (List.range l.length).map fun j => if 0 < nth l j then msbF (codeI l j) (nth l j).toNat else []
theorem rowsAt_len (l : List Int) (n i : Nat) : (rowsAt l n i).length = l.length := by simp [rowsAt]
theorem rowsF_len (l : List Int) : (rowsF l).length = l.length := by simp [rowsF]
theorem rowsAt_zero (l : List Int) : rowsAt l 1 0 = List.replicate l.length [] := by
  refine List.ext_getElem (by simp [rowsAt]) fun j h1 h2 => ?_
  simp only [rowsAt, List.getElem_map, List.getElem_range, List.getElem_replicate]
  rw [if_neg (by omega)]
theorem rowsAt_all (l : List Int) (h : l.all okLen = true) : rowsAt l 16 0 = rowsF l := by
  refine List.ext_getElem (by simp [rowsAt, rowsF]) fun j h1 h2 => ?_
  have hj : j < l.length := by simpa [rowsAt] using h1
  have hx : okLen (nth l j) = true := by rw [nth_lt hj]; exact List.all_eq_true.1 h _ (List.getElem_mem _)
  have hx1 : 0 ≤ nth l j ∧ nth l j ≤ 15 := by simpa [okLen] using hx
  simp only [rowsAt, rowsF, List.getElem_map, List.getElem_range]
  by_cases e : 0 < nth l j
  · rw [if_pos ⟨e, by omega⟩, if_pos e]
  · rw [if_neg (by omega), if_neg e]
theorem rowsAt_next (l : List Int) (n : Nat) : rowsAt l n l.length = rowsAt l (n + 1) 0 := by
  refine List.ext_getElem (by simp [rowsAt]) fun j h1 h2 => ?_
  have hj : j < l.length := by simpa [rowsAt] using h1
  simp only [rowsAt, List.getElem_map, List.getElem_range]
  by_cases e : 0 < nth l j ∧ (nth l j < n ∨ nth l j = n)
  · rw [if_pos (by omega), if_pos (by omega)]
  · rw [if_neg (by omega), if_neg (by omega)]
theorem rowsAt_skip (l : List Int) (n i : Nat) (h : nth l i ≠ n) : rowsAt l n (i + 1) = rowsAt l n i := by
  refine List.ext_getElem (by simp [rowsAt]) fun j h1 h2 => ?_
  simp only [rowsAt, List.getElem_map, List.getElem_range]
  by_cases e : j = i
  · subst e
    by_cases e2 : 0 < nth l j ∧ nth l j < n
    · rw [if_pos (by omega), if_pos (by omega)]
    · rw [if_neg (by omega), if_neg (by omega)]
  · by_cases e2 : 0 < nth l j ∧ (nth l j < n ∨ nth l j = n ∧ j < i)
    · rw [if_pos (by omega), if_pos e2]
    · rw [if_neg (by omega), if_neg e2]
theorem rowsAt_step (l : List Int) (n i : Nat) (hi : i < l.length) (hn : 1 ≤ n) (h : nth l i = n) : rowsAt l n (i + 1) = (rowsAt l n i).set i (msbF (codeI l i) n) := by
  refine List.ext_getElem (by simp [rowsAt]) fun j h1 h2 => ?_
  rw [List.getElem_set]
  simp only [rowsAt, List.getElem_map, List.getElem_range]
  by_cases e : i = j
  · subst e
    rw [if_pos rfl, if_pos (by omega), h]; simp
  · rw [if_neg e]
    by_cases e2 : 0 < nth l j ∧ (nth l j < n ∨ nth l j = n ∧ j < i)
    · rw [if_pos (by omega), if_pos e2]
    · rw [if_neg (by omega), if_neg e2]
/-- The code that comes next at a length. -/
def posF (l : List Int) (n i : Nat) : Int := lowF (lenCnt l) n + nth (lenCnt (l.take i)) n
theorem posF_skip (l : List Int) (n i : Nat) (hn : n < 16) (hi : i < l.length) (h : nth l i ≠ n) : posF l n (i + 1) = posF l n i := by
  unfold posF
  congr 1
  unfold lenCnt
  rw [cntF_nth _ _ _ hn, cntF_nth _ _ _ hn, take_snoc' l i hi, List.filter_append, List.count_append]
  have : List.count (n : Int) (List.filter (fun x => decide (0 < x)) [nth l i]) = 0 := List.count_eq_zero_of_not_mem (fun hm => by
    have := (List.mem_filter.1 hm).1
    exact h (List.mem_singleton.1 this).symm)
  omega
theorem posF_step (l : List Int) (n i : Nat) (hn : n < 16) (h1 : 1 ≤ n) (hi : i < l.length) (h : nth l i = n) : posF l n (i + 1) = posF l n i + 1 := by
  unfold posF
  unfold lenCnt
  rw [cntF_nth _ _ _ hn, cntF_nth _ _ _ hn, take_snoc' l i hi, List.filter_append, List.count_append, h, List.filter_cons_of_pos (by simp; omega)]
  simp; omega
theorem posF_next (l : List Int) (n : Nat) (hn : n < 16) : posF l (n + 1) 0 = 2 * posF l n l.length ∨ 15 ≤ n := by
  by_cases h : n < 15
  · left
    unfold posF
    rw [List.take_zero, List.take_length, lowF]
    have : nth (lenCnt []) (n + 1) = 0 := by unfold lenCnt; rw [cntF_nth _ _ _ (by omega)]; simp
    omega
  · right; omega
theorem posF_one (l : List Int) : posF l 1 0 = 0 := by
  unfold posF
  have h1 : nth (lenCnt (l.take 0)) 1 = 0 := by rw [List.take_zero]; unfold lenCnt; rw [cntF_nth _ _ _ (by omega)]; simp
  have h2 : nth (lenCnt l) 0 = 0 := by
    unfold lenCnt
    rw [cntF_nth _ _ _ (by omega)]
    have : List.count (0 : Int) (List.filter (fun x => decide (0 < x)) l) = 0 := List.count_eq_zero_of_not_mem (fun hm => by
      have := (List.mem_filter.1 hm).2; simp at this)
    exact_mod_cast this
  simp only [lowF]
  omega
theorem posF_code (l : List Int) (n i : Nat) (h : nth l i = n) : codeI l i = posF l n i := by unfold codeI posF; rw [h]; simp
theorem posF_bd (l : List Int) (hl : l.length ≤ 288) (n i : Nat) (hn : n < 16) : 0 ≤ posF l n i ∧ posF l n i ≤ 50000000 := by
  unfold posF
  have h1 := lowF_small l hl n (by omega)
  have h2 := lenCnt_bd (l.take i) n hn
  have : (l.take i).length ≤ 288 := by rw [List.length_take]; omega
  omega
/-- What the laying of rows keeps: the last code and its length. -/
def Last (l : List Int) (n i : Nat) (code : Int) (last : Nat) : Prop := 0 ≤ code ∧ code ≤ 50000000 ∧ last ≤ n ∧ if last = 0 then posF l n i = 0 ∧ code = 0 else (code + 1) * 2 ^ (n - last) = posF l n i
theorem last_start (l : List Int) : Last l 1 0 0 0 := ⟨by omega, by omega, by omega, by rw [if_pos rfl]; exact ⟨posF_one l, rfl⟩⟩
theorem last_skip {l : List Int} {n i : Nat} {code : Int} {last : Nat} (h : Last l n i code last) (hn : n < 16) (hi : i < l.length) (hne : nth l i ≠ n) : Last l n (i + 1) code last := by
  obtain ⟨h1, h2, h3, h4⟩ := h
  refine ⟨h1, h2, h3, ?_⟩
  rw [posF_skip l n i hn hi hne]; exact h4
theorem last_step {l : List Int} {n i : Nat} (hl : l.length ≤ 288) (hn : n < 16) (h1 : 1 ≤ n) (hi : i < l.length) (h : nth l i = n) : Last l n (i + 1) (codeI l i) n := by
  rw [posF_code l n i h]
  have := posF_bd l hl n i hn
  refine ⟨this.1, this.2, Nat.le_refl _, ?_⟩
  rw [if_neg (by omega), posF_step l n i hn h1 hi h, Nat.sub_self]; simp
theorem last_next {l : List Int} {n : Nat} {code : Int} {last : Nat} (h : Last l n l.length code last) (hn : n < 15) : Last l (n + 1) 0 code last := by
  obtain ⟨h1, h2, h3, h4⟩ := h
  refine ⟨h1, h2, by omega, ?_⟩
  have hp := (posF_next l n (by omega)).resolve_right (by omega)
  split at h4
  · rename_i h0
    rw [if_pos h0, hp]; exact ⟨by omega, h4.2⟩
  · rename_i h0
    rw [if_neg h0, hp, ← h4, show n + 1 - last = (n - last) + 1 by omega, Int.pow_succ]
    rw [← Int.mul_assoc]; omega
theorem last_code {l : List Int} {n i : Nat} {code : Int} {last : Nat} (h : Last l n i code last) (hx : nth l i = n) (h0 : last ≠ 0) : (code + 1) * 2 ^ (n - last) = codeI l i := by
  rw [posF_code l n i hx]
  have := h.2.2.2
  rwa [if_neg h0] at this
theorem last_code0 {l : List Int} {n i : Nat} {code : Int} {last : Nat} (h : Last l n i code last) (hx : nth l i = n) (h0 : last = 0) : code = codeI l i := by
  rw [posF_code l n i hx]
  have := h.2.2.2
  rw [if_pos h0] at this
  omega
end Go.Proofs.YtkpabdjniiepkaaGreatDoor

/- What a decoder holds: plain numbers. -/
set_option linter.unusedVariables false
set_option linter.unusedSimpArgs false
namespace Go.Proofs.YtkpabdjniiepkaaGreatDoor
/-- How many of the first have this length. -/
def cntN (l : List Int) (n i : Nat) : Int := nth (lenCnt (l.take i)) n
theorem cntN_zero (l : List Int) (n : Nat) (hn : n < 16) : cntN l n 0 = 0 := by
  unfold cntN; rw [List.take_zero]; unfold lenCnt; rw [cntF_nth _ _ _ hn]; simp
theorem cntN_all (l : List Int) (n : Nat) : cntN l n l.length = nth (lenCnt l) n := by unfold cntN; rw [List.take_length]
theorem cntN_skip (l : List Int) (n i : Nat) (hn : n < 16) (hi : i < l.length) (h : nth l i ≠ n) : cntN l n (i + 1) = cntN l n i := by
  have := posF_skip l n i hn hi h
  unfold posF at this
  unfold cntN; omega
theorem cntN_step (l : List Int) (n i : Nat) (hn : n < 16) (h1 : 1 ≤ n) (hi : i < l.length) (h : nth l i = n) : cntN l n (i + 1) = cntN l n i + 1 := by
  have := posF_step l n i hn h1 hi h
  unfold posF at this
  unfold cntN; omega
theorem cntN_nn (l : List Int) (n i : Nat) (hn : n < 16) : 0 ≤ cntN l n i := (lenCnt_bd (l.take i) n hn).1
/-- The symbols of a length among the first. -/
def symsOf (l : List Int) (n : Nat) : Nat → List Int
  | 0 => []
  | i + 1 => symsOf l n i ++ (if nth l i = n then [(i : Int)] else [])
theorem symsOf_skip (l : List Int) (n i : Nat) (h : nth l i ≠ n) : symsOf l n (i + 1) = symsOf l n i := by simp [symsOf, h]
theorem symsOf_step (l : List Int) (n i : Nat) (h : nth l i = n) : symsOf l n (i + 1) = symsOf l n i ++ [(i : Int)] := by simp [symsOf, h]
theorem symsOf_len (l : List Int) (n : Nat) : ∀ i, (symsOf l n i).length ≤ i
  | 0 => by simp [symsOf]
  | i + 1 => by
    have := symsOf_len l n i
    unfold symsOf
    rw [List.length_append]
    split <;> simp <;> omega
theorem symsOf_cnt (l : List Int) (n : Nat) (hn : n < 16) (h1 : 1 ≤ n) : ∀ i, i ≤ l.length → ((symsOf l n i).length : Int) = cntN l n i
  | 0, _ => by rw [cntN_zero l n hn]; rfl
  | i + 1, hi => by
    have := symsOf_cnt l n hn h1 i (by omega)
    by_cases h : nth l i = n
    · rw [symsOf_step l n i h, cntN_step l n i hn h1 (by omega) h, List.length_append]; simp; omega
    · rw [symsOf_skip l n i h, cntN_skip l n i hn (by omega) h]; exact this
theorem nth_append_left (xs ys : List Int) (k : Nat) (h : k < xs.length) : nth (xs ++ ys) k = nth xs k := by simp [nth, List.getD, List.getElem?_append_left h]
theorem nth_append_right (xs ys : List Int) (k : Nat) : nth (xs ++ ys) (xs.length + k) = nth ys k := by simp [nth, List.getD, List.getElem?_append_right]
/-- Which symbol stands at a place. -/
theorem symsOf_at (l : List Int) (n : Nat) (hn : n < 16) (h1 : 1 ≤ n) : ∀ i k, i ≤ l.length → k < (symsOf l n i).length → ∃ j, j < i ∧ nth (symsOf l n i) k = (j : Int) ∧ nth l j = n ∧ cntN l n j = k
  | 0, k, _, hk => by simp [symsOf] at hk
  | i + 1, k, hi, hk => by
    by_cases h : nth l i = n
    · rw [symsOf_step l n i h] at hk ⊢
      by_cases e : k < (symsOf l n i).length
      · obtain ⟨j, a, b, c, d⟩ := symsOf_at l n hn h1 i k (by omega) e
        exact ⟨j, by omega, by rw [nth_append_left _ _ _ e]; exact b, c, d⟩
      · have hk' : k = (symsOf l n i).length := by rw [List.length_append] at hk; simp at hk; omega
        refine ⟨i, by omega, ?_, h, ?_⟩
        · have := nth_append_right (symsOf l n i) [(i : Int)] 0
          rw [Nat.add_zero, ← hk'] at this
          rw [this]; rfl
        · rw [hk']; exact (symsOf_cnt l n hn h1 i (by omega)).symm
    · rw [symsOf_skip l n i h] at hk ⊢
      obtain ⟨j, a, b, c, d⟩ := symsOf_at l n hn h1 i k (by omega) hk
      exact ⟨j, by omega, b, c, d⟩
/-- All symbols of the lengths before. -/
def symsB (l : List Int) : Nat → List Int
  | 0 => []
  | n + 1 => symsB l n ++ (if n = 0 then [] else symsOf l n l.length)
theorem symsB_one (l : List Int) : symsB l 1 = [] := by simp [symsB]
theorem symsB_next (l : List Int) (n : Nat) (h : 1 ≤ n) : symsB l (n + 1) = symsB l n ++ symsOf l n l.length := by
  rw [symsB, if_neg (by omega)]
theorem symsB_len (l : List Int) : ∀ n, (symsB l n).length ≤ n * l.length
  | 0 => by simp [symsB]
  | n + 1 => by
    have h1 := symsB_len l n
    have h2 := symsOf_len l n l.length
    rw [symsB, List.length_append, Nat.add_mul]
    split <;> simp <;> omega
theorem symsB_split (l : List Int) (n : Nat) (h : 1 ≤ n) : ∀ d, ∃ r, symsB l (n + 1 + d) = symsB l n ++ (symsOf l n l.length ++ r)
  | 0 => ⟨[], by rw [Nat.add_zero, symsB_next l n h, List.append_nil]⟩
  | d + 1 => by
    obtain ⟨r, hr⟩ := symsB_split l n h d
    exact ⟨r ++ symsOf l (n + 1 + d) l.length, by rw [show n + 1 + (d + 1) = (n + 1 + d) + 1 by omega, symsB_next l _ (by omega), hr]; simp only [List.append_assoc]⟩
/-- The symbol that a code says. -/
theorem symsB_at (l : List Int) (n : Nat) (hn : n < 16) (h1 : 1 ≤ n) (k : Nat) (hk : (k : Int) < nth (lenCnt l) n) :
    (symsB l n).length + k < (symsB l 16).length ∧ ∃ j, j < l.length ∧ nth (symsB l 16) ((symsB l n).length + k) = (j : Int) ∧ nth l j = n ∧ codeI l j = lowF (lenCnt l) n + k := by
  have hc := symsOf_cnt l n hn h1 l.length (Nat.le_refl _)
  rw [cntN_all] at hc
  obtain ⟨r, hr⟩ := symsB_split l n h1 (15 - n)
  rw [show n + 1 + (15 - n) = 16 by omega] at hr
  have hk2 : k < (symsOf l n l.length).length := by omega
  obtain ⟨j, a, b, c, d⟩ := symsOf_at l n hn h1 l.length k (Nat.le_refl _) hk2
  refine ⟨by rw [hr]; simp; omega, j, a, ?_, c, ?_⟩
  · rw [hr, nth_append_right, nth_append_left _ _ _ hk2]; exact b
  · rw [posF_code l n j c]; unfold posF; unfold cntN at d; rw [d]
/-- Where each length's symbols begin. -/
def atL (l : List Int) (n : Nat) : List Int := (List.range 16).map fun m => if 1 ≤ m ∧ m < n then ((symsB l m).length : Int) else 0
theorem atL_len (l : List Int) (n : Nat) : (atL l n).length = 16 := by simp [atL]
theorem atL_one (l : List Int) : atL l 1 = List.replicate 16 0 := by
  refine List.ext_getElem (by simp [atL]) fun j h1 h2 => ?_
  simp only [atL, List.getElem_map, List.getElem_range, List.getElem_replicate]
  rw [if_neg (by omega)]
theorem atL_next (l : List Int) (n : Nat) (h1 : 1 ≤ n) (hn : n < 16) : atL l (n + 1) = (atL l n).set n ((symsB l n).length : Int) := by
  refine List.ext_getElem (by simp [atL]) fun j h1 h2 => ?_
  rw [List.getElem_set]
  simp only [atL, List.getElem_map, List.getElem_range]
  by_cases e : n = j
  · subst e; rw [if_pos rfl, if_pos (by omega)]
  · rw [if_neg e]
    by_cases e2 : 1 ≤ j ∧ j < n
    · rw [if_pos (by omega), if_pos e2]
    · rw [if_neg (by omega), if_neg e2]
theorem atL_at (l : List Int) (n : Nat) (h1 : 1 ≤ n) (hn : n < 16) : nth (atL l 16) n = ((symsB l n).length : Int) := by
  unfold atL; rw [show nth ((List.range 16).map fun m => if 1 ≤ m ∧ m < 16 then ((symsB l m).length : Int) else 0) n = (fun m => if 1 ≤ m ∧ m < 16 then ((symsB l m).length : Int) else 0) n by simp [nth, List.getD, hn]]
  simp only []
  rw [if_pos ⟨h1, hn⟩]
/-- The longest length before. -/
def longN (l : List Int) : Nat → Nat
  | 0 => 0
  | n + 1 => if 1 ≤ n ∧ 0 < nth (lenCnt l) n then n else longN l n
def longA (l : List Int) (n i : Nat) : Nat := if 0 < cntN l n i then n else longN l n
theorem longN_one (l : List Int) : longN l 1 = 0 := by simp [longN]
theorem longA_zero (l : List Int) (n : Nat) (hn : n < 16) : longA l n 0 = longN l n := by unfold longA; rw [cntN_zero l n hn, if_neg (by omega)]
theorem longA_all (l : List Int) (n : Nat) (h1 : 1 ≤ n) : longA l n l.length = longN l (n + 1) := by
  unfold longA
  rw [cntN_all, longN]
  by_cases h : 0 < nth (lenCnt l) n
  · rw [if_pos h, if_pos ⟨h1, h⟩]
  · rw [if_neg h, if_neg (fun h' => h h'.2)]
theorem longA_skip (l : List Int) (n i : Nat) (hn : n < 16) (hi : i < l.length) (h : nth l i ≠ n) : longA l n (i + 1) = longA l n i := by
  unfold longA; rw [cntN_skip l n i hn hi h]
theorem longA_step (l : List Int) (n i : Nat) (hn : n < 16) (h1 : 1 ≤ n) (hi : i < l.length) (h : nth l i = n) : longA l n (i + 1) = n := by
  unfold longA; rw [cntN_step l n i hn h1 hi h, if_pos (by have := cntN_nn l n i hn; omega)]
theorem longN_le (l : List Int) : ∀ n, longN l n < n ∨ n = 0
  | 0 => .inr rfl
  | n + 1 => by
    left
    rw [longN]
    split
    · omega
    · have := longN_le l n
      rcases this with h | h
      · omega
      · subst h; simp [longN]
theorem longN_top (l : List Int) : ∀ n m, longN l n < m → m < n → nth (lenCnt l) m ≤ 0 ∨ m = 0
  | 0, m, _, h => by omega
  | n + 1, m, h1, h2 => by
    rw [longN] at h1
    split at h1
    · omega
    · rename_i h3
      by_cases e : m = n
      · subst e
        by_cases h0 : m = 0
        · exact .inr h0
        · left; omega
      · exact longN_top l n m h1 (by omega)
theorem longN_has (l : List Int) : ∀ n, longN l n = 0 ∨ 0 < nth (lenCnt l) (longN l n)
  | 0 => .inl rfl
  | n + 1 => by
    rw [longN]
    split
    · rename_i h; exact .inr h.2
    · exact longN_has l n
end Go.Proofs.YtkpabdjniiepkaaGreatDoor

set_option linter.unusedVariables false
set_option linter.unusedSimpArgs false
/-! Plain: what a decoder reads. -/
namespace Go.Proofs.YtkpabdjniiepkaaGreatDoor
/-- What is read next: from the code so far, so many bits of it taken. -/
def decGo (l bs : List Int) (p : Nat) : Nat → Nat → Int → Int × Int × Nat
  | 0, _, _ => (0, 32, 0)
  | f + 1, n, x => if p + n + 1 ≤ 8 * bs.length then
      if 0 ≤ 2 * x + bitAt bs (p + n) - lowF (lenCnt l) (n + 1) ∧ 2 * x + bitAt bs (p + n) - lowF (lenCnt l) (n + 1) < nth (lenCnt l) (n + 1) then
        (nth (symsB l 16) ((symsB l (n + 1)).length + (2 * x + bitAt bs (p + n) - lowF (lenCnt l) (n + 1)).toNat), 0, n + 1)
      else decGo l bs p f (n + 1) (2 * x + bitAt bs (p + n))
    else (0, 10, 0)
def decF (l bs : List Int) (p : Nat) : Int × Int × Nat := decGo l bs p (longN l 16) 0 0
end Go.Proofs.YtkpabdjniiepkaaGreatDoor

set_option linter.unusedVariables false
set_option linter.unusedSimpArgs false
namespace Go.Proofs.YtkpabdjniiepkaaGreatDoor
open Go.RowKit

theorem beq_of_getD (xs ys : List Int) (n : Nat) (hx : xs.length = n) (hy : ys.length = n) (h : ∀ j, j < n → nth xs j = nth ys j) : (xs == ys) = true := by
  rw [beq_iff_eq]
  refine List.ext_getElem (by omega) fun i h1 h2 => ?_
  have := h i (by omega)
  simpa [nth, List.getD, h1, h2] using this
theorem beq_of_ne (xs ys : List Int) (j : Nat) (h : ¬ nth xs j = nth ys j) : (xs == ys) = false := by
  rw [beq_eq_false_iff_ne]
  rintro rfl
  exact h rfl
theorem beq_of_len (xs ys : List Int) (h : xs.length ≠ ys.length) : (xs == ys) = false := by
  rw [beq_eq_false_iff_ne]
  rintro rfl
  exact h rfl
theorem eq_snoc {xs ys : List Int} {k : Nat} (h : ∀ j, j < k → nth xs j = nth ys j) (hk : nth xs k = nth ys k) : ∀ j, j < k + 1 → nth xs j = nth ys j := fun j hj => by
  by_cases e : j = k
  · subst e; exact hk
  · exact h j (by omega)
end Go.Proofs.YtkpabdjniiepkaaGreatDoor

set_option linter.unusedVariables false
set_option linter.unusedSimpArgs false
namespace Go.Proofs.YtkpabdjniiepkaaGreatDoor
open Go.RowKit
theorem ints_one' (k : IntKind) (xs : List Int) : ∀ v ∈ ints k xs, v.oneCell' = true := by
  intro u hu; simp only [ints, List.mem_map] at hu; obtain ⟨x, _, rfl⟩ := hu; rfl
/-- 's = append(s, ys...)' of bytes, whatever slice the source is. -/
theorem app_bytes {ops : Array Oper} {rest : List Oper} {o : Oper} {a : Act} {Q : Exit → Act → World → Prop} {w : World} (hgd : o.guard = none) (s x : Operand)
    (ho : o.op = .call { callee := .builtin .append, args := #[s, x], argTypes := #[22, 22] })
    (base : Nat) (v : Value) (n : Nat) (xs : List Int) (hs : a.eval s = v) (hown : w.ownsRow base 5 1 v n (ints .u8 xs))
    (A : Option Addr) (m c : Nat) (ys : List Int) (hx : a.eval x = .slice A m c) (hy : RI .u8 w A m ys) (hnil : A = none → m = 0 ∧ c = 0)
    (hn : n + m ≤ 8000000000) (hbase : base ≤ w.heap.size)
    (h : ∀ v' w', w'.ownsRow base 5 1 v' (n + m) (ints .u8 (xs ++ ys)) → w.grownBy w' v.ownBlock → wpList Tryz.prog ops Q rest (a.put o.dst v') w') : wpList Tryz.prog ops Q (o :: rest) a w := by
  obtain ⟨i0, hi, hz0, hz1, hz2⟩ := info_parts info_u8
  cases A with
  | none =>
    obtain ⟨rfl, rfl⟩ := hnil rfl
    obtain rfl : ys = [] := List.eq_nil_of_length_eq_zero hy.len
    refine wpList_append_own_none hgd s x 22 ho base 5 i0 1 Tryz.underlying22 hi v n (ints .u8 xs) hs hown hx ?_
    exact h v w (by simpa using hown) ⟨rfl, rfl, rfl, Nat.le_refl _, fun _ _ _ => rfl⟩
  | some ad =>
    refine wpList_append_own _ hgd s x 22 ho base 5 i0 (.int .u8 0) 1 1 Tryz.underlying22 hi hz0 hz1 hz2 rfl (by decide) v n (ints .u8 xs) hs hown ad m c (ints .u8 ys) hx (by simp [ints, hy.len]) ?_ (ints_one' _ _) (by unfold maxLen; omega) (by omega) hbase ?_
    · intro j u hu
      have hj : j < m := by have := (List.getElem?_eq_some_iff.1 hu).1; have := hy.len; simp [ints] at *; omega
      obtain ⟨b, of, hab⟩ := hy.hd (by omega)
      obtain rfl := Option.some.inj hab
      rw [add_plain2]
      have hc := hy.cell b of rfl j hj
      rw [hc, ← hu, ints_getElem?]
      simp [nth, List.getD, show j < ys.length by have := hy.len; omega]
    · intro v' w' h2 h3 _
      have e : ints .u8 (xs ++ ys) = ints .u8 xs ++ ints .u8 ys := by simp [ints]
      rw [e] at h
      exact h v' w' h2 h3
end Go.Proofs.YtkpabdjniiepkaaGreatDoor

set_option linter.unusedVariables false
set_option linter.unusedSimpArgs false
namespace Go.Proofs.YtkpabdjniiepkaaGreatDoor
open Go.RowKit
/-- The first bits of bytes. -/
def bitsP (bs : List Int) (m : Nat) : List Int := (List.range m).map (bitAt bs)
theorem bitsP_len (bs : List Int) (m : Nat) : (bitsP bs m).length = m := by simp [bitsP]
theorem bitsP_succ (bs : List Int) (m : Nat) : bitsP bs (m + 1) = bitsP bs m ++ [bitAt bs m] := by simp [bitsP, List.range_succ]
theorem bitsP_nth (bs : List Int) (m j : Nat) (h : j < m) : nth (bitsP bs m) j = bitAt bs j := by simp [bitsP, nth, List.getD, h]
theorem ri_one (w : World) (k : IntKind) (t : TypeId) (x : Int) : RI k (w.alloc (.cells #[.int k x] t)) (some ⟨w.heap.size, 0, none⟩) 1 [x] := by
  have := (blk_new w t (ints k [x]))
  have h2 := Blk.ri (xs := [x]) (ys := []) (k := k) (by simpa [ints] using this)
  exact h2
set_option maxRecDepth 100000 in
set_option maxHeartbeats 1000000 in
theorem of_calls (w : World) (A : Option Addr) (n c : Nat) (bs : List Int) (hr : RI .u8 w A n bs) (hbyte : ∀ j, 0 ≤ nth bs j ∧ nth bs j ≤ 255) (hn : n ≤ 10000000) :
    Calls Tryz.prog 52 #[.slice A n c] w fun e w' => ∃ v, e = .returned v ∧ w'.ownsRow w.heap.size 5 1 v (8 * n) (ints .u8 (bitsP bs (8 * n))) ∧ Below w.heap.size w w' := by
  have HR := Lib.hid hr
  have HBY := Lib.hid hbyte
  clear hr hbyte
  go_enter Tryz.func52, Tryz.ntmps52
  go_wp2_with fail
  go_loopw [3, 4] (fun v iv wr => ∃ i : Nat, i ≤ n ∧ iv = .int .i64 i ∧ Hid (wr.ownsRow w.heap.size 5 1 v (8 * i) (ints .u8 (bitsP bs (8 * i)))) ∧ Hid (Below w.heap.size w wr)) (fun _ iv _ => n - (intOf iv).toNat)
  case atStart => exact ⟨0, by omega, rfl, Lib.hid (World.ownsRow_nil _ _ _ _), Lib.hid (Below.refl _ _)⟩
  case round =>
    rename_i v _ _
    obtain ⟨i, hi, rfl, HO, HB⟩ := hrel
    by_cases hlt : i < n
    · obtain ⟨b, o, rfl, hc⟩ := HR.out.at hlt
      have hc := (Keeps.of_below (S := []) HB.out).cell (by simp) hc
      obtain ⟨hb0, hb1⟩ := HBY.out i
      obtain ⟨wm, rfl⟩ : ∃ wm : World, wm = wr := ⟨_, rfl⟩
      go_wp2_with fail
      go_loopw [3, 5, 6] (fun v cv kv wr => ∃ (k : Nat) (x : Int), k ≤ 8 ∧ kv = .int .i64 k ∧ cv = .int .u8 x ∧ 0 ≤ x ∧ x ≤ 255 ∧ Hid (x = nth bs i / 2 ^ k) ∧ Hid (wr.ownsRow w.heap.size 5 1 v (8 * i + k) (ints .u8 (bitsP bs (8 * i + k)))) ∧ Hid (Below w.heap.size w wr)) (fun _ _ kv _ => 8 - (intOf kv).toNat)
      case atStart => exact ⟨0, nth bs i, by omega, rfl, rfl, hb0, hb1, Lib.hid (by simp), HO, HB⟩
      case round =>
        clear HO HB
        obtain ⟨k, x, hk, rfl, rfl, hx0, hx1, HX, HO, HB⟩ := hrel
        by_cases hlk : k < 8
        · have HBIT : Hid (bitAt bs (8 * i + k) = x % 2) := by
            show _ = _
            unfold bitAt
            rw [HX.out, show (8 * i + k) / 8 = i by omega, show (8 * i + k) % 8 = k by omega]
          have hge := HB.out.size
          have e3 : x.tmod 2 = x % 2 := by rw [Int.tmod_eq_emod_of_nonneg hx0]
          have e4 : x % 2 % 256 = x % 2 := by omega
          have HRI : Hid (RI .u8 (wr.alloc (.cells #[.int .u8 (x % 2)] 5)) (some ⟨wr.heap.size, 0, none⟩) 1 [x % 2]) := Lib.hid (ri_one wr _ _ _)
          have HOA := Lib.hid (own_keeps HO.out ((Keeps.refl [] wr).alloc (.cells #[.int .u8 (x % 2)] 5)) (by simp))
          have HBA := Lib.hid (HB.out.alloc hge (.cells #[.int .u8 (x % 2)] 5))
          clear HO HB
          go_wp2_with (at_builtin; refine app_bytes rfl (.tmp 21) (.tmp 24) rfl w.heap.size _ _ _ rfl (by exact HOA.out) _ 1 1 [x % 2] rfl (by exact HRI.out) ?c1 ?c3 ?c4 ?_)
          case c1 => simp
          case c3 => omega
          case c4 => simp; omega
          intro v' w1 hv hg
          have HO1 : Hid (w1.ownsRow w.heap.size 5 1 v' (8 * i + (k + 1)) (ints .u8 (bitsP bs (8 * i + (k + 1))))) := by
            rw [← Nat.add_assoc, bitsP_succ, HBIT.out]; exact hv
          have HB1 := Lib.hid (HBA.out.grown hg (by simp; omega) (fun k hk => (HOA.out.lt k hk).1))
          clear hv hg HOA HBA
          go_wp2_with fail
          go_roundw
          case rel => exact ⟨k + 1, x / 2, by omega, by go_num, rfl, by omega, by omega, Lib.hid (by rw [HX.out, div_two]), HO1, HB1⟩
          case measure => simp [intOf]; omega
        · obtain rfl : k = 8 := by omega
          go_wp2_with fail
          go_roundw
          case rel => exact ⟨i + 1, by omega, by go_num, HO, HB⟩
          case measure => simp [intOf]; omega
    · obtain rfl : i = n := by omega
      go_wp2_with fail
      go_ret
      exact ⟨_, rfl, HO.out, HB.out⟩
end Go.Proofs.YtkpabdjniiepkaaGreatDoor

/- slices.Grow of no slice, appends of whole numbers. -/
set_option linter.unusedVariables false
set_option linter.unusedSimpArgs false
namespace Go.Proofs.YtkpabdjniiepkaaGreatDoor
open Go.RowKit
theorem ints_one2 (k : IntKind) (xs : List Int) : ∀ v ∈ ints k xs, v.oneCell' = true := by
  intro u hu; simp only [ints, List.mem_map] at hu; obtain ⟨x, _, rfl⟩ := hu; rfl
theorem own_lo {w : World} {base : Nat} {e : TypeId} {size n : Nat} {v : Value} {xs : List Value} (h : w.ownsRow base e size v n xs) (k : Nat) (hk : v.ownBlock = some k) : base ≤ k := by
  rcases h.2 with ⟨rfl, _⟩ | ⟨g, cap, cur, rfl, hb, _⟩
  · simp [Value.ownBlock] at hk
  · have : g = k := by simpa [Value.ownBlock] using hk
    omega
theorem own_hi {w : World} {base : Nat} {e : TypeId} {size n : Nat} {v : Value} {xs : List Value} (h : w.ownsRow base e size v n xs) (k : Nat) (hk : v.ownBlock = some k) : k < w.heap.size := by
  rcases h.2 with ⟨rfl, _⟩ | ⟨g, cap, cur, rfl, hb, hh, _⟩
  · simp [Value.ownBlock] at hk
  · have : g = k := by simpa [Value.ownBlock] using hk
    subst this
    exact (Array.getElem?_eq_some_iff.1 hh).1
/-- 's = append(s, ys...)' of numbers, whatever slice the source is. -/
theorem app_intsG {ops : Array Oper} {rest : List Oper} {o : Oper} {a : Act} {Q : Exit → Act → World → Prop} {w : World} (hgd : o.guard = none) (s x : Operand)
    (ho : o.op = .call { callee := .builtin .append, args := #[s, x], argTypes := #[23, 23] })
    (base : Nat) (v : Value) (n : Nat) (xs : List Int) (hs : a.eval s = v) (hown : w.ownsRow base 3 1 v n (ints .i64 xs))
    (A : Option Addr) (m c : Nat) (ys : List Int) (hx : a.eval x = .slice A m c) (hy : RI .i64 w A m ys) (hnil : A = none → m = 0 ∧ c = 0) (hpl : ∀ ad, A = some ad → ∃ b o, ad = ⟨b, o, none⟩)
    (hn : n + m ≤ 8000000000) (hbase : base ≤ w.heap.size)
    (h : ∀ v' w', w'.ownsRow base 3 1 v' (n + m) (ints .i64 (xs ++ ys)) → w.grownBy w' v.ownBlock → wpList Tryz.prog ops Q rest (a.put o.dst v') w') : wpList Tryz.prog ops Q (o :: rest) a w := by
  obtain ⟨i0, hi, hz0, hz1, hz2⟩ := info_parts info_int
  cases A with
  | none =>
    obtain ⟨rfl, rfl⟩ := hnil rfl
    obtain rfl : ys = [] := List.eq_nil_of_length_eq_zero hy.len
    refine wpList_append_own_none hgd s x 23 ho base 3 i0 1 Tryz.underlying23 hi v n (ints .i64 xs) hs hown hx ?_
    exact h v w (by simpa using hown) ⟨rfl, rfl, rfl, Nat.le_refl _, fun _ _ _ => rfl⟩
  | some ad =>
    obtain ⟨b, of, rfl⟩ := hpl ad rfl
    refine wpList_append_own _ hgd s x 23 ho base 3 i0 (.int .i64 0) 1 8 Tryz.underlying23 hi hz0 hz1 hz2 rfl (by decide) v n (ints .i64 xs) hs hown ⟨b, of, none⟩ m c (ints .i64 ys) hx (by simp [ints, hy.len]) ?_ (ints_one2 _ _) (by unfold maxLen; omega) (by omega) hbase ?_
    · intro j u hu
      have hj : j < m := by have := (List.getElem?_eq_some_iff.1 hu).1; have := hy.len; simp [ints] at *; omega
      rw [add_plain2]
      have hc := hy.cell b of rfl j hj
      rw [hc, ← hu, ints_getElem?]
      simp [nth, List.getD, show j < ys.length by have := hy.len; omega]
    · intro v' w' h2 h3 _
      have e : ints .i64 (xs ++ ys) = ints .i64 xs ++ ints .i64 ys := by simp [ints]
      rw [e] at h
      exact h v' w' h2 h3
theorem grow_run (w : World) (n : Nat) (h0 : 0 < n) (hn : n ≤ 4000000000) : ∃ c w1, (∀ ty, (Builtin.append_ #[23, 3] ty #[.slice none 0 0, .int .i64 n]).run Tryz.prog w = .ok (.slice (some ⟨w.heap.size, 0, none⟩) n c) w1) ∧
    (∀ base, base ≤ w.heap.size → w1.ownsRow base 3 1 (.slice (some ⟨w.heap.size, 0, none⟩) 0 c) 0 []) ∧ n ≤ c ∧ c ≤ 9223372036854775807 ∧ Below w.heap.size w w1 := by
  obtain ⟨i0, hi, hz0, hz1, hz2⟩ := info_parts info_int
  have hr := fun ty => Lib.run_append_grow_zeros w 23 3 ty 3 i0 (.int .i64 0) .i64 .i64 Tryz.underlying23 Tryz.underlying3 hi hz0 none 0 0 [] (run_firstCells_none w.drew i0.size 0 0 0) n h0 (by rw [hz1]; decide) (by omega) (by omega) (by rw [hz2]; omega) (by rw [hz2]; exact growslice_fits (by omega) (by omega))
  simp only [Nat.zero_add] at hr
  have hge := grownCap_ge w n 0 3
  have hcm := grownCap_le_maxLen w n 0 3 (by unfold maxLen; omega)
  refine ⟨_, _, hr, fun base hb => ?_, hge, by unfold maxLen at hcm; exact hcm, ?_⟩
  · refine ⟨rfl, .inr ⟨w.heap.size, _, _, rfl, hb, heap_alloc_new w.drew _, Nat.zero_le _, hcm, ?_, rfl⟩⟩
    simp [size_zeroCells, Value.cells]
    omega
  · exact ((Below.refl _ _).drew).alloc (Nat.le_refl _) _
/-- An append, its run being known. -/
theorem wpList_append_run {ops : Array Oper} {rest : List Oper} {o : Oper} {a : Act} {Q : Exit → Act → World → Prop} {w w1 : World} (hgd : o.guard = none) (s x : Operand) (t ti : TypeId)
    (ho : o.op = .call { callee := .builtin .append, args := #[s, x], argTypes := #[t, ti] }) (u y v : Value) (hs : a.eval s = u) (hx : a.eval x = y)
    (hrun : ∀ ty, (Builtin.append_ #[t, ti] ty #[u, y]).run Tryz.prog w = .ok v w1) (h : wpList Tryz.prog ops Q rest (a.put o.dst v) w1) : wpList Tryz.prog ops Q (o :: rest) a w := by
  refine wpList_plain hgd fun K hK => ?_
  unfold Oper.wp
  simp [execOp, ho, resolve, invoke, builtin, hs, hx, hrun, Result.andThen]
  exact hK _ _ h
set_option maxRecDepth 100000 in
set_option maxHeartbeats 1000000 in
theorem grow_calls' (w : World) (A : Option Addr) (hA : A = none) (n : Nat) (hn : n ≤ 4000000000) :
    Calls Tryz.prog 43 #[.slice A 0 0, .int .i64 n] w fun e w' => ∃ v, e = .returned v ∧ (∀ base, base ≤ w.heap.size → w'.ownsRow base 3 1 v 0 []) ∧ Below w.heap.size w w' := by
  have e0 : decide ((n : Int) < 0) = false := by simp
  have HA := Lib.hid hA
  clear hA
  by_cases h0 : 0 < n
  · obtain ⟨c, w1, hr, ho, hc, hc2, hb⟩ := grow_run w n h0 hn
    have e1 : decide ((0 : Int) < n) = true := by simp; omega
    have HO := Lib.hid ho
    have HB := Lib.hid hb
    have HR := Lib.hid hr
    clear ho hb hr
    go_enter Tryz.func43, Tryz.ntmps43
    go_wp2_with (with_reducible refine wpList_append_run rfl (.tmp 20) (.tmp 21) _ _ rfl (.slice A 0 0) (.int .i64 n) _ rfl rfl (by rw [HA.out]; exact HR.out) ?_)
    go_wp2
    go_ret
    exact ⟨_, rfl, HO.out, HB.out⟩
  · obtain rfl : n = 0 := by omega
    go_enter Tryz.func43, Tryz.ntmps43
    go_wp2
    go_ret
    exact ⟨_, rfl, fun base _ => by rw [HA.out]; exact World.ownsRow_nil _ _ _ _, Below.refl _ _⟩
theorem grow_calls (w : World) (n : Nat) (hn : n ≤ 4000000000) :
    Calls Tryz.prog 43 #[.slice none 0 0, .int .i64 n] w fun e w' => ∃ v, e = .returned v ∧ (∀ base, base ≤ w.heap.size → w'.ownsRow base 3 1 v 0 []) ∧ Below w.heap.size w w' := grow_calls' w none rfl n hn
end Go.Proofs.YtkpabdjniiepkaaGreatDoor

/- Rows of bytes, in memory. -/
set_option linter.unusedVariables false
set_option linter.unusedSimpArgs false
namespace Go.Proofs.YtkpabdjniiepkaaGreatDoor
open Go.RowKit
def rth (rs : List (List Int)) (j : Nat) : List Int := rs.getD j []
theorem rth_lt {rs : List (List Int)} {j : Nat} (h : j < rs.length) : rth rs j = rs[j] := by simp [rth, List.getD, h]
/-- A block of slices, each of bytes in memory behind it. -/
def RB (w : World) (g n : Nat) (rs : List (List Int)) : Prop :=
  rs.length = n ∧ ∃ vs : List Value, vs.length = n ∧ Blk w g 22 vs ∧ ∀ j v, vs[j]? = some v → w.ownsRow (g + 1) 5 1 v (rth rs j).length (ints .u8 (rth rs j))
theorem RB.len {w : World} {g n : Nat} {rs : List (List Int)} (h : RB w g n rs) : rs.length = n := h.1
theorem RB.lt {w : World} {g n : Nat} {rs : List (List Int)} (h : RB w g n rs) : g < w.heap.size := by
  obtain ⟨_, vs, _, h2, _⟩ := h; exact h2.lt
theorem RB.keeps {w w' : World} {g n : Nat} {rs : List (List Int)} {S : List Nat} (h : RB w g n rs) (hk : Keeps S w w') (hS : ∀ x ∈ S, x < g ∨ w.heap.size ≤ x) : RB w' g n rs := by
  obtain ⟨h0, vs, h1, h2, h3⟩ := h
  refine ⟨h0, vs, h1, h2.keeps hk (fun hm => by have := h2.lt; rcases hS g hm with h | h <;> omega), fun j v hv => own_keeps (h3 j v hv) hk fun x hx hm => ?_⟩
  have a := own_lo (h3 j v hv) x hx
  have b := own_hi (h3 j v hv) x hx
  rcases hS x hm with h | h <;> omega
theorem RB.below {w w' : World} {g n : Nat} {rs : List (List Int)} (h : RB w g n rs) (hk : Below w.heap.size w w') : RB w' g n rs := h.keeps (Keeps.of_below (S := []) hk) (by simp)
theorem RB.set {w : World} {g n : Nat} {rs : List (List Int)} (h : RB w g n rs) (i : Nat) (v : Value) (row : List Int) (ho : w.ownsRow (g + 1) 5 1 v row.length (ints .u8 row)) :
    RB (w.setCell ⟨g, i, none⟩ v) g n (rs.set i row) := by
  obtain ⟨h0, vs, h1, h2, h3⟩ := h
  have hk : Keeps [g] w (w.setCell ⟨g, i, none⟩ v) := (Keeps.refl [g] w).setCell (Or.inl (by simp)) v
  have hne : ∀ {u : Value} {m : Nat} {xs : List Value}, w.ownsRow (g + 1) 5 1 u m xs → ∀ x, u.ownBlock = some x → x ∉ [g] := fun ho x hx hm => by
    have := own_lo ho x hx; rw [List.mem_singleton.1 hm] at this; omega
  refine ⟨by simp [h0], vs.set i v, by simp [h1], h2.set i v, fun j u hu => ?_⟩
  rw [List.getElem?_set] at hu
  by_cases e : i = j
  · subst e
    by_cases hj : i < vs.length
    · rw [if_pos rfl, if_pos hj] at hu
      obtain rfl := Option.some.inj hu
      have : rth (rs.set i row) i = row := by simp [rth, List.getD, show i < rs.length by omega]
      rw [this]
      exact own_keeps ho hk (hne ho)
    · rw [if_pos rfl, if_neg hj] at hu; simp at hu
  · rw [if_neg e] at hu
    have : rth (rs.set i row) j = rth rs j := by simp [rth, List.getD, e]
    rw [this]
    exact own_keeps (h3 j u hu) hk (hne (h3 j u hu))
theorem RB.new (w : World) (n : Nat) : RB (w.alloc (.cells (List.replicate n (Value.slice none 0 0)).toArray 22 (0, 0))) w.heap.size n (List.replicate n []) := by
  refine ⟨by simp, _, by simp, blk_new w _ _, fun j v hv => ?_⟩
  have hj : j < n := by
    have := (List.getElem?_eq_some_iff.1 hv).1; simpa using this
  have e : v = .slice none 0 0 := by
    rw [List.getElem?_eq_getElem (by simpa using hj)] at hv; simpa using hv.symm
  have e2 : rth (List.replicate n []) j = [] := by simp [rth, List.getD, hj]
  rw [e, e2]
  exact World.ownsRow_nil _ _ _ _
theorem RB.at {w : World} {g n : Nat} {rs : List (List Int)} (h : RB w g n rs) {j : Nat} (hj : j < n) :
    ∃ A c, w.cell? ⟨g, j, none⟩ = some (.slice A (rth rs j).length c) ∧ RI .u8 w A (rth rs j).length (rth rs j) ∧ (∀ a, A = some a → g + 1 ≤ a.block ∧ a.block < w.heap.size) := by
  obtain ⟨h0, vs, h1, h2, h3⟩ := h
  obtain ⟨A, c, e, hr, _, ha⟩ := own_ri (h3 j _ (List.getElem?_eq_getElem (by omega)))
  refine ⟨A, c, ?_, hr, fun a h => ⟨(ha a h).1, (ha a h).2.1⟩⟩
  rw [h2.cell, List.getElem?_eq_getElem (by omega), e]
theorem RB.free {w : World} {g n : Nat} {rs : List (List Int)} (h : RB w g n rs) (j : Nat) : w.frozen? ⟨g, j, none⟩ = false := by
  obtain ⟨_, vs, _, h2, _⟩ := h; exact h2.frozen j
theorem info_row : (Tryz.prog.info? 22).map (fun i => (i.zero, i.size, i.bytes)) = some (some (.slice none 0 0), 1, 24) := by kernel_rfl
set_option maxRecDepth 100000 in
/-- 'make([][]byte, n)'. -/
theorem make_rows (w : World) (n : Nat) (hn : n ≤ 1000000) :
    (Instr.makeSlice 143 (.int .i64 n) (.int .i64 n)).run Tryz.prog w = .ok (.slice (some ⟨w.heap.size, 0, none⟩) n n) (w.alloc (.cells (List.replicate n (Value.slice none 0 0)).toArray 22)) := by
  obtain ⟨i, hi, hz, hs, hb⟩ := info_parts info_row
  have e1 : (i.bytes : Int) * (n : Int) ≤ 281474976710656 := by rw [hb]; omega
  rw [run_make w 143 22 i _ Tryz.underlying143 hi hz .i64 .i64 n n (by omega) (Int.le_refl _) e1 (by omega)]
  simp only [Int.toNat_natCast]
  congr 4
  rw [hs, Nat.mul_one]
  apply Array.toList_inj.1
  show (madeCells #[.slice none 0 0] n).toList = _
  rw [toList_madeCells_one]
end Go.Proofs.YtkpabdjniiepkaaGreatDoor

set_option linter.unusedVariables false
set_option linter.unusedSimpArgs false
/-! Plain mathematics: the reference's reading of a symbol, and that the decoder's is the same. -/
namespace Go.Proofs.YtkpabdjniiepkaaGreatDoor
/-- How many bits of a row are those from a place on. -/
def agr (row bits : List Int) (p : Nat) : Nat → Nat → Nat
  | 0, n => n
  | f + 1, n => if n < row.length ∧ p + n < bits.length ∧ nth row n = nth bits (p + n) then agr row bits p f (n + 1) else n
def agrN (row bits : List Int) (p : Nat) : Nat := agr row bits p row.length 0
/-- The reference's reading: symbol, bits, what is wrong. -/
def nextG (rows : List (List Int)) (bits : List Int) (p : Nat) : Nat → Nat → Bool → Int × Nat × Int
  | 0, _, b => (0, 0, if b then 10 else 32)
  | f + 1, i, b => if (rth rows i).length = 0 then nextG rows bits p f (i + 1) b else
      if agrN (rth rows i) bits p = (rth rows i).length then (i, (rth rows i).length, 0)
      else nextG rows bits p f (i + 1) (b || decide (p + agrN (rth rows i) bits p = bits.length))
def nextR (rows : List (List Int)) (bits : List Int) (p : Nat) : Int × Nat × Int := nextG rows bits p rows.length 0 false
theorem agr_spec (row bits : List Int) (p : Nat) : ∀ f n, n + f = row.length → n ≤ agr row bits p f n ∧ agr row bits p f n ≤ row.length ∧ (∀ t, n ≤ t → t < agr row bits p f n → p + t < bits.length ∧ nth row t = nth bits (p + t)) ∧
    (agr row bits p f n = row.length ∨ bits.length ≤ p + agr row bits p f n ∨ nth row (agr row bits p f n) ≠ nth bits (p + agr row bits p f n))
  | 0, n, h => by
    unfold agr
    exact ⟨Nat.le_refl _, by omega, fun t h1 h2 => by omega, .inl (by omega)⟩
  | f + 1, n, h => by
    unfold agr
    split
    · next hc =>
      obtain ⟨h1, h2, h3, h4⟩ := agr_spec row bits p f (n + 1) (by omega)
      refine ⟨by omega, h2, fun t ht1 ht2 => ?_, h4⟩
      by_cases ht : t = n
      · subst ht; exact ⟨hc.2.1, hc.2.2⟩
      · exact h3 t (by omega) ht2
    · next hc =>
      refine ⟨Nat.le_refl _, by omega, fun t h1 h2 => by omega, ?_⟩
      by_cases h1 : bits.length ≤ p + n
      · exact .inr (.inl h1)
      · refine .inr (.inr fun h2 => hc ⟨by omega, by omega, h2⟩)
theorem agrN_spec (row bits : List Int) (p : Nat) : agrN row bits p ≤ row.length ∧ (∀ t, t < agrN row bits p → p + t < bits.length ∧ nth row t = nth bits (p + t)) ∧
    (agrN row bits p = row.length ∨ bits.length ≤ p + agrN row bits p ∨ nth row (agrN row bits p) ≠ nth bits (p + agrN row bits p)) := by
  obtain ⟨_, h2, h3, h4⟩ := agr_spec row bits p row.length 0 (by omega)
  exact ⟨h2, fun t ht => h3 t (by omega) ht, h4⟩
theorem agrN_full {row bits : List Int} {p : Nat} (h : ∀ t, t < row.length → p + t < bits.length ∧ nth row t = nth bits (p + t)) : agrN row bits p = row.length := by
  obtain ⟨h1, _, h3⟩ := agrN_spec row bits p
  rcases Nat.lt_or_ge (agrN row bits p) row.length with hlt | hge
  · obtain ⟨a, b⟩ := h _ hlt
    rcases h3 with h3 | h3 | h3
    · omega
    · omega
    · exact absurd b h3
  · omega
theorem nextG_hit (rows : List (List Int)) (bits : List Int) (p j : Nat) (hj : 0 < (rth rows j).length) (ha : agrN (rth rows j) bits p = (rth rows j).length) :
    ∀ f i b, i ≤ j → j < i + f → (∀ t, t < j → 0 < (rth rows t).length → agrN (rth rows t) bits p ≠ (rth rows t).length) → nextG rows bits p f i b = ((j : Int), (rth rows j).length, 0)
  | 0, i, b, h1, h2, _ => by omega
  | f + 1, i, b, h1, h2, h3 => by
    rw [nextG]
    by_cases hi : i = j
    · subst hi
      rw [if_neg (by omega), if_pos ha]
    · by_cases hz : (rth rows i).length = 0
      · rw [if_pos hz]; exact nextG_hit rows bits p j hj ha f (i + 1) b (by omega) (by omega) h3
      · rw [if_neg hz, if_neg (h3 i (by omega) (by omega))]
        exact nextG_hit rows bits p j hj ha f (i + 1) _ (by omega) (by omega) h3
theorem nextG_begins (rows : List (List Int)) (bits : List Int) (p : Nat) :
    ∀ f i b, (∀ t, i ≤ t → t < i + f → 0 < (rth rows t).length → agrN (rth rows t) bits p ≠ (rth rows t).length) → (b = true ∨ ∃ j, i ≤ j ∧ j < i + f ∧ 0 < (rth rows j).length ∧ p + agrN (rth rows j) bits p = bits.length) → nextG rows bits p f i b = (0, 0, 10)
  | 0, i, b, h1, h2 => by
    rcases h2 with rfl | ⟨j, a, b, _⟩
    · rfl
    · omega
  | f + 1, i, b, h1, h2 => by
    rw [nextG]
    by_cases hz : (rth rows i).length = 0
    · rw [if_pos hz]
      refine nextG_begins rows bits p f (i + 1) b (fun t a b => h1 t (by omega) (by omega)) ?_
      rcases h2 with rfl | ⟨j, a, b, c, d⟩
      · exact .inl rfl
      · refine .inr ⟨j, ?_, by omega, c, d⟩
        rcases Nat.lt_or_ge i j with h | h
        · omega
        · obtain rfl : i = j := by omega
          omega
    · rw [if_neg hz, if_neg (h1 i (by omega) (by omega) (by omega))]
      refine nextG_begins rows bits p f (i + 1) _ (fun t a b => h1 t (by omega) (by omega)) ?_
      rcases h2 with rfl | ⟨j, a, b, c, d⟩
      · exact .inl rfl
      · rcases Nat.lt_or_ge i j with h | h
        · exact .inr ⟨j, by omega, by omega, c, d⟩
        · obtain rfl : i = j := by omega
          exact .inl (by simp [d])
theorem nextG_none (rows : List (List Int)) (bits : List Int) (p : Nat) :
    ∀ f i, (∀ t, i ≤ t → t < i + f → 0 < (rth rows t).length → agrN (rth rows t) bits p ≠ (rth rows t).length ∧ p + agrN (rth rows t) bits p ≠ bits.length) → nextG rows bits p f i false = (0, 0, 32)
  | 0, i, h1 => rfl
  | f + 1, i, h1 => by
    rw [nextG]
    by_cases hz : (rth rows i).length = 0
    · rw [if_pos hz]
      exact nextG_none rows bits p f (i + 1) (fun t a b => h1 t (by omega) (by omega))
    · obtain ⟨a, b⟩ := h1 i (by omega) (by omega) (by omega)
      rw [if_neg hz, if_neg a, decide_eq_false b]
      exact nextG_none rows bits p f (i + 1) (fun t a b => h1 t (by omega) (by omega))
/-! Places of codes. -/
theorem posF_le (l : List Int) (n : Nat) (hn : n < 16) (h1 : 1 ≤ n) (i : Nat) : ∀ d, i + d ≤ l.length → posF l n i ≤ posF l n (i + d)
  | 0, _ => Int.le_refl _
  | d + 1, h => by
    have := posF_le l n hn h1 i d (by omega)
    by_cases hx : nth l (i + d) = n
    · have := posF_step l n (i + d) hn h1 (by omega) hx
      rw [← Nat.add_assoc]; omega
    · have := posF_skip l n (i + d) hn (by omega) hx
      rw [← Nat.add_assoc]; omega
theorem codeI_bd (l : List Int) (n j : Nat) (hn : n < 16) (h1 : 1 ≤ n) (hj : j < l.length) (h : nth l j = n) : lowF (lenCnt l) n ≤ codeI l j ∧ codeI l j < lowF (lenCnt l) n + nth (lenCnt l) n := by
  rw [posF_code l n j h]
  have a := posF_step l n j hn h1 hj h
  have b := posF_le l n hn h1 (j + 1) (l.length - (j + 1)) (by omega)
  rw [show j + 1 + (l.length - (j + 1)) = l.length by omega] at b
  have c : posF l n l.length = lowF (lenCnt l) n + nth (lenCnt l) n := by
    unfold posF; rw [List.take_length]
  have d := cntN_nn l n j hn
  unfold cntN at d
  refine ⟨?_, by omega⟩
  unfold posF; omega
theorem codeI_ne (l : List Int) (n i j : Nat) (hn : n < 16) (h1 : 1 ≤ n) (hij : i < j) (hj : j < l.length) (hi : nth l i = n) (hj' : nth l j = n) : codeI l i < codeI l j := by
  rw [posF_code l n i hi, posF_code l n j hj']
  have a := posF_step l n i hn h1 (by omega) hi
  have b := posF_le l n hn h1 (i + 1) (j - (i + 1)) (by omega)
  rw [show i + 1 + (j - (i + 1)) = j by omega] at b
  omega
/-! How much of all codes is taken. -/
def partN (n : Nat) (x : Int) : Nat := if 0 < x ∧ x ≤ n then 2 ^ (15 - x).toNat else 0
def takenN (l : List Int) (n : Nat) : Nat := (l.map (partN n)).sum
theorem lenCnt_cons (x : Int) (l : List Int) (n : Nat) (hn : n < 16) : nth (lenCnt (x :: l)) n = nth (lenCnt l) n + if 0 < x ∧ x = (n : Int) then 1 else 0 := by
  unfold lenCnt
  rw [cntF_nth _ _ _ hn, cntF_nth _ _ _ hn]
  by_cases h0 : 0 < x
  · rw [List.filter_cons_of_pos (by simpa using h0), List.count_cons]
    by_cases hx : x = n
    · rw [if_pos (c := 0 < x ∧ x = n) ⟨h0, hx⟩, show (x == (n : Int)) = true by simpa using hx]; simp
    · rw [if_neg (c := 0 < x ∧ x = n) (fun h => hx h.2), show (x == (n : Int)) = false by simpa using hx]; simp
  · rw [List.filter_cons_of_neg (by simpa using h0), if_neg (c := 0 < x ∧ x = n) (fun h => h0 h.1)]; simp
theorem lenCnt_zero (l : List Int) : nth (lenCnt l) 0 = 0 := by
  induction l with
  | nil => unfold lenCnt; rw [cntF_nth _ _ _ (by omega)]; simp
  | cons x l ih =>
    rw [lenCnt_cons x l 0 (by omega), ih, if_neg (by omega)]; rfl
theorem takenN_zero (l : List Int) : takenN l 0 = 0 := by
  induction l with
  | nil => rfl
  | cons x l ih =>
    unfold takenN at *
    rw [List.map_cons, List.sum_cons, ih]; unfold partN; rw [if_neg (by omega)]
theorem takenN_succ (l : List Int) (n : Nat) (hn : n < 15) : (takenN l (n + 1) : Int) = takenN l n + nth (lenCnt l) (n + 1) * 2 ^ (15 - (n + 1)) := by
  induction l with
  | nil => unfold lenCnt; rw [cntF_nth _ _ _ (by omega)]; simp [takenN]
  | cons x l ih =>
    rw [lenCnt_cons x l (n + 1) (by omega)]
    have e : ∀ m, takenN (x :: l) m = partN m x + takenN l m := fun m => by unfold takenN; rw [List.map_cons, List.sum_cons]
    rw [e, e]
    push_cast
    rw [ih, Int.add_mul]
    have : (partN (n + 1) x : Int) = partN n x + (if 0 < x ∧ x = (n : Int) + 1 then 1 else 0) * 2 ^ (15 - (n + 1)) := by
      unfold partN
      by_cases hx : x = (n : Int) + 1
      · rw [if_pos (by omega), if_neg (by omega), if_pos (by omega), hx, show ((15 : Int) - ((n : Int) + 1)).toNat = 15 - (n + 1) by omega]; simp
      · rw [if_neg (c := 0 < x ∧ x = (n : Int) + 1) (fun h => hx h.2), Int.zero_mul, Int.add_zero]
        by_cases h2 : 0 < x ∧ x ≤ n
        · rw [if_pos h2, if_pos (by omega)]
        · rw [if_neg h2, if_neg (by push_cast; omega)]
    rw [this, show 15 - (n + 1) = 14 - n by omega]
    omega
theorem taken_low (l : List Int) : ∀ n, n ≤ 15 → (takenN l n : Int) = (lowF (lenCnt l) n + nth (lenCnt l) n) * 2 ^ (15 - n)
  | 0, _ => by rw [takenN_zero, lenCnt_zero]; simp [lowF]
  | n + 1, h => by
    have key : ∀ a b c K : Int, (a + b) * (K * 2) + c * K = (2 * (a + b) + c) * K := fun a b c K => by
      rw [Int.add_mul (2 * (a + b)), Int.mul_comm K 2, ← Int.mul_assoc, Int.mul_comm (a + b) 2]
    rw [takenN_succ l n (by omega), taken_low l n (by omega), lowF, show 15 - n = (15 - (n + 1)) + 1 by omega, Int.pow_succ]
    exact key _ _ _ _
theorem taken_mono (l : List Int) (n : Nat) : takenN l n ≤ takenN l (n + 1) := by
  induction l with
  | nil => exact Nat.le_refl _
  | cons x l ih =>
    unfold takenN at *
    rw [List.map_cons, List.sum_cons, List.map_cons, List.sum_cons]
    have : partN n x ≤ partN (n + 1) x := by
      unfold partN
      by_cases h : 0 < x ∧ x ≤ n
      · rw [if_pos h, if_pos (by push_cast; omega)]; exact Nat.le_refl _
      · rw [if_neg h]; exact Nat.zero_le _
    omega
theorem taken_mono' (l : List Int) (n : Nat) : ∀ d, takenN l n ≤ takenN l (n + d)
  | 0 => Nat.le_refl _
  | d + 1 => Nat.le_trans (taken_mono' l n d) (taken_mono l (n + d))
theorem taken_all (l : List Int) (h : l.all okLen = true) : takenN l 15 = measF l := by
  induction l with
  | nil => rfl
  | cons x l ih =>
    rw [List.all_cons, Bool.and_eq_true] at h
    have := ih h.2
    unfold takenN measF at *
    rw [List.map_cons, List.sum_cons, List.map_cons, List.sum_cons, this]
    congr 1
    have hx := h.1
    unfold okLen at hx
    simp only [Bool.and_eq_true, decide_eq_true_eq] at hx
    unfold partN part
    by_cases h0 : 0 < x
    · rw [if_pos ⟨h0, by push_cast; omega⟩, if_pos h0]
    · rw [if_neg (fun h => h0 h.1), if_neg h0]
theorem taken_top (l : List Int) : ∀ d, longN l 16 + d ≤ 15 → takenN l (longN l 16 + d) = takenN l (longN l 16)
  | 0, _ => rfl
  | d + 1, h => by
    have ih := taken_top l d (by omega)
    have a := takenN_succ l (longN l 16 + d) (by omega)
    have b := longN_top l 16 (longN l 16 + d + 1) (by omega) (by omega)
    have c := lenCnt_bd l (longN l 16 + d + 1) (by omega)
    have e : nth (lenCnt l) (longN l 16 + d + 1) = 0 := by omega
    rw [e, Int.zero_mul, Int.add_zero, ih] at a
    rw [← Nat.add_assoc]; omega
/-- No more codes than may be. -/
theorem kraft_le {l : List Int} (hc : checkF l = 0) (n : Nat) (hn : n ≤ 15) : lowF (lenCnt l) n + nth (lenCnt l) n ≤ 2 ^ n := by
  have hm : measF l ≤ 32768 := by
    unfold checkF at hc
    repeat' split at hc
    all_goals first | omega | (exfalso; revert hc; decide) | skip
  have h1 := taken_low l n hn
  have h2 := taken_mono' l n (15 - n)
  rw [show n + (15 - n) = 15 by omega, taken_all l (check_ok hc).2] at h2
  have h3 : (takenN l n : Int) ≤ 2 ^ n * 2 ^ (15 - n) := by
    rw [← Int.pow_add, show n + (15 - n) = 15 by omega]; omega
  rw [h1] at h3
  exact Int.le_of_mul_le_mul_right h3 (pow_cast _)
end Go.Proofs.YtkpabdjniiepkaaGreatDoor

set_option linter.unusedVariables false
set_option linter.unusedSimpArgs false
/-! Plain mathematics: a decoder reads what the document says. -/
namespace Go.Proofs.YtkpabdjniiepkaaGreatDoor
/-- The number of the next bits, the first bit highest. -/
def xv (bs : List Int) (p : Nat) : Nat → Int
  | 0 => 0
  | n + 1 => 2 * xv bs p n + bitAt bs (p + n)
theorem xv_bd (bs : List Int) (p : Nat) : ∀ n, 0 ≤ xv bs p n ∧ xv bs p n < 2 ^ n
  | 0 => by simp [xv]
  | n + 1 => by
    have := xv_bd bs p n
    have := bitAt_le bs (p + n)
    rw [xv, Int.pow_succ]; omega
theorem div_half (c : Int) (m k : Nat) (h : k < m) : c / 2 ^ (m - k) = c / 2 ^ (m - (k + 1)) / 2 := by
  rw [show m - k = (m - (k + 1)) + 1 by omega, Int.pow_succ, Int.mul_comm, Int.ediv_ediv_of_nonneg (by have := pow_cast (m - (k + 1)); omega), Int.mul_comm]
theorem pre_iff (c : Int) (m : Nat) (h0 : 0 ≤ c) (hc : c < 2 ^ m) (bs : List Int) (p : Nat) : ∀ k, k ≤ m → ((∀ t, t < k → nth (msbF c m) t = bitAt bs (p + t)) ↔ c / 2 ^ (m - k) = xv bs p k)
  | 0, _ => by
    rw [Nat.sub_zero, Int.ediv_eq_zero_of_lt h0 hc]
    exact ⟨fun _ => rfl, fun _ t ht => by omega⟩
  | k + 1, h => by
    have ih := pre_iff c m h0 hc bs p k (by omega)
    have e := div_half c m k (by omega)
    have en := msbF_nth c m k (by omega)
    rw [show m - 1 - k = m - (k + 1) by omega] at en
    have hb := bitAt_le bs (p + k)
    rw [xv]
    constructor
    · intro hall
      have h1 := ih.1 (fun t ht => hall t (by omega))
      have h2 := hall k (by omega)
      rw [en] at h2
      rw [e] at h1
      omega
    · intro hd t ht
      by_cases hk : t = k
      · subst hk; rw [en]; omega
      · exact ih.2 (by rw [e]; omega) t (by omega)
theorem rows_rth (l : List Int) (j m : Nat) (hj : j < l.length) (h1 : 1 ≤ m) (h : nth l j = m) : rth (rowsF l) j = msbF (codeI l j) m := by
  rw [rth_lt (by rw [rowsF_len]; exact hj)]
  simp only [rowsF, List.getElem_map, List.getElem_range]
  rw [if_pos (by omega), h]; rfl
theorem rows_none (l : List Int) (j : Nat) (hj : j < l.length) (h : ¬ 0 < nth l j) : rth (rowsF l) j = [] := by
  rw [rth_lt (by rw [rowsF_len]; exact hj)]
  simp only [rowsF, List.getElem_map, List.getElem_range]
  rw [if_neg h]
theorem row_len {l : List Int} (hok : l.all okLen = true) (j : Nat) (hj : j < l.length) (h : 0 < (rth (rowsF l) j).length) : ∃ m : Nat, 1 ≤ m ∧ m ≤ 15 ∧ nth l j = m ∧ rth (rowsF l) j = msbF (codeI l j) m := by
  by_cases h0 : 0 < nth l j
  · have hx := List.all_eq_true.1 hok (nth l j) (by rw [nth_lt hj]; exact List.getElem_mem _)
    unfold okLen at hx
    simp only [Bool.and_eq_true, decide_eq_true_eq] at hx
    obtain ⟨m, hm⟩ := Int.eq_ofNat_of_zero_le hx.1
    exact ⟨m, by omega, by omega, hm, rows_rth l j m hj (by omega) hm⟩
  · rw [rows_none l j hj h0] at h; simp at h
/-- A row stands there just if the number of so many bits is its code. -/
theorem full_iff {l : List Int} (hc : checkF l = 0) (bs : List Int) (p T : Nat) (j m : Nat) (hj : j < l.length) (h1 : 1 ≤ m) (h15 : m ≤ 15) (h : nth l j = m) :
    agrN (rth (rowsF l) j) (bitsP bs T) p = (rth (rowsF l) j).length ↔ p + m ≤ T ∧ xv bs p m = codeI l j := by
  have hb := codeI_bd l m j (by omega) h1 hj h
  have hk := kraft_le hc m h15
  have hl0 := (lowF_small l (check_ok hc).1 m (by omega)).1
  rw [rows_rth l j m hj h1 h]
  have hp := pre_iff (codeI l j) m (by omega) (by omega) bs p m (Nat.le_refl _)
  rw [Nat.sub_self, Int.pow_zero, Int.ediv_one] at hp
  rw [msbF_len]
  constructor
  · intro ha
    obtain ⟨_, h2, _⟩ := agrN_spec (msbF (codeI l j) m) (bitsP bs T) p
    rw [ha] at h2
    have hT : p + m ≤ T := by
      have := (h2 (m - 1) (by omega)).1
      rw [bitsP_len] at this; omega
    refine ⟨hT, (hp.1 fun t ht => ?_).symm⟩
    rw [(h2 t ht).2, bitsP_nth _ _ _ (by omega)]
  · intro ⟨hT, hx⟩
    have := hp.2 hx.symm
    have := agrN_full (row := msbF (codeI l j) m) (bits := bitsP bs T) (p := p) (fun t ht => by
      rw [msbF_len] at ht
      rw [bitsP_len, bitsP_nth _ _ _ (by omega)]
      exact ⟨by omega, this t ht⟩)
    rw [this, msbF_len]
/-! A code that may be is complete, or has one symbol. -/
theorem used_none (l : List Int) (h : usedF l = 0) : measF l = 0 := by
  induction l with
  | nil => rfl
  | cons x l ih =>
    unfold usedF at h
    by_cases hx : 0 < x
    · rw [List.filter_cons_of_pos (by simpa using hx)] at h; simp at h
    · rw [List.filter_cons_of_neg (by simpa using hx)] at h
      have := ih h
      unfold measF at *
      rw [List.map_cons, List.sum_cons, this, part_zero x hx]
theorem used_one (l : List Int) (hok : l.all okLen = true) (h : usedF l = 1) (hm : measF l = 16384) : 1 ≤ nth (lenCnt l) 1 := by
  induction l with
  | nil => simp [usedF] at h
  | cons x l ih =>
    rw [List.all_cons, Bool.and_eq_true] at hok
    rw [lenCnt_cons x l 1 (by omega)]
    have hn := (lenCnt_bd l 1 (by omega)).1
    have hms : measF (x :: l) = part x + measF l := by unfold measF; rw [List.map_cons, List.sum_cons]
    rw [hms] at hm
    unfold usedF at h
    by_cases hx : 0 < x
    · rw [List.filter_cons_of_pos (by simpa using hx), List.length_cons] at h
      have := used_none l (by unfold usedF; omega)
      have hx1 : x = 1 := by
        have h15 := hok.1
        unfold okLen at h15
        simp only [Bool.and_eq_true, decide_eq_true_eq] at h15
        have hp : part x = 2 ^ 14 := by rw [this] at hm; omega
        unfold part at hp
        rw [if_pos hx] at hp
        have := (Nat.pow_right_inj (by decide)).1 hp
        omega
      rw [if_pos ⟨hx, by simpa using hx1⟩]; omega
    · rw [List.filter_cons_of_neg (by simpa using hx)] at h
      rw [part_zero x hx, Nat.zero_add] at hm
      have := ih hok.2 h hm
      split <;> omega
theorem longN_15 (l : List Int) : longN l 16 ≤ 15 := by have := longN_le l 16; omega
theorem code_full {l : List Int} (hc : checkF l = 0) : lowF (lenCnt l) (longN l 16) + nth (lenCnt l) (longN l 16) = 2 ^ longN l 16 ∨ (1 ≤ nth (lenCnt l) 1 ∧ longN l 16 ≤ 1) := by
  have hL := longN_15 l
  have hok := (check_ok hc).2
  have ht := taken_top l (15 - longN l 16) (by omega)
  rw [show longN l 16 + (15 - longN l 16) = 15 by omega, taken_all l hok] at ht
  have hlo := taken_low l (longN l 16) hL
  have hm : measF l = 32768 ∨ (usedF l = 1 ∧ measF l = 16384) := by
    unfold checkF at hc
    repeat' split at hc
    all_goals first | (left; assumption) | (right; assumption) | (exfalso; revert hc; decide)
  rcases hm with hm | ⟨hu, hm⟩
  · left
    rw [← ht, hm] at hlo
    have e : ((32768 : Nat) : Int) = 2 ^ longN l 16 * 2 ^ (15 - longN l 16) := by rw [← Int.pow_add, show longN l 16 + (15 - longN l 16) = 15 by omega]; rfl
    rw [e] at hlo
    exact (Int.eq_of_mul_eq_mul_right (Int.ne_of_gt (pow_cast _)) hlo).symm
  · right
    have h1 := used_one l hok hu hm
    refine ⟨h1, ?_⟩
    rcases Nat.lt_or_ge 1 (longN l 16) with h2 | h2
    · exfalso
      have a := taken_low l 1 (by omega)
      have b := taken_mono' l 1 (longN l 16 - 1 - 1)
      have c := takenN_succ l (longN l 16 - 1) (by omega)
      rw [show longN l 16 - 1 + 1 = longN l 16 by omega] at c
      rw [show 1 + (longN l 16 - 1 - 1) = longN l 16 - 1 by omega] at b
      have d : 0 < nth (lenCnt l) (longN l 16) := (longN_has l 16).resolve_left (by omega)
      have e : 0 < nth (lenCnt l) (longN l 16) * 2 ^ (15 - longN l 16) := Int.mul_pos d (pow_cast _)
      simp only [lowF, lenCnt_zero] at a
      omega
    · exact h2
/-- Bits that end within no code begin one. -/
theorem some_begins {l : List Int} (hc : checkF l = 0) (bs : List Int) (p n : Nat) (hn : n < longN l 16) (hx : lowF (lenCnt l) n + nth (lenCnt l) n ≤ xv bs p n) :
    ∃ j m : Nat, j < l.length ∧ n < m ∧ m ≤ 15 ∧ nth l j = m ∧ codeI l j = xv bs p n * 2 ^ (m - n) := by
  have hL := longN_15 l
  rcases code_full hc with hf | ⟨h1, h2⟩
  · have key : ∀ d, n + d ≤ longN l 16 → (∃ j m : Nat, j < l.length ∧ n < m ∧ m ≤ 15 ∧ nth l j = m ∧ codeI l j = xv bs p n * 2 ^ (m - n)) ∨ lowF (lenCnt l) (n + d) + nth (lenCnt l) (n + d) ≤ xv bs p n * 2 ^ d := by
      intro d
      induction d with
      | zero => intro _; right; rw [Int.pow_zero, Int.mul_one]; exact hx
      | succ d ih =>
        intro hd
        rcases ih (by omega) with h | h
        · exact .inl h
        · by_cases hlt : xv bs p n * 2 ^ (d + 1) < lowF (lenCnt l) (n + (d + 1)) + nth (lenCnt l) (n + (d + 1))
          · left
            have e : xv bs p n * 2 ^ (d + 1) = 2 * (xv bs p n * 2 ^ d) := by rw [Int.pow_succ, ← Int.mul_assoc, Int.mul_comm]
            have hlo : lowF (lenCnt l) (n + (d + 1)) ≤ xv bs p n * 2 ^ (d + 1) := by
              rw [e, ← Nat.add_assoc, lowF]; omega
            obtain ⟨k, hk⟩ := Int.eq_ofNat_of_zero_le (Int.sub_nonneg.2 hlo)
            obtain ⟨_, j, a, b, c, f⟩ := symsB_at l (n + (d + 1)) (by omega) (by omega) k (by omega)
            refine ⟨j, n + (d + 1), a, by omega, by omega, c, ?_⟩
            rw [f, show n + (d + 1) - n = d + 1 by omega]; omega
          · exact .inr (by omega)
    rcases key (longN l 16 - n) (by omega) with h | h
    · exact h
    · exfalso
      rw [show n + (longN l 16 - n) = longN l 16 by omega, hf] at h
      have := Int.mul_lt_mul_of_pos_right (xv_bd bs p n).2 (pow_cast (longN l 16 - n))
      rw [← Int.pow_add, show n + (longN l 16 - n) = longN l 16 by omega] at this
      omega
  · obtain rfl : n = 0 := by omega
    obtain ⟨_, j, a, b, c, f⟩ := symsB_at l 1 (by omega) (by omega) 0 (by omega)
    refine ⟨j, 1, a, by omega, by omega, c, ?_⟩
    rw [f]; simp [xv, lowF, lenCnt_zero]
/-- What the decoder reads, said by its codes. -/
theorem dec_spec (l bs : List Int) (p : Nat) : ∀ f n, n + f = longN l 16 → p + n ≤ 8 * bs.length → (∀ m, m ≤ n → lowF (lenCnt l) m + nth (lenCnt l) m ≤ xv bs p m) →
    (∃ j m : Nat, j < l.length ∧ 1 ≤ m ∧ m ≤ 15 ∧ nth l j = m ∧ codeI l j = xv bs p m ∧ p + m ≤ 8 * bs.length ∧ (∀ i, i < m → lowF (lenCnt l) i + nth (lenCnt l) i ≤ xv bs p i) ∧ decGo l bs p f n (xv bs p n) = ((j : Int), 0, m)) ∨
    (∃ k, k < longN l 16 ∧ p + k = 8 * bs.length ∧ (∀ m, m ≤ k → lowF (lenCnt l) m + nth (lenCnt l) m ≤ xv bs p m) ∧ decGo l bs p f n (xv bs p n) = (0, 10, 0)) ∨
    (p + longN l 16 ≤ 8 * bs.length ∧ (∀ m, m ≤ longN l 16 → lowF (lenCnt l) m + nth (lenCnt l) m ≤ xv bs p m) ∧ decGo l bs p f n (xv bs p n) = (0, 32, 0))
  | 0, n, hn, hp, hx => by
    obtain rfl : n = longN l 16 := by omega
    exact .inr (.inr ⟨hp, hx, rfl⟩)
  | f + 1, n, hn, hp, hx => by
    have hL := longN_15 l
    rw [decGo]
    by_cases he : p + n + 1 ≤ 8 * bs.length
    · rw [if_pos he]
      have hlo : lowF (lenCnt l) (n + 1) ≤ xv bs p (n + 1) := by
        have := hx n (Nat.le_refl _)
        have := bitAt_le bs (p + n)
        rw [xv, lowF]; omega
      rw [show 2 * xv bs p n + bitAt bs (p + n) = xv bs p (n + 1) from rfl]
      by_cases hk : xv bs p (n + 1) - lowF (lenCnt l) (n + 1) < nth (lenCnt l) (n + 1)
      · rw [if_pos ⟨by omega, hk⟩]
        left
        obtain ⟨k, hk'⟩ := Int.eq_ofNat_of_zero_le (Int.sub_nonneg.2 hlo)
        rw [hk'] at hk ⊢
        obtain ⟨_, j, a, b, c, d⟩ := symsB_at l (n + 1) (by omega) (by omega) k hk
        refine ⟨j, n + 1, a, by omega, by omega, c, by rw [d]; omega, by omega, fun i hi => hx i (by omega), ?_⟩
        rw [Int.toNat_natCast, b]
      · rw [if_neg (fun h => hk h.2)]
        refine dec_spec l bs p f (n + 1) (by omega) (by omega) (fun m hm => ?_)
        by_cases hmn : m ≤ n
        · exact hx m hmn
        · obtain rfl : m = n + 1 := by omega
          omega
    · rw [if_neg he]
      exact .inr (.inl ⟨n, by omega, by omega, hx, rfl⟩)
/-- What stands behind a code that is read is no code. -/
theorem above (l bs : List Int) (p m : Nat) (h : xv bs p m < lowF (lenCnt l) m + nth (lenCnt l) m) : ∀ d, xv bs p (m + (d + 1)) < lowF (lenCnt l) (m + (d + 1))
  | 0 => by
    have := bitAt_le bs (p + m)
    rw [xv, lowF]; omega
  | d + 1 => by
    have ih := above l bs p m h d
    by_cases hq : 0 ≤ nth (lenCnt l) (m + (d + 1))
    · have := bitAt_le bs (p + (m + (d + 1)))
      rw [← Nat.add_assoc m, xv, lowF]; omega
    · exfalso
      apply hq
      by_cases h16 : m + (d + 1) < 16
      · exact (lenCnt_bd l _ h16).1
      · have : (lenCnt l)[m + (d + 1)]? = none := List.getElem?_eq_none (by rw [lenCnt_len]; omega)
        simp [nth, List.getD, this]
theorem next_same {l : List Int} (hc : checkF l = 0) (bs : List Int) (p : Nat) (hp : p ≤ 8 * bs.length) :
    nextR (rowsF l) (bitsP bs (8 * bs.length)) p = ((decF l bs p).1, (decF l bs p).2.2, (decF l bs p).2.1) := by
  have hok := (check_ok hc).2
  have hno : ∀ k, (∀ m, m ≤ k → lowF (lenCnt l) m + nth (lenCnt l) m ≤ xv bs p m) → ∀ t m : Nat, t < l.length → m ≤ k → 1 ≤ m → nth l t = m → m ≤ 15 → xv bs p m ≠ codeI l t := fun k hk t m ht hm h1 hx h15 he => by
    have := codeI_bd l m t (by omega) h1 ht hx
    have := hk m hm
    omega
  have hs := dec_spec l bs p (longN l 16) 0 (by omega) (by omega) (fun m hm => by
    obtain rfl : m = 0 := by omega
    simp [xv, lowF, lenCnt_zero])
  rw [show decGo l bs p (longN l 16) 0 (xv bs p 0) = decF l bs p from rfl] at hs
  rcases hs with ⟨j, m, hj, h1, h15, hjm, hcode, hend, hpre, hr⟩ | ⟨k, hk, hend, hpre, hr⟩ | ⟨hend, hpre, hr⟩
  · rw [hr]
    have hrow := rows_rth l j m hj h1 hjm
    have hb := codeI_bd l m j (by omega) h1 hj hjm
    have := nextG_hit (rowsF l) (bitsP bs (8 * bs.length)) p j (by rw [hrow, msbF_len]; omega) ((full_iff hc bs p _ j m hj h1 h15 hjm).2 ⟨hend, hcode.symm⟩) (rowsF l).length 0 false (by omega) (by rw [rowsF_len]; omega) (fun t ht h0 ha => by
      obtain ⟨mt, a, b, c, _⟩ := row_len hok t (by omega) h0
      obtain ⟨_, hx⟩ := (full_iff hc bs p _ t mt (by omega) a b c).1 ha
      have hbt := codeI_bd l mt t (by omega) a (by omega) c
      rcases Nat.lt_trichotomy mt m with h | h | h
      · have := hpre mt h; omega
      · subst h
        have := codeI_ne l mt t j (by omega) a ht hj c hjm
        omega
      · have := above l bs p m (by omega) (mt - m - 1)
        rw [show m + (mt - m - 1 + 1) = mt by omega] at this
        omega)
    unfold nextR
    rw [this, hrow, msbF_len]
  · rw [hr]
    have hL := longN_15 l
    unfold nextR
    refine nextG_begins _ _ _ _ _ _ (fun t _ ht h0 ha => ?_) (.inr ?_)
    · rw [rowsF_len, Nat.zero_add] at ht
      obtain ⟨mt, a, b, c, _⟩ := row_len hok t ht h0
      obtain ⟨h2, hx⟩ := (full_iff hc bs p _ t mt ht a b c).1 ha
      exact hno k hpre t mt ht (by omega) a c b hx
    · obtain ⟨j, m, hj, hm, h15, hjm, hcode⟩ := some_begins hc bs p k hk (hpre k (Nat.le_refl _))
      have hrow := rows_rth l j m hj (by omega) hjm
      have hb := codeI_bd l m j (by omega) (by omega) hj hjm
      have hkr := kraft_le hc m h15
      have hx0 := (xv_bd bs p k).1
      have hc0 : 0 ≤ codeI l j := by have := (lowF_small l (check_ok hc).1 m (by omega)).1; omega
      refine ⟨j, by omega, by rw [rowsF_len]; omega, by rw [hrow, msbF_len]; omega, ?_⟩
      rw [hrow, bitsP_len]
      have hag := (pre_iff (codeI l j) m hc0 (by omega) bs p k (by omega)).2 (by rw [hcode]; exact Int.mul_ediv_cancel _ (Int.ne_of_gt (pow_cast _)))
      obtain ⟨s1, s2, s3⟩ := agrN_spec (msbF (codeI l j) m) (bitsP bs (8 * bs.length)) p
      rw [msbF_len, bitsP_len] at s3
      rcases Nat.lt_trichotomy (agrN (msbF (codeI l j) m) (bitsP bs (8 * bs.length)) p) k with h | h | h
      · rcases s3 with s3 | s3 | s3
        · omega
        · omega
        · exfalso; apply s3; rw [bitsP_nth _ _ _ (by omega)]; exact hag _ h
      · omega
      · have := (s2 k h).1
        rw [bitsP_len] at this; omega
  · rw [hr]
    unfold nextR
    refine nextG_none _ _ _ _ _ (fun t _ ht h0 => ?_)
    rw [rowsF_len, Nat.zero_add] at ht
    obtain ⟨mt, a, b, c, hrow⟩ := row_len hok t ht h0
    have hmt : mt ≤ longN l 16 := by
      rcases Nat.lt_or_ge (longN l 16) mt with h | h
      · exfalso
        have hb := codeI_bd l mt t (by omega) a ht c
        have := longN_top l 16 mt h (by omega)
        omega
      · exact h
    have hne : agrN (rth (rowsF l) t) (bitsP bs (8 * bs.length)) p ≠ (rth (rowsF l) t).length := fun ha => hno _ hpre t mt ht hmt a c b ((full_iff hc bs p _ t mt ht a b c).1 ha).2
    refine ⟨hne, ?_⟩
    obtain ⟨s1, _, _⟩ := agrN_spec (rth (rowsF l) t) (bitsP bs (8 * bs.length)) p
    rw [bitsP_len]
    have : (rth (rowsF l) t).length = mt := by rw [hrow, msbF_len]
    omega
end Go.Proofs.YtkpabdjniiepkaaGreatDoor

set_option linter.unusedVariables false
set_option linter.unusedSimpArgs false
namespace Go.Proofs.YtkpabdjniiepkaaGreatDoor
open Go.RowKit
/-- The pair at a place. -/
def pth (xs : List (Int × Int)) (j : Nat) : Int × Int := xs.getD j (0, 0)
/-- A slice's cells are these pairs of numbers. -/
structure RP (w : World) (A : Option Addr) (n : Nat) (xs : List (Int × Int)) : Prop where
  len : xs.length = n
  hd : 0 < n → ∃ b o, A = some ⟨b, o, none⟩
  cell : ∀ b o, A = some ⟨b, o, none⟩ → ∀ j, j < n → w.cell? ⟨b, o + j * 2, none⟩ = some (.int .i64 (pth xs j).1) ∧ w.cell? ⟨b, o + j * 2 + 1, none⟩ = some (.int .i64 (pth xs j).2)
theorem step_neq (w : World) (a b c d : Int) : (binOp .neq 112 (.agg #[.int .i64 a, .int .i64 b]) (.agg #[.int .i64 c, .int .i64 d])).run Tryz.prog w = .ok (.bool (!(a == c && b == d))) w := by
  have u3 := Tryz.underlying3
  have hS : Tryz.prog.underlying 112 = some (.struct (Tryz.prog.fieldsOf 112)) := by kernel_rfl
  have hp : Tryz.prog.stoodInHeld 112 = false := by kernel_rfl
  rw [run_neq_struct, show (10000 : Nat) = 9999 + 1 from rfl, run_equalIn_agg w 9999 112 _ _ hS hp]
  simp only [Program.fieldsOf, Tryz.underlying112]
  go_simp
  by_cases h1 : a = c <;> by_cases h2 : b = d <;> simp [h1, h2]
theorem step_guard (x y : Operand) (w : World) (a b c d : Int) : (eqGuard .neq 112 x y (.agg #[.int .i64 a, .int .i64 b]) (.agg #[.int .i64 c, .int .i64 d])).run Tryz.prog w = .ok () w :=
  run_eqGuard_agg _ _ _ _ _ _ _ (by kernel_rfl)
theorem peq_of (xs ys : List (Int × Int)) (n : Nat) (hx : xs.length = n) (hy : ys.length = n) (h : ∀ j, j < n → pth xs j = pth ys j) : (xs == ys) = true := by
  rw [beq_iff_eq]
  refine List.ext_getElem (by omega) fun i h1 h2 => ?_
  have := h i (by omega)
  simpa [pth, List.getD, h1, h2] using this
theorem pne_of (xs ys : List (Int × Int)) (j : Nat) (h : ¬ pth xs j = pth ys j) : (xs == ys) = false := by
  rw [beq_eq_false_iff_ne]
  rintro rfl
  exact h rfl
theorem pne_len (xs ys : List (Int × Int)) (h : xs.length ≠ ys.length) : (xs == ys) = false := by
  rw [beq_eq_false_iff_ne]
  rintro rfl
  exact h rfl
theorem peq_snoc {xs ys : List (Int × Int)} {k : Nat} (h : ∀ j, j < k → pth xs j = pth ys j) (hk : pth xs k = pth ys k) : ∀ j, j < k + 1 → pth xs j = pth ys j := fun j hj => by
  by_cases e : j = k
  · subst e; exact hk
  · exact h j (by omega)
end Go.Proofs.YtkpabdjniiepkaaGreatDoor

set_option linter.unusedVariables false
set_option linter.unusedSimpArgs false
namespace Go.Proofs.YtkpabdjniiepkaaGreatDoor
open Go.RowKit
/-- Is a length beyond what may be? -/
def badLen (x : Int) : Bool := decide (x < 0) || decide (15 < x)
set_option maxHeartbeats 400000 in
theorem lengths1_calls (w : World) (x : Int) :
    Calls Tryz.prog 75 #[.int .i64 x] w fun e w' => e = .returned (.bool (badLen x)) ∧ w = w' := by
  by_cases h : x < 0
  · have e1 : decide (x < 0) = true := by simpa using h
    have hb : badLen x = true := by simp [badLen, h]
    rw [hb]; clear hb
    go_enter Tryz.func75, Tryz.ntmps75
    go_wp2
    go_ret
    exact ⟨rfl, rfl⟩
  · have e1 : decide (x < 0) = false := by simpa using h
    have hb : badLen x = decide (15 < x) := by simp [badLen, h]
    rw [hb]; clear hb
    go_enter Tryz.func75, Tryz.ntmps75
    go_wp2
    go_ret
    exact ⟨rfl, rfl⟩
def anyBad (xs : List Int) : Bool := xs.any badLen
theorem any_snoc {xs : List Int} {k n : Nat} (hl : xs.length = n) (hk : k < n) (h : (xs.take k).any badLen = false) (hb : badLen (nth xs k) = false) : (xs.take (k + 1)).any badLen = false := by
  rw [List.take_succ_eq_append_getElem (by omega), List.any_append, h]
  rw [nth_lt (by omega)] at hb
  simp [hb]
theorem any_hit {xs : List Int} {k n : Nat} (hl : xs.length = n) (hk : k < n) (hb : badLen (nth xs k) = true) : anyBad xs = true := by
  rw [anyBad, List.any_eq_true]
  rw [nth_lt (by omega)] at hb
  exact ⟨_, List.getElem_mem _, hb⟩
/-- A place, or -1: whether there is one. -/
def Found (b : Bool) (e : Ending) : Prop := ∃ r : Int, e = .returned (.int .i64 r) ∧ decide (0 ≤ r) = b ∧ -1 ≤ r ∧ r ≤ 140737488355328
set_option maxRecDepth 100000 in
set_option maxHeartbeats 400000 in
theorem indexFunc_calls (w : World) (A : Option Addr) (n c : Nat) (xs : List Int) (hx : RI .i64 w A n xs) (hn : n ≤ 140737488355328) :
    Calls Tryz.prog 98 #[.slice A n c, .func (.func 75) #[] #[]] w fun e w' => Found (anyBad xs) e ∧ Dr w w' := by
  have HX := Lib.hid hx
  clear hx
  go_enter Tryz.func98, Tryz.ntmps98
  go_wp2_with fail
  go_loopw [5, 8] (fun v i wr => ∃ k : Nat, k ≤ n ∧ i = .int .i64 k ∧ Hid ((xs.take k).any badLen = false) ∧ Hid (Dr w wr)) (fun _ i _ => n - (intOf i).toNat)
  case atStart => exact ⟨0, by omega, rfl, by simp [Hid], ⟨0, rfl⟩⟩
  case round =>
    obtain ⟨k, hk, rfl, HE, HW⟩ := hrel
    obtain ⟨q, rfl⟩ := HW.out
    clear HW
    by_cases hlt : k < n
    · obtain ⟨b, o, rfl, hc⟩ := HX.out.at hlt
      go_wp2_with fail
      refine (lengths1_calls _ _).mono ?_
      rintro e w' ⟨rfl, rfl⟩
      by_cases hb : badLen (nth xs k) = true
      · have HB := Lib.hid hb
        rw [hb]
        clear hb
        go_wp2_with fail
        go_ret
        exact ⟨⟨k, rfl, by rw [any_hit HX.out.len hlt HB.out]; simp, by omega, by omega⟩, _, rfl⟩
      · replace hb := Bool.eq_false_iff.2 hb
        have HB := Lib.hid hb
        rw [hb]
        clear hb
        go_wp2_with fail
        go_roundw
        case rel => exact ⟨k + 1, by omega, by go_num, any_snoc HX.out.len hlt HE.out HB.out, ⟨_, rfl⟩⟩
        case measure => simp [intOf]; omega
    · go_wp2_with fail
      go_ret
      have e1 : xs.take k = xs := List.take_of_length_le (by have := HX.out.len; omega)
      have e2 := HE.out
      rw [e1] at e2
      exact ⟨⟨-1, rfl, by rw [anyBad, e2]; simp, by omega, by omega⟩, _, rfl⟩
set_option maxRecDepth 100000 in
set_option maxHeartbeats 400000 in
theorem containsFunc_calls (w : World) (A : Option Addr) (n c : Nat) (xs : List Int) (hx : RI .i64 w A n xs) (hn : n ≤ 140737488355328) :
    Calls Tryz.prog 74 #[.slice A n c, .func (.func 75) #[] #[]] w fun e w' => e = .returned (.bool (anyBad xs)) ∧ Dr w w' := by
  have HX := Lib.hid hx
  clear hx
  go_enter Tryz.func74, Tryz.ntmps74
  go_wp2_with fail
  refine (indexFunc_calls w _ _ _ xs HX.out hn).mono ?_
  rintro e w' ⟨⟨r, rfl, hr, h1, h2⟩, q, rfl⟩
  have HR := Lib.hid hr
  clear hr
  go_wp2_with fail
  go_ret
  rw [← HR.out]
  exact ⟨rfl, _, rfl⟩
set_option maxRecDepth 100000 in
set_option maxHeartbeats 400000 in
theorem lengths_calls (w : World) (A : Option Addr) (n c : Nat) (xs : List Int) (hx : RI .i64 w A n xs) (hn : n ≤ 140737488355328) :
    Calls Tryz.prog 50 #[.slice A n c] w fun e w' => e = .returned (.bool (!anyBad xs)) ∧ Dr w w' := by
  have HX := Lib.hid hx
  clear hx
  go_enter Tryz.func50, Tryz.ntmps50
  go_wp2_with fail
  refine (containsFunc_calls w _ _ _ xs HX.out hn).mono ?_
  rintro e w' ⟨rfl, q, rfl⟩
  go_wp2_with fail
  go_ret
  exact ⟨rfl, _, rfl⟩
end Go.Proofs.YtkpabdjniiepkaaGreatDoor

set_option linter.unusedVariables false
set_option linter.unusedSimpArgs false
namespace Go.Proofs.YtkpabdjniiepkaaGreatDoor
open Go.RowKit
/-- The cells of pairs. -/
def pcells : List (Int × Int) → List Value
  | [] => []
  | p :: r => .int .i64 p.1 :: .int .i64 p.2 :: pcells r
theorem pcells_append (xs ys : List (Int × Int)) : pcells (xs ++ ys) = pcells xs ++ pcells ys := by
  induction xs with
  | nil => rfl
  | cons p r ih => simp [pcells, ih]
theorem pcells_length (xs : List (Int × Int)) : (pcells xs).length = xs.length * 2 := by
  induction xs with
  | nil => rfl
  | cons p r ih => simp [pcells, ih]; omega
theorem pcells_one (xs : List (Int × Int)) : ∀ v ∈ pcells xs, v.oneCell' = true := by
  induction xs with
  | nil => simp [pcells]
  | cons p r ih => intro v hv; simp only [pcells, List.mem_cons] at hv; rcases hv with rfl | rfl | h; rfl; rfl; exact ih v h
theorem pcells_get (xs : List (Int × Int)) : ∀ j, j < xs.length → (pcells xs)[j * 2]? = some (.int .i64 (pth xs j).1) ∧ (pcells xs)[j * 2 + 1]? = some (.int .i64 (pth xs j).2) := by
  induction xs with
  | nil => intro j hj; simp at hj
  | cons p r ih =>
    intro j hj
    cases j with
    | zero => exact ⟨rfl, rfl⟩
    | succ j =>
      have := ih j (by simpa using hj)
      have e : (j + 1) * 2 = j * 2 + 1 + 1 := by omega
      rw [e]
      simpa [pcells, pth] using this
theorem info_step : (Tryz.prog.info? 112).map (fun i => (i.zero, i.size, i.bytes)) = some (some (.agg #[.int .i64 0, .int .i64 0]), 2, 16) := by kernel_rfl
/-- 's = append(s, Step{a, b})' on a row of one's own. -/
theorem app_step {ops : Array Oper} {rest : List Oper} {o : Oper} {a : Act} {Q : Exit → Act → World → Prop} {w : World} (hgd : o.guard = none) (s x : Operand)
    (ho : o.op = .call { callee := .builtin .append, args := #[s, x], argTypes := #[108, 108] })
    (base : Nat) (v : Value) (n : Nat) (xs : List (Int × Int)) (hs : a.eval s = v) (hown : w.ownsRow base 112 2 v n (pcells xs))
    (g : Nat) (p q : Int) (hx : a.eval x = .slice (some ⟨g, 0, none⟩) 1 1) (h0 : w.cell? ⟨g, 0, none⟩ = some (.int .i64 p)) (h1 : w.cell? ⟨g, 1, none⟩ = some (.int .i64 q))
    (hn : n ≤ 1000000) (hbase : base ≤ w.heap.size)
    (h : ∀ v' w', w'.ownsRow base 112 2 v' (n + 1) (pcells (xs ++ [(p, q)])) → w.grownBy w' v.ownBlock → (∃ g' c', v' = .slice (some ⟨g', 0, none⟩) (n + 1) c') → wpList Tryz.prog ops Q rest (a.put o.dst v') w') : wpList Tryz.prog ops Q (o :: rest) a w := by
  obtain ⟨i0, hi, hz0, hz1, hz2⟩ := info_parts info_step
  refine wpList_append_own _ hgd s x 108 ho base 112 i0 (.agg #[.int .i64 0, .int .i64 0]) 2 16 Tryz.underlying108 hi hz0 hz1 hz2 rfl (by decide) v n (pcells xs) hs hown ⟨g, 0, none⟩ 1 1 [.int .i64 p, .int .i64 q] hx rfl ?_ ?_ (by unfold maxLen; omega) (by omega) hbase ?_
  · intro j u hu
    rw [add_plain]
    match j, hu with
    | 0, hu => simp at hu; subst hu; exact h0
    | 1, hu => simp at hu; subst hu; exact h1
    | j + 2, hu => simp at hu
  · intro u hu
    simp at hu
    rcases hu with rfl | rfl <;> rfl
  · intro v' w' h2 h3 _
    rw [pcells_append] at h
    refine h v' w' h2 h3 ?_
    rcases h2.2 with ⟨_, h⟩ | ⟨g', c', _, h, _⟩
    · omega
    · exact ⟨g', c', h⟩
end Go.Proofs.YtkpabdjniiepkaaGreatDoor

/- What packing lengths gives: plain lists. -/
set_option linter.unusedVariables false
set_option linter.unusedSimpArgs false
namespace Go.Proofs.YtkpabdjniiepkaaGreatDoor

/-- How many times a number stands at the head. -/
def runN (v : Int) : List Int → Nat
  | [] => 0
  | x :: r => if x = v then runN v r + 1 else 0
theorem runN_le (v : Int) (l : List Int) : runN v l ≤ l.length := by
  induction l with
  | nil => simp [runN]
  | cons x r ih => simp only [runN, List.length_cons]; split <;> omega
theorem runN_head (x : Int) (r : List Int) : 1 ≤ runN x (x :: r) := by simp [runN]
theorem runN_of (v : Int) (l : List Int) : ∀ n, n ≤ l.length → (∀ j, j < n → l.getD j 0 = v) → (n < l.length → l.getD n 0 ≠ v) → runN v l = n := by
  induction l with
  | nil => intro n hn _ _; simp at hn; subst hn; rfl
  | cons x r ih =>
    intro n hn h1 h2
    cases n with
    | zero =>
      have := h2 (by simp)
      simp at this
      simp [runN, this]
    | succ n =>
      have e : x = v := by simpa using h1 0 (by omega)
      have := ih n (by simpa using hn) (fun j hj => by simpa using h1 (j + 1) (by omega)) (fun h => by simpa using h2 (by simpa using h))
      simp [runN, e, this]
theorem runN_get (v : Int) (l : List Int) : ∀ j, j < runN v l → l.getD j 0 = v := by
  induction l with
  | nil => intro j hj; simp [runN] at hj
  | cons x r ih =>
    intro j hj
    simp only [runN] at hj
    split at hj
    · cases j with
      | zero => simpa
      | succ j => simpa using ih j (by omega)
    · omega
/-- Steps that say many. -/
def reps (fr sym top n : Nat) : List (Int × Int) :=
  if h : 0 < fr ∧ 0 < top ∧ fr ≤ n then ((sym : Int), ((min n top : Nat) : Int) - (fr : Int)) :: reps fr sym top (n - min n top) else []
termination_by n
decreasing_by have := h.1; have := h.2; omega
def left (fr top n : Nat) : Nat :=
  if h : 0 < fr ∧ 0 < top ∧ fr ≤ n then left fr top (n - min n top) else n
termination_by n
decreasing_by have := h.1; have := h.2; omega
theorem reps_ge {fr sym top n : Nat} (h0 : 0 < fr) (h1 : 0 < top) (h : fr ≤ n) : reps fr sym top n = ((sym : Int), ((min n top : Nat) : Int) - (fr : Int)) :: reps fr sym top (n - min n top) := by
  rw [reps, dif_pos ⟨h0, h1, h⟩]
theorem reps_lt {fr sym top n : Nat} (h : n < fr) : reps fr sym top n = [] := by
  rw [reps, dif_neg (by omega)]
theorem left_ge {fr top n : Nat} (h0 : 0 < fr) (h1 : 0 < top) (h : fr ≤ n) : left fr top n = left fr top (n - min n top) := by
  rw [left, dif_pos ⟨h0, h1, h⟩]
theorem left_lt {fr top n : Nat} (h : n < fr) : left fr top n = n := by
  rw [left, dif_neg (by omega)]
theorem left_le (fr top n : Nat) (h0 : 0 < fr) (h1 : 0 < top) : left fr top n < fr := by
  induction n using Nat.strongRecOn with
  | _ n ih =>
    by_cases h : fr ≤ n
    · rw [left_ge h0 h1 h]; exact ih _ (by omega)
    · rw [left_lt (by omega)]; omega
theorem reps_len (fr sym top n : Nat) (h0 : 0 < fr) (h1 : 0 < top) : (reps fr sym top n).length + left fr top n ≤ n := by
  induction n using Nat.strongRecOn with
  | _ n ih =>
    by_cases h : fr ≤ n
    · rw [reps_ge h0 h1 h, left_ge h0 h1 h]
      have := ih (n - min n top) (by omega)
      simp only [List.length_cons]; omega
    · rw [reps_lt (by omega), left_lt (by omega)]; simp
theorem reps_step {fr sym top m r : Nat} {es : List (Int × Int)} (h0 : 0 < fr) (h1 : 0 < top) (h : fr ≤ r) (hA : reps fr sym top m = es ++ reps fr sym top r) (hL : left fr top m = left fr top r) {q : Int} {r' : Nat} (hq : q = ((min r top : Nat) : Int) - (fr : Int)) (hr : r' = r - min r top) :
    reps fr sym top m = (es ++ [((sym : Int), q)]) ++ reps fr sym top r' ∧ left fr top m = left fr top r' := by
  subst hq; subst hr
  rw [hA, hL, reps_ge h0 h1 h, left_ge h0 h1 h]
  simp
theorem reps_stop {fr sym top m r : Nat} {es : List (Int × Int)} (h : r < fr) (hA : reps fr sym top m = es ++ reps fr sym top r) (hL : left fr top m = left fr top r) :
    reps fr sym top m = es ∧ left fr top m = r := by
  rw [hA, hL, reps_lt h, left_lt h]; simp
theorem zlast_ge {r : Nat} (h : 3 ≤ r) (h2 : r < 11) : reps 3 17 10 r = [(17, (r : Int) - 3)] ∧ left 3 10 r = 0 := by
  rw [reps_ge (by omega) (by omega) h, left_ge (by omega) (by omega) h, show min r 10 = r by omega, Nat.sub_self, reps_lt (by omega), left_lt (by omega)]
  exact ⟨rfl, rfl⟩
theorem zlast_lt {r : Nat} (h : r < 3) : reps 3 17 10 r = [] ∧ left 3 10 r = r := ⟨reps_lt h, left_lt h⟩
def zsteps (n : Nat) : List (Int × Int) := reps 11 18 138 n ++ (reps 3 17 10 (left 11 138 n) ++ List.replicate (left 3 10 (left 11 138 n)) (0, 0))
def vsteps (v : Int) (n : Nat) : List (Int × Int) := (v, 0) :: (reps 3 16 6 (n - 1) ++ List.replicate (left 3 6 (n - 1)) (v, 0))
def rsteps (v : Int) (n : Nat) : List (Int × Int) := if v = 0 then zsteps n else vsteps v n
theorem rsteps_len (v : Int) (n : Nat) (h : 1 ≤ n) : (rsteps v n).length ≤ n := by
  unfold rsteps
  split
  · have h1 := reps_len 11 18 138 n (by omega) (by omega)
    have h2 := reps_len 3 17 10 (left 11 138 n) (by omega) (by omega)
    simp only [zsteps, List.length_append, List.length_replicate]; omega
  · have h1 := reps_len 3 16 6 (n - 1) (by omega) (by omega)
    simp only [vsteps, List.length_cons, List.length_append, List.length_replicate]; omega
/-- The steps that say a list. -/
def packF (l : List Int) : List (Int × Int) :=
  match l with
  | [] => []
  | v :: r => rsteps v (runN v (v :: r)) ++ packF ((v :: r).drop (runN v (v :: r)))
termination_by l.length
decreasing_by have := runN_head v r; simp only [List.length_drop, List.length_cons]; omega
theorem packF_nil : packF [] = [] := by rw [packF]
theorem packF_len (l : List Int) : (packF l).length ≤ l.length := by
  induction h : l.length using Nat.strongRecOn generalizing l with
  | _ n ih =>
    match l, h with
    | [], _ => rw [packF_nil]; simp
    | v :: r, h =>
      have h1 := runN_head v r
      have h2 := runN_le v (v :: r)
      have h3 := rsteps_len v _ h1
      have h4 := ih _ (by rw [← h, List.length_drop]; omega) ((v :: r).drop (runN v (v :: r))) rfl
      rw [packF, List.length_append]
      rw [List.length_drop] at h4
      omega
/-- At a place: the run that begins there, then the rest. -/
theorem packF_at (xs : List Int) (i n : Nat) (hi : i < xs.length) (hn : i + n ≤ xs.length) (h1 : ∀ j, j < n → xs.getD (i + j) 0 = xs.getD i 0) (h2 : i + n < xs.length → xs.getD (i + n) 0 ≠ xs.getD i 0) :
    packF (xs.drop i) = rsteps (xs.getD i 0) n ++ packF (xs.drop (i + n)) := by
  have e : xs.drop i = xs.getD i 0 :: xs.drop (i + 1) := by
    rw [List.drop_eq_getElem_cons hi]; simp [List.getD, hi]
  have hr : runN (xs.getD i 0) (xs.drop i) = n := by
    refine runN_of _ _ n (by rw [List.length_drop]; omega) (fun j hj => ?_) (fun h => ?_)
    · have := h1 j hj
      simpa [List.getD, List.getElem?_drop] using this
    · have := h2 (by rw [List.length_drop] at h; omega)
      simpa [List.getD, List.getElem?_drop] using this
  rw [e] at hr ⊢
  rw [packF, hr]
  rw [← e, List.drop_drop]
end Go.Proofs.YtkpabdjniiepkaaGreatDoor
