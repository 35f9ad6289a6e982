/- Rows of bits of codes: plain numbers. -/
import Derived.Test.YtcblibefmclloaaCodes
set_option linter.unusedVariables false
set_option linter.unusedSimpArgs false
namespace Go.Proofs.Ytcblibefmclloaa
/-- The n bits of a code, the highest first. -/
def msbF (c : Int) (n : Nat) : List Int := (List.range n).map fun t => c / 2 ^ (n - 1 - t) % 2
/-- The last j of them. -/
def msbP (c : Int) (n j : Nat) : List Int := (List.range n).map fun t => if n ≤ t + j then c / 2 ^ (n - 1 - t) % 2 else 0
theorem msbP_zero (c : Int) (n : Nat) : msbP c n 0 = List.replicate n 0 := by
  refine List.ext_getElem (by simp [msbP]) fun t h1 h2 => ?_
  have ht : t < n := by simpa [msbP] using h1
  simp only [msbP, List.getElem_map, List.getElem_range, List.getElem_replicate]
  rw [if_neg (by omega)]
theorem msbP_all (c : Int) (n : Nat) : msbP c n n = msbF c n := by
  refine List.ext_getElem (by simp [msbP, msbF]) fun t h1 h2 => ?_
  simp only [msbP, msbF, List.getElem_map, List.getElem_range]
  rw [if_pos (by omega)]
theorem msbP_len (c : Int) (n j : Nat) : (msbP c n j).length = n := by simp [msbP]
theorem msbF_len (c : Int) (n : Nat) : (msbF c n).length = n := by simp [msbF]
theorem msbP_step (c : Int) (n j : Nat) (h : j < n) : msbP c n (j + 1) = (msbP c n j).set (n - 1 - j) (c / 2 ^ j % 2) := by
  refine List.ext_getElem (by simp [msbP]) fun t h1 h2 => ?_
  have ht : t < n := by simpa [msbP] using h1
  rw [List.getElem_set]
  simp only [msbP, List.getElem_map, List.getElem_range]
  by_cases e : n - 1 - j = t
  · rw [if_pos e, if_pos (by omega), show n - 1 - t = j by omega]
  · rw [if_neg e]
    by_cases hj : n ≤ t + j
    · rw [if_pos (by omega), if_pos hj]
    · rw [if_neg (by omega), if_neg hj]
/-- The rows that are laid before the n-th length's i-th symbol. -/
def rowsAt (l : List Int) (n i : Nat) : List (List Int) := (List.range l.length).map fun j => if 0 < nth l j ∧ (nth l j < n ∨ nth l j = n ∧ j < i) then msbF (codeI l j) (nth l j).toNat else []
def rowsF (l : List Int) : List (List Int) := (List.range l.length).map fun j => if 0 < nth l j then msbF (codeI l j) (nth l j).toNat else []
theorem rowsAt_len (l : List Int) (n i : Nat) : (rowsAt l n i).length = l.length := by simp [rowsAt]
theorem rowsF_len (l : List Int) : (rowsF l).length = l.length := by simp [rowsF]
theorem rowsAt_zero (l : List Int) : rowsAt l 1 0 = List.replicate l.length [] := by
  refine List.ext_getElem (by simp [rowsAt]) fun j h1 h2 => ?_
  simp only [rowsAt, List.getElem_map, List.getElem_range, List.getElem_replicate]
  rw [if_neg (by omega)]
theorem rowsAt_all (l : List Int) (h : l.all okLen = true) : rowsAt l 16 0 = rowsF l := by
  refine List.ext_getElem (by simp [rowsAt, rowsF]) fun j h1 h2 => ?_
  have hj : j < l.length := by simpa [rowsAt] using h1
  have hx : okLen (nth l j) = true := by rw [nth_lt hj]; exact List.all_eq_true.1 h _ (List.getElem_mem _)
  have hx1 : 0 ≤ nth l j ∧ nth l j ≤ 15 := by simpa [okLen] using hx
  simp only [rowsAt, rowsF, List.getElem_map, List.getElem_range]
  by_cases e : 0 < nth l j
  · rw [if_pos ⟨e, by omega⟩, if_pos e]
  · rw [if_neg (by omega), if_neg e]
theorem rowsAt_next (l : List Int) (n : Nat) : rowsAt l n l.length = rowsAt l (n + 1) 0 := by
  refine List.ext_getElem (by simp [rowsAt]) fun j h1 h2 => ?_
  have hj : j < l.length := by simpa [rowsAt] using h1
  simp only [rowsAt, List.getElem_map, List.getElem_range]
  by_cases e : 0 < nth l j ∧ (nth l j < n ∨ nth l j = n)
  · rw [if_pos (by omega), if_pos (by omega)]
  · rw [if_neg (by omega), if_neg (by omega)]
theorem rowsAt_skip (l : List Int) (n i : Nat) (h : nth l i ≠ n) : rowsAt l n (i + 1) = rowsAt l n i := by
  refine List.ext_getElem (by simp [rowsAt]) fun j h1 h2 => ?_
  simp only [rowsAt, List.getElem_map, List.getElem_range]
  by_cases e : j = i
  · subst e
    by_cases e2 : 0 < nth l j ∧ nth l j < n
    · rw [if_pos (by omega), if_pos (by omega)]
    · rw [if_neg (by omega), if_neg (by omega)]
  · by_cases e2 : 0 < nth l j ∧ (nth l j < n ∨ nth l j = n ∧ j < i)
    · rw [if_pos (by omega), if_pos e2]
    · rw [if_neg (by omega), if_neg e2]
theorem rowsAt_step (l : List Int) (n i : Nat) (hi : i < l.length) (hn : 1 ≤ n) (h : nth l i = n) : rowsAt l n (i + 1) = (rowsAt l n i).set i (msbF (codeI l i) n) := by
  refine List.ext_getElem (by simp [rowsAt]) fun j h1 h2 => ?_
  rw [List.getElem_set]
  simp only [rowsAt, List.getElem_map, List.getElem_range]
  by_cases e : i = j
  · subst e
    rw [if_pos rfl, if_pos (by omega), h]; simp
  · rw [if_neg e]
    by_cases e2 : 0 < nth l j ∧ (nth l j < n ∨ nth l j = n ∧ j < i)
    · rw [if_pos (by omega), if_pos e2]
    · rw [if_neg (by omega), if_neg e2]
/-- The code that comes next at a length. -/
def posF (l : List Int) (n i : Nat) : Int := lowF (lenCnt l) n + nth (lenCnt (l.take i)) n
theorem posF_skip (l : List Int) (n i : Nat) (hn : n < 16) (hi : i < l.length) (h : nth l i ≠ n) : posF l n (i + 1) = posF l n i := by
  unfold posF
  congr 1
  unfold lenCnt
  rw [cntF_nth _ _ _ hn, cntF_nth _ _ _ hn, take_snoc' l i hi, List.filter_append, List.count_append]
  have : List.count (n : Int) (List.filter (fun x => decide (0 < x)) [nth l i]) = 0 := List.count_eq_zero_of_not_mem (fun hm => by
    have := (List.mem_filter.1 hm).1
    exact h (List.mem_singleton.1 this).symm)
  omega
theorem posF_step (l : List Int) (n i : Nat) (hn : n < 16) (h1 : 1 ≤ n) (hi : i < l.length) (h : nth l i = n) : posF l n (i + 1) = posF l n i + 1 := by
  unfold posF
  unfold lenCnt
  rw [cntF_nth _ _ _ hn, cntF_nth _ _ _ hn, take_snoc' l i hi, List.filter_append, List.count_append, h, List.filter_cons_of_pos (by simp; omega)]
  simp; omega
theorem posF_next (l : List Int) (n : Nat) (hn : n < 16) : posF l (n + 1) 0 = 2 * posF l n l.length ∨ 15 ≤ n := by
  by_cases h : n < 15
  · left
    unfold posF
    rw [List.take_zero, List.take_length, lowF]
    have : nth (lenCnt []) (n + 1) = 0 := by unfold lenCnt; rw [cntF_nth _ _ _ (by omega)]; simp
    omega
  · right; omega
theorem posF_one (l : List Int) : posF l 1 0 = 0 := by
  unfold posF
  have h1 : nth (lenCnt (l.take 0)) 1 = 0 := by rw [List.take_zero]; unfold lenCnt; rw [cntF_nth _ _ _ (by omega)]; simp
  have h2 : nth (lenCnt l) 0 = 0 := by
    unfold lenCnt
    rw [cntF_nth _ _ _ (by omega)]
    have : List.count (0 : Int) (List.filter (fun x => decide (0 < x)) l) = 0 := List.count_eq_zero_of_not_mem (fun hm => by
      have := (List.mem_filter.1 hm).2; simp at this)
    exact_mod_cast this
  simp only [lowF]
  omega
theorem posF_code (l : List Int) (n i : Nat) (h : nth l i = n) : codeI l i = posF l n i := by unfold codeI posF; rw [h]; simp
theorem posF_bd (l : List Int) (hl : l.length ≤ 288) (n i : Nat) (hn : n < 16) : 0 ≤ posF l n i ∧ posF l n i ≤ 50000000 := by
  unfold posF
  have h1 := lowF_small l hl n (by omega)
  have h2 := lenCnt_bd (l.take i) n hn
  have : (l.take i).length ≤ 288 := by rw [List.length_take]; omega
  omega
/-- What the laying of rows keeps: the last code and its length. -/
def Last (l : List Int) (n i : Nat) (code : Int) (last : Nat) : Prop := 0 ≤ code ∧ code ≤ 50000000 ∧ last ≤ n ∧ if last = 0 then posF l n i = 0 ∧ code = 0 else (code + 1) * 2 ^ (n - last) = posF l n i
theorem last_start (l : List Int) : Last l 1 0 0 0 := ⟨by omega, by omega, by omega, by rw [if_pos rfl]; exact ⟨posF_one l, rfl⟩⟩
theorem last_skip {l : List Int} {n i : Nat} {code : Int} {last : Nat} (h : Last l n i code last) (hn : n < 16) (hi : i < l.length) (hne : nth l i ≠ n) : Last l n (i + 1) code last := by
  obtain ⟨h1, h2, h3, h4⟩ := h
  refine ⟨h1, h2, h3, ?_⟩
  rw [posF_skip l n i hn hi hne]; exact h4
theorem last_step {l : List Int} {n i : Nat} (hl : l.length ≤ 288) (hn : n < 16) (h1 : 1 ≤ n) (hi : i < l.length) (h : nth l i = n) : Last l n (i + 1) (codeI l i) n := by
  rw [posF_code l n i h]
  have := posF_bd l hl n i hn
  refine ⟨this.1, this.2, Nat.le_refl _, ?_⟩
  rw [if_neg (by omega), posF_step l n i hn h1 hi h, Nat.sub_self]; simp
theorem last_next {l : List Int} {n : Nat} {code : Int} {last : Nat} (h : Last l n l.length code last) (hn : n < 15) : Last l (n + 1) 0 code last := by
  obtain ⟨h1, h2, h3, h4⟩ := h
  refine ⟨h1, h2, by omega, ?_⟩
  have hp := (posF_next l n (by omega)).resolve_right (by omega)
  split at h4
  · rename_i h0
    rw [if_pos h0, hp]; exact ⟨by omega, h4.2⟩
  · rename_i h0
    rw [if_neg h0, hp, ← h4, show n + 1 - last = (n - last) + 1 by omega, Int.pow_succ]
    rw [← Int.mul_assoc]; omega
theorem last_code {l : List Int} {n i : Nat} {code : Int} {last : Nat} (h : Last l n i code last) (hx : nth l i = n) (h0 : last ≠ 0) : (code + 1) * 2 ^ (n - last) = codeI l i := by
  rw [posF_code l n i hx]
  have := h.2.2.2
  rwa [if_neg h0] at this
theorem last_code0 {l : List Int} {n i : Nat} {code : Int} {last : Nat} (h : Last l n i code last) (hx : nth l i = n) (h0 : last = 0) : code = codeI l i := by
  rw [posF_code l n i hx]
  have := h.2.2.2
  rw [if_pos h0] at this
  omega
end Go.Proofs.Ytcblibefmclloaa
