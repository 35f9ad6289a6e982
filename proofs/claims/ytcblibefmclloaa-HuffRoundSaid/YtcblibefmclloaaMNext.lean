import Derived.Test.YtcblibefmclloaaDecNext
import Derived.Test.YtcblibefmclloaaRowB
set_option linter.unusedVariables false
set_option linter.unusedSimpArgs false
/-! Plain mathematics: the reference's reading of a symbol, and that the decoder's is the same. -/
namespace Go.Proofs.Ytcblibefmclloaa
/-- How many bits of a row are those from a place on. -/
def agr (row bits : List Int) (p : Nat) : Nat → Nat → Nat
  | 0, n => n
  | f + 1, n => if n < row.length ∧ p + n < bits.length ∧ nth row n = nth bits (p + n) then agr row bits p f (n + 1) else n
def agrN (row bits : List Int) (p : Nat) : Nat := agr row bits p row.length 0
/-- The reference's reading: symbol, bits, what is wrong. -/
def nextG (rows : List (List Int)) (bits : List Int) (p : Nat) : Nat → Nat → Bool → Int × Nat × Int
  | 0, _, b => (0, 0, if b then 10 else 32)
  | f + 1, i, b => if (rth rows i).length = 0 then nextG rows bits p f (i + 1) b else
      if agrN (rth rows i) bits p = (rth rows i).length then (i, (rth rows i).length, 0)
      else nextG rows bits p f (i + 1) (b || decide (p + agrN (rth rows i) bits p = bits.length))
def nextR (rows : List (List Int)) (bits : List Int) (p : Nat) : Int × Nat × Int := nextG rows bits p rows.length 0 false
theorem agr_spec (row bits : List Int) (p : Nat) : ∀ f n, n + f = row.length → n ≤ agr row bits p f n ∧ agr row bits p f n ≤ row.length ∧ (∀ t, n ≤ t → t < agr row bits p f n → p + t < bits.length ∧ nth row t = nth bits (p + t)) ∧
    (agr row bits p f n = row.length ∨ bits.length ≤ p + agr row bits p f n ∨ nth row (agr row bits p f n) ≠ nth bits (p + agr row bits p f n))
  | 0, n, h => by
    unfold agr
    exact ⟨Nat.le_refl _, by omega, fun t h1 h2 => by omega, .inl (by omega)⟩
  | f + 1, n, h => by
    unfold agr
    split
    · next hc =>
      obtain ⟨h1, h2, h3, h4⟩ := agr_spec row bits p f (n + 1) (by omega)
      refine ⟨by omega, h2, fun t ht1 ht2 => ?_, h4⟩
      by_cases ht : t = n
      · subst ht; exact ⟨hc.2.1, hc.2.2⟩
      · exact h3 t (by omega) ht2
    · next hc =>
      refine ⟨Nat.le_refl _, by omega, fun t h1 h2 => by omega, ?_⟩
      by_cases h1 : bits.length ≤ p + n
      · exact .inr (.inl h1)
      · refine .inr (.inr fun h2 => hc ⟨by omega, by omega, h2⟩)
theorem agrN_spec (row bits : List Int) (p : Nat) : agrN row bits p ≤ row.length ∧ (∀ t, t < agrN row bits p → p + t < bits.length ∧ nth row t = nth bits (p + t)) ∧
    (agrN row bits p = row.length ∨ bits.length ≤ p + agrN row bits p ∨ nth row (agrN row bits p) ≠ nth bits (p + agrN row bits p)) := by
  obtain ⟨_, h2, h3, h4⟩ := agr_spec row bits p row.length 0 (by omega)
  exact ⟨h2, fun t ht => h3 t (by omega) ht, h4⟩
theorem agrN_full {row bits : List Int} {p : Nat} (h : ∀ t, t < row.length → p + t < bits.length ∧ nth row t = nth bits (p + t)) : agrN row bits p = row.length := by
  obtain ⟨h1, _, h3⟩ := agrN_spec row bits p
  rcases Nat.lt_or_ge (agrN row bits p) row.length with hlt | hge
  · obtain ⟨a, b⟩ := h _ hlt
    rcases h3 with h3 | h3 | h3
    · omega
    · omega
    · exact absurd b h3
  · omega
theorem nextG_hit (rows : List (List Int)) (bits : List Int) (p j : Nat) (hj : 0 < (rth rows j).length) (ha : agrN (rth rows j) bits p = (rth rows j).length) :
    ∀ f i b, i ≤ j → j < i + f → (∀ t, t < j → 0 < (rth rows t).length → agrN (rth rows t) bits p ≠ (rth rows t).length) → nextG rows bits p f i b = ((j : Int), (rth rows j).length, 0)
  | 0, i, b, h1, h2, _ => by omega
  | f + 1, i, b, h1, h2, h3 => by
    rw [nextG]
    by_cases hi : i = j
    · subst hi
      rw [if_neg (by omega), if_pos ha]
    · by_cases hz : (rth rows i).length = 0
      · rw [if_pos hz]; exact nextG_hit rows bits p j hj ha f (i + 1) b (by omega) (by omega) h3
      · rw [if_neg hz, if_neg (h3 i (by omega) (by omega))]
        exact nextG_hit rows bits p j hj ha f (i + 1) _ (by omega) (by omega) h3
theorem nextG_begins (rows : List (List Int)) (bits : List Int) (p : Nat) :
    ∀ f i b, (∀ t, i ≤ t → t < i + f → 0 < (rth rows t).length → agrN (rth rows t) bits p ≠ (rth rows t).length) → (b = true ∨ ∃ j, i ≤ j ∧ j < i + f ∧ 0 < (rth rows j).length ∧ p + agrN (rth rows j) bits p = bits.length) → nextG rows bits p f i b = (0, 0, 10)
  | 0, i, b, h1, h2 => by
    rcases h2 with rfl | ⟨j, a, b, _⟩
    · rfl
    · omega
  | f + 1, i, b, h1, h2 => by
    rw [nextG]
    by_cases hz : (rth rows i).length = 0
    · rw [if_pos hz]
      refine nextG_begins rows bits p f (i + 1) b (fun t a b => h1 t (by omega) (by omega)) ?_
      rcases h2 with rfl | ⟨j, a, b, c, d⟩
      · exact .inl rfl
      · refine .inr ⟨j, ?_, by omega, c, d⟩
        rcases Nat.lt_or_ge i j with h | h
        · omega
        · obtain rfl : i = j := by omega
          omega
    · rw [if_neg hz, if_neg (h1 i (by omega) (by omega) (by omega))]
      refine nextG_begins rows bits p f (i + 1) _ (fun t a b => h1 t (by omega) (by omega)) ?_
      rcases h2 with rfl | ⟨j, a, b, c, d⟩
      · exact .inl rfl
      · rcases Nat.lt_or_ge i j with h | h
        · exact .inr ⟨j, by omega, by omega, c, d⟩
        · obtain rfl : i = j := by omega
          exact .inl (by simp [d])
theorem nextG_none (rows : List (List Int)) (bits : List Int) (p : Nat) :
    ∀ f i, (∀ t, i ≤ t → t < i + f → 0 < (rth rows t).length → agrN (rth rows t) bits p ≠ (rth rows t).length ∧ p + agrN (rth rows t) bits p ≠ bits.length) → nextG rows bits p f i false = (0, 0, 32)
  | 0, i, h1 => rfl
  | f + 1, i, h1 => by
    rw [nextG]
    by_cases hz : (rth rows i).length = 0
    · rw [if_pos hz]
      exact nextG_none rows bits p f (i + 1) (fun t a b => h1 t (by omega) (by omega))
    · obtain ⟨a, b⟩ := h1 i (by omega) (by omega) (by omega)
      rw [if_neg hz, if_neg a, decide_eq_false b]
      exact nextG_none rows bits p f (i + 1) (fun t a b => h1 t (by omega) (by omega))
/-! Places of codes. -/
theorem posF_le (l : List Int) (n : Nat) (hn : n < 16) (h1 : 1 ≤ n) (i : Nat) : ∀ d, i + d ≤ l.length → posF l n i ≤ posF l n (i + d)
  | 0, _ => Int.le_refl _
  | d + 1, h => by
    have := posF_le l n hn h1 i d (by omega)
    by_cases hx : nth l (i + d) = n
    · have := posF_step l n (i + d) hn h1 (by omega) hx
      rw [← Nat.add_assoc]; omega
    · have := posF_skip l n (i + d) hn (by omega) hx
      rw [← Nat.add_assoc]; omega
theorem codeI_bd (l : List Int) (n j : Nat) (hn : n < 16) (h1 : 1 ≤ n) (hj : j < l.length) (h : nth l j = n) : lowF (lenCnt l) n ≤ codeI l j ∧ codeI l j < lowF (lenCnt l) n + nth (lenCnt l) n := by
  rw [posF_code l n j h]
  have a := posF_step l n j hn h1 hj h
  have b := posF_le l n hn h1 (j + 1) (l.length - (j + 1)) (by omega)
  rw [show j + 1 + (l.length - (j + 1)) = l.length by omega] at b
  have c : posF l n l.length = lowF (lenCnt l) n + nth (lenCnt l) n := by
    unfold posF; rw [List.take_length]
  have d := cntN_nn l n j hn
  unfold cntN at d
  refine ⟨?_, by omega⟩
  unfold posF; omega
theorem codeI_ne (l : List Int) (n i j : Nat) (hn : n < 16) (h1 : 1 ≤ n) (hij : i < j) (hj : j < l.length) (hi : nth l i = n) (hj' : nth l j = n) : codeI l i < codeI l j := by
  rw [posF_code l n i hi, posF_code l n j hj']
  have a := posF_step l n i hn h1 (by omega) hi
  have b := posF_le l n hn h1 (i + 1) (j - (i + 1)) (by omega)
  rw [show i + 1 + (j - (i + 1)) = j by omega] at b
  omega
/-! How much of all codes is taken. -/
def partN (n : Nat) (x : Int) : Nat := if 0 < x ∧ x ≤ n then 2 ^ (15 - x).toNat else 0
def takenN (l : List Int) (n : Nat) : Nat := (l.map (partN n)).sum
theorem lenCnt_cons (x : Int) (l : List Int) (n : Nat) (hn : n < 16) : nth (lenCnt (x :: l)) n = nth (lenCnt l) n + if 0 < x ∧ x = (n : Int) then 1 else 0 := by
  unfold lenCnt
  rw [cntF_nth _ _ _ hn, cntF_nth _ _ _ hn]
  by_cases h0 : 0 < x
  · rw [List.filter_cons_of_pos (by simpa using h0), List.count_cons]
    by_cases hx : x = n
    · rw [if_pos (c := 0 < x ∧ x = n) ⟨h0, hx⟩, show (x == (n : Int)) = true by simpa using hx]; simp
    · rw [if_neg (c := 0 < x ∧ x = n) (fun h => hx h.2), show (x == (n : Int)) = false by simpa using hx]; simp
  · rw [List.filter_cons_of_neg (by simpa using h0), if_neg (c := 0 < x ∧ x = n) (fun h => h0 h.1)]; simp
theorem lenCnt_zero (l : List Int) : nth (lenCnt l) 0 = 0 := by
  induction l with
  | nil => unfold lenCnt; rw [cntF_nth _ _ _ (by omega)]; simp
  | cons x l ih =>
    rw [lenCnt_cons x l 0 (by omega), ih, if_neg (by omega)]; rfl
theorem takenN_zero (l : List Int) : takenN l 0 = 0 := by
  induction l with
  | nil => rfl
  | cons x l ih =>
    unfold takenN at *
    rw [List.map_cons, List.sum_cons, ih]; unfold partN; rw [if_neg (by omega)]
theorem takenN_succ (l : List Int) (n : Nat) (hn : n < 15) : (takenN l (n + 1) : Int) = takenN l n + nth (lenCnt l) (n + 1) * 2 ^ (15 - (n + 1)) := by
  induction l with
  | nil => unfold lenCnt; rw [cntF_nth _ _ _ (by omega)]; simp [takenN]
  | cons x l ih =>
    rw [lenCnt_cons x l (n + 1) (by omega)]
    have e : ∀ m, takenN (x :: l) m = partN m x + takenN l m := fun m => by unfold takenN; rw [List.map_cons, List.sum_cons]
    rw [e, e]
    push_cast
    rw [ih, Int.add_mul]
    have : (partN (n + 1) x : Int) = partN n x + (if 0 < x ∧ x = (n : Int) + 1 then 1 else 0) * 2 ^ (15 - (n + 1)) := by
      unfold partN
      by_cases hx : x = (n : Int) + 1
      · rw [if_pos (by omega), if_neg (by omega), if_pos (by omega), hx, show ((15 : Int) - ((n : Int) + 1)).toNat = 15 - (n + 1) by omega]; simp
      · rw [if_neg (c := 0 < x ∧ x = (n : Int) + 1) (fun h => hx h.2), Int.zero_mul, Int.add_zero]
        by_cases h2 : 0 < x ∧ x ≤ n
        · rw [if_pos h2, if_pos (by omega)]
        · rw [if_neg h2, if_neg (by push_cast; omega)]
    rw [this, show 15 - (n + 1) = 14 - n by omega]
    omega
theorem taken_low (l : List Int) : ∀ n, n ≤ 15 → (takenN l n : Int) = (lowF (lenCnt l) n + nth (lenCnt l) n) * 2 ^ (15 - n)
  | 0, _ => by rw [takenN_zero, lenCnt_zero]; simp [lowF]
  | n + 1, h => by
    have key : ∀ a b c K : Int, (a + b) * (K * 2) + c * K = (2 * (a + b) + c) * K := fun a b c K => by
      rw [Int.add_mul (2 * (a + b)), Int.mul_comm K 2, ← Int.mul_assoc, Int.mul_comm (a + b) 2]
    rw [takenN_succ l n (by omega), taken_low l n (by omega), lowF, show 15 - n = (15 - (n + 1)) + 1 by omega, Int.pow_succ]
    exact key _ _ _ _
theorem taken_mono (l : List Int) (n : Nat) : takenN l n ≤ takenN l (n + 1) := by
  induction l with
  | nil => exact Nat.le_refl _
  | cons x l ih =>
    unfold takenN at *
    rw [List.map_cons, List.sum_cons, List.map_cons, List.sum_cons]
    have : partN n x ≤ partN (n + 1) x := by
      unfold partN
      by_cases h : 0 < x ∧ x ≤ n
      · rw [if_pos h, if_pos (by push_cast; omega)]; exact Nat.le_refl _
      · rw [if_neg h]; exact Nat.zero_le _
    omega
theorem taken_mono' (l : List Int) (n : Nat) : ∀ d, takenN l n ≤ takenN l (n + d)
  | 0 => Nat.le_refl _
  | d + 1 => Nat.le_trans (taken_mono' l n d) (taken_mono l (n + d))
theorem taken_all (l : List Int) (h : l.all okLen = true) : takenN l 15 = measF l := by
  induction l with
  | nil => rfl
  | cons x l ih =>
    rw [List.all_cons, Bool.and_eq_true] at h
    have := ih h.2
    unfold takenN measF at *
    rw [List.map_cons, List.sum_cons, List.map_cons, List.sum_cons, this]
    congr 1
    have hx := h.1
    unfold okLen at hx
    simp only [Bool.and_eq_true, decide_eq_true_eq] at hx
    unfold partN part
    by_cases h0 : 0 < x
    · rw [if_pos ⟨h0, by push_cast; omega⟩, if_pos h0]
    · rw [if_neg (fun h => h0 h.1), if_neg h0]
theorem taken_top (l : List Int) : ∀ d, longN l 16 + d ≤ 15 → takenN l (longN l 16 + d) = takenN l (longN l 16)
  | 0, _ => rfl
  | d + 1, h => by
    have ih := taken_top l d (by omega)
    have a := takenN_succ l (longN l 16 + d) (by omega)
    have b := longN_top l 16 (longN l 16 + d + 1) (by omega) (by omega)
    have c := lenCnt_bd l (longN l 16 + d + 1) (by omega)
    have e : nth (lenCnt l) (longN l 16 + d + 1) = 0 := by omega
    rw [e, Int.zero_mul, Int.add_zero, ih] at a
    rw [← Nat.add_assoc]; omega
/-- No more codes than may be. -/
theorem kraft_le {l : List Int} (hc : checkF l = 0) (n : Nat) (hn : n ≤ 15) : lowF (lenCnt l) n + nth (lenCnt l) n ≤ 2 ^ n := by
  have hm : measF l ≤ 32768 := by
    unfold checkF at hc
    repeat' split at hc
    all_goals first | omega | (exfalso; revert hc; decide) | skip
  have h1 := taken_low l n hn
  have h2 := taken_mono' l n (15 - n)
  rw [show n + (15 - n) = 15 by omega, taken_all l (check_ok hc).2] at h2
  have h3 : (takenN l n : Int) ≤ 2 ^ n * 2 ^ (15 - n) := by
    rw [← Int.pow_add, show n + (15 - n) = 15 by omega]; omega
  rw [h1] at h3
  exact Int.le_of_mul_le_mul_right h3 (pow_cast _)
end Go.Proofs.Ytcblibefmclloaa
