import Derived.Test.YtcblibefmclloaaMFair
set_option linter.unusedVariables false
set_option linter.unusedSimpArgs false
/-! Plain mathematics: bounds of the reference's levels. -/
namespace Go.Proofs.Ytcblibefmclloaa
theorem leaves_take (cs : List Int) (k : Nat) (h : k < cs.length) : sortW id (posL (cs.take (k + 1))) [] = if 0 < nth cs k then withF (nth cs k) (sortW id (posL (cs.take k)) []) else sortW id (posL (cs.take k)) [] := by
  rw [take_snoc' cs k h]
  unfold posL
  rw [List.filter_append]
  by_cases h0 : 0 < nth cs k
  · rw [if_pos h0, List.filter_cons_of_pos (by simpa using h0), List.filter_nil, sortW_snoc]; rfl
  · rw [if_neg h0, List.filter_cons_of_neg (by simpa using h0), List.filter_nil, List.append_nil]
theorem pairSum_take (X : List Int) : ∀ j, 2 * j + 1 < X.length → (pairSum X).take (j + 1) = (pairSum X).take j ++ [nth X (2 * j) + nth X (2 * j + 1)] := by
  induction X using pairSum.induct with
  | case1 a b r ih =>
    intro j hj
    rw [pairSum]
    match j with
    | 0 => rfl
    | j + 1 =>
      have := ih j (by simp only [List.length_cons] at hj; omega)
      rw [List.take_succ_cons, this, List.take_succ_cons]
      rfl
  | case2 l hl =>
    intro j hj
    match l, hl with
    | [], _ => simp at hj
    | [x], _ => simp at hj
    | a :: b :: r, h => exact absurd rfl (h a b r)
theorem pairSum_len (X : List Int) : (pairSum X).length = X.length / 2 := by
  induction X using pairSum.induct with
  | case1 a b r ih => rw [pairSum, List.length_cons, ih]; simp only [List.length_cons]; omega
  | case2 l hl =>
    match l, hl with
    | [], _ => rfl
    | [x], _ => simp [pairSum]
    | a :: b :: r, h => exact absurd rfl (h a b r)
theorem pairSum_done (X : List Int) (j : Nat) (h : X.length ≤ 2 * j + 1) : (pairSum X).take j = pairSum X := List.take_of_length_le (by rw [pairSum_len]; omega)
theorem nextLv_step (X lv : List Int) (j : Nat) (h : 2 * j + 1 < X.length) : sortW id ((pairSum X).take (j + 1)) lv = withF (nth X (2 * j) + nth X (2 * j + 1)) (sortW id ((pairSum X).take j) lv) := by
  rw [pairSum_take X j h, sortW_snoc]; rfl
theorem sortW_len (l acc : List Int) : (sortW id l acc).length = acc.length + l.length := by
  induction l generalizing acc with
  | nil => rfl
  | cons p r ih =>
    have : (insW id p acc).length = acc.length + 1 := by
      induction acc with
      | nil => rfl
      | cons q s ihs => unfold insW; split <;> simp [ihs]
    rw [sortW, ih, this, List.length_cons]; omega
/-- What stands in a level is not great. -/
theorem leastLv_bd {cs : List Int} (hb : cs.any badCount = false) (hn : cs.length ≤ 288) (t : Nat) (ht : t ≤ 15) : (leastLv (leavesS cs) t).length ≤ 576 ∧ (∀ x ∈ leastLv (leavesS cs) t, 0 ≤ x ∧ x ≤ 100000000000000000) ∧ (leastLv (leavesS cs) t).sum ≤ 4320000000000000 := by
  obtain ⟨l1, l2, l3, l4, _⟩ := leaves_bd cs hb 0
  have hsrt : Srt Prod.fst (sortP (leavesF cs 0)) := sortW_srt _ _
  rw [← leavesS_map, ← least_map hsrt, List.length_map]
  have h := level_bd (sortP (leavesF cs 0)) (sortP_pos l1) t
  rw [sortP_len] at h
  refine ⟨by omega, fun x hx => ?_, ?_⟩
  · obtain ⟨p, hp, rfl⟩ := List.mem_map.1 hx
    have := level_ok l1 (by omega) (by omega) ht p hp
    omega
  · have h2 := h.2.1
    rw [sumW_perm (sortP_perm _)] at h2
    have w0 := sumW_nonneg _ l1
    have h3 : (t : Int) * sumW (leavesF cs 0) ≤ 15 * sumW (leavesF cs 0) := Int.mul_le_mul_of_nonneg_right (by omega) w0
    have h4 : sumW (levelF (sortP (leavesF cs 0)) t) = ((levelF (sortP (leavesF cs 0)) t).map Prod.fst).sum := rfl
    omega
theorem sum_take_bd {X : List Int} (h : ∀ x ∈ X, 0 ≤ x) (k : Nat) : 0 ≤ (X.take k).sum ∧ (X.take k).sum ≤ X.sum := by
  induction X generalizing k with
  | nil => simp
  | cons x r ih =>
    have hx := h x (by simp)
    match k with
    | 0 =>
      have := (ih (fun y hy => h y (by simp [hy])) r.length)
      rw [List.take_length] at this
      simp; omega
    | k + 1 =>
      have := ih (fun y hy => h y (by simp [hy])) k
      rw [List.take_succ_cons, List.sum_cons, List.sum_cons]; omega
theorem take_mono (X : List Int) (k : Nat) (hk : k < X.length) : (X.take (k + 1)).sum = (X.take k).sum + nth X k := by
  rw [List.take_succ_eq_append_getElem (by omega), List.sum_append, nth_lt hk]; simp
end Go.Proofs.Ytcblibefmclloaa
