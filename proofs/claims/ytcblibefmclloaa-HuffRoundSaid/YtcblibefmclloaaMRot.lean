/- Lists of packs: exchanging and rotating. -/
import Derived.Test.YtcblibefmclloaaSwapRange
set_option linter.unusedVariables false
set_option linter.unusedSimpArgs false
namespace Go.Proofs.Ytcblibefmclloaa
theorem kext {xs ys : List Pk} (hl : xs.length = ys.length) (h : ∀ j, j < xs.length → kth xs j = kth ys j) : xs = ys := by
  refine List.ext_getElem hl fun j h1 h2 => ?_
  have := h j h1
  rwa [kth_lt h1, kth_lt h2] at this
theorem kth_app (xs ys : List Pk) (j : Nat) : kth (xs ++ ys) j = if j < xs.length then kth xs j else kth ys (j - xs.length) := by
  simp only [kth, List.getD_eq_getElem?_getD, List.getElem?_append]
  split <;> rfl
theorem kth_set (xs : List Pk) (i j : Nat) (p : Pk) (hi : i < xs.length) : kth (xs.set i p) j = if j = i then p else kth xs j := by
  simp only [kth, List.getD_eq_getElem?_getD, List.getElem?_set]
  by_cases h : i = j
  · subst h; simp [hi]
  · rw [if_neg h, if_neg (fun e => h e.symm)]
theorem kth_swp (L : List Pk) (i j k : Nat) (hi : i < L.length) (hj : j < L.length) : kth (swp L i j) k = if k = j then kth L i else if k = i then kth L j else kth L k := by
  rw [swp, kth_set _ _ _ _ (by simpa using hj), kth_set _ _ _ _ hi]
theorem kth_swpN (L : List Pk) (a b : Nat) (n : Nat) (hab : a + n ≤ b) (hb : b + n ≤ L.length) (k : Nat) :
    kth (swpN L a b n) k = if a ≤ k ∧ k < a + n then kth L (k - a + b) else if b ≤ k ∧ k < b + n then kth L (k - b + a) else kth L k := by
  induction n generalizing k with
  | zero => rw [if_neg (by omega), if_neg (by omega)]; rfl
  | succ n ih =>
    have h1 := ih (by omega) (by omega)
    have ha : kth (swpN L a b n) (a + n) = kth L (a + n) := by rw [h1, if_neg (by omega), if_neg (by omega)]
    have hb' : kth (swpN L a b n) (b + n) = kth L (b + n) := by rw [h1, if_neg (by omega), if_neg (by omega)]
    rw [swpN, kth_swp _ _ _ _ (by rw [swpN_length]; omega) (by rw [swpN_length]; omega), ha, hb', h1 k]
    repeat' split
    all_goals first | (exfalso; omega) | rfl | (congr 1; omega)
/-- Two parts of one length exchanged. -/
theorem swpN_parts (x u z v y : List Pk) (h : u.length = v.length) : swpN (x ++ (u ++ (z ++ (v ++ y)))) x.length (x.length + u.length + z.length) u.length = x ++ (v ++ (z ++ (u ++ y))) := by
  have hb : x.length + u.length + z.length + u.length ≤ (x ++ (u ++ (z ++ (v ++ y)))).length := by simp only [List.length_append]; omega
  refine kext (by rw [swpN_length]; simp only [List.length_append]; omega) fun j hj => ?_
  rw [kth_swpN _ _ _ _ (by omega) hb]
  simp only [kth_app]
  by_cases c1 : j < x.length
  · rw [if_neg (by omega), if_neg (by omega), if_pos c1, if_pos c1]
  · by_cases c2 : j < x.length + u.length
    · rw [if_pos (by omega), if_neg (by omega), if_neg (by omega), if_neg (by omega), if_pos (by omega), if_neg c1, if_pos (by omega)]
      congr 1; omega
    · by_cases c3 : j < x.length + u.length + z.length
      · rw [if_neg (by omega), if_neg (by omega), if_neg c1, if_neg (by omega), if_pos (by omega), if_neg c1, if_neg (by omega), if_pos (by omega)]
        congr 1; omega
      · by_cases c4 : j < x.length + u.length + z.length + u.length
        · rw [if_neg (by omega), if_pos (by omega), if_neg (by omega), if_pos (by omega), if_neg c1, if_neg (by omega), if_neg (by omega), if_pos (by omega)]
          congr 1; omega
        · rw [if_neg (by omega), if_neg (by omega), if_neg c1, if_neg (by omega), if_neg (by omega), if_neg (by omega), if_neg c1, if_neg (by omega), if_neg (by omega), if_neg (by omega)]
          congr 1; omega
end Go.Proofs.Ytcblibefmclloaa
