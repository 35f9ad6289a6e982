/- Levels of packages: bounds, pieces. -/
import Derived.Test.YtcblibefmclloaaMLim
set_option linter.unusedVariables false
set_option linter.unusedSimpArgs false
namespace Go.Proofs.Ytcblibefmclloaa
def pth2 (X : List PP) (j : Nat) : PP := X.getD j (0, [])
theorem pairsF_take (X : List PP) : ∀ j, 2 * j + 1 < X.length → (pairsF X).take (j + 1) = (pairsF X).take j ++ [((pth2 X (2 * j)).1 + (pth2 X (2 * j + 1)).1, (pth2 X (2 * j)).2 ++ (pth2 X (2 * j + 1)).2)] := by
  induction X using pairsF.induct with
  | case1 a b r ih =>
    intro j hj
    rw [pairsF]
    match j with
    | 0 => rfl
    | j + 1 =>
      have := ih j (by simp only [List.length_cons] at hj; omega)
      rw [List.take_succ_cons, this, List.take_succ_cons]
      rfl
  | case2 l hl =>
    intro j hj
    match l, hl with
    | [], _ => simp at hj
    | [x], _ => simp at hj
    | a :: b :: r, h => exact absurd rfl (h a b r)
theorem pairsF_done (X : List PP) (j : Nat) (h : X.length ≤ 2 * j + 1) : (pairsF X).take j = pairsF X := List.take_of_length_le (by rw [pairsF_len]; omega)
theorem sortP_pos {l : List PP} (h : posP l) : posP (sortP l) := posP_perm (sortP_perm l) h
theorem level_ok {lv : List PP} (h : posP lv) (hs : sumW lv ≤ 288000000000000) (hl : sumS lv ≤ 288) {t : Nat} (ht : t ≤ 15) :
    (∀ x ∈ levelF (sortP lv) t, 0 < x.1 ∧ x.1 ≤ 100000000000000000 ∧ x.2.length ≤ 4320) := by
  obtain ⟨h1, h2, h3, h4⟩ := level_bd (sortP lv) (sortP_pos h) t
  rw [sumW_perm (sortP_perm lv)] at h2
  rw [sumS_perm (sortP_perm lv)] at h3
  intro x hx
  have a1 := le_sumW h1 hx
  have a2 := le_sumS hx
  have w0 := sumW_nonneg lv h
  have b1 : (t : Int) * sumW lv ≤ 15 * 288000000000000 := by
    have : (t : Int) * sumW lv ≤ 15 * sumW lv := Int.mul_le_mul_of_nonneg_right (by omega) w0
    omega
  have b2 : t * sumS lv ≤ 15 * 288 := Nat.mul_le_mul ht hl
  exact ⟨(h1 x hx).1, by omega, by omega⟩
theorem level_next_ok {lv : List PP} (h : posP lv) (hs : sumW lv ≤ 288000000000000) (hl : sumS lv ≤ 288) {t : Nat} (ht : t < 15) :
    ∀ x ∈ sortP lv ++ pairsF (levelF (sortP lv) t), 0 ≤ x.1 ∧ x.1 ≤ 100000000000000000 := by
  intro x hx
  have := level_ok h hs hl (t := t + 1) (by omega) x ((sortP_perm _).mem_iff.2 hx)
  omega
theorem leaf_ok {lv : List PP} (h : posP lv) (hs : sumW lv ≤ 288000000000000) : ∀ x ∈ lv, 0 ≤ x.1 ∧ x.1 ≤ 100000000000000000 := by
  intro x hx
  have := le_sumW h hx
  have := (h x hx).1
  omega
theorem flat_len {X : List PP} (h : ∀ x ∈ X, x.2.length ≤ 4320) : (X.flatMap Prod.snd).length ≤ X.length * 4320 := by
  induction X with
  | nil => simp
  | cons a r ih =>
    have := ih (fun x hx => h x (by simp [hx]))
    have := h a (by simp)
    rw [List.flatMap_cons, List.length_append, List.length_cons]
    omega
theorem cnt_bd (n : Nat) (S : List Int) (s : Nat) (h : s < n) : 0 ≤ nth (cntF n S) s ∧ nth (cntF n S) s ≤ S.length := by
  rw [cntF_nth n S s h]
  have := List.count_le_length (a := (s : Int)) (l := S)
  omega
/-- There are packages enough. -/
theorem level_len (lv : List PP) (m : Nat) (h2 : 2 ≤ lv.length) (hm : lv.length ≤ 2 ^ m) : 2 * lv.length - 2 ≤ (levelF (sortP lv) m).length := by
  have key : ∀ t, 1 ≤ t → 2 * lv.length ≤ (levelF (sortP lv) t).length + 1 + (lv.length - 1) / 2 ^ (t - 1) := by
    intro t
    induction t with
    | zero => intro h; omega
    | succ t ih =>
      intro _
      rw [levelF, sortP_len, List.length_append, sortP_len, pairsF_len]
      by_cases ht : t = 0
      · subst ht; simp [levelF]; omega
      · have := ih (by omega)
        have e : (lv.length - 1) / 2 ^ (t + 1 - 1) = (lv.length - 1) / 2 ^ (t - 1) / 2 := by
          rw [Nat.div_div_eq_div_mul, ← Nat.pow_succ]
          congr 2; omega
        rw [e]
        omega
  have hm0 : 1 ≤ m := by
    by_cases h : m = 0
    · subst h; simp at hm; omega
    · omega
  have := key m hm0
  have hd : (lv.length - 1) / 2 ^ (m - 1) ≤ 1 := by
    have h3 : 2 ^ m = 2 * 2 ^ (m - 1) := by rw [← Nat.pow_succ']; congr 1; omega
    have : (lv.length - 1) / 2 ^ (m - 1) < 2 := by
      rw [Nat.div_lt_iff_lt_mul (Nat.two_pow_pos _)]; omega
    omega
  omega
end Go.Proofs.Ytcblibefmclloaa
