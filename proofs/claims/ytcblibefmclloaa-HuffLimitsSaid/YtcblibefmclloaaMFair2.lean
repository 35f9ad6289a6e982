import Derived.Test.YtcblibefmclloaaMFair
set_option linter.unusedVariables false
set_option linter.unusedSimpArgs false
/-! Plain mathematics: each limited length, and what all cost. -/
namespace Go.Proofs.Ytcblibefmclloaa
theorem nth_nn_of_ok {cs : List Int} (hb : cs.any badCount = false) (i : Nat) (hi : i < cs.length) : 0 ≤ nth cs i ∧ nth cs i ≤ 1000000000000 := by
  have := List.any_eq_false.1 hb (nth cs i) (by rw [nth_lt hi]; exact List.getElem_mem _)
  unfold badCount at this
  simp at this
  omega
theorem lim_each (cs : List Int) (t : Nat) (h1 : 1 ≤ t) (h15 : t ≤ 15) (hb : cs.any badCount = false) (ht : (leavesF cs 0).length ≤ 2 ^ t) (i : Nat) (hi : i < cs.length) :
    (0 < nth (limLens cs t) i ↔ 0 < nth cs i) ∧ 0 ≤ nth (limLens cs t) i ∧ nth (limLens cs t) i ≤ t := by
  have hp := (leaves_bd cs hb 0).1
  have hnn := lim_nn cs t i hi
  by_cases h2 : 2 ≤ (leavesF cs 0).length
  · have := lim_ok cs t h15 hp h2 ht i hi
    exact ⟨this.1, hnn, this.2⟩
  · by_cases h3 : (leavesF cs 0).length = 1
    · obtain ⟨s, _, b, c, d⟩ := lim_one cs t h3
      rw [d i hi]
      by_cases e : i = s
      · subst e; rw [if_pos rfl]; exact ⟨⟨fun _ => b, fun _ => by omega⟩, by omega, by omega⟩
      · rw [if_neg e]; exact ⟨⟨fun h => by omega, fun h => absurd (c i hi h) e⟩, by omega, by omega⟩
    · have := lim_none cs t (by omega) i hi
      rw [this.1]; exact ⟨⟨fun h => by omega, fun h => absurd h this.2⟩, by omega, by omega⟩
theorem used_same (l cs : List Int) (hl : l.length = cs.length) (h : ∀ i, i < cs.length → (0 < nth l i ↔ 0 < nth cs i)) : usedF l = usedF cs := by
  have key : ∀ k, k ≤ cs.length → usedF (l.take k) = usedF (cs.take k) := by
    intro k
    induction k with
    | zero => intro _; rfl
    | succ k ih =>
      intro hk
      rw [usedF_snoc l k (by omega), usedF_snoc cs k (by omega), ih (by omega)]
      by_cases h0 : 0 < nth cs k
      · rw [if_pos h0, if_pos ((h k (by omega)).2 h0)]
      · rw [if_neg h0, if_neg (fun x => h0 ((h k (by omega)).1 x))]
  have := key cs.length (Nat.le_refl _)
  rwa [← hl, List.take_length, hl, List.take_length] at this
theorem lim_le1 (cs : List Int) (t : Nat) (hu : usedF cs = 1) (i : Nat) (hi : i < cs.length) : nth (limLens cs t) i ≤ 1 := by
  obtain ⟨s, _, _, _, d⟩ := lim_one cs t (by rw [used_leaves]; exact hu)
  rw [d i hi]; split <;> omega
theorem lim_two (cs : List Int) (t : Nat) (h1 : 1 ≤ cs.length) (h288 : cs.length ≤ 288) (h15 : t ≤ 15) (hb : cs.any badCount = false) (ht : (leavesF cs 0).length ≤ 2 ^ t) (hu : 2 ≤ usedF cs) :
    checkF (limLens cs t) = 0 ∧ sumI cs.length (fun i => nth cs i * nth (limLens cs t) i) = leastF cs t := by
  refine ⟨check_all cs t h15 h1 h288 hb ht (by omega), lim_cost cs t (by rw [used_leaves]; exact hu) (fun p hp s hs => ?_)⟩
  have := (leaves_bd cs hb 0).2.2.2.2 p ((sortP_perm _).mem_iff.1 hp) s hs
  simpa using this
/-- Running costs stay small. -/
theorem cost_bd (cs l : List Int) (hb : ∀ i, i < cs.length → 0 ≤ nth cs i ∧ nth cs i ≤ 1000000000000) (hl : ∀ i, i < cs.length → 0 ≤ nth l i ∧ nth l i ≤ 15) : ∀ k, k ≤ cs.length → 0 ≤ sumI k (fun i => nth cs i * nth l i) ∧ sumI k (fun i => nth cs i * nth l i) ≤ k * 15000000000000
  | 0, _ => by simp [sumI]
  | k + 1, h => by
    have ih := cost_bd cs l hb hl k (by omega)
    obtain ⟨a0, a1⟩ := hb k (by omega)
    obtain ⟨b0, b1⟩ := hl k (by omega)
    have c0 : 0 ≤ nth cs k * nth l k := Int.mul_nonneg a0 b0
    have c1 : nth cs k * nth l k ≤ 1000000000000 * 15 := Int.mul_le_mul a1 b1 b0 (by omega)
    rw [sumI]; omega
theorem prod_bd {p q : Int} (a0 : 0 ≤ p) (a1 : p ≤ 1000000000000) (b0 : 0 ≤ q) (b1 : q ≤ 15) : 0 ≤ p * q ∧ p * q ≤ 15000000000000 :=
  ⟨Int.mul_nonneg a0 b0, Int.mul_le_mul a1 b1 b0 (by omega)⟩
end Go.Proofs.Ytcblibefmclloaa
