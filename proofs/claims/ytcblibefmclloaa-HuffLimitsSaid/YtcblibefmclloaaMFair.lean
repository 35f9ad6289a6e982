import Derived.Test.YtcblibefmclloaaMLeast
set_option linter.unusedVariables false
set_option linter.unusedSimpArgs false
/-! Plain mathematics: what a limit that is granted gives. -/
namespace Go.Proofs.Ytcblibefmclloaa
theorem used_leaves (cs : List Int) : (leavesF cs 0).length = usedF cs := by
  rw [← List.length_map (f := Prod.fst), leaves_fst]; rfl
theorem limF_ok {cs : List Int} {most : Int} (h : (limF cs most).2 = 0) : ∃ t : Nat, most = t ∧ 1 ≤ t ∧ t ≤ 15 ∧ 1 ≤ cs.length ∧ cs.length ≤ 288 ∧ cs.any badCount = false ∧ (leavesF cs 0).length ≤ 2 ^ t ∧ limF cs most = (limLens cs t, 0) := by
  unfold limF at h ⊢
  by_cases h1 : cs.length = 0 ∨ 288 < cs.length ∨ most < 1 ∨ 15 < most
  · rw [if_pos h1] at h; simp at h
  rw [if_neg h1] at h ⊢
  by_cases h2 : cs.any badCount = true
  · rw [if_pos h2] at h; simp at h
  rw [if_neg h2] at h ⊢
  by_cases h3 : 2 ^ most.toNat < (leavesF cs 0).length
  · rw [if_pos h3] at h; simp at h
  rw [if_neg h3]
  exact ⟨most.toNat, by omega, by omega, by omega, by omega, by omega, by simpa using h2, by omega, rfl⟩
theorem limF_bad {cs : List Int} {most : Int} (h : (limF cs most).2 ≠ 0) : (limF cs most).1 = [] := by
  unfold limF at h ⊢
  split
  · rfl
  · next h1 =>
    rw [if_neg h1] at h
    split
    · rfl
    · next h2 =>
      rw [if_neg h2] at h
      split
      · rfl
      · next h3 => rw [if_neg h3] at h; exact absurd rfl h
theorem fair_all (cs : List Int) (t : Nat) (hb : cs.any badCount = false) (ht : (leavesF cs 0).length ≤ 2 ^ t) (i k : Nat) (hi : i < cs.length) (hk : k < cs.length) (h0 : 0 < nth cs i) (h : nth cs i < nth cs k) :
    nth (limLens cs t) k ≤ nth (limLens cs t) i := by
  have hp := (leaves_bd cs hb 0).1
  by_cases h2 : 2 ≤ (leavesF cs 0).length
  · exact lim_fair cs t hp h2 ht i k hi hk h0 h
  · exfalso
    by_cases h1 : (leavesF cs 0).length = 1
    · obtain ⟨s, _, _, c, _⟩ := lim_one cs t h1
      have := c i hi h0
      have := c k hk (by omega)
      subst_vars; omega
    · exact (lim_none cs t (by omega) i hi).2 h0
theorem check_all (cs : List Int) (t : Nat) (h15 : t ≤ 15) (h1 : 1 ≤ cs.length) (h288 : cs.length ≤ 288) (hb : cs.any badCount = false) (ht : (leavesF cs 0).length ≤ 2 ^ t) (hu : usedF cs ≠ 0) : checkF (limLens cs t) = 0 := by
  rw [← used_leaves] at hu
  have hp := (leaves_bd cs hb 0).1
  by_cases h2 : 2 ≤ (leavesF cs 0).length
  · exact lim_check cs t h15 h1 h288 hp h2 ht
  · exact lim_check1 cs t h1 h288 (by omega)
end Go.Proofs.Ytcblibefmclloaa
