import Derived.Test.YtcblibefmclloaaMKraft2
set_option linter.unusedVariables false
set_option linter.unusedSimpArgs false
/-! Plain mathematics: limited lengths pass the check; who comes more often has no longer code. -/
namespace Go.Proofs.Ytcblibefmclloaa
theorem limLens_len (cs : List Int) (t : Nat) : (limLens cs t).length = cs.length := by unfold limLens; rw [cntF_len]
theorem lim_nn (cs : List Int) (t i : Nat) (h : i < cs.length) : 0 ≤ nth (limLens cs t) i := by
  unfold limLens; exact (cnt_bd _ _ _ h).1
theorem leaf_mem' (cs : List Int) (p : PP) : p ∈ leavesF cs 0 ↔ ∃ i, i < cs.length ∧ 0 < nth cs i ∧ p = (nth cs i, [(i : Int)]) := by
  have h := leaf_mem cs cs.length (Nat.le_refl _) p
  rwa [List.take_length] at h
theorem leaf_place (cs : List Int) (i : Nat) (h : i < cs.length) (h0 : 0 < nth cs i) : ∃ q, ∃ hq : q < (sortP (leavesF cs 0)).length, (sortP (leavesF cs 0))[q] = (nth cs i, [(i : Int)]) := by
  have hm := (sortP_perm _).mem_iff.2 ((leaf_mem' cs (nth cs i, [(i : Int)])).2 ⟨i, h, h0, rfl⟩)
  obtain ⟨q, hq, e⟩ := List.getElem_of_mem hm
  exact ⟨q, hq, e⟩
theorem lim_meas (cs : List Int) (t : Nat) (ht15 : t ≤ 15) (hp : posP (leavesF cs 0)) (h2 : 2 ≤ (leavesF cs 0).length) (ht : (leavesF cs 0).length ≤ 2 ^ t) : measF (limLens cs t) = 32768 := by
  obtain ⟨E, e1, e2, e3, e4, e5⟩ := lim_at cs t hp h2 ht
  unfold measF
  rw [list_sumR part 0, limLens_len]
  have a1 : sumR cs.length (fun q => part ((limLens cs t).getD q 0)) = sumR cs.length (fun i => if 0 < nth cs i then (fun p : PP => part (nth (limLens cs t) (p.2.headD 0).toNat)) (nth cs i, [(i : Int)]) else 0) := by
    refine sumR_congr _ fun q hq => ?_
    show part (nth (limLens cs t) q) = _
    by_cases h0 : 0 < nth cs q
    · rw [if_pos h0]; simp
    · rw [if_neg h0, e4 q hq h0]; rfl
  have a2 := leaf_sum cs (fun p : PP => part (nth (limLens cs t) (p.2.headD 0).toNat)) cs.length (Nat.le_refl _)
  rw [List.take_length] at a2
  rw [a1, ← a2, ← ((sortP_perm (leavesF cs 0)).map _).sum_nat, list_sumR _ (0, [])]
  have a3 : sumR (sortP (leavesF cs 0)).length (fun q => part (nth (limLens cs t) (((sortP (leavesF cs 0)).getD q (0, [])).2.headD 0).toNat)) = sumR (sortP (leavesF cs 0)).length (fun q => 2 ^ (15 - t) * 2 ^ (t - ell E q)) := by
    refine sumR_congr _ fun q hq => ?_
    have hm : (sortP (leavesF cs 0))[q] ∈ leavesF cs 0 := (sortP_perm _).mem_iff.1 (List.getElem_mem hq)
    obtain ⟨i, h1, h3, h4⟩ := (leaf_mem' cs _).1 hm
    have hd : (sortP (leavesF cs 0)).getD q (0, []) = (nth cs i, [(i : Int)]) := by rw [← h4]; simp [List.getD, hq]
    rw [hd]
    simp only [List.headD_cons, Int.toNat_natCast]
    rw [e5 q hq i h4 h1]
    have hl := ell_le E q
    have hge := e2 q (by rwa [sortP_len] at hq)
    unfold part
    rw [if_pos (by omega), ← Nat.pow_add]
    congr 1; omega
  rw [a3, sumR_mul, sortP_len, e3, ← Nat.pow_add, show 15 - t + t = 15 by omega]
theorem lim_ok (cs : List Int) (t : Nat) (ht15 : t ≤ 15) (hp : posP (leavesF cs 0)) (h2 : 2 ≤ (leavesF cs 0).length) (ht : (leavesF cs 0).length ≤ 2 ^ t) (i : Nat) (hi : i < cs.length) :
    (0 < nth (limLens cs t) i ↔ 0 < nth cs i) ∧ nth (limLens cs t) i ≤ t := by
  obtain ⟨E, e1, e2, e3, e4, e5⟩ := lim_at cs t hp h2 ht
  by_cases h0 : 0 < nth cs i
  · obtain ⟨q, hq, e⟩ := leaf_place cs i hi h0
    have hl := ell_le E q
    have hge := e2 q (by rwa [sortP_len] at hq)
    rw [e5 q hq i e hi]
    exact ⟨⟨fun _ => h0, fun _ => by omega⟩, by omega⟩
  · rw [e4 i hi h0]
    exact ⟨⟨fun h => by omega, fun h => absurd h h0⟩, by omega⟩
theorem all_nth (l : List Int) (h : ∀ i, i < l.length → okLen (nth l i) = true) : l.all okLen = true := by
  rw [List.all_eq_true]
  intro x hx
  obtain ⟨i, hi, rfl⟩ := List.getElem_of_mem hx
  have := h i hi
  rwa [nth_lt hi] at this
theorem lim_check (cs : List Int) (t : Nat) (ht15 : t ≤ 15) (h1 : 1 ≤ cs.length) (h288 : cs.length ≤ 288) (hp : posP (leavesF cs 0)) (h2 : 2 ≤ (leavesF cs 0).length) (ht : (leavesF cs 0).length ≤ 2 ^ t) : checkF (limLens cs t) = 0 := by
  unfold checkF
  rw [limLens_len, if_neg (by omega), all_nth (limLens cs t) (fun i hi => by
    rw [limLens_len] at hi
    have a := lim_nn cs t i hi
    have b := (lim_ok cs t ht15 hp h2 ht i hi).2
    unfold okLen
    simp only [Bool.and_eq_true, decide_eq_true_eq]
    omega), if_neg (by simp), lim_meas cs t ht15 hp h2 ht]
  rfl
/-- Who comes more often has no longer code. -/
theorem lim_fair (cs : List Int) (t : Nat) (hp : posP (leavesF cs 0)) (h2 : 2 ≤ (leavesF cs 0).length) (ht : (leavesF cs 0).length ≤ 2 ^ t) (i k : Nat) (hi : i < cs.length) (hk : k < cs.length) (h0 : 0 < nth cs i) (h : nth cs i < nth cs k) :
    nth (limLens cs t) k ≤ nth (limLens cs t) i := by
  obtain ⟨E, e1, e2, e3, e4, e5⟩ := lim_at cs t hp h2 ht
  obtain ⟨q, hq, e⟩ := leaf_place cs i hi h0
  obtain ⟨r, hr, e'⟩ := leaf_place cs k hk (by omega)
  rw [e5 q hq i e hi, e5 r hr k e' hk]
  have hqr : q ≤ r := by
    rcases Nat.lt_or_ge r q with hlt | hge
    · exfalso
      have := (List.pairwise_iff_getElem.1 (show Srt Prod.fst (sortP (leavesF cs 0)) from sortW_srt _ _)) r q hr hq hlt
      rw [e', e] at this
      simp only [] at this; omega
    · exact hge
  have := ell_anti E q r hqr
  omega
/-- One symbol alone. -/
theorem lim_one (cs : List Int) (t : Nat) (h : (leavesF cs 0).length = 1) : ∃ s, s < cs.length ∧ 0 < nth cs s ∧ (∀ i, i < cs.length → 0 < nth cs i → i = s) ∧ ∀ i, i < cs.length → nth (limLens cs t) i = if i = s then 1 else 0 := by
  obtain ⟨p, hp⟩ := List.length_eq_one_iff.1 h
  obtain ⟨s, h1, h2, h3⟩ := (leaf_mem' cs p).1 (by rw [hp]; simp)
  refine ⟨s, h1, h2, fun i hi h0 => ?_, fun i hi => ?_⟩
  · have := (leaf_mem' cs _).2 ⟨i, hi, h0, rfl⟩
    rw [hp, List.mem_singleton, h3] at this
    have := congrArg Prod.snd this
    simp at this; omega
  · unfold limLens
    rw [if_pos (by omega), hp, cntF_nth _ _ _ hi, h3]
    simp only [List.flatMap_cons, List.flatMap_nil, List.append_nil, List.count_cons, List.count_nil]
    by_cases e : i = s
    · subst e; simp
    · rw [if_neg e, if_neg (by simp; omega)]; rfl
theorem lim_none (cs : List Int) (t : Nat) (h : (leavesF cs 0).length = 0) (i : Nat) (hi : i < cs.length) : nth (limLens cs t) i = 0 ∧ ¬ 0 < nth cs i := by
  have he := List.length_eq_zero_iff.1 h
  constructor
  · unfold limLens
    rw [if_pos (by omega), he, cntF_nth _ _ _ hi]; rfl
  · intro h0
    have := (leaf_mem' cs _).2 ⟨i, hi, h0, rfl⟩
    rw [he] at this; simp at this
theorem lim_check1 (cs : List Int) (t : Nat) (h1 : 1 ≤ cs.length) (h288 : cs.length ≤ 288) (h : (leavesF cs 0).length = 1) : checkF (limLens cs t) = 0 := by
  obtain ⟨s, a, b, c, d⟩ := lim_one cs t h
  have hl := limLens_len cs t
  generalize limLens cs t = l at *
  have key : ∀ k, k ≤ l.length → usedF (l.take k) = (if s < k then 1 else 0) ∧ measF (l.take k) = (if s < k then 16384 else 0) := by
    intro k
    induction k with
    | zero => intro _; simp [usedF, measF]
    | succ k ih =>
      intro hk
      obtain ⟨i1, i2⟩ := ih (by omega)
      rw [usedF_snoc l k (by omega), measF_snoc l k (by omega), i1, i2, d k (by omega)]
      have p1 : part 1 = 16384 := rfl
      have p0 : part 0 = 0 := rfl
      by_cases e : k = s
      · subst e; simp [p1]
      · rw [if_neg e]
        by_cases e2 : s < k
        · simp [p0, e2, show s < k + 1 by omega]
        · simp [p0, e2, show ¬ s < k + 1 by omega]
  obtain ⟨k1, k2⟩ := key l.length (Nat.le_refl _)
  rw [List.take_length, if_pos (by omega)] at k1 k2
  unfold checkF
  rw [hl, if_neg (by omega), all_nth l (fun i hi => by
    rw [d i (by omega)]
    split <;> decide), if_neg (by simp), k1, k2]
  rfl
end Go.Proofs.Ytcblibefmclloaa
