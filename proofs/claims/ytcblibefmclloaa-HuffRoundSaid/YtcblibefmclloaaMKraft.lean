import Derived.Test.YtcblibefmclloaaMLim2
set_option linter.unusedVariables false
set_option linter.unusedSimpArgs false
/-! Plain mathematics: limited lengths are a complete code, and who comes more often has no longer code. -/
namespace Go.Proofs.Ytcblibefmclloaa
section
variable {α : Type} (f : α → Int)
def leB (x y : α) : Bool := decide (f x ≤ f y)
theorem mg_sme : ∀ (N : Nat) (xs ys : List α), xs.length + ys.length ≤ N → Srt f xs → Srt f ys → Srt f (List.merge xs ys (leB f)) ∧ Sme f (List.merge xs ys (leB f)) (xs ++ ys)
  | N, [], ys, _, _, hy => by
    rw [List.nil_merge]; exact ⟨hy, List.Perm.refl _, fun _ => rfl⟩
  | N, x :: xs, [], _, hx, _ => by
    rw [List.merge_right, List.append_nil]; exact ⟨hx, List.Perm.refl _, fun _ => rfl⟩
  | 0, x :: xs, y :: ys, h, _, _ => by simp at h
  | N + 1, x :: xs, y :: ys, h, hx, hy => by
    have hx' := List.pairwise_cons.1 hx
    have hy' := List.pairwise_cons.1 hy
    rw [List.cons_merge_cons]
    by_cases hle : f x ≤ f y
    · rw [if_pos (by simpa [leB] using hle)]
      obtain ⟨h1, h2, h3⟩ := mg_sme N xs (y :: ys) (by simp at h ⊢; omega) hx'.2 hy
      refine ⟨List.pairwise_cons.2 ⟨fun z hz => ?_, h1⟩, (List.perm_cons x).2 h2, fun v => ?_⟩
      · rcases List.mem_append.1 (h2.mem_iff.1 hz) with hz | hz
        · exact hx'.1 z hz
        · rcases List.mem_cons.1 hz with rfl | hz
          · exact hle
          · have := hy'.1 z hz; omega
      · rw [List.cons_append]
        by_cases e : f x = v
        · rw [List.filter_cons_of_pos (by simpa using e), List.filter_cons_of_pos (by simpa using e), h3]
        · rw [List.filter_cons_of_neg (by simpa using e), List.filter_cons_of_neg (by simpa using e), h3]
    · rw [if_neg (by simpa [leB] using hle)]
      obtain ⟨h1, h2, h3⟩ := mg_sme N (x :: xs) ys (by simp at h ⊢; omega) hx hy'.2
      refine ⟨List.pairwise_cons.2 ⟨fun z hz => ?_, h1⟩, ((List.perm_cons y).2 h2).trans List.perm_middle.symm, fun v => ?_⟩
      · rcases List.mem_append.1 (h2.mem_iff.1 hz) with hz | hz
        · rcases List.mem_cons.1 hz with rfl | hz
          · omega
          · have := hx'.1 z hz; omega
        · exact hy'.1 z hz
      · by_cases e : f y = v
        · rw [List.filter_cons_of_pos (by simpa using e), h3, List.filter_append, List.filter_append, List.filter_cons_of_pos (p := fun p => decide (f p = v)) (a := y) (by simpa using e)]
          have : List.filter (fun p => decide (f p = v)) (x :: xs) = [] := by
            rw [List.filter_eq_nil_iff]
            intro z hz
            have : f x ≤ f z := by
              rcases List.mem_cons.1 hz with rfl | hz
              · exact Int.le_refl _
              · exact hx'.1 z hz
            simp; omega
          rw [this]; rfl
        · rw [List.filter_cons_of_neg (by simpa using e), h3, List.filter_append, List.filter_append, List.filter_cons_of_neg (p := fun p => decide (f p = v)) (a := y) (by simpa using e)]
theorem sort_mg (xs ys : List α) (hx : Srt f xs) (hy : Srt f ys) : sortW f (xs ++ ys) [] = List.merge xs ys (leB f) := by
  obtain ⟨h1, h2⟩ := mg_sme f _ xs ys (Nat.le_refl _) hx hy
  exact (sortW_eq f h1 h2).symm
/-- The first of what is merged: the first of the one and the first of the other. -/
theorem mg_take : ∀ (N : Nat) (xs ys : List α), xs.length + ys.length ≤ N → Srt f xs → Srt f ys → ∀ a, a ≤ xs.length + ys.length → ∃ i j, i ≤ xs.length ∧ j ≤ ys.length ∧ i + j = a ∧
    ((List.merge xs ys (leB f)).take a).Perm (xs.take i ++ ys.take j) ∧ (∀ x ∈ xs.drop i, ∀ y ∈ ys.take j, f y < f x)
  | N, [], ys, _, _, _, a, ha => by
    rw [List.nil_merge]
    exact ⟨0, a, Nat.zero_le _, by simpa using ha, by omega, by simp, by simp⟩
  | N, x :: xs, [], _, _, _, a, ha => by
    rw [List.merge_right]
    exact ⟨a, 0, by simpa using ha, Nat.zero_le _, by omega, by simp, by simp⟩
  | 0, x :: xs, y :: ys, h, _, _, _, _ => by simp at h
  | N + 1, x :: xs, y :: ys, h, hx, hy, 0, _ => ⟨0, 0, Nat.zero_le _, Nat.zero_le _, rfl, by simp, by simp⟩
  | N + 1, x :: xs, y :: ys, h, hx, hy, a + 1, ha => by
    have hx' := List.pairwise_cons.1 hx
    have hy' := List.pairwise_cons.1 hy
    simp only [List.length_cons] at h ha
    rw [List.cons_merge_cons]
    by_cases hle : f x ≤ f y
    · rw [if_pos (by simpa [leB] using hle), List.take_succ_cons]
      obtain ⟨i, j, h1, h2, h3, h4, h5⟩ := mg_take N xs (y :: ys) (by simp only [List.length_cons]; omega) hx'.2 hy a (by simp only [List.length_cons]; omega)
      refine ⟨i + 1, j, by simp only [List.length_cons]; omega, h2, by omega, ?_, ?_⟩
      · rw [List.take_succ_cons, List.cons_append]; exact (List.perm_cons x).2 h4
      · rw [List.drop_succ_cons]; exact h5
    · rw [if_neg (by simpa [leB] using hle), List.take_succ_cons]
      obtain ⟨i, j, h1, h2, h3, h4, h5⟩ := mg_take N (x :: xs) ys (by simp only [List.length_cons]; omega) hx hy'.2 a (by simp only [List.length_cons]; omega)
      refine ⟨i, j + 1, h1, by simp only [List.length_cons]; omega, by omega, ?_, ?_⟩
      · rw [List.take_succ_cons]; exact ((List.perm_cons y).2 h4).trans List.perm_middle.symm
      · rw [List.take_succ_cons]
        intro z hz v hv
        rcases List.mem_cons.1 hv with rfl | hv
        · have hz' : z ∈ x :: xs := List.mem_of_mem_drop hz
          rcases List.mem_cons.1 hz' with rfl | hz'
          · omega
          · have := hx'.1 z hz'; omega
        · exact h5 z hz v hv
end
/-! Pairs of what is sorted. -/
theorem srt_pairs (l : List PP) (h : Srt Prod.fst l) : Srt Prod.fst (pairsF l) := by
  induction l using pairsF.induct with
  | case1 a b r ih =>
    rw [pairsF]
    have h1 := List.pairwise_cons.1 h
    have h2 := List.pairwise_cons.1 h1.2
    refine List.pairwise_cons.2 ⟨fun p hp => ?_, ih h2.2⟩
    have key : ∀ (l : List PP) (m : Int), (∀ x ∈ l, m ≤ x.1) → ∀ p ∈ pairsF l, m + m ≤ p.1 := by
      intro l m
      induction l using pairsF.induct with
      | case1 c d s ihs =>
        intro hm p hp
        rw [pairsF] at hp
        have hc := hm c (by simp)
        have hd := hm d (by simp)
        rcases List.mem_cons.1 hp with rfl | hp
        · simp only []; omega
        · exact ihs (fun x hx => hm x (by simp [hx])) p hp
      | case2 l hl => intro _ p hp; rw [pairsF_short hl] at hp; simp at hp
    have hab := h1.1 b (by simp)
    have := key r b.1 (fun x hx => h2.1 x hx) p hp
    simp only []; omega
  | case2 l hl => rw [pairsF_short hl]; exact List.Pairwise.nil
/-- Who lies in a package weighs less than it. -/
theorem pairs_cover (l : List PP) (hp : posP l) : ∀ j, j ≤ l.length / 2 → ∀ x ∈ l.take (2 * j), ∃ y ∈ (pairsF l).take j, x.1 < y.1 := by
  induction l using pairsF.induct with
  | case1 a b r ih =>
    intro j hj x hx
    match j with
    | 0 => simp at hx
    | j + 1 =>
      rw [show 2 * (j + 1) = (2 * j + 1) + 1 by omega, List.take_succ_cons, List.take_succ_cons] at hx
      rw [pairsF, List.take_succ_cons]
      have ha := (hp a (by simp)).1
      have hb := (hp b (by simp)).1
      simp only [List.mem_cons] at hx
      rcases hx with rfl | rfl | hx
      · exact ⟨_, List.mem_cons_self .., by simp only []; omega⟩
      · exact ⟨_, List.mem_cons_self .., by simp only []; omega⟩
      · obtain ⟨y, h1, h2⟩ := ih (fun p h => hp p (by simp [h])) j (by simp only [List.length_cons] at hj; omega) x hx
        exact ⟨y, List.mem_cons_of_mem _ h1, h2⟩
  | case2 l hl =>
    intro j hj x hx
    have : l.length / 2 = 0 := by rw [← pairsF_len, pairsF_short hl]; rfl
    obtain rfl : j = 0 := by omega
    simp at hx
theorem pairs_flat (l : List PP) : ∀ j, j ≤ l.length / 2 → ((pairsF l).take j).flatMap Prod.snd = (l.take (2 * j)).flatMap Prod.snd := by
  induction l using pairsF.induct with
  | case1 a b r ih =>
    intro j hj
    match j with
    | 0 => simp
    | j + 1 =>
      rw [show 2 * (j + 1) = (2 * j + 1) + 1 by omega, List.take_succ_cons, List.take_succ_cons, pairsF, List.take_succ_cons, List.flatMap_cons, List.flatMap_cons, List.flatMap_cons, ih j (by simp only [List.length_cons] at hj; omega), List.append_assoc]
  | case2 l hl =>
    intro j hj
    have : l.length / 2 = 0 := by rw [← pairsF_len, pairsF_short hl]; rfl
    obtain rfl : j = 0 := by omega
    simp
theorem pairs_few (M : Int) (l : List PP) (hp : posP l) : 2 * (pairsF l).countP (fun p => decide (p.1 < M)) ≤ l.countP (fun p => decide (p.1 < M)) := by
  induction l using pairsF.induct with
  | case1 a b r ih =>
    rw [pairsF]
    have ha := (hp a (by simp)).1
    have hb := (hp b (by simp)).1
    have := ih (fun p h => hp p (by simp [h]))
    rw [List.countP_cons, List.countP_cons, List.countP_cons]
    by_cases h : a.1 + b.1 < M
    · rw [if_pos (by simpa using h), if_pos (by simp; omega), if_pos (by simp; omega)]; omega
    · rw [if_neg (by simpa using h)]; omega
  | case2 l hl => rw [pairsF_short hl]; simp
/-! Which leaves a chosen start of a level holds, level by level. -/
def wid : List Nat → Nat
  | [] => 0
  | c :: r => c * 2 ^ r.length + wid r
theorem level_pos {lv : List PP} (h : posP lv) (t : Nat) : posP (levelF lv t) := (level_bd lv h t).1
theorem level_srt (lv : List PP) : ∀ t, Srt Prod.fst (levelF lv t)
  | 0 => List.Pairwise.nil
  | t + 1 => sortW_srt _ _
theorem level_cut {lv : List PP} (hs : Srt Prod.fst lv) (hp : posP lv) (t a : Nat) (ha : a ≤ (levelF lv (t + 1)).length) : ∃ i j, i ≤ lv.length ∧ j ≤ (levelF lv t).length / 2 ∧ i + j = a ∧
    ((levelF lv (t + 1)).take a).Perm (lv.take i ++ (pairsF (levelF lv t)).take j) ∧ (∀ x ∈ lv.drop i, ∀ y ∈ (pairsF (levelF lv t)).take j, y.1 < x.1) := by
  have e : levelF lv (t + 1) = List.merge lv (pairsF (levelF lv t)) (leB Prod.fst) := sort_mg Prod.fst lv _ hs (srt_pairs _ (level_srt lv t))
  have hl : (levelF lv (t + 1)).length = lv.length + (pairsF (levelF lv t)).length := by rw [levelF, sortP_len, List.length_append]
  rw [hl] at ha
  rw [e]
  obtain ⟨i, j, h1, h2, h3, h4, h5⟩ := mg_take Prod.fst _ lv (pairsF (levelF lv t)) (Nat.le_refl _) hs (srt_pairs _ (level_srt lv t)) a ha
  rw [pairsF_len] at h2
  exact ⟨i, j, h1, h2, h3, h4, h5⟩
theorem level_shape {lv : List PP} (hs : Srt Prod.fst lv) (hp : posP lv) : ∀ t a, a ≤ (levelF lv t).length → ∃ cs : List Nat, cs.length = t ∧ cs.Pairwise (fun x y => y ≤ x) ∧ (∀ c ∈ cs, c ≤ lv.length) ∧
    (((levelF lv t).take a).flatMap Prod.snd).Perm (cs.flatMap fun c => (lv.take c).flatMap Prod.snd) ∧ 2 * wid cs = a * 2 ^ t ∧ (∀ x ∈ lv.take (cs.headD 0), x ∈ (levelF lv t).take a) ∧
    (t ≠ 0 → ∀ x ∈ lv.drop (cs.headD 0), ∀ y ∈ (pairsF (levelF lv (t - 1))).take (a - cs.headD 0), y.1 < x.1) ∧ (t ≠ 0 → a - cs.headD 0 ≤ (levelF lv (t - 1)).length / 2)
  | 0, a, ha => by
    obtain rfl : a = 0 := by simpa [levelF] using ha
    exact ⟨[], rfl, List.Pairwise.nil, by simp, by simp, by simp [wid], by simp, fun h => absurd rfl h, fun h => absurd rfl h⟩
  | t + 1, a, ha => by
    obtain ⟨i, j, h1, h2, h3, h4, h5⟩ := level_cut hs hp t a ha
    obtain ⟨r, r1, r2, r3, r4, r5, r6, _, _⟩ := level_shape hs hp t (2 * j) (by omega)
    have hhead : ∀ c ∈ r, c ≤ r.headD 0 := by
      intro c hc
      match r, r2, hc with
      | d :: r, r2, hc =>
        rcases List.mem_cons.1 hc with rfl | hc
        · exact Nat.le_refl _
        · exact (List.pairwise_cons.1 r2).1 c hc
    have hnest : r.headD 0 ≤ i := by
      rcases Nat.lt_or_ge i (r.headD 0) with hlt | hge
      · exfalso
        have hle : r.headD 0 ≤ lv.length := by
          match r, r3 with
          | [], _ => exact Nat.zero_le _
          | d :: r, r3 => exact r3 d (by simp)
        have hi : i < lv.length := by omega
        have m1 : lv[i] ∈ lv.take (r.headD 0) := by
          rw [List.mem_take_iff_getElem]
          exact ⟨i, by omega, rfl⟩
        have m2 : lv[i] ∈ lv.drop i := by
          rw [List.drop_eq_getElem_cons hi]; exact List.mem_cons_self ..
        obtain ⟨y, hy, hlt2⟩ := pairs_cover _ (level_pos hp t) j h2 _ (r6 _ m1)
        have := h5 _ m2 y hy
        omega
      · exact hge
    refine ⟨i :: r, by rw [List.length_cons, r1], List.pairwise_cons.2 ⟨fun c hc => Nat.le_trans (hhead c hc) hnest, r2⟩, ?_, ?_, ?_, ?_, ?_, ?_⟩
    · intro c hc
      rcases List.mem_cons.1 hc with rfl | hc
      · exact h1
      · exact r3 c hc
    · rw [List.flatMap_cons]
      refine (h4.flatMap_right _).trans ?_
      rw [List.flatMap_append, pairs_flat _ j h2]
      exact r4.append_left _
    · rw [wid, r1, Nat.mul_add, r5, ← h3, Nat.pow_succ, Nat.add_mul, Nat.mul_comm 2 (i * 2 ^ t), Nat.mul_assoc i, Nat.mul_comm 2 j, Nat.mul_assoc j, Nat.mul_comm 2 (2 ^ t)]
    · intro x hx
      exact h4.mem_iff.2 (List.mem_append_left _ hx)
    · intro _ x hx y hy
      simp only [List.headD_cons, Nat.add_sub_cancel] at hx hy
      rw [show a - i = j by omega] at hy
      exact h5 x hx y hy
    · intro _
      simp only [List.headD_cons, Nat.add_sub_cancel]
      omega
/-- Few packages weigh less than the heaviest leaf. -/
theorem few_below {lv : List PP} (hp : posP lv) (M : Int) (h2 : 2 ≤ lv.length) (hM : ∃ x ∈ lv, M ≤ x.1) : ∀ t, (pairsF (levelF lv t)).countP (fun p => decide (p.1 < M)) ≤ lv.length - 2
  | 0 => by simp [levelF, pairsF]
  | t + 1 => by
    have ih := few_below hp M h2 hM t
    have h := pairs_few M (levelF lv (t + 1)) (level_pos hp (t + 1))
    have e : (levelF lv (t + 1)).countP (fun p => decide (p.1 < M)) = lv.countP (fun p => decide (p.1 < M)) + (pairsF (levelF lv t)).countP (fun p => decide (p.1 < M)) := by
      rw [levelF, (sortP_perm _).countP_eq, List.countP_append]
    have hl : lv.countP (fun p => decide (p.1 < M)) < lv.length := by
      obtain ⟨x, hx, hMx⟩ := hM
      refine Nat.lt_of_le_of_ne List.countP_le_length (fun he => ?_)
      have := List.countP_eq_length.1 he x hx
      simp at this; omega
    omega
/-- All leaves are chosen at the top. -/
theorem top_all {lv : List PP} (hs : Srt Prod.fst lv) (hp : posP lv) (t : Nat) (h2 : 2 ≤ lv.length) {c j : Nat} (hc : c ≤ lv.length) (hj : c + j = 2 * lv.length - 2) (hjl : j ≤ (levelF lv t).length / 2)
    (hx : ∀ x ∈ lv.drop c, ∀ y ∈ (pairsF (levelF lv t)).take j, y.1 < x.1) : c = lv.length := by
  rcases Nat.lt_or_ge c lv.length with hlt | hge
  · exfalso
    have m2 : lv[c] ∈ lv.drop c := by rw [List.drop_eq_getElem_cons hlt]; exact List.mem_cons_self ..
    have hn := few_below hp (lv[lv.length - 1].1) h2 ⟨_, List.getElem_mem _, Int.le_refl _⟩ t
    have hle : lv[c].1 ≤ lv[lv.length - 1].1 := by
      rcases Nat.lt_or_ge c (lv.length - 1) with h | h
      · exact (List.pairwise_iff_getElem.1 hs) c (lv.length - 1) hlt (by omega) h
      · have : c = lv.length - 1 := by omega
        subst this; exact Int.le_refl _
    have hall : ((pairsF (levelF lv t)).take j).countP (fun p => decide (p.1 < lv[lv.length - 1].1)) = j := by
      rw [List.countP_eq_length.2 (fun y hy => by
        have := hx _ m2 y hy
        simp only [decide_eq_true_eq]; omega), List.length_take, pairsF_len]
      omega
    have := (List.take_sublist j (pairsF (levelF lv t))).countP_le (p := fun p => decide (p.1 < lv[lv.length - 1].1))
    omega
  · omega
end Go.Proofs.Ytcblibefmclloaa
