/- Limited lengths: plain lists. -/
import Derived.Test.YtcblibefmclloaaBase
set_option linter.unusedVariables false
set_option linter.unusedSimpArgs false
namespace Go.Proofs.Ytcblibefmclloaa
/-! Stable sorting of whatever has a weight. -/
section
variable {α : Type} (f : α → Int)
def Srt (l : List α) : Prop := l.Pairwise (fun p q => f p ≤ f q)
def Sme (r l : List α) : Prop := r.Perm l ∧ ∀ v, r.filter (fun p => decide (f p = v)) = l.filter (fun p => decide (f p = v))
theorem Srt_eq {r : List α} : ∀ {l : List α}, Srt f r → Srt f l → Sme f r l → r = l := by
  induction r with
  | nil => intro l _ _ h; exact (List.length_eq_zero_iff.1 h.1.length_eq.symm).symm
  | cons p r ih =>
    intro l hr hl h
    match l, h, hl with
    | [], h, _ => have := h.1.length_eq; simp at this
    | q :: l, h, hl =>
      have hw : f p = f q := by
        have h1 : p ∈ q :: l := h.1.mem_iff.1 (List.mem_cons_self ..)
        have h2 : q ∈ p :: r := h.1.mem_iff.2 (List.mem_cons_self ..)
        have a1 : f q ≤ f p := by
          rcases List.mem_cons.1 h1 with rfl | h1
          · exact Int.le_refl _
          · exact (List.pairwise_cons.1 hl).1 p h1
        have a2 : f p ≤ f q := by
          rcases List.mem_cons.1 h2 with rfl | h2
          · exact Int.le_refl _
          · exact (List.pairwise_cons.1 hr).1 q h2
        omega
      have hv := h.2 (f p)
      rw [List.filter_cons_of_pos (by simp), List.filter_cons_of_pos (by simp [hw])] at hv
      injection hv with e1 e2
      subst e1
      refine congrArg (p :: ·) (ih (List.pairwise_cons.1 hr).2 (List.pairwise_cons.1 hl).2 ⟨(List.perm_cons p).1 h.1, fun v => ?_⟩)
      have hv := h.2 v
      by_cases e : f p = v
      · rw [List.filter_cons_of_pos (by simpa using e), List.filter_cons_of_pos (by simpa using e)] at hv
        injection hv
      · rw [List.filter_cons_of_neg (by simpa using e), List.filter_cons_of_neg (by simpa using e)] at hv
        exact hv
def insW (p : α) : List α → List α
  | [] => [p]
  | q :: r => if f q ≤ f p then q :: insW p r else p :: q :: r
/-- Sorted by weight, those of one weight in their order. -/
def sortW : List α → List α → List α
  | [], acc => acc
  | p :: r, acc => sortW r (insW f p acc)
theorem insW_mem (p x : α) (l : List α) : x ∈ insW f p l ↔ x = p ∨ x ∈ l := by
  induction l with
  | nil => simp [insW]
  | cons q r ih =>
    unfold insW
    split
    · rw [List.mem_cons, ih, List.mem_cons]
      constructor
      · rintro (h | h | h)
        · exact Or.inr (Or.inl h)
        · exact Or.inl h
        · exact Or.inr (Or.inr h)
      · rintro (h | h | h)
        · exact Or.inr (Or.inl h)
        · exact Or.inl h
        · exact Or.inr (Or.inr h)
    · rw [List.mem_cons]
theorem insW_srt (p : α) (l : List α) (h : Srt f l) : Srt f (insW f p l) := by
  induction l with
  | nil => exact List.pairwise_singleton _ _
  | cons q r ih =>
    unfold insW
    split
    · rename_i hq
      refine List.pairwise_cons.2 ⟨fun x hx => ?_, ih (List.pairwise_cons.1 h).2⟩
      rcases (insW_mem f p x r).1 hx with rfl | hx
      · exact hq
      · exact (List.pairwise_cons.1 h).1 x hx
    · rename_i hq
      refine List.pairwise_cons.2 ⟨fun x hx => ?_, h⟩
      rcases List.mem_cons.1 hx with rfl | hx
      · omega
      · have := (List.pairwise_cons.1 h).1 x hx; omega
theorem insW_sme (p : α) (l : List α) (h : Srt f l) : Sme f (insW f p l) (l ++ [p]) := by
  induction l with
  | nil => exact ⟨List.Perm.refl _, fun _ => rfl⟩
  | cons q r ih =>
    unfold insW
    split
    · have := ih (List.pairwise_cons.1 h).2
      refine ⟨(List.perm_cons q).2 this.1, fun v => ?_⟩
      rw [List.cons_append]
      by_cases e : f q = v
      · rw [List.filter_cons_of_pos (by simpa using e), List.filter_cons_of_pos (by simpa using e), this.2]
      · rw [List.filter_cons_of_neg (by simpa using e), List.filter_cons_of_neg (by simpa using e), this.2]
    · rename_i hq
      refine ⟨(List.perm_append_singleton p (q :: r)).symm, fun v => ?_⟩
      rw [List.filter_append]
      by_cases e : f p = v
      · have : List.filter (fun x => decide (f x = v)) (q :: r) = [] := by
          rw [List.filter_eq_nil_iff]
          intro x hx
          have : f q ≤ f x := by
            rcases List.mem_cons.1 hx with rfl | hx
            · exact Int.le_refl _
            · exact (List.pairwise_cons.1 h).1 x hx
          simp; omega
        rw [List.filter_cons_of_pos (by simpa using e), this]; simp [e]
      · rw [List.filter_cons_of_neg (by simpa using e), List.filter_cons_of_neg (a := p) (by simpa using e)]; simp
theorem sortW_spec (l : List α) : ∀ acc, Srt f acc → Srt f (sortW f l acc) ∧ Sme f (sortW f l acc) (acc ++ l) := by
  induction l with
  | nil => intro acc h; exact ⟨h, by simp [sortW]; exact ⟨List.Perm.refl _, fun _ => rfl⟩⟩
  | cons p r ih =>
    intro acc h
    have h1 := insW_srt f p acc h
    have h2 := insW_sme f p acc h
    obtain ⟨h3, h4⟩ := ih _ h1
    refine ⟨h3, h4.1.trans ?_, fun v => (h4.2 v).trans ?_⟩
    · have := h2.1.append_right r
      simpa using this
    · have := h2.2 v
      rw [List.filter_append, this, ← List.filter_append]; simp
theorem sortW_srt (l : List α) : Srt f (sortW f l []) := (sortW_spec f l [] List.Pairwise.nil).1
theorem sortW_sme (l : List α) : Sme f (sortW f l []) l := by have := (sortW_spec f l [] List.Pairwise.nil).2; simpa using this
theorem sortW_eq {r l : List α} (h1 : Srt f r) (h2 : Sme f r l) : r = sortW f l [] :=
  Srt_eq f h1 (sortW_srt f l) ⟨h2.1.trans (sortW_sme f l).1.symm, fun v => (h2.2 v).trans ((sortW_sme f l).2 v).symm⟩
end
/-- A weight, and symbols. -/
abbrev PP : Type := Int × List Int
def sortP (l : List PP) : List PP := sortW Prod.fst l []
theorem sortP_perm (l : List PP) : (sortP l).Perm l := (sortW_sme Prod.fst l).1
theorem sortP_len (l : List PP) : (sortP l).length = l.length := (sortP_perm l).length_eq
/-- The symbols that come. -/
def leavesF : List Int → Nat → List PP
  | [], _ => []
  | n :: r, i => if 0 < n then (n, [(i : Int)]) :: leavesF r (i + 1) else leavesF r (i + 1)
theorem leavesF_snoc (l : List Int) (x : Int) : ∀ i, leavesF (l ++ [x]) i = leavesF l i ++ if 0 < x then [(x, [((i + l.length : Nat) : Int)])] else [] := by
  induction l with
  | nil => intro i; simp only [List.nil_append, leavesF, List.length_nil, Nat.add_zero]
  | cons n r ih =>
    intro i
    rw [List.cons_append, leavesF, leavesF, ih (i + 1), List.length_cons, show i + 1 + r.length = i + (r.length + 1) by omega]
    split <;> rfl
/-- Two by two as one. -/
def pairsF : List PP → List PP
  | a :: b :: r => (a.1 + b.1, a.2 ++ b.2) :: pairsF r
  | _ => []
def levelF (lv : List PP) : Nat → List PP
  | 0 => []
  | t + 1 => sortP (lv ++ pairsF (levelF lv t))
/-- How often each number below n comes. -/
def cntF (n : Nat) (S : List Int) : List Int := (List.range n).map fun (i : Nat) => (S.count (i : Int) : Int)
def limLens (cs : List Int) (most : Nat) : List Int :=
  cntF cs.length (if (leavesF cs 0).length < 2 then (leavesF cs 0).flatMap Prod.snd else ((levelF (sortP (leavesF cs 0)) most).take (2 * (leavesF cs 0).length - 2)).flatMap Prod.snd)
def badCount (x : Int) : Bool := decide (x < 0) || decide (1000000000000 < x)
def limF (cs : List Int) (most : Int) : List Int × Int :=
  if cs.length = 0 ∨ 288 < cs.length ∨ most < 1 ∨ 15 < most then ([], 1)
  else if cs.any badCount then ([], 1)
  else if 2 ^ most.toNat < (leavesF cs 0).length then ([], 30)
  else (limLens cs most.toNat, 0)
/-! Sums. -/
def sumW (l : List PP) : Int := (l.map Prod.fst).sum
def sumS (l : List PP) : Nat := (l.map fun p => p.2.length).sum
def posP (l : List PP) : Prop := ∀ p ∈ l, 0 < p.1 ∧ p.2 ≠ []
theorem sumW_app (a b : List PP) : sumW (a ++ b) = sumW a + sumW b := by simp [sumW]
theorem sumS_app (a b : List PP) : sumS (a ++ b) = sumS a + sumS b := by simp [sumS]
theorem sumW_perm {a b : List PP} (h : a.Perm b) : sumW a = sumW b := by
  unfold sumW
  have := h.map Prod.fst
  clear h
  generalize a.map Prod.fst = x at *
  generalize b.map Prod.fst = y at *
  induction this with
  | nil => rfl
  | cons _ _ ih => simp [ih]
  | swap x y l => simp; omega
  | trans _ _ h1 h2 => exact h1.trans h2
theorem sumS_perm {a b : List PP} (h : a.Perm b) : sumS a = sumS b := List.Perm.sum_nat (h.map fun (p : PP) => p.2.length)
theorem posP_app {a b : List PP} (ha : posP a) (hb : posP b) : posP (a ++ b) := fun p hp => by
  rcases List.mem_append.1 hp with h | h
  · exact ha p h
  · exact hb p h
theorem posP_perm {a b : List PP} (h : a.Perm b) (hb : posP b) : posP a := fun p hp => hb p (h.mem_iff.1 hp)
theorem pairsF_short {l : List PP} (hl : ∀ a b r, l = a :: b :: r → False) : pairsF l = [] := by
  match l, hl with
  | [], _ => simp [pairsF]
  | [x], _ => simp [pairsF]
  | a :: b :: r, h => exact absurd rfl (h a b r)
theorem pairsF_len (l : List PP) : (pairsF l).length = l.length / 2 := by
  induction l using pairsF.induct with
  | case1 a b r ih => rw [pairsF, List.length_cons, ih]; simp only [List.length_cons]; omega
  | case2 l h =>
    match l, h with
    | [], _ => simp [pairsF]
    | [x], _ => simp [pairsF]
    | a :: b :: r, h => exact absurd rfl (h a b r)
theorem pairsF_pos (l : List PP) (h : posP l) : posP (pairsF l) := by
  induction l using pairsF.induct with
  | case1 a b r ih =>
    intro p hp
    rw [pairsF] at hp
    rcases List.mem_cons.1 hp with rfl | hp
    · have h1 := h a (by simp); have h2 := h b (by simp)
      exact ⟨by show 0 < a.1 + b.1; omega, by show a.2 ++ b.2 ≠ []; simp [h1.2]⟩
    · exact ih (fun q hq => h q (by simp [hq])) p hp
  | case2 l hl => intro p hp; rw [pairsF_short hl] at hp; cases hp
theorem sumW_nonneg (l : List PP) (h : posP l) : 0 ≤ sumW l := by
  induction l with
  | nil => simp [sumW]
  | cons a r ih =>
    have := ih (fun q hq => h q (by simp [hq]))
    have := (h a (by simp)).1
    simp only [sumW, List.map_cons, List.sum_cons] at *
    omega
theorem pairsF_sum (l : List PP) (h : posP l) : sumW (pairsF l) ≤ sumW l ∧ sumS (pairsF l) ≤ sumS l := by
  induction l using pairsF.induct with
  | case1 a b r ih =>
    have := ih (fun q hq => h q (by simp [hq]))
    rw [pairsF]
    simp only [sumW, sumS, List.map_cons, List.sum_cons, List.length_append] at *
    omega
  | case2 l hl =>
    have e : pairsF l = [] := by
      match l, hl with
      | [], _ => simp [pairsF]
      | [x], _ => simp [pairsF]
      | a :: b :: r, h => exact absurd rfl (h a b r)
    rw [e]
    exact ⟨sumW_nonneg l h, Nat.zero_le _⟩
theorem level_bd (lv : List PP) (h : posP lv) (t : Nat) : posP (levelF lv t) ∧ sumW (levelF lv t) ≤ t * sumW lv ∧ sumS (levelF lv t) ≤ t * sumS lv ∧ (levelF lv t).length ≤ 2 * lv.length := by
  induction t with
  | zero => exact ⟨(by intro p hp; cases hp), by simp [levelF, sumW], by simp [levelF, sumS], by simp [levelF]⟩
  | succ t ih =>
    obtain ⟨h1, h2, h3, h4⟩ := ih
    have hp := sortP_perm (lv ++ pairsF (levelF lv t))
    have hq := pairsF_sum _ h1
    refine ⟨posP_perm hp (posP_app h (pairsF_pos _ h1)), ?_, ?_, ?_⟩
    · rw [levelF, sumW_perm hp, sumW_app]
      have : ((t + 1 : Nat) : Int) * sumW lv = t * sumW lv + sumW lv := by rw [Int.natCast_add, Int.add_mul]; simp
      omega
    · rw [levelF, sumS_perm hp, sumS_app, Nat.add_mul, Nat.one_mul]; omega
    · rw [levelF, sortP_len, List.length_append, pairsF_len]; omega
theorem le_sumW {l : List PP} (h : posP l) {p : PP} (hp : p ∈ l) : p.1 ≤ sumW l := by
  induction l with
  | nil => cases hp
  | cons a r ih =>
    have hr : posP r := fun q hq => h q (by simp [hq])
    have h0 := sumW_nonneg r hr
    have ha := (h a (by simp)).1
    have e : sumW (a :: r) = a.1 + sumW r := by simp [sumW]
    rcases List.mem_cons.1 hp with rfl | hp
    · omega
    · have := ih hr hp; omega
theorem le_sumS {l : List PP} {p : PP} (hp : p ∈ l) : p.2.length ≤ sumS l := by
  induction l with
  | nil => cases hp
  | cons a r ih =>
    have e : sumS (a :: r) = a.2.length + sumS r := by simp [sumS]
    rcases List.mem_cons.1 hp with rfl | hp
    · omega
    · have := ih hp; omega
theorem leaves_bd (cs : List Int) (h : cs.any badCount = false) : ∀ i, posP (leavesF cs i) ∧ sumW (leavesF cs i) ≤ cs.length * 1000000000000 ∧ sumS (leavesF cs i) = (leavesF cs i).length ∧ (leavesF cs i).length ≤ cs.length ∧ ∀ p ∈ leavesF cs i, ∀ s ∈ p.2, (i : Int) ≤ s ∧ s < ((i + cs.length : Nat) : Int) := by
  induction cs with
  | nil => intro i; exact ⟨(by intro p hp; cases hp), by simp [leavesF, sumW], by simp [leavesF, sumS], by simp [leavesF], (by intro p hp; cases hp)⟩
  | cons x r ih =>
    intro i
    rw [List.any_cons, Bool.or_eq_false_iff] at h
    obtain ⟨h1, h2, h3, h4, h5⟩ := ih h.2 (i + 1)
    have hx := h.1
    unfold badCount at hx
    rw [Bool.or_eq_false_iff, decide_eq_false_iff_not, decide_eq_false_iff_not] at hx
    rw [leavesF]
    split
    · rename_i hx0
      refine ⟨?_, ?_, ?_, ?_, ?_⟩
      · intro p hp
        rcases List.mem_cons.1 hp with rfl | hp
        · exact ⟨hx0, by simp⟩
        · exact h1 p hp
      · simp only [sumW, List.map_cons, List.sum_cons, List.length_cons] at *; omega
      · simp only [sumS, List.map_cons, List.sum_cons, List.length_cons, List.length_nil] at *; omega
      · simp only [List.length_cons]; omega
      · intro p hp s hs
        rcases List.mem_cons.1 hp with rfl | hp
        · rw [List.mem_singleton.1 hs]; simp only [List.length_cons]; omega
        · have := h5 p hp s hs; simp only [List.length_cons]; omega
    · refine ⟨h1, ?_, h3, ?_, ?_⟩
      · simp only [List.length_cons] at *; omega
      · simp only [List.length_cons]; omega
      · intro p hp s hs
        have := h5 p hp s hs; simp only [List.length_cons]; omega
/-- All symbols of packs. -/
def inR (n : Nat) (l : List PP) : Prop := ∀ p ∈ l, ∀ s ∈ p.2, 0 ≤ s ∧ s < (n : Int)
theorem pairsF_inR {n : Nat} (l : List PP) (h : inR n l) : inR n (pairsF l) := by
  induction l using pairsF.induct with
  | case1 a b r ih =>
    intro p hp s hs
    rw [pairsF] at hp
    rcases List.mem_cons.1 hp with rfl | hp
    · rcases List.mem_append.1 hs with hs | hs
      · exact h a (by simp) s hs
      · exact h b (by simp) s hs
    · exact ih (fun q hq => h q (by simp [hq])) p hp s hs
  | case2 l hl => intro p hp; rw [pairsF_short hl] at hp; cases hp
theorem level_inR {n : Nat} (lv : List PP) (h : inR n lv) : ∀ t, inR n (levelF lv t)
  | 0 => by intro p hp; cases hp
  | t + 1 => by
    intro p hp s hs
    rw [levelF] at hp
    rcases List.mem_append.1 ((sortP_perm _).mem_iff.1 hp) with hp | hp
    · exact h p hp s hs
    · exact pairsF_inR _ (level_inR lv h t) p hp s hs
theorem cntF_len (n : Nat) (S : List Int) : (cntF n S).length = n := by simp [cntF]
theorem cntF_nth (n : Nat) (S : List Int) (i : Nat) (h : i < n) : nth (cntF n S) i = (S.count (i : Int) : Int) := by
  simp [nth, cntF, List.getD, h]
theorem cntF_nil (n : Nat) : cntF n [] = List.replicate n 0 := by
  refine List.ext_getElem (by simp [cntF]) fun i h1 h2 => ?_
  simp [cntF]
theorem cntF_snoc (n : Nat) (S : List Int) (s : Nat) (h : s < n) : cntF n (S ++ [(s : Int)]) = (cntF n S).set s (nth (cntF n S) s + 1) := by
  refine List.ext_getElem (by simp [cntF]) fun i h1 h2 => ?_
  rw [List.getElem_set]
  simp only [cntF, List.getElem_map, List.getElem_range, List.count_append]
  by_cases e : s = i
  · subst e
    rw [if_pos rfl]
    have := cntF_nth n S s h
    unfold cntF at this
    rw [this]; simp
  · have hz : List.count (i : Int) [(s : Int)] = 0 := List.count_eq_zero_of_not_mem (by simp; omega)
    rw [if_neg e, hz, Nat.add_zero]
end Go.Proofs.Ytcblibefmclloaa
