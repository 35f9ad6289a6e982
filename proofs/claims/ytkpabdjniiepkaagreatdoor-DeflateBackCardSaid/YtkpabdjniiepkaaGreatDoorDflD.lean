import Derived.Test.YtkpabdjniiepkaaGreatDoorDflC
import Derived.Test.YtkpabdjniiepkaaGreatDoorDflB
import Derived.Deep.Onto
import Derived.Test.YtkpabdjniiepkaaGreatDoorDflA
import Derived.RegionTactic
import Derived.BigRegion
import Derived.ChangeAlike
import Derived.StillTailTactics
import Derived.Outline
set_option linter.unusedVariables false
set_option linter.unusedSimpArgs false
/-! Plain mathematics: limited lengths pass the check; who comes more often has no longer code. -/
namespace Go.Proofs.YtkpabdjniiepkaaGreatDoor
theorem limLens_len (cs : List Int) (t : Nat) : (limLens cs t).length = cs.length := by unfold limLens; rw [cntF_len]
theorem lim_nn (cs : List Int) (t i : Nat) (h : i < cs.length) : 0 ≤ nth (limLens cs t) i := by
  unfold limLens; exact (cnt_bd _ _ _ h).1
theorem leaf_mem' (cs : List Int) (p : PP) : p ∈ leavesF cs 0 ↔ ∃ i, i < cs.length ∧ 0 < nth cs i ∧ p = (nth cs i, [(i : Int)]) := by
  have h := leaf_mem cs cs.length (Nat.le_refl _) p
  rwa [List.take_length] at h
theorem leaf_place (cs : List Int) (i : Nat) (h : i < cs.length) (h0 : 0 < nth cs i) : ∃ q, ∃ hq : q < (sortP (leavesF cs 0)).length, (sortP (leavesF cs 0))[q] = (nth cs i, [(i : Int)]) := by
  have hm := (sortP_perm _).mem_iff.2 ((leaf_mem' cs (nth cs i, [(i : Int)])).2 ⟨i, h, h0, rfl⟩)
  obtain ⟨q, hq, e⟩ := List.getElem_of_mem hm
  exact ⟨q, hq, e⟩
theorem lim_meas (cs : List Int) (t : Nat) (ht15 : t ≤ 15) (hp : posP (leavesF cs 0)) (h2 : 2 ≤ (leavesF cs 0).length) (ht : (leavesF cs 0).length ≤ 2 ^ t) : measF (limLens cs t) = 32768 := by
  obtain ⟨E, e1, e2, e3, e4, e5⟩ := lim_at cs t hp h2 ht
  unfold measF
  rw [list_sumR part 0, limLens_len]
  have a1 : sumR cs.length (fun q => part ((limLens cs t).getD q 0)) = sumR cs.length (fun i => if 0 < nth cs i then (fun p : PP => part (nth (limLens cs t) (p.2.headD 0).toNat)) (nth cs i, [(i : Int)]) else 0) := by
    refine sumR_congr _ fun q hq => ?_
    show part (nth (limLens cs t) q) = _
    by_cases h0 : 0 < nth cs q
    · rw [if_pos h0]; simp
    · rw [if_neg h0, e4 q hq h0]; rfl
  have a2 := leaf_sum cs (fun p : PP => part (nth (limLens cs t) (p.2.headD 0).toNat)) cs.length (Nat.le_refl _)
  rw [List.take_length] at a2
  rw [a1, ← a2, ← ((sortP_perm (leavesF cs 0)).map _).sum_nat, list_sumR _ (0, [])]
  have a3 : sumR (sortP (leavesF cs 0)).length (fun q => part (nth (limLens cs t) (((sortP (leavesF cs 0)).getD q (0, [])).2.headD 0).toNat)) = sumR (sortP (leavesF cs 0)).length (fun q => 2 ^ (15 - t) * 2 ^ (t - ell E q)) := by
    refine sumR_congr _ fun q hq => ?_
    have hm : (sortP (leavesF cs 0))[q] ∈ leavesF cs 0 := (sortP_perm _).mem_iff.1 (List.getElem_mem hq)
    obtain ⟨i, h1, h3, h4⟩ := (leaf_mem' cs _).1 hm
    have hd : (sortP (leavesF cs 0)).getD q (0, []) = (nth cs i, [(i : Int)]) := by rw [← h4]; simp [List.getD, hq]
    rw [hd]
    simp only [List.headD_cons, Int.toNat_natCast]
    rw [e5 q hq i h4 h1]
    have hl := ell_le E q
    have hge := e2 q (by rwa [sortP_len] at hq)
    unfold part
    rw [if_pos (by omega), ← Nat.pow_add]
    congr 1; omega
  rw [a3, sumR_mul, sortP_len, e3, ← Nat.pow_add, show 15 - t + t = 15 by omega]
theorem lim_ok (cs : List Int) (t : Nat) (ht15 : t ≤ 15) (hp : posP (leavesF cs 0)) (h2 : 2 ≤ (leavesF cs 0).length) (ht : (leavesF cs 0).length ≤ 2 ^ t) (i : Nat) (hi : i < cs.length) :
    (0 < nth (limLens cs t) i ↔ 0 < nth cs i) ∧ nth (limLens cs t) i ≤ t := by
  obtain ⟨E, e1, e2, e3, e4, e5⟩ := lim_at cs t hp h2 ht
  by_cases h0 : 0 < nth cs i
  · obtain ⟨q, hq, e⟩ := leaf_place cs i hi h0
    have hl := ell_le E q
    have hge := e2 q (by rwa [sortP_len] at hq)
    rw [e5 q hq i e hi]
    exact ⟨⟨fun _ => h0, fun _ => by omega⟩, by omega⟩
  · rw [e4 i hi h0]
    exact ⟨⟨fun h => by omega, fun h => absurd h h0⟩, by omega⟩
theorem all_nth (l : List Int) (h : ∀ i, i < l.length → okLen (nth l i) = true) : l.all okLen = true := by
  rw [List.all_eq_true]
  intro x hx
  obtain ⟨i, hi, rfl⟩ := List.getElem_of_mem hx
  have := h i hi
  rwa [nth_lt hi] at this
theorem lim_check (cs : List Int) (t : Nat) (ht15 : t ≤ 15) (h1 : 1 ≤ cs.length) (h288 : cs.length ≤ 288) (hp : posP (leavesF cs 0)) (h2 : 2 ≤ (leavesF cs 0).length) (ht : (leavesF cs 0).length ≤ 2 ^ t) : checkF (limLens cs t) = 0 := by
  unfold checkF
  rw [limLens_len, if_neg (by omega), all_nth (limLens cs t) (fun i hi => by
    rw [limLens_len] at hi
    have a := lim_nn cs t i hi
    have b := (lim_ok cs t ht15 hp h2 ht i hi).2
    unfold okLen
    simp only [Bool.and_eq_true, decide_eq_true_eq]
    omega), if_neg (by simp), lim_meas cs t ht15 hp h2 ht]
  rfl
/-- Who comes more often has no longer code. -/
theorem lim_fair (cs : List Int) (t : Nat) (hp : posP (leavesF cs 0)) (h2 : 2 ≤ (leavesF cs 0).length) (ht : (leavesF cs 0).length ≤ 2 ^ t) (i k : Nat) (hi : i < cs.length) (hk : k < cs.length) (h0 : 0 < nth cs i) (h : nth cs i < nth cs k) :
    nth (limLens cs t) k ≤ nth (limLens cs t) i := by
  obtain ⟨E, e1, e2, e3, e4, e5⟩ := lim_at cs t hp h2 ht
  obtain ⟨q, hq, e⟩ := leaf_place cs i hi h0
  obtain ⟨r, hr, e'⟩ := leaf_place cs k hk (by omega)
  rw [e5 q hq i e hi, e5 r hr k e' hk]
  have hqr : q ≤ r := by
    rcases Nat.lt_or_ge r q with hlt | hge
    · exfalso
      have := (List.pairwise_iff_getElem.1 (show Srt Prod.fst (sortP (leavesF cs 0)) from sortW_srt _ _)) r q hr hq hlt
      rw [e', e] at this
      simp only [] at this; omega
    · exact hge
  have := ell_anti E q r hqr
  omega
/-- One symbol alone. -/
theorem lim_one (cs : List Int) (t : Nat) (h : (leavesF cs 0).length = 1) : ∃ s, s < cs.length ∧ 0 < nth cs s ∧ (∀ i, i < cs.length → 0 < nth cs i → i = s) ∧ ∀ i, i < cs.length → nth (limLens cs t) i = if i = s then 1 else 0 := by
  obtain ⟨p, hp⟩ := List.length_eq_one_iff.1 h
  obtain ⟨s, h1, h2, h3⟩ := (leaf_mem' cs p).1 (by rw [hp]; simp)
  refine ⟨s, h1, h2, fun i hi h0 => ?_, fun i hi => ?_⟩
  · have := (leaf_mem' cs _).2 ⟨i, hi, h0, rfl⟩
    rw [hp, List.mem_singleton, h3] at this
    have := congrArg Prod.snd this
    simp at this; omega
  · unfold limLens
    rw [if_pos (by omega), hp, cntF_nth _ _ _ hi, h3]
    simp only [List.flatMap_cons, List.flatMap_nil, List.append_nil, List.count_cons, List.count_nil]
    by_cases e : i = s
    · subst e; simp
    · rw [if_neg e, if_neg (by simp; omega)]; rfl
theorem lim_none (cs : List Int) (t : Nat) (h : (leavesF cs 0).length = 0) (i : Nat) (hi : i < cs.length) : nth (limLens cs t) i = 0 ∧ ¬ 0 < nth cs i := by
  have he := List.length_eq_zero_iff.1 h
  constructor
  · unfold limLens
    rw [if_pos (by omega), he, cntF_nth _ _ _ hi]; rfl
  · intro h0
    have := (leaf_mem' cs _).2 ⟨i, hi, h0, rfl⟩
    rw [he] at this; simp at this
theorem lim_check1 (cs : List Int) (t : Nat) (h1 : 1 ≤ cs.length) (h288 : cs.length ≤ 288) (h : (leavesF cs 0).length = 1) : checkF (limLens cs t) = 0 := by
  obtain ⟨s, a, b, c, d⟩ := lim_one cs t h
  have hl := limLens_len cs t
  generalize limLens cs t = l at *
  have key : ∀ k, k ≤ l.length → usedF (l.take k) = (if s < k then 1 else 0) ∧ measF (l.take k) = (if s < k then 16384 else 0) := by
    intro k
    induction k with
    | zero => intro _; simp [usedF, measF]
    | succ k ih =>
      intro hk
      obtain ⟨i1, i2⟩ := ih (by omega)
      rw [usedF_snoc l k (by omega), measF_snoc l k (by omega), i1, i2, d k (by omega)]
      have p1 : part 1 = 16384 := rfl
      have p0 : part 0 = 0 := rfl
      by_cases e : k = s
      · subst e; simp [p1]
      · rw [if_neg e]
        by_cases e2 : s < k
        · simp [p0, e2, show s < k + 1 by omega]
        · simp [p0, e2, show ¬ s < k + 1 by omega]
  obtain ⟨k1, k2⟩ := key l.length (Nat.le_refl _)
  rw [List.take_length, if_pos (by omega)] at k1 k2
  unfold checkF
  rw [hl, if_neg (by omega), all_nth l (fun i hi => by
    rw [d i (by omega)]
    split <;> decide), if_neg (by simp), k1, k2]
  rfl
end Go.Proofs.YtkpabdjniiepkaaGreatDoor

set_option linter.unusedVariables false
set_option linter.unusedSimpArgs false
/-! Plain mathematics: the reference's least sum is what the lengths cost. -/
namespace Go.Proofs.YtkpabdjniiepkaaGreatDoor
/-- A rising list with one more. -/
def withF (x : Int) (l : List Int) : List Int := insW id x l
def pairSum : List Int → List Int
  | a :: b :: r => (a + b) :: pairSum r
  | _ => []
def leastLv (lv : List Int) : Nat → List Int
  | 0 => []
  | t + 1 => sortW id (pairSum (leastLv lv t)) lv
def posL (cs : List Int) : List Int := cs.filter fun x => decide (0 < x)
def leavesS (cs : List Int) : List Int := sortW id (posL cs) []
def leastF (cs : List Int) (t : Nat) : Int := ((leastLv (leavesS cs) t).take (2 * (leavesS cs).length - 2)).sum
theorem sortW_snoc {α : Type} (f : α → Int) (l : List α) (x : α) : ∀ acc, sortW f (l ++ [x]) acc = insW f x (sortW f l acc) := by
  induction l with
  | nil => intro acc; rfl
  | cons p r ih => intro acc; rw [List.cons_append, sortW, ih, sortW]
theorem srt_ints_eq {r l : List Int} (hr : Srt id r) (hl : Srt id l) (h : r.Perm l) : r = l := by
  refine Srt_eq id hr hl ⟨h, fun v => ?_⟩
  have e : ∀ x : List Int, x.filter (fun p => decide (id p = v)) = List.replicate (x.count v) v := fun x => by
    have : (fun p : Int => decide (id p = v)) = fun p => p == v := funext fun p => rfl
    rw [this, List.filter_beq]
  rw [e, e, h.count_eq]
theorem pairSum_map (X : List PP) : (pairsF X).map Prod.fst = pairSum (X.map Prod.fst) := by
  induction X using pairsF.induct with
  | case1 a b r ih => rw [pairsF, List.map_cons, ih, List.map_cons, List.map_cons, pairSum]
  | case2 l hl =>
    rw [pairsF_short hl]
    match l, hl with
    | [], _ => rfl
    | [x], _ => rfl
    | a :: b :: r, h => exact absurd rfl (h a b r)
theorem srt_map {l : List PP} (h : Srt Prod.fst l) : Srt id (l.map Prod.fst) := List.pairwise_map.2 h
theorem least_map {lv : List PP} (hs : Srt Prod.fst lv) : ∀ t, (levelF lv t).map Prod.fst = leastLv (lv.map Prod.fst) t
  | 0 => rfl
  | t + 1 => by
    have ih := least_map hs t
    rw [leastLv, ← ih, ← pairSum_map]
    have h1 := sortW_spec id ((pairsF (levelF lv t)).map Prod.fst) (lv.map Prod.fst) (srt_map hs)
    refine srt_ints_eq (srt_map (level_srt lv (t + 1))) h1.1 ?_
    refine ((sortP_perm _).map Prod.fst).trans ?_
    rw [List.map_append]
    exact h1.2.1.symm
theorem leaves_fst (cs : List Int) : ∀ i, (leavesF cs i).map Prod.fst = posL cs := by
  induction cs with
  | nil => intro i; rfl
  | cons x r ih =>
    intro i
    rw [leavesF]
    unfold posL at *
    by_cases h : 0 < x
    · rw [if_pos h, List.filter_cons_of_pos (by simpa using h), List.map_cons, ih]
    · rw [if_neg h, List.filter_cons_of_neg (by simpa using h), ih]
theorem leavesS_map (cs : List Int) : (sortP (leavesF cs 0)).map Prod.fst = leavesS cs := by
  have h1 := sortW_spec id (posL cs) [] List.Pairwise.nil
  refine srt_ints_eq (srt_map (sortW_srt _ _)) h1.1 ?_
  refine ((sortP_perm _).map Prod.fst).trans ?_
  rw [leaves_fst]
  have := h1.2.1.symm
  rwa [List.nil_append] at this
theorem leavesS_len (cs : List Int) : (leavesS cs).length = (leavesF cs 0).length := by
  rw [← leavesS_map, List.length_map, sortP_len]
/-! What a package weighs is the sum of its symbols' counts. -/
def sumI : Nat → (Nat → Int) → Int
  | 0, _ => 0
  | n + 1, g => sumI n g + g n
theorem sumI_congr {g h : Nat → Int} : ∀ n, (∀ q, q < n → g q = h q) → sumI n g = sumI n h
  | 0, _ => rfl
  | n + 1, e => by rw [sumI, sumI, sumI_congr n (fun q hq => e q (by omega)), e n (by omega)]
theorem sumI_add (g h : Nat → Int) : ∀ n, sumI n (fun q => g q + h q) = sumI n g + sumI n h
  | 0 => rfl
  | n + 1 => by rw [sumI, sumI, sumI, sumI_add g h n]; omega
theorem sumI_one (x : Int) (s : Nat) : ∀ n, sumI n (fun q => if q = s then x else 0) = if s < n then x else 0
  | 0 => rfl
  | n + 1 => by
    rw [sumI, sumI_one x s n]
    by_cases h : n = s
    · subst h; rw [if_neg (Nat.lt_irrefl _), if_pos rfl, if_pos (by omega)]; omega
    · rw [if_neg h]
      by_cases h2 : s < n
      · rw [if_pos h2, if_pos (by omega)]; omega
      · rw [if_neg h2, if_neg (by omega)]; rfl
def cw (cs : List Int) (s : Int) : Int := nth cs s.toNat
def Good (cs : List Int) (l : List PP) : Prop := ∀ p ∈ l, p.1 = (p.2.map (cw cs)).sum
theorem good_perm {cs : List Int} {a b : List PP} (h : a.Perm b) (hb : Good cs b) : Good cs a := fun p hp => hb p (h.mem_iff.1 hp)
theorem good_pairs (cs : List Int) (l : List PP) (h : Good cs l) : Good cs (pairsF l) := by
  induction l using pairsF.induct with
  | case1 a b r ih =>
    intro p hp
    rw [pairsF] at hp
    rcases List.mem_cons.1 hp with rfl | hp
    · simp only [List.map_append, List.sum_append]
      rw [h a (by simp), h b (by simp)]
    · exact ih (fun q hq => h q (by simp [hq])) p hp
  | case2 l hl => rw [pairsF_short hl]; intro p hp; simp at hp
theorem good_level {cs : List Int} {lv : List PP} (h : Good cs lv) : ∀ t, Good cs (levelF lv t)
  | 0 => fun p hp => by simp [levelF] at hp
  | t + 1 => good_perm (sortP_perm _) (fun p hp => by
    rcases List.mem_append.1 hp with hp | hp
    · exact h p hp
    · exact good_pairs cs _ (good_level h t) p hp)
theorem good_leaves (cs : List Int) : Good cs (leavesF cs 0) := fun p hp => by
  obtain ⟨i, _, _, rfl⟩ := (leaf_mem' cs p).1 hp
  simp [cw]
theorem good_sum {cs : List Int} {l : List PP} (h : Good cs l) : (l.map Prod.fst).sum = ((l.flatMap Prod.snd).map (cw cs)).sum := by
  induction l with
  | nil => rfl
  | cons p r ih =>
    rw [List.map_cons, List.sum_cons, List.flatMap_cons, List.map_append, List.sum_append, ih (fun q hq => h q (by simp [hq])), h p (by simp)]
theorem cost_sum (cs : List Int) (N : Nat) : ∀ S : List Int, (∀ s ∈ S, 0 ≤ s ∧ s < N) → sumI N (fun i => nth cs i * (S.count (i : Int) : Int)) = (S.map (cw cs)).sum
  | [], _ => by
    rw [sumI_congr N (h := fun q => if q = N then 0 else 0) (fun q _ => by simp), sumI_one]; simp
  | s :: S, h => by
    have ih := cost_sum cs N S (fun x hx => h x (by simp [hx]))
    obtain ⟨h0, h1⟩ := h s (by simp)
    obtain ⟨k, rfl⟩ := Int.eq_ofNat_of_zero_le h0
    rw [List.map_cons, List.sum_cons, ← ih]
    have e : sumI N (fun i => nth cs i * (List.count (i : Int) ((k : Int) :: S) : Int)) = sumI N (fun i => (if i = k then nth cs k else 0) + nth cs i * (S.count (i : Int) : Int)) := by
      refine sumI_congr N fun q hq => ?_
      rw [List.count_cons]
      by_cases hk : q = k
      · subst hk; simp [Int.mul_add]; omega
      · rw [if_neg hk, if_neg (by simp; omega)]; simp
    rw [e, sumI_add, sumI_one, if_pos (by omega)]
    simp [cw]
/-- What the lengths cost is the least sum. -/
theorem lim_cost (cs : List Int) (t : Nat) (h2 : 2 ≤ (leavesF cs 0).length) (hin : inR cs.length (sortP (leavesF cs 0))) : sumI cs.length (fun i => nth cs i * nth (limLens cs t) i) = leastF cs t := by
  have hS : limLens cs t = cntF cs.length (((levelF (sortP (leavesF cs 0)) t).take (2 * (leavesF cs 0).length - 2)).flatMap Prod.snd) := by
    unfold limLens; rw [if_neg (by omega)]
  have hsrt : Srt Prod.fst (sortP (leavesF cs 0)) := sortW_srt _ _
  rw [hS, sumI_congr cs.length (fun q hq => by rw [cntF_nth _ _ _ hq]), cost_sum cs cs.length _ (fun s hs => by
    obtain ⟨p, hp, hs⟩ := List.mem_flatMap.1 hs
    exact level_inR _ hin t p (List.mem_of_mem_take hp) s hs), ← good_sum (fun p hp => good_level (good_perm (sortP_perm _) (good_leaves cs)) t p (List.mem_of_mem_take hp)), List.map_take, least_map hsrt, leavesS_map]
  unfold leastF
  rw [leavesS_len]
end Go.Proofs.YtkpabdjniiepkaaGreatDoor

set_option linter.unusedVariables false
set_option linter.unusedSimpArgs false
/-! Plain mathematics: what a limit that is granted gives. -/
namespace Go.Proofs.YtkpabdjniiepkaaGreatDoor
theorem used_leaves (cs : List Int) : (leavesF cs 0).length = usedF cs := by
  rw [← List.length_map (f := Prod.fst), leaves_fst]; rfl
theorem limF_ok {cs : List Int} {most : Int} (h : (limF cs most).2 = 0) : ∃ t : Nat, most = t ∧ 1 ≤ t ∧ t ≤ 15 ∧ 1 ≤ cs.length ∧ cs.length ≤ 288 ∧ cs.any badCount = false ∧ (leavesF cs 0).length ≤ 2 ^ t ∧ limF cs most = (limLens cs t, 0) := by
  unfold limF at h ⊢
  by_cases h1 : cs.length = 0 ∨ 288 < cs.length ∨ most < 1 ∨ 15 < most
  · rw [if_pos h1] at h; simp at h
  rw [if_neg h1] at h ⊢
  by_cases h2 : cs.any badCount = true
  · rw [if_pos h2] at h; simp at h
  rw [if_neg h2] at h ⊢
  by_cases h3 : 2 ^ most.toNat < (leavesF cs 0).length
  · rw [if_pos h3] at h; simp at h
  rw [if_neg h3]
  exact ⟨most.toNat, by omega, by omega, by omega, by omega, by omega, by simpa using h2, by omega, rfl⟩
theorem limF_bad {cs : List Int} {most : Int} (h : (limF cs most).2 ≠ 0) : (limF cs most).1 = [] := by
  unfold limF at h ⊢
  split
  · rfl
  · next h1 =>
    rw [if_neg h1] at h
    split
    · rfl
    · next h2 =>
      rw [if_neg h2] at h
      split
      · rfl
      · next h3 => rw [if_neg h3] at h; exact absurd rfl h
theorem fair_all (cs : List Int) (t : Nat) (hb : cs.any badCount = false) (ht : (leavesF cs 0).length ≤ 2 ^ t) (i k : Nat) (hi : i < cs.length) (hk : k < cs.length) (h0 : 0 < nth cs i) (h : nth cs i < nth cs k) :
    nth (limLens cs t) k ≤ nth (limLens cs t) i := by
  have hp := (leaves_bd cs hb 0).1
  by_cases h2 : 2 ≤ (leavesF cs 0).length
  · exact lim_fair cs t hp h2 ht i k hi hk h0 h
  · exfalso
    by_cases h1 : (leavesF cs 0).length = 1
    · obtain ⟨s, _, _, c, _⟩ := lim_one cs t h1
      have := c i hi h0
      have := c k hk (by omega)
      subst_vars; omega
    · exact (lim_none cs t (by omega) i hi).2 h0
theorem check_all (cs : List Int) (t : Nat) (h15 : t ≤ 15) (h1 : 1 ≤ cs.length) (h288 : cs.length ≤ 288) (hb : cs.any badCount = false) (ht : (leavesF cs 0).length ≤ 2 ^ t) (hu : usedF cs ≠ 0) : checkF (limLens cs t) = 0 := by
  rw [← used_leaves] at hu
  have hp := (leaves_bd cs hb 0).1
  by_cases h2 : 2 ≤ (leavesF cs 0).length
  · exact lim_check cs t h15 h1 h288 hp h2 ht
  · exact lim_check1 cs t h1 h288 (by omega)
end Go.Proofs.YtkpabdjniiepkaaGreatDoor

set_option linter.unusedVariables false
set_option linter.unusedSimpArgs false
/-! Plain mathematics: each limited length, and what all cost. -/
namespace Go.Proofs.YtkpabdjniiepkaaGreatDoor
theorem nth_nn_of_ok {cs : List Int} (hb : cs.any badCount = false) (i : Nat) (hi : i < cs.length) : 0 ≤ nth cs i ∧ nth cs i ≤ 1000000000000 := by
  have := List.any_eq_false.1 hb (nth cs i) (by rw [nth_lt hi]; exact List.getElem_mem _)
  unfold badCount at this
  simp at this
  omega
theorem lim_each (cs : List Int) (t : Nat) (h1 : 1 ≤ t) (h15 : t ≤ 15) (hb : cs.any badCount = false) (ht : (leavesF cs 0).length ≤ 2 ^ t) (i : Nat) (hi : i < cs.length) :
    (0 < nth (limLens cs t) i ↔ 0 < nth cs i) ∧ 0 ≤ nth (limLens cs t) i ∧ nth (limLens cs t) i ≤ t := by
  have hp := (leaves_bd cs hb 0).1
  have hnn := lim_nn cs t i hi
  by_cases h2 : 2 ≤ (leavesF cs 0).length
  · have := lim_ok cs t h15 hp h2 ht i hi
    exact ⟨this.1, hnn, this.2⟩
  · by_cases h3 : (leavesF cs 0).length = 1
    · obtain ⟨s, _, b, c, d⟩ := lim_one cs t h3
      rw [d i hi]
      by_cases e : i = s
      · subst e; rw [if_pos rfl]; exact ⟨⟨fun _ => b, fun _ => by omega⟩, by omega, by omega⟩
      · rw [if_neg e]; exact ⟨⟨fun h => by omega, fun h => absurd (c i hi h) e⟩, by omega, by omega⟩
    · have := lim_none cs t (by omega) i hi
      rw [this.1]; exact ⟨⟨fun h => by omega, fun h => absurd h this.2⟩, by omega, by omega⟩
theorem used_same (l cs : List Int) (hl : l.length = cs.length) (h : ∀ i, i < cs.length → (0 < nth l i ↔ 0 < nth cs i)) : usedF l = usedF cs := by
  have key : ∀ k, k ≤ cs.length → usedF (l.take k) = usedF (cs.take k) := by
    intro k
    induction k with
    | zero => intro _; rfl
    | succ k ih =>
      intro hk
      rw [usedF_snoc l k (by omega), usedF_snoc cs k (by omega), ih (by omega)]
      by_cases h0 : 0 < nth cs k
      · rw [if_pos h0, if_pos ((h k (by omega)).2 h0)]
      · rw [if_neg h0, if_neg (fun x => h0 ((h k (by omega)).1 x))]
  have := key cs.length (Nat.le_refl _)
  rwa [← hl, List.take_length, hl, List.take_length] at this
theorem lim_le1 (cs : List Int) (t : Nat) (hu : usedF cs = 1) (i : Nat) (hi : i < cs.length) : nth (limLens cs t) i ≤ 1 := by
  obtain ⟨s, _, _, _, d⟩ := lim_one cs t (by rw [used_leaves]; exact hu)
  rw [d i hi]; split <;> omega
theorem lim_two (cs : List Int) (t : Nat) (h1 : 1 ≤ cs.length) (h288 : cs.length ≤ 288) (h15 : t ≤ 15) (hb : cs.any badCount = false) (ht : (leavesF cs 0).length ≤ 2 ^ t) (hu : 2 ≤ usedF cs) :
    checkF (limLens cs t) = 0 ∧ sumI cs.length (fun i => nth cs i * nth (limLens cs t) i) = leastF cs t := by
  refine ⟨check_all cs t h15 h1 h288 hb ht (by omega), lim_cost cs t (by rw [used_leaves]; exact hu) (fun p hp s hs => ?_)⟩
  have := (leaves_bd cs hb 0).2.2.2.2 p ((sortP_perm _).mem_iff.1 hp) s hs
  simpa using this
/-- Running costs stay small. -/
theorem cost_bd (cs l : List Int) (hb : ∀ i, i < cs.length → 0 ≤ nth cs i ∧ nth cs i ≤ 1000000000000) (hl : ∀ i, i < cs.length → 0 ≤ nth l i ∧ nth l i ≤ 15) : ∀ k, k ≤ cs.length → 0 ≤ sumI k (fun i => nth cs i * nth l i) ∧ sumI k (fun i => nth cs i * nth l i) ≤ k * 15000000000000
  | 0, _ => by simp [sumI]
  | k + 1, h => by
    have ih := cost_bd cs l hb hl k (by omega)
    obtain ⟨a0, a1⟩ := hb k (by omega)
    obtain ⟨b0, b1⟩ := hl k (by omega)
    have c0 : 0 ≤ nth cs k * nth l k := Int.mul_nonneg a0 b0
    have c1 : nth cs k * nth l k ≤ 1000000000000 * 15 := Int.mul_le_mul a1 b1 b0 (by omega)
    rw [sumI]; omega
theorem prod_bd {p q : Int} (a0 : 0 ≤ p) (a1 : p ≤ 1000000000000) (b0 : 0 ≤ q) (b1 : q ≤ 15) : 0 ≤ p * q ∧ p * q ≤ 15000000000000 :=
  ⟨Int.mul_nonneg a0 b0, Int.mul_le_mul a1 b1 b0 (by omega)⟩
end Go.Proofs.YtkpabdjniiepkaaGreatDoor

/- What is packed is unpacked as the same: plain lists. -/
set_option linter.unusedVariables false
set_option linter.unusedSimpArgs false
namespace Go.Proofs.YtkpabdjniiepkaaGreatDoor
theorem last_rep (l : List Int) (v : Int) (k : Nat) (h : 1 ≤ k) : (l ++ List.replicate k v).getD ((l ++ List.replicate k v).length - 1) 0 = v := by
  rw [List.getD_eq_getElem?_getD, List.getElem?_append_right (by simp; omega), List.getElem?_replicate]
  rw [if_pos (by simp; omega)]; rfl
/-- A list with what many steps say, or nothing. -/
def more (l : List Int) (k : Nat) (v : Int) (r : List (Int × Int)) (m : Int) : Option (List Int) :=
  if ((l.length + k : Nat) : Int) ≤ m then unpackTo (l ++ List.replicate k v) r m else none
theorem more_zero (l : List Int) (v : Int) (r : List (Int × Int)) (m : Int) (h : (l.length : Int) ≤ m) : more l 0 v r m = unpackTo l r m := by
  rw [more, if_pos (by simpa using h)]; simp
theorem unpackTo_one {l : List Int} {s e v m : Int} {k : Nat} {r : List (Int × Int)} (h : sayF l s e = some (v, k)) : unpackTo l ((s, e) :: r) m = more l k v r m := by
  rw [more]
  by_cases hm : ((l.length + k : Nat) : Int) ≤ m
  · rw [if_pos hm]; exact unpackTo_cons (addF_some h hm)
  · rw [if_neg hm]; exact unpackTo_stop (addF_many h (by omega))
theorem more_more {l : List Int} {j k : Nat} {v m : Int} {r : List (Int × Int)} : (if ((l.length + j : Nat) : Int) ≤ m then more (l ++ List.replicate j v) k v r m else none) = more l (j + k) v r m := by
  simp only [more, List.length_append, List.length_replicate, List.append_assoc, List.replicate_append_replicate]
  by_cases h : ((l.length + (j + k) : Nat) : Int) ≤ m
  · rw [if_pos (by omega), if_pos (by omega), if_pos h]
  · rw [if_neg h]
    split
    · rw [if_neg (by omega)]
    · rfl
/-- Steps that say a value many times. -/
theorem unpack_reps (fr sym top : Nat) (v : Int) (P : List Int → Prop) (h0 : 0 < fr) (h1 : fr ≤ top) (hP : ∀ l k, P l → P (l ++ List.replicate k v))
    (hs : ∀ l k, P l → fr ≤ k → k ≤ top → sayF l sym ((k : Int) - fr) = some (v, k)) (n : Nat) :
    ∀ l r m, P l → (l.length : Int) ≤ m → unpackTo l (reps fr sym top n ++ r) m = more l (n - left fr top n) v r m := by
  induction n using Nat.strongRecOn with
  | _ n ih =>
    intro l r m hp hm
    have hle := reps_len fr sym top n h0 (by omega)
    by_cases h : fr ≤ n
    · rw [reps_ge h0 (by omega) h, left_ge h0 (by omega) h, List.cons_append]
      have hsy := hs l (min n top) hp (by omega) (by omega)
      rw [unpackTo_one hsy, more]
      have hle2 := reps_len fr sym top (n - min n top) h0 (by omega)
      rw [show n - left fr top (n - min n top) = min n top + (n - min n top - left fr top (n - min n top)) by omega, ← more_more]
      by_cases hm2 : ((l.length + min n top : Nat) : Int) ≤ m
      · rw [if_pos hm2, if_pos hm2]
        exact ih _ (by omega) _ r m (hP _ _ hp) (by rw [List.length_append, List.length_replicate]; exact hm2)
      · rw [if_neg hm2, if_neg hm2]
    · rw [reps_lt (by omega), left_lt (by omega), Nat.sub_self, more_zero _ _ _ _ hm]; rfl
theorem unpack_lits (v : Int) (h0 : 0 ≤ v) (h15 : v ≤ 15) (n : Nat) : ∀ l r m, (l.length : Int) ≤ m → unpackTo l (List.replicate n (v, (0 : Int)) ++ r) m = more l n v r m := by
  induction n with
  | zero => intro l r m hm; rw [more_zero _ _ _ _ hm]; rfl
  | succ n ih =>
    intro l r m hm
    rw [List.replicate_succ, List.cons_append, unpackTo_one (sayF_lit h0 h15), more, Nat.add_comm n 1, ← more_more]
    by_cases hm2 : ((l.length + 1 : Nat) : Int) ≤ m
    · rw [if_pos hm2, if_pos hm2]
      exact ih _ r m (by rw [List.length_append, List.length_replicate]; exact hm2)
    · rw [if_neg hm2, if_neg hm2]
theorem more_then {l : List Int} {j k : Nat} {v m : Int} {r : List (Int × Int)} {X : List Int → Option (List Int)} (hX : ∀ l', (l'.length : Int) ≤ m → X l' = more l' k v r m) :
    (if ((l.length + j : Nat) : Int) ≤ m then X (l ++ List.replicate j v) else none) = more l (j + k) v r m := by
  rw [← more_more]
  by_cases h : ((l.length + j : Nat) : Int) ≤ m
  · rw [if_pos h, if_pos h]; exact hX _ (by rw [List.length_append, List.length_replicate]; exact h)
  · rw [if_neg h, if_neg h]
theorem unpack_z (n : Nat) (l : List Int) (r : List (Int × Int)) (m : Int) (hm : (l.length : Int) ≤ m) : unpackTo l (zsteps n ++ r) m = more l n 0 r m := by
  have h18 := unpack_reps 11 18 138 0 (fun _ => True) (by omega) (by omega) (fun _ _ _ => trivial) (fun l k _ h1 h2 => by
    rw [show ((18 : Nat) : Int) = 18 from rfl, sayF_18 (by omega) (by omega)]; congr 2; omega) n
  have h17 := fun n' => unpack_reps 3 17 10 0 (fun _ => True) (by omega) (by omega) (fun _ _ _ => trivial) (fun l k _ h1 h2 => by
    rw [show ((17 : Nat) : Int) = 17 from rfl, sayF_17 (by omega) (by omega)]; congr 2; omega) n'
  have l1 := reps_len 11 18 138 n (by omega) (by omega)
  have l2 := reps_len 3 17 10 (left 11 138 n) (by omega) (by omega)
  rw [zsteps, List.append_assoc, List.append_assoc, h18 l _ m trivial hm, more]
  rw [more_then (k := left 11 138 n) (r := r) (X := fun l' => unpackTo l' (reps 3 17 10 (left 11 138 n) ++ (List.replicate (left 3 10 (left 11 138 n)) (0, 0) ++ r)) m)]
  · rw [show n - left 11 138 n + left 11 138 n = n by omega]
  · intro l' hl'
    show unpackTo l' _ m = _
    rw [h17 _ l' _ m trivial hl', more]
    rw [more_then (k := left 3 10 (left 11 138 n)) (r := r) (X := fun l' => unpackTo l' (List.replicate (left 3 10 (left 11 138 n)) (0, 0) ++ r) m) (fun l'' h => unpack_lits 0 (by omega) (by omega) _ l'' r m h)]
    rw [show left 11 138 n - left 3 10 (left 11 138 n) + left 3 10 (left 11 138 n) = left 11 138 n by omega]
theorem unpack_v (v : Int) (h0 : 0 ≤ v) (h15 : v ≤ 15) (n : Nat) (hn : 1 ≤ n) (l : List Int) (r : List (Int × Int)) (m : Int) (hm : (l.length : Int) ≤ m) : unpackTo l (vsteps v n ++ r) m = more l n v r m := by
  have h16 := unpack_reps 3 16 6 v (fun l => l ≠ [] ∧ l.getD (l.length - 1) 0 = v) (by omega) (by omega) (fun l k hp => by
      rcases Nat.eq_zero_or_pos k with rfl | hk
      · simpa using hp
      · exact ⟨by simp [hp.1], last_rep l v k hk⟩)
    (fun l k hp h1 h2 => by
      rw [show ((16 : Nat) : Int) = 16 from rfl, sayF_16 (by omega) (by omega) hp.1, hp.2]; congr 2; omega) (n - 1)
  have l1 := reps_len 3 16 6 (n - 1) (by omega) (by omega)
  rw [vsteps, List.cons_append, unpackTo_one (sayF_lit h0 h15), more]
  by_cases hm2 : ((l.length + 1 : Nat) : Int) ≤ m
  · rw [if_pos hm2, List.append_assoc]
    rw [h16 (l ++ List.replicate 1 v) _ m ⟨by simp, last_rep l v 1 (by omega)⟩ (by rw [List.length_append, List.length_replicate]; exact hm2), more]
    rw [more_then (k := left 3 6 (n - 1)) (r := r) (X := fun l' => unpackTo l' (List.replicate (left 3 6 (n - 1)) (v, 0) ++ r) m) (fun l'' h => unpack_lits v h0 h15 _ l'' r m h)]
    rw [show n - 1 - left 3 6 (n - 1) + left 3 6 (n - 1) = n - 1 by omega]
    have := more_more (l := l) (j := 1) (k := n - 1) (v := v) (m := m) (r := r)
    rw [if_pos hm2] at this
    rw [this, show 1 + (n - 1) = n by omega]
  · rw [if_neg hm2, more, if_neg (by omega)]
theorem unpack_r (v : Int) (h0 : 0 ≤ v) (h15 : v ≤ 15) (n : Nat) (hn : 1 ≤ n) (l : List Int) (r : List (Int × Int)) (m : Int) (hm : (l.length : Int) ≤ m) : unpackTo l (rsteps v n ++ r) m = more l n v r m := by
  unfold rsteps
  split
  · rename_i h; subst h; exact unpack_z n l r m hm
  · exact unpack_v v h0 h15 n hn l r m hm
theorem run_split (v : Int) (r : List Int) : v :: r = List.replicate (runN v (v :: r)) v ++ (v :: r).drop (runN v (v :: r)) := by
  have h := runN_get v (v :: r)
  have hl := runN_le v (v :: r)
  have e : (v :: r).take (runN v (v :: r)) = List.replicate (runN v (v :: r)) v := by
    refine List.ext_getElem (by rw [List.length_take, List.length_replicate]; omega) fun i h1 h2 => ?_
    have hi : i < runN v (v :: r) := by simpa using h2
    have := h i hi
    rw [List.getD_eq_getElem?_getD, List.getElem?_eq_getElem (by omega)] at this
    simpa using this
  rw [← e, List.take_append_drop]
theorem unpack_pack (xs : List Int) : ∀ (l : List Int) (m : Int), (∀ x ∈ xs, 0 ≤ x ∧ x ≤ 15) → (l.length : Int) ≤ m →
    unpackTo l (packF xs) m = if ((l.length + xs.length : Nat) : Int) ≤ m then some (l ++ xs) else none := by
  induction h : xs.length using Nat.strongRecOn generalizing xs with
  | _ n ih =>
    intro l m hx hm
    match xs, h with
    | [], h =>
      simp at h; subst h
      rw [packF_nil, unpackTo, if_pos (by simpa using hm)]; simp
    | v :: r, h =>
      have h1 := runN_head v r
      have h2 := runN_le v (v :: r)
      have hv := hx v (by simp)
      have hsp := run_split v r
      have hlen : ((v :: r).drop (runN v (v :: r))).length = n - runN v (v :: r) := by rw [List.length_drop, h]
      rw [packF, unpack_r v hv.1 hv.2 _ h1 l _ m hm, more]
      by_cases hm2 : ((l.length + runN v (v :: r) : Nat) : Int) ≤ m
      · rw [if_pos hm2, ih _ (by omega) _ hlen _ m (fun x hx' => hx x (List.mem_of_mem_drop hx')) (by rw [List.length_append, List.length_replicate]; exact hm2)]
        rw [List.length_append, List.length_replicate, List.append_assoc, ← hsp]
        by_cases hm3 : ((l.length + n : Nat) : Int) ≤ m
        · rw [if_pos (by omega), if_pos hm3]
        · rw [if_neg (by omega), if_neg hm3]
      · rw [if_neg hm2, if_neg (by omega)]
/-- Unpacked into as many lengths as there were: the same. -/
theorem unpackF_pack (xs : List Int) (hx : ∀ x ∈ xs, 0 ≤ x ∧ x ≤ 15) (h : xs.length ≤ 316) : unpackF (packF xs) xs.length = (xs, 0) := by
  have := unpack_pack xs [] xs.length hx (by simp)
  rw [if_pos (by simp)] at this
  exact unpackF_ok (by omega) (by omega) this (by simp)
theorem unpackF_less (xs : List Int) (hx : ∀ x ∈ xs, 0 ≤ x ∧ x ≤ 15) (h : xs.length ≤ 316) : unpackF (packF xs) ((xs.length : Int) - 1) = ([], if xs.length = 0 then 1 else 41) := by
  by_cases h0 : xs.length = 0
  · rw [if_pos h0]; exact unpackF_arg (by omega)
  · rw [if_neg h0]
    have := unpack_pack xs [] ((xs.length : Int) - 1) hx (by simp; omega)
    rw [if_neg (by simp; omega)] at this
    exact unpackF_none (by omega) (by omega) this
theorem unpackF_more (xs : List Int) (hx : ∀ x ∈ xs, 0 ≤ x ∧ x ≤ 15) (h : xs.length ≤ 316) : unpackF (packF xs) ((xs.length : Int) + 1) = ([], if xs.length = 316 then 1 else 41) := by
  by_cases h0 : xs.length = 316
  · rw [if_pos h0]; exact unpackF_arg (by omega)
  · rw [if_neg h0]
    have := unpack_pack xs [] ((xs.length : Int) + 1) hx (by simp; omega)
    rw [if_pos (by simp; omega)] at this
    exact unpackF_few (by omega) (by omega) this (by simp; omega)
end Go.Proofs.YtkpabdjniiepkaaGreatDoor

set_option linter.unusedVariables false
set_option linter.unusedSimpArgs false
/-! Plain mathematics: a head that is written is read as the same. -/
namespace Go.Proofs.YtkpabdjniiepkaaGreatDoor
/-- These bits stand there. -/
def At (xs : List Int) (p : Nat) (bl : List Int) : Prop := ∀ t, t < bl.length → bitAt xs (p + t) = nth bl t
theorem at_app {xs : List Int} {p : Nat} {a b : List Int} : At xs p (a ++ b) ↔ At xs p a ∧ At xs (p + a.length) b := by
  constructor
  · intro h
    refine ⟨fun t ht => ?_, fun t ht => ?_⟩
    · rw [h t (by rw [List.length_append]; omega), nth_append_left _ _ _ ht]
    · have := h (a.length + t) (by rw [List.length_append]; omega)
      rw [← Nat.add_assoc] at this
      rw [this, nth_append_right]
  · intro ⟨h1, h2⟩ t ht
    rw [List.length_append] at ht
    by_cases hlt : t < a.length
    · rw [h1 t hlt, nth_append_left _ _ _ hlt]
    · obtain ⟨s, rfl⟩ : ∃ s, t = a.length + s := ⟨t - a.length, by omega⟩
      rw [nth_append_right, ← Nat.add_assoc]
      exact h2 s (by omega)
theorem at_wb {xs pre bl post : List Int} (h : WB xs (pre ++ (bl ++ post))) : At xs pre.length bl := fun t ht => by
  rw [h.bit _ (by simp only [List.length_append]; omega), nth_append_right, nth_append_left _ _ _ ht]
theorem numB_vbits (xs : List Int) (p : Nat) (v : Int) : ∀ n, At xs p (vbits v n) → numB xs p n = v % 2 ^ n
  | 0, _ => by simp [numB, Int.emod_one]
  | n + 1, h => by
    have e : vbits v (n + 1) = vbits v n ++ vbits (v / 2 ^ n) 1 := vbits_add v n 1
    rw [e] at h
    obtain ⟨h1, h2⟩ := at_app.1 h
    rw [vbits_len] at h2
    have h3 := h2 0 (by rw [vbits_len]; omega)
    rw [Nat.add_zero, vbits_nth _ _ _ (by omega), Int.pow_zero, Int.ediv_one] at h3
    rw [numB, numB_vbits xs p v n h1, h3, div_pow_succ]
theorem numB_of {xs : List Int} {p n : Nat} {v : Int} (h : At xs p (vbits v n)) (h0 : 0 ≤ v) (h1 : v < 2 ^ n) : numB xs p n = v := by
  rw [numB_vbits xs p v n h, Int.emod_eq_of_lt h0 h1]
/-- A code that stands there is read. -/
theorem dec_at {l : List Int} (hc : checkF l = 0) {xs : List Int} {p s m : Nat} (hs : s < l.length) (h1 : 1 ≤ m) (h15 : m ≤ 15) (hm : nth l s = m) (hT : p + m ≤ 8 * xs.length) (h : At xs p (msbF (codeI l s) m)) : decF l xs p = ((s : Int), 0, m) := by
  have hbd := codeI_bd l m s (by omega) h1 hs hm
  have hkr := kraft_le hc m h15
  have hl0 := (lowF_small l (check_ok hc).1 m (by omega)).1
  have hx : xv xs p m = codeI l s := by
    have h2 := (pre_iff (codeI l s) m (by omega) (by omega) xs p m (Nat.le_refl _)).1 (fun t ht => (h t (by rw [msbF_len]; exact ht)).symm)
    rw [Nat.sub_self, Int.pow_zero, Int.ediv_one] at h2
    exact h2.symm
  have hsp := dec_spec l xs p (longN l 16) 0 (by omega) (by omega) (fun k hk => by
    obtain rfl : k = 0 := by omega
    simp [xv, lowF, lenCnt_zero])
  rw [show decGo l xs p (longN l 16) 0 (xv xs p 0) = decF l xs p from rfl] at hsp
  rcases hsp with ⟨j, mt, hj, a1, a15, hjm, hcode, hend, hpre, hr⟩ | ⟨k, hk, hend, hpre, hr⟩ | ⟨hend, hpre, hr⟩
  · rw [hr]
    have hbj := codeI_bd l mt j (by omega) a1 hj hjm
    rcases Nat.lt_trichotomy mt m with h | h | h
    · have := above l xs p mt (by omega) (m - mt - 1)
      rw [show mt + (m - mt - 1 + 1) = m by omega] at this
      omega
    · subst h
      rcases Nat.lt_trichotomy j s with h2 | h2 | h2
      · have := codeI_ne l mt j s (by omega) a1 h2 hs hjm hm; omega
      · subst h2; rfl
      · have := codeI_ne l mt s j (by omega) a1 h2 hj hm hjm; omega
    · have := hpre m h; omega
  · exfalso
    have := hpre m (by omega); omega
  · exfalso
    have hmL : m ≤ longN l 16 := by
      rcases Nat.lt_or_ge (longN l 16) m with h | h
      · have := longN_top l 16 m h (by omega); omega
      · exact h
    have := hpre m hmL; omega
/-! The codes of the steps. -/
def placeL : List Nat := [3, 17, 15, 13, 11, 9, 7, 5, 4, 6, 8, 10, 12, 14, 16, 18, 0, 1, 2]
theorem place_order : ∀ i, i < 19 → placeL.getD (nth orderL i).toNat 0 = i := by decide
theorem order_place : ∀ j, j < 19 → (nth orderL (placeL.getD j 0)).toNat = j ∧ placeL.getD j 0 < 19 := by decide
def codeBits (codes : List Int) (many : Nat) : List Int := (List.range many).flatMap fun i => vbits (nth codes (nth orderL i).toNat) 3
theorem codeBits_succ (codes : List Int) (k : Nat) : codeBits codes (k + 1) = codeBits codes k ++ vbits (nth codes (nth orderL k).toNat) 3 := by
  unfold codeBits; rw [List.range_succ, List.flatMap_append]; simp
theorem codeBits_len (codes : List Int) : ∀ k, (codeBits codes k).length = 3 * k
  | 0 => rfl
  | k + 1 => by rw [codeBits_succ, List.length_append, codeBits_len codes k, vbits_len]; omega
theorem cL_read {xs codes : List Int} {p : Nat} (hb : ∀ j, j < 19 → 0 ≤ nth codes j ∧ nth codes j ≤ 7) : ∀ k, k ≤ 19 → At xs p (codeBits codes k) → ∀ j, j < 19 → nth (cL xs p k) j = if placeL.getD j 0 < k then nth codes j else 0
  | 0, _, _, j, hj => by
    rw [if_neg (by omega), cL]
    simp only [nth, List.getD, List.getElem?_replicate]
    split <;> rfl
  | k + 1, hk, h, j, hj => by
    rw [codeBits_succ] at h
    obtain ⟨h1, h2⟩ := at_app.1 h
    rw [codeBits_len] at h2
    have ih := cL_read hb k (by omega) h1 j hj
    obtain ⟨o0, o1⟩ := order_lt k (by omega)
    have hbo := hb (nth orderL k).toNat (by omega)
    have e8 : (2 : Int) ^ 3 = 8 := rfl
    have hnum := numB_of h2 hbo.1 (by rw [e8]; omega)
    have hpo := place_order k (by omega)
    have hop := order_place j hj
    rw [cL, hnum]
    by_cases hjo : j = (nth orderL k).toNat
    · subst hjo
      rw [nth_set_eq _ _ _ (by rw [cL_len]; exact hj), if_pos (by rw [hpo]; omega)]
    · rw [nth_set_ne _ _ _ _ hjo, ih]
      have hne : placeL.getD j 0 ≠ k := fun e => hjo (by rw [← e]; exact hop.1.symm)
      by_cases hlt : placeL.getD j 0 < k
      · rw [if_pos hlt, if_pos (by omega)]
      · rw [if_neg hlt, if_neg (by omega)]
/-- How many codes are told. -/
def manyGo (codes : List Int) : Nat → Nat
  | 0 => 0
  | n + 1 => if 4 ≤ n ∧ nth codes (nth orderL n).toNat = 0 then manyGo codes n else n + 1
theorem manyGo_le (codes : List Int) : ∀ n, manyGo codes n ≤ n
  | 0 => Nat.le_refl _
  | n + 1 => by
    unfold manyGo
    split
    · have := manyGo_le codes n; omega
    · exact Nat.le_refl _
theorem manyGo_ge (codes : List Int) : ∀ n, 4 ≤ n → 4 ≤ manyGo codes n
  | 0, h => by omega
  | n + 1, h => by
    unfold manyGo
    split
    · next hc => exact manyGo_ge codes n hc.1
    · exact h
theorem manyGo_zero (codes : List Int) : ∀ n i, manyGo codes n ≤ i → i < n → nth codes (nth orderL i).toNat = 0
  | 0, i, _, h => by omega
  | n + 1, i, h1, h2 => by
    unfold manyGo at h1
    split at h1
    · next hc =>
      by_cases hi : i = n
      · subst hi; exact hc.2
      · exact manyGo_zero codes n i h1 (by omega)
    · omega
theorem list_nth_ext {a b : List Int} (h1 : a.length = b.length) (h : ∀ j, j < a.length → nth a j = nth b j) : a = b := by
  refine List.ext_getElem h1 fun j h2 h3 => ?_
  have := h j h2
  rwa [nth_lt h2, nth_lt h3] at this
theorem cL_codes {xs codes : List Int} {p : Nat} (hl : codes.length = 19) (hb : ∀ j, j < 19 → 0 ≤ nth codes j ∧ nth codes j ≤ 7) (h : At xs p (codeBits codes (manyGo codes 19))) : cL xs p (manyGo codes 19) = codes := by
  refine list_nth_ext (by rw [cL_len, hl]) fun j hj => ?_
  rw [cL_len] at hj
  rw [cL_read hb _ (manyGo_le codes 19) h j hj]
  split
  · rfl
  · next hn =>
    obtain ⟨h1, h2⟩ := order_place j hj
    have := manyGo_zero codes 19 (placeL.getD j 0) (by omega) h2
    rw [h1] at this
    exact this.symm
/-! The steps. -/
theorem say_range {l : List Int} {s e v : Int} {k : Nat} (h : sayF l s e = some (v, k)) : 0 ≤ s ∧ s ≤ 18 ∧ 0 ≤ e ∧ e < 2 ^ wN s := by
  unfold sayF at h
  split at h
  · next hc =>
    refine ⟨by omega, by omega, by omega, ?_⟩
    rw [hc.2.2]; exact pow_cast _
  split at h
  · next hc =>
    obtain ⟨rfl, h0, h3, _⟩ := hc
    exact ⟨by omega, by omega, h0, by show e < 4; omega⟩
  split at h
  · next hc =>
    obtain ⟨rfl, h0, h3⟩ := hc
    exact ⟨by omega, by omega, h0, by show e < 8; omega⟩
  split at h
  · next hc =>
    obtain ⟨rfl, h0, h3⟩ := hc
    exact ⟨by omega, by omega, h0, by show e < 128; omega⟩
  · cases h
theorem add_range {l l' : List Int} {s e n : Int} (h : addF l s e n = some l') : 0 ≤ s ∧ s ≤ 18 ∧ 0 ≤ e ∧ e < 2 ^ wN s := by
  unfold addF at h
  cases hs : sayF l s e with
  | none => rw [hs] at h; cases h
  | some q => obtain ⟨v, k⟩ := q; exact say_range hs
def stepB (codes : List Int) (s : Int × Int) : List Int := msbF (codeI codes s.1.toNat) (nth codes s.1.toNat).toNat ++ vbits s.2 (wN s.1)
def stepsB (codes : List Int) (st : List (Int × Int)) : List Int := st.flatMap (stepB codes)
theorem stepsB_cons (codes : List Int) (s : Int × Int) (r : List (Int × Int)) : stepsB codes (s :: r) = stepB codes s ++ stepsB codes r := by simp [stepsB]
theorem stepB_len (codes : List Int) (s : Int × Int) : (stepB codes s).length = (nth codes s.1.toNat).toNat + wN s.1 := by
  rw [stepB, List.length_append, msbF_len, vbits_len]
theorem steps_at {codes xs : List Int} (hc : checkF codes = 0) (hcl : codes.length = 19) {N : Int} : ∀ (st : List (Int × Int)) (f : Nat) (l : List Int) (q : Nat) (L : List Int), (∀ s ∈ st, 1 ≤ nth codes s.1.toNat ∧ nth codes s.1.toNat ≤ 15) → unpackTo l st N = some L → (L.length : Int) = N → N ≤ ((l.length + f : Nat) : Int) → q + (stepsB codes st).length ≤ 8 * xs.length → At xs q (stepsB codes st) →
    stepsF codes xs N f l q = (L, q + (stepsB codes st).length, 0)
  | [], f, l, q, L, _, hu, hL, hf, hT, hat => by
    obtain rfl := Option.some.inj hu
    rw [stepsF_done _ _ _ _ _ _ (by omega)]; rfl
  | s :: r, f, l, q, L, hs, hu, hL, hf, hT, hat => by
    rw [stepsB_cons, List.length_append] at hT
    rw [stepsB_cons] at hat
    obtain ⟨ha, hr⟩ := at_app.1 hat
    rw [stepB] at ha
    obtain ⟨ha1, ha2⟩ := at_app.1 ha
    rw [msbF_len] at ha2
    cases hadd : addF l s.1 s.2 N with
    | none => rw [unpackTo_stop hadd] at hu; cases hu
    | some l' =>
      rw [unpackTo_cons hadd] at hu
      obtain ⟨r0, r1, r2, r3⟩ := add_range hadd
      obtain ⟨g1, g2⟩ := addF_len hadd
      obtain ⟨c1, c2⟩ := hs s (List.mem_cons_self ..)
      obtain ⟨f', rfl⟩ : ∃ f', f = f' + 1 := ⟨f - 1, by omega⟩
      have e1 : ((s.1.toNat : Nat) : Int) = s.1 := by omega
      have hlen := stepB_len codes s
      have hd : decF codes xs q = (s.1, 0, (nth codes s.1.toNat).toNat) := by
        have := dec_at hc (xs := xs) (p := q) (s := s.1.toNat) (m := (nth codes s.1.toNat).toNat) (by omega) (by omega) (by omega) (by omega) (by omega) ha1
        rw [this, e1]
      have hnum := numB_of ha2 r2 r3
      have ih := steps_at (xs := xs) hc hcl r f' l' (q + (nth codes s.1.toNat).toNat + wN s.1) L (fun x hx => hs x (List.mem_cons_of_mem _ hx)) hu hL (by omega) (by omega) (by rw [Nat.add_assoc, ← hlen]; exact hr)
      rw [stepsF, if_neg (by omega)]
      simp only [hd, hnum, hadd, ih]
      rw [if_neg (by simp), if_neg (by omega), stepsB_cons, List.length_append, hlen]
      simp only [Nat.add_assoc]
/-- The head that is written. -/
def symsF (lit dist : List Int) : List Int := (packF (lit ++ dist)).map Prod.fst
def countsW (lit dist : List Int) : List Int := cntF 19 (symsF lit dist)
def codesW (lit dist : List Int) : List Int := limLens (countsW lit dist) 7
def headB (lit dist : List Int) : List Int :=
  vbits ((lit.length : Int) - 257) 5 ++ (vbits ((dist.length : Int) - 1) 5 ++ (vbits ((manyGo (codesW lit dist) 19 : Int) - 4) 4 ++ (codeBits (codesW lit dist) (manyGo (codesW lit dist) 19) ++ stepsB (codesW lit dist) (packF (lit ++ dist)))))
/-- The lists that may be written. -/
structure MayW (lit dist : List Int) : Prop where
  lit0 : 257 ≤ lit.length
  lit1 : lit.length ≤ 286
  dist0 : 1 ≤ dist.length
  dist1 : dist.length ≤ 30
  litB : ∀ x ∈ lit, 0 ≤ x ∧ x ≤ 15
  distB : ∀ x ∈ dist, 0 ≤ x ∧ x ≤ 15
theorem MayW.all {lit dist : List Int} (h : MayW lit dist) : ∀ x ∈ lit ++ dist, 0 ≤ x ∧ x ≤ 15 := fun x hx => by
  rcases List.mem_append.1 hx with h1 | h1
  · exact h.litB x h1
  · exact h.distB x h1
theorem unpackTo_mem {m : Int} : ∀ (st : List (Int × Int)) (l L : List Int), unpackTo l st m = some L → ∀ s ∈ st, 0 ≤ s.1 ∧ s.1 ≤ 18 ∧ 0 ≤ s.2 ∧ s.2 < 2 ^ wN s.1
  | [], _, _, _, s, hs => by cases hs
  | a :: r, l, L, hu, s, hs => by
    cases hadd : addF l a.1 a.2 m with
    | none => rw [unpackTo_stop hadd] at hu; cases hu
    | some l' =>
      rw [unpackTo_cons hadd] at hu
      rcases List.mem_cons.1 hs with rfl | h
      · exact add_range hadd
      · exact unpackTo_mem r l' L hu s h
theorem MayW.unpack {lit dist : List Int} (h : MayW lit dist) : unpackTo [] (packF (lit ++ dist)) ((lit ++ dist).length : Nat) = some (lit ++ dist) := by
  have := unpack_pack (lit ++ dist) [] (((lit ++ dist).length : Nat) : Int) h.all (by show ((0 : Nat) : Int) ≤ _; omega)
  simpa using this
theorem MayW.sym {lit dist : List Int} (h : MayW lit dist) : ∀ s ∈ packF (lit ++ dist), 0 ≤ s.1 ∧ s.1 ≤ 18 ∧ 0 ≤ s.2 ∧ s.2 < 2 ^ wN s.1 := unpackTo_mem _ _ _ h.unpack
theorem countsW_len (lit dist : List Int) : (countsW lit dist).length = 19 := cntF_len _ _
theorem countsW_bd (lit dist : List Int) (i : Nat) (hi : i < 19) : 0 ≤ nth (countsW lit dist) i ∧ nth (countsW lit dist) i ≤ (lit ++ dist).length := by
  have := cnt_bd 19 (symsF lit dist) i hi
  have hl := packF_len (lit ++ dist)
  refine ⟨this.1, Int.le_trans this.2 ?_⟩
  rw [symsF, List.length_map]; omega
theorem MayW.counts {lit dist : List Int} (h : MayW lit dist) : (countsW lit dist).any badCount = false ∧ (leavesF (countsW lit dist) 0).length ≤ 2 ^ 7 ∧ usedF (countsW lit dist) ≠ 0 := by
  have hb : (countsW lit dist).any badCount = false := by
    rw [List.any_eq_false]
    intro x hx
    obtain ⟨i, hi, rfl⟩ := List.mem_iff_getElem.1 hx
    have := countsW_bd lit dist i (by rw [countsW_len] at hi; exact hi)
    rw [nth_lt hi] at this
    have h1 := h.lit1; have h2 := h.dist1
    rw [List.length_append] at this
    unfold badCount
    simp only [Bool.or_eq_true, decide_eq_true_eq]; omega
  refine ⟨hb, ?_, ?_⟩
  · have := (leaves_bd (countsW lit dist) hb 0).2.2.2.1
    rw [countsW_len] at this; omega
  · intro hu
    have hne : packF (lit ++ dist) ≠ [] := by
      intro e
      have := h.unpack
      rw [e] at this
      have := Option.some.inj this
      have h1 := h.lit0
      have h2 := congrArg List.length this
      rw [List.length_append] at h2
      simp at h2; omega
    obtain ⟨s, r, e⟩ : ∃ s r, packF (lit ++ dist) = s :: r := by
      cases he : packF (lit ++ dist) with
      | nil => exact absurd he hne
      | cons s r => exact ⟨s, r, rfl⟩
    have hs := h.sym s (by rw [e]; exact List.mem_cons_self ..)
    have hn : 0 < nth (countsW lit dist) s.1.toNat := by
      rw [countsW, cntF_nth 19 _ _ (by omega)]
      have : 0 < (symsF lit dist).count ((s.1.toNat : Nat) : Int) := by
        rw [List.count_pos_iff, symsF, e]
        refine List.mem_map.2 ⟨s, List.mem_cons_self .., by omega⟩
      omega
    have hm : nth (countsW lit dist) s.1.toNat ∈ (countsW lit dist).filter (fun x => decide (0 < x)) := by
      refine List.mem_filter.2 ⟨?_, by simpa using hn⟩
      rw [nth_lt (by rw [countsW_len]; omega)]
      exact List.getElem_mem _
    have : 0 < usedF (countsW lit dist) := by
      unfold usedF
      exact List.length_pos_of_mem hm
    omega
theorem MayW.lim {lit dist : List Int} (h : MayW lit dist) : limF (countsW lit dist) 7 = (codesW lit dist, 0) := by
  obtain ⟨hb, ht, _⟩ := h.counts
  unfold limF
  rw [if_neg (by rw [countsW_len]; omega), if_neg (by simp [hb]), if_neg (by show ¬ 2 ^ 7 < _; omega)]; rfl
theorem codesW_len (lit dist : List Int) : (codesW lit dist).length = 19 := by
  rw [codesW, limLens, cntF_len, countsW_len]
theorem MayW.codes {lit dist : List Int} (h : MayW lit dist) (i : Nat) (hi : i < 19) : (0 < nth (codesW lit dist) i ↔ 0 < nth (countsW lit dist) i) ∧ 0 ≤ nth (codesW lit dist) i ∧ nth (codesW lit dist) i ≤ 7 := by
  obtain ⟨hb, ht, _⟩ := h.counts
  exact lim_each _ 7 (by omega) (by omega) hb ht i (by rw [countsW_len]; exact hi)
theorem MayW.check {lit dist : List Int} (h : MayW lit dist) : checkF (codesW lit dist) = 0 := by
  obtain ⟨hb, ht, hu⟩ := h.counts
  exact check_all _ 7 (by omega) (by rw [countsW_len]; omega) (by rw [countsW_len]; omega) hb ht hu
theorem MayW.code {lit dist : List Int} (h : MayW lit dist) : ∀ s ∈ packF (lit ++ dist), 1 ≤ nth (codesW lit dist) s.1.toNat ∧ nth (codesW lit dist) s.1.toNat ≤ 7 := fun s hs => by
  obtain ⟨r0, r1, _⟩ := h.sym s hs
  have hc := h.codes s.1.toNat (by omega)
  have hn : 0 < nth (countsW lit dist) s.1.toNat := by
    rw [countsW, cntF_nth 19 _ _ (by omega)]
    have : 0 < (symsF lit dist).count ((s.1.toNat : Nat) : Int) := by
      rw [List.count_pos_iff, symsF]
      exact List.mem_map.2 ⟨s, hs, by omega⟩
    omega
  have := hc.1.2 hn
  omega
theorem stepsB_len {codes : List Int} : ∀ (st : List (Int × Int)), (∀ s ∈ st, nth codes s.1.toNat ≤ 7) → (stepsB codes st).length ≤ 14 * st.length
  | [], _ => by simp [stepsB]
  | s :: r, h => by
    have ih := stepsB_len r (fun x hx => h x (List.mem_cons_of_mem _ hx))
    have := h s (List.mem_cons_self ..)
    have hw := wN_le s.1
    rw [stepsB_cons, List.length_append, stepB_len, List.length_cons]; omega
theorem MayW.len {lit dist : List Int} (h : MayW lit dist) : (headB lit dist).length ≤ 71 + 14 * (lit.length + dist.length) := by
  have h1 := stepsB_len (codes := codesW lit dist) (packF (lit ++ dist)) (fun s hs => (h.code s hs).2)
  have h2 := packF_len (lit ++ dist)
  have h3 := manyGo_le (codesW lit dist) 19
  rw [List.length_append] at h2
  simp only [headB, List.length_append, vbits_len, codeBits_len]; omega
/-- What is written is read. -/
theorem MayW.read {lit dist xs : List Int} {p : Nat} (h : MayW lit dist) (hT : p + (headB lit dist).length ≤ 8 * xs.length) (hat : At xs p (headB lit dist)) : headF xs p = (lit, dist, (headB lit dist).length, 0) := by
  have hlen : (headB lit dist).length = 14 + 3 * manyGo (codesW lit dist) 19 + (stepsB (codesW lit dist) (packF (lit ++ dist))).length := by
    simp only [headB, List.length_append, vbits_len, codeBits_len]; omega
  rw [headB] at hat
  obtain ⟨a1, hat⟩ := at_app.1 hat
  obtain ⟨a2, hat⟩ := at_app.1 hat
  obtain ⟨a3, hat⟩ := at_app.1 hat
  obtain ⟨a4, a5⟩ := at_app.1 hat
  simp only [vbits_len, codeBits_len] at a2 a3 a4 a5
  have hm0 := manyGo_ge (codesW lit dist) 19 (by omega)
  have hm1 := manyGo_le (codesW lit dist) 19
  have l0 := h.lit0; have l1 := h.lit1; have d0 := h.dist0; have d1 := h.dist1
  have e32 : (2 : Int) ^ 5 = 32 := rfl
  have e16 : (2 : Int) ^ 4 = 16 := rfl
  have n1 := numB_of a1 (by omega) (by omega)
  have n2 := numB_of a2 (by omega) (by omega)
  have n3 := numB_of a3 (by omega) (by omega)
  have hlit : litF xs p = lit.length := by unfold litF; omega
  have hdist : distF xs p = dist.length := by unfold distF; omega
  have hmany : manyF xs p = manyGo (codesW lit dist) 19 := by
    unfold manyF
    rw [show p + 10 = p + 5 + 5 by omega, n3]; omega
  have hcodes : codesH xs p = codesW lit dist := by
    unfold codesH
    rw [hmany]
    refine cL_codes (codesW_len lit dist) (fun j hj => (h.codes j hj).2) ?_
    rw [show p + 14 = p + 5 + 5 + 4 by omega]; exact a4
  have hst := steps_at h.check (codesW_len lit dist) (xs := xs) (N := ((lit ++ dist).length : Nat)) (packF (lit ++ dist)) (lit.length + dist.length) [] (p + 14 + 3 * manyGo (codesW lit dist) 19) (lit ++ dist) (fun s hs => ⟨(h.code s hs).1, by have := (h.code s hs).2; omega⟩) h.unpack rfl (by simp) (by omega) (by
    rw [show p + 14 + 3 * manyGo (codesW lit dist) 19 = p + 5 + 5 + 4 + 3 * manyGo (codesW lit dist) 19 by omega]; exact a5)
  have hr : readR xs p = (lit ++ dist, p + (headB lit dist).length, 0) := by
    unfold readR
    rw [hcodes, hlit, hdist, hmany, ← List.length_append] 
    rw [List.length_append] at hst ⊢
    rw [hst, hlen]
    simp only [Nat.add_assoc]
  rw [head_ok (by omega) (by omega) (by rw [hmany]; omega) (by rw [hcodes]; exact h.check) hr, hlit, List.take_left, List.drop_left, show p + (headB lit dist).length - p = (headB lit dist).length by omega]
end Go.Proofs.YtkpabdjniiepkaaGreatDoor

set_option linter.unusedVariables false
set_option linter.unusedSimpArgs false
namespace Go.Proofs.YtkpabdjniiepkaaGreatDoor
open Go.RowKit
/-- A run begun at a place, so far. -/
structure RunTo (xs : List Int) (i m : Nat) : Prop where
  one : 1 ≤ m
  le : i + m ≤ xs.length
  eq : ∀ j, j < m → nth xs (i + j) = nth xs i
/-- A run at a place, whole. -/
structure RunOk (xs : List Int) (i m : Nat) : Prop extends RunTo xs i m where
  stop : i + m < xs.length → nth xs (i + m) ≠ nth xs i
theorem RunTo.step {xs : List Int} {i m : Nat} (h : RunTo xs i m) (hl : i + m < xs.length) (hv : nth xs (i + m) = nth xs i) : RunTo xs i (m + 1) :=
  ⟨by omega, by omega, fun j hj => by
    by_cases e : j = m
    · subst e; exact hv
    · exact h.eq j (by omega)⟩
theorem RunOk.pack {xs : List Int} {i m : Nat} (h : RunOk xs i m) : packF (xs.drop i) = rsteps (nth xs i) m ++ packF (xs.drop (i + m)) :=
  packF_at xs i m (by have := h.one; have := h.le; omega) h.le h.eq h.stop
theorem own_as {w : World} {base n : Nat} {e : TypeId} {v : Value} {xs ys : List (Int × Int)} (h : w.ownsRow base e 2 v n (pcells xs)) (he : xs = ys) : w.ownsRow base e 2 v ys.length (pcells ys) := by
  subst he
  have := h.1
  rw [pcells_length] at this
  obtain rfl : n = xs.length := by omega
  exact h
theorem RunOk.zstep {xs : List Int} {k m : Nat} {out es : List (Int × Int)} {r : Nat} (h : RunOk xs k m) (hz : nth xs k = 0) (hp : out ++ packF (xs.drop k) = packF xs) (ho : out.length ≤ k) (h1 : reps 11 18 138 m = es) (h2 : left 11 138 m = r) :
    (out ++ (es ++ (reps 3 17 10 r ++ List.replicate (left 3 10 r) (0, 0)))) ++ packF (xs.drop (k + m)) = packF xs ∧ (out ++ (es ++ (reps 3 17 10 r ++ List.replicate (left 3 10 r) (0, 0)))).length ≤ k + m := by
  have e : es ++ (reps 3 17 10 r ++ List.replicate (left 3 10 r) (0, 0)) = rsteps (nth xs k) m := by
    rw [rsteps, if_pos hz, zsteps, h1, h2]
  rw [e]
  have := rsteps_len (nth xs k) m h.one
  refine ⟨?_, by rw [List.length_append]; omega⟩
  rw [← hp, h.pack, List.append_assoc]
theorem RunOk.vstep {xs : List Int} {k m : Nat} {out es : List (Int × Int)} {r : Nat} (h : RunOk xs k m) (hz : ¬ nth xs k = 0) (hp : out ++ packF (xs.drop k) = packF xs) (ho : out.length ≤ k) (h1 : reps 3 16 6 (m - 1) = es) (h2 : left 3 6 (m - 1) = r) :
    (out ++ ((nth xs k, 0) :: (es ++ List.replicate r (nth xs k, 0)))) ++ packF (xs.drop (k + m)) = packF xs ∧ (out ++ ((nth xs k, 0) :: (es ++ List.replicate r (nth xs k, 0)))).length ≤ k + m := by
  have e : (nth xs k, 0) :: (es ++ List.replicate r (nth xs k, 0)) = rsteps (nth xs k) m := by
    rw [rsteps, if_neg hz, vsteps, h1, h2]
  rw [e]
  have := rsteps_len (nth xs k) m h.one
  refine ⟨?_, by rw [List.length_append]; omega⟩
  rw [← hp, h.pack, List.append_assoc]
/-- What packing answers. -/
def Packed (w : World) (xs : List Int) (e : Ending) (w' : World) : Prop :=
  (xs.length ≤ 316 ∧ anyBad xs = false ∧ ∃ v, e = .returned (.tuple #[v, .int .i64 0]) ∧ w'.ownsRow w.heap.size 112 2 v (packF xs).length (pcells (packF xs)) ∧ Below w.heap.size w w') ∨
  ((316 < xs.length ∨ anyBad xs = true) ∧ e = .returned (.tuple #[.slice none 0 0, .int .i64 1]) ∧ Below w.heap.size w w')
theorem Dr.below {w w' : World} (h : Dr w w') : Below w.heap.size w w' := (h.keeps (S := [])).below
end Go.Proofs.YtkpabdjniiepkaaGreatDoor

set_option linter.unusedVariables false
set_option linter.unusedSimpArgs false
namespace Go.Proofs.YtkpabdjniiepkaaGreatDoor
open Go.RowKit
/-- A run begun at a place, so far, perhaps empty. -/
structure Run0 (xs : List Int) (i m : Nat) : Prop where
  le : i + m ≤ xs.length
  eq : ∀ j, j < m → nth xs (i + j) = nth xs i
theorem Run0.step {xs : List Int} {i m : Nat} (h : Run0 xs i m) (hl : i + m < xs.length) (hv : nth xs (i + m) = nth xs i) : Run0 xs i (m + 1) :=
  ⟨by omega, fun j hj => by
    by_cases e : j = m
    · subst e; exact hv
    · exact h.eq j (by omega)⟩
theorem Run0.one {xs : List Int} {i m : Nat} (h : Run0 xs i m) (hi : i < xs.length) (hs : i + m < xs.length → nth xs (i + m) ≠ nth xs i) : 1 ≤ m := by
  rcases Nat.eq_zero_or_pos m with rfl | h1
  · exact absurd rfl (hs (by omega))
  · exact h1
theorem box_cell {w w1 : World} {o : Obj} {u x : Value} {B : Nat} (hc : w.cell? ⟨B, 0, none⟩ = some x) (hne : ∀ k, u.ownBlock = some k → B + 1 ≤ k) (hg : (w.alloc o).grownBy w1 u.ownBlock) : w1.cell? ⟨B, 0, none⟩ = some x := by
  have hB : B < w.heap.size := World.block_lt_of_cell? _ _ hc
  exact (World.cell?_of_block (w := w.alloc o) (a := ⟨B, 0, none⟩) (hg.block B (by simp; omega) (fun e => by have := hne B e.symm; omega))).trans (((Keeps.refl [] w).alloc o).cell (by simp) hc)
theorem box_frozen {w w1 : World} {o : Obj} {u : Value} {B : Nat} (hB : B < w.heap.size) (hf : w.frozen? ⟨B, 0, none⟩ = false) (hne : ∀ k, u.ownBlock = some k → B + 1 ≤ k) (hg : (w.alloc o).grownBy w1 u.ownBlock) : w1.frozen? ⟨B, 0, none⟩ = false :=
  (World.frozen?_of_block (w := w.alloc o) (a := ⟨B, 0, none⟩) (hg.block B (by simp; omega) (fun e => by have := hne B e.symm; omega))).trans ((((Keeps.refl [] w).alloc o).frozen (p := ⟨B, 0, none⟩) hB (by simp)).trans hf)
/-- Behind 'box = append(box, ..)': the box, its row, what lies below. -/
theorem box_put {w0 w w1 : World} {o : Obj} {u x : Value} {B : Nat} {e : TypeId} {size n : Nat} {cs : List Value} (hW : Below B w0 w) (hc : w.cell? ⟨B, 0, none⟩ = some x) (hf : w.frozen? ⟨B, 0, none⟩ = false) (hne : ∀ k, u.ownBlock = some k → B + 1 ≤ k) (hg : (w.alloc o).grownBy w1 u.ownBlock)
    {v : Value} (h1 : w1.ownsRow (B + 1) e size v n cs) :
    (w1.setCell ⟨B, 0, none⟩ v).cell? ⟨B, 0, none⟩ = some v ∧ (w1.setCell ⟨B, 0, none⟩ v).frozen? ⟨B, 0, none⟩ = false ∧ (w1.setCell ⟨B, 0, none⟩ v).ownsRow (B + 1) e size v n cs ∧ Below B w0 (w1.setCell ⟨B, 0, none⟩ v) := by
  have hB : B < w.heap.size := World.block_lt_of_cell? _ _ hc
  refine ⟨World.cell?_setCell_same' _ _ _ (by rw [box_cell hc hne hg]; rfl), by simpa using box_frozen hB hf hne hg, ownsRow_setCell_below h1 (Nat.lt_succ_self B) v, ?_⟩
  exact (((hW.alloc (Nat.le_of_lt hB) _)).grown hg (by simp; omega) (fun k hk => Nat.le_of_succ_le (hne k hk))).setCell (p := ⟨B, 0, none⟩) (Nat.le_refl B) v
set_option maxRecDepth 100000 in
set_option maxHeartbeats 1000000 in
theorem lensPack_calls (w : World) (A : Option Addr) (n c : Nat) (xs : List Int) (ht : Tabs w) (hx : RI .i64 w A n xs) (hn : n ≤ 1048576) :
    Calls Tryz.prog 51 #[.slice A n c] w (Packed w xs) := by
  have HT := Lib.hid ht
  have HX := Lib.hid hx
  have HL := Lib.hid hx.len
  clear hx ht
  by_cases hbig : 316 < n
  · have e1 : decide (316 < n) = true := by simpa using hbig
    go_enter Tryz.func51, Tryz.ntmps51
    go_wp2_with fail
    go_ret2
    exact Or.inr ⟨Or.inl (by have := HL.out; omega), rfl, Below.refl _ _⟩
  · have e1 : decide (316 < n) = false := by simpa using hbig
    go_enter Tryz.func51, Tryz.ntmps51
    go_wp2_with fail
    refine (lengths_calls w _ _ _ xs HX.out (by omega)).mono ?_
    rintro e w' ⟨rfl, hdr⟩
    have HDR := Lib.hid hdr
    clear hdr
    cases hb : anyBad xs with
    | true =>
      have HB := Lib.hid hb
      clear hb
      go_wp2_with fail
      go_ret2
      exact Or.inr ⟨Or.inr HB.out, rfl, Dr.below HDR.out⟩
    | false =>
      have HB := Lib.hid hb
      clear hb e1
      have HSZ : Hid (w'.heap.size = w.heap.size) := by obtain ⟨q, rfl⟩ := HDR.out; rfl
      go_wp2_with fail
      have HW0 : Hid (Below w'.heap.size w' (w'.alloc (.cells #[.slice none 0 0] 108))) := (Below.refl _ _).alloc (Nat.le_refl _) _
      have HT0 : Hid (Tabs w') := HT.out.keeps (HDR.out.keeps (S := [])) (by simp)
      have HX0 : Hid (RI .i64 w' A n xs) := HX.out.keeps (HDR.out.keeps (S := [])) (off_nil _)
      have HG : Hid (gtop ≤ w'.heap.size) := HT0.out.size
      clear HX HT
      go_loopw [6] (fun i wr => ∃ (k : Nat) (out : List (Int × Int)) (u : Value), k ≤ n ∧ i = .int .i64 k ∧ wr.cell? ⟨w'.heap.size, 0, none⟩ = some u ∧ wr.frozen? ⟨w'.heap.size, 0, none⟩ = false ∧ Hid (wr.ownsRow (w'.heap.size + 1) 112 2 u out.length (pcells out)) ∧ Hid (out ++ packF (xs.drop k) = packF xs) ∧ out.length ≤ k ∧ Hid (Below w'.heap.size w' wr) ∧ w'.heap.size < wr.heap.size) (fun i _ => n - (intOf i).toNat)
      case atStart => exact ⟨0, [], .slice none 0 0, by omega, rfl, by simp, by simp, Lib.hid (World.ownsRow_nil _ _ _ _), Lib.hid (by simp), by simp, HW0, by simp⟩
      case round =>
        clear HW0
        obtain ⟨k, out, u, hk, rfl, hbc, hbf, HO, HP, hol, HW, hsz⟩ := hrel
        by_cases hlt : k < n
        · obtain ⟨b, o, rfl, hc1⟩ := HX0.out.at hlt
          have hc1' := (Keeps.of_below (S := []) HW.out).cell (by simp) hc1
          clear hc1
          go_upto_block 2 with (fail)
          go_cut [6, 8] (fun v6 v8 wc => ∃ m : Nat, m + k ≤ n ∧ 1 ≤ m ∧ v6 = .int .i64 ((k : Int) + m) ∧ v8 = .int .i64 m ∧ Hid (RunOk xs k m) ∧ Hid (Dr wr wc))
          case first =>
            go_wp2_with fail
            go_loopw [6, 8] (fun v6 v8 wi => ∃ m : Nat, m + k ≤ n ∧ v6 = .int .i64 ((k : Int) + m) ∧ v8 = .int .i64 m ∧ Hid (Run0 xs k m) ∧ Hid (Dr wr wi)) (fun _ v8 _ => n - (intOf v8).toNat)
            case atStart => exact ⟨0, by omega, by go_num, rfl, Lib.hid ⟨by have := HL.out; omega, fun j hj => by omega⟩, ⟨0, rfl⟩⟩
            case round =>
              obtain ⟨m, hm, rfl, rfl, HR, HD⟩ := hrel
              obtain ⟨q1, rfl⟩ := HD.out
              clear HD
              by_cases h1 : k + m < n
              · obtain ⟨b', o', he, hc2⟩ := HX0.out.at h1
                injection he with he; injection he with he1 he2 he3; subst he1; subst he2; clear he3
                have hc2' := (Keeps.of_below (S := []) HW.out).cell (by simp) hc2
                clear hc2
                have e2 : (0 : Int) ≤ (k : Int) + (m : Int) := by omega
                have e3 : ((k : Int) + (m : Int)).toNat = k + m := by omega
                have e4 : decide ((k : Int) + (m : Int) < (n : Int)) = true := by simp; omega
                by_cases hv : nth xs (k + m) = nth xs k
                · have e5 : (nth xs (k + m) == nth xs k) = true := by simpa using hv
                  have HV := Lib.hid hv
                  clear hv
                  go_wp2_with fail
                  clear e2 e3 e4 e5
                  go_wp2_with fail
                  go_roundw
                  case rel => exact ⟨m + 1, by omega, by go_num, by go_num, Lib.hid (HR.out.step (by have := HL.out; omega) HV.out), Lib.hid (by first | exact ⟨_, rfl⟩ | exact Dr.step ⟨_, rfl⟩ _)⟩
                  case measure => simp [intOf]; omega
                · have e5 : (nth xs (k + m) == nth xs k) = false := by simpa using hv
                  have HV := Lib.hid hv
                  clear hv
                  go_wp2_with fail
                  clear e2 e3 e4 e5
                  go_wp2_with fail
                  go_meet
                  case rel => exact ⟨m, by omega, HR.out.one (by have := HL.out; omega) (fun _ => HV.out), rfl, rfl, Lib.hid { one := HR.out.one (by have := HL.out; omega) (fun _ => HV.out), le := HR.out.le, eq := HR.out.eq, stop := fun _ => HV.out }, Lib.hid (by first | exact ⟨_, rfl⟩ | exact Dr.step ⟨_, rfl⟩ _)⟩
              · have e4 : decide ((k : Int) + (m : Int) < (n : Int)) = false := by simp; omega
                go_wp2_with fail
                clear e4
                go_wp2_with fail
                go_meet
                case rel => exact ⟨m, by omega, by omega, rfl, rfl, Lib.hid { one := by omega, le := HR.out.le, eq := HR.out.eq, stop := fun h => absurd h (by have := HL.out; omega) }, Lib.hid (by first | exact ⟨_, rfl⟩ | exact Dr.step ⟨_, rfl⟩ _)⟩
          case rest =>
            obtain ⟨m, hm, hm1, rfl, rfl, HR, HD⟩ := hcut
            have HO1 : Hid (wc.ownsRow (w'.heap.size + 1) 112 2 u out.length (pcells out)) := by obtain ⟨q1, rfl⟩ := HD.out; exact HO.out
            have HW1 : Hid (Below w'.heap.size w' wc) := by obtain ⟨q1, rfl⟩ := HD.out; exact (HW.out.trans ((Dr.below ⟨q1, rfl⟩).mono HW.out.size))
            have hbc1 : wc.cell? ⟨w'.heap.size, 0, none⟩ = some u := by obtain ⟨q1, rfl⟩ := HD.out; exact hbc
            have hbf1 : wc.frozen? ⟨w'.heap.size, 0, none⟩ = false := by obtain ⟨q1, rfl⟩ := HD.out; exact hbf
            clear HD HO HW hbc hbf hc1'
            have HT1 := Lib.hid (HT0.out.below HW1.out HG.out)
            have hsz1 : w'.heap.size < wc.heap.size := World.block_lt_of_cell? _ _ hbc1
            go_upto_if 43 with (fail)
            go_cut [8] (fun v8 wc => ∃ (r : Nat) (es : List (Int × Int)) (u : Value), r + es.length ≤ m ∧ v8 = .int .i64 r ∧ Hid (es ++ List.replicate r (nth xs k, 0) = rsteps (nth xs k) m) ∧ wc.cell? ⟨w'.heap.size, 0, none⟩ = some u ∧ wc.frozen? ⟨w'.heap.size, 0, none⟩ = false ∧ Hid (wc.ownsRow (w'.heap.size + 1) 112 2 u (out.length + es.length) (pcells (out ++ es))) ∧ Hid (Below w'.heap.size w' wc))
            case first =>
              by_cases hz : nth xs k = 0
              · have e5 : (nth xs k == 0) = true := by simpa using hz
                have HZ := Lib.hid hz
                clear hz
                go_wp2_with fail
                refine (pack1_calls _ _ m 11 18 138 u out.length out HT1.out HG.out hbc1 hbf1 HO1.out (by omega) rfl (by omega) (by omega) (by omega) (by omega) (by omega)).mono ?_
                rintro e w2 ⟨u2, rfl, hc2, hf2, ho2, hb2⟩
                have hl1 := reps_len 11 18 138 m (by omega) (by omega)
                have hl2 := reps_len 3 17 10 (left 11 138 m) (by omega) (by omega)
                have HO2 := Lib.hid ho2
                have HB2 := Lib.hid hb2
                clear ho2 hb2 HO1 hbc1 hbf1 e5
                have HT2 := Lib.hid (HT1.out.below HB2.out HG.out)
                go_wp2_with fail
                refine (pack1_calls _ _ (left 11 138 m) 3 17 10 u2 _ _ HT2.out HG.out hc2 hf2 HO2.out (by omega) rfl (by omega) (by omega) (by omega) (by omega) (by omega)).mono ?_
                rintro e w3 ⟨u3, rfl, hc3, hf3, ho3, hb3⟩
                have HO3 := Lib.hid ho3
                have HB3 := Lib.hid hb3
                clear ho3 hb3 HO2 hc2 hf2
                go_wp2_with fail
                go_meet
                case rel =>
                  refine ⟨_, reps 11 18 138 m ++ reps 3 17 10 (left 11 138 m), u3, ?_, rfl, ?_, hc3, hf3, ?_, Lib.hid ((HW1.out.trans HB2.out).trans HB3.out)⟩
                  · rw [List.length_append]; omega
                  · rw [HZ.out]; exact Lib.hid (by simp [rsteps, zsteps])
                  · exact Lib.hid (by have := HO3.out; rw [List.length_append, ← Nat.add_assoc, ← List.append_assoc]; exact this)
              · have e5 : (nth xs k == 0) = false := by simpa using hz
                have HZ := Lib.hid hz
                clear hz
                go_wp2_with (at_builtin; refine app_step rfl (.tmp 49) (.tmp 52) rfl (w'.heap.size + 1) _ _ _ rfl (HO1.out.alloc _) wc.heap.size (nth xs k) 0 rfl (by simp) (by simp) (by omega) (by simp; omega) ?_)
                intro v' w1 h1 hg g' c' hv
                subst hv
                have hcx := box_cell hbc1 (fun k hk => (HO1.out.lt k hk).1) hg
                have hfx := box_frozen hsz1 hbf1 (fun k hk => (HO1.out.lt k hk).1) hg
                obtain ⟨hc2, hf2, ho2, hb2⟩ := box_put HW1.out hbc1 hbf1 (fun k hk => (HO1.out.lt k hk).1) hg h1
                have HO2 := Lib.hid ho2
                have HB2 := Lib.hid hb2
                have HT2 := Lib.hid (HT0.out.below HB2.out HG.out)
                clear ho2 hb2 HO1 hbc1 hbf1 e5 h1 hg HW1
                have hl2 := reps_len 3 16 6 (m - 1) (by omega) (by omega)
                have em : (m : Int) - 1 = ((m - 1 : Nat) : Int) := by omega
                go_wp2_with fail
                clear hcx hfx
                refine (pack1_calls _ _ (m - 1) 3 16 6 _ _ _ HT2.out HG.out hc2 hf2 HO2.out (by omega) rfl (by omega) (by omega) (by omega) (by omega) (by omega)).mono ?_
                rintro e w3 ⟨u3, rfl, hc3, hf3, ho3, hb3⟩
                have HO3 := Lib.hid ho3
                have HB3 := Lib.hid hb3
                clear ho3 hb3 HO2 hc2 hf2 em
                go_wp2_with fail
                go_meet
                case rel =>
                  refine ⟨_, (nth xs k, 0) :: reps 3 16 6 (m - 1), u3, ?_, rfl, ?_, hc3, hf3, ?_, Lib.hid (HB2.out.trans HB3.out)⟩
                  · rw [List.length_cons]; omega
                  · exact Lib.hid (by simp [rsteps, vsteps, HZ.out])
                  · exact Lib.hid (by have := HO3.out; rw [List.length_cons, show out.length + ((reps 3 16 6 (m - 1)).length + 1) = out.length + 1 + (reps 3 16 6 (m - 1)).length by omega]; simpa using this)
            case rest =>
              clear HO1 hbc1 hbf1 HW1 HT1 hsz1
              obtain ⟨r, es, u1, hre, rfl, HE, hc1, hf1, HO1, HW1⟩ := hcut
              go_wp2_with fail
              go_loopw [59] (fun v59 wr => ∃ (j : Nat) (u : Value), j ≤ r ∧ v59 = .int .i64 j ∧ wr.cell? ⟨w'.heap.size, 0, none⟩ = some u ∧ wr.frozen? ⟨w'.heap.size, 0, none⟩ = false ∧ Hid (wr.ownsRow (w'.heap.size + 1) 112 2 u (out.length + es.length + j) (pcells (out ++ (es ++ List.replicate j (nth xs k, 0))))) ∧ Hid (Below w'.heap.size w' wr)) (fun v59 _ => r - (intOf v59).toNat)
              case atStart => exact ⟨0, u1, by omega, rfl, hc1, hf1, Lib.hid (by simpa using HO1.out), HW1⟩
              case round =>
                clear HO1 HW1 hc1 hf1
                obtain ⟨j, u2, hj, rfl, hc1, hf1, HO1, HW1⟩ := hrel
                have hsz1 : w'.heap.size < wr.heap.size := World.block_lt_of_cell? _ _ hc1
                by_cases hjr : j < r
                · go_wp2_with (at_builtin; refine app_step rfl (.tmp 61) (.tmp 64) rfl (w'.heap.size + 1) _ _ _ rfl (HO1.out.alloc _) wr.heap.size (nth xs k) 0 rfl (by simp) (by simp) (by omega) (by simp; omega) ?_)
                  intro v' w1 h1 hg g' c' hv
                  subst hv
                  have hcx := box_cell hc1 (fun k hk => (HO1.out.lt k hk).1) hg
                  have hfx := box_frozen hsz1 hf1 (fun k hk => (HO1.out.lt k hk).1) hg
                  obtain ⟨hc2, hf2, ho2, hb2⟩ := box_put HW1.out hc1 hf1 (fun k hk => (HO1.out.lt k hk).1) hg h1
                  have HO2 := Lib.hid ho2
                  have HB2 := Lib.hid hb2
                  clear ho2 hb2 HO1 hc1 hf1 h1 hg HW1
                  go_wp2_with fail
                  go_roundw
                  case rel => exact ⟨j + 1, _, by omega, by go_num, hc2, hf2, Lib.hid (by rw [List.replicate_succ']; simpa [Nat.add_assoc] using HO2.out), HB2⟩
                  case measure => simp [intOf]; omega
                · obtain rfl : j = r := by omega
                  go_wp2_with fail
                  go_roundw
                  case rel =>
                    have hpk := HR.out.pack
                    have hp := HP.out
                    have hrl := rsteps_len (nth xs k) m hm1
                    rw [hpk, ← List.append_assoc] at hp
                    have ho := HO1.out
                    rw [HE.out] at ho
                    exact ⟨k + m, out ++ rsteps (nth xs k) m, u2, by omega, by go_num, hc1, hf1, Lib.hid (own_as ho rfl), Lib.hid hp, by rw [List.length_append]; omega, HW1, hsz1⟩
                  case measure => simp [intOf]; omega
        · go_wp2_with fail
          obtain rfl : k = n := by omega
          go_ret2
          have e1 : xs.drop k = [] := List.drop_eq_nil_of_le (by have := HL.out; omega)
          have e2 := HP.out
          rw [e1, packF_nil, List.append_nil] at e2
          subst e2
          exact Or.inl ⟨by have := HL.out; omega, HB.out, _, rfl, (HO.out.mono (by have := HSZ.out; omega)), (Dr.below HDR.out).trans (HSZ.out ▸ HW.out)⟩
end Go.Proofs.YtkpabdjniiepkaaGreatDoor

set_option linter.unusedVariables false
set_option linter.unusedSimpArgs false
namespace Go.Proofs.YtkpabdjniiepkaaGreatDoor
open Go.RowKit
set_option maxRecDepth 100000 in
set_option maxHeartbeats 1000000 in
theorem concat_calls (w : World) (gb : Nat) (A1 A2 : Option Addr) (n1 n2 c1 c2 : Nat) (xs ys : List Int) (h0 : w.cell? ⟨gb, 0, none⟩ = some (.slice A1 n1 c1)) (h1 : w.cell? ⟨gb, 1, none⟩ = some (.slice A2 n2 c2))
    (hx : RI .i64 w A1 n1 xs) (hy : RI .i64 w A2 n2 ys) (hnx : A1 = none → n1 = 0 ∧ c1 = 0) (hny : A2 = none → n2 = 0 ∧ c2 = 0) (hpx : ∀ ad, A1 = some ad → ∃ b o, ad = ⟨b, o, none⟩) (hpy : ∀ ad, A2 = some ad → ∃ b o, ad = ⟨b, o, none⟩)
    (hn1 : n1 ≤ 1000000000) (hn2 : n2 ≤ 1000000000) :
    Calls Tryz.prog 27 #[.slice (some ⟨gb, 0, none⟩) 2 2] w fun e w' => ∃ v, e = .returned v ∧ w'.ownsRow w.heap.size 3 1 v (n1 + n2) (ints .i64 (xs ++ ys)) ∧ Below w.heap.size w w' := by
  have HX := Lib.hid hx
  have HY := Lib.hid hy
  have NX := Lib.hid hnx
  have NY := Lib.hid hny
  have PX := Lib.hid hpx
  have PY := Lib.hid hpy
  have H0 := Lib.hid h0
  have H1 := Lib.hid h1
  have e1 : decide ((n1 : Int) < 0) = false := by simp
  have e2 : decide ((n1 : Int) + n2 < 0) = false := by simp; omega
  clear hx hy hnx hny hpx hpy
  go_enter Tryz.func27, Tryz.ntmps27
  go_wp2_with fail
  refine wp_loop_rounds 3 ?_
  rw [rounds_succ]
  go_wp2_with fail
  rw [rounds_succ]
  go_wp2_with fail
  rw [rounds_succ]
  go_wp2_with fail
  rw [show ((n1 : Int) + n2) = ((n1 + n2 : Nat) : Int) by omega]
  refine (grow_calls _ (n1 + n2) (by omega)).mono ?_
  rintro _ w1 ⟨v, rfl, ho, hb⟩
  have HO := Lib.hid (ho w.heap.size (Nat.le_refl _))
  have HB := Lib.hid hb
  have hz := hb.size
  have h0 := (Keeps.of_below (S := []) hb).cell (by simp) H0.out
  have h1 := (Keeps.of_below (S := []) hb).cell (by simp) H1.out
  clear ho hb e1 e2
  go_wp2_with fail
  refine wp_loop_rounds 3 ?_
  rw [rounds_succ]
  go_wp2_with (at_builtin; refine app_intsG rfl (.tmp 31) (.tmp 32) rfl w.heap.size _ _ [] rfl HO.out A1 n1 c1 xs rfl (HX.out.keeps (Keeps.of_below (S := []) HB.out) (off_nil _)) NX.out PX.out (by omega) hz ?_)
  intro v2 w2 ho hg
  have HO2 := Lib.hid ho
  have hb2 := HB.out.grown hg (Nat.le_trans (Nat.le_refl _) hz) (fun k hk => own_lo HO.out k hk)
  have HB2 := Lib.hid hb2
  have hz2 := hb2.size
  have h0 := (Keeps.of_below (S := []) hb2).cell (by simp) H0.out
  have h1 := (Keeps.of_below (S := []) hb2).cell (by simp) H1.out
  clear ho hg hb2
  go_wp2_with fail
  rw [rounds_succ]
  go_wp2_with (at_builtin; refine app_intsG rfl (.tmp 31) (.tmp 32) rfl w.heap.size _ _ _ rfl HO2.out A2 n2 c2 ys rfl (HY.out.keeps (Keeps.of_below (S := []) HB2.out) (off_nil _)) NY.out PY.out (by omega) hz2 ?_)
  intro v3 w3 ho hg
  have HO3 := Lib.hid ho
  have hb3 := HB2.out.grown hg hz2 (fun k hk => own_lo HO2.out k hk)
  have HB3 := Lib.hid hb3
  clear ho hg hb3 h0 h1
  go_wp2_with fail
  rw [rounds_succ]
  go_wp2_with fail
  go_ret
  exact ⟨_, rfl, HO3.out, HB3.out⟩
/-- The same, told of a world before. -/
theorem concat_from (w0 w : World) (gb : Nat) (A1 A2 : Option Addr) (n1 n2 c1 c2 : Nat) (xs ys : List Int) (hk : Keeps [] w0 w) (h0 : w.cell? ⟨gb, 0, none⟩ = some (.slice A1 n1 c1)) (h1 : w.cell? ⟨gb, 1, none⟩ = some (.slice A2 n2 c2))
    (hx : RI .i64 w0 A1 n1 xs) (hy : RI .i64 w0 A2 n2 ys) (hnx : A1 = none → n1 = 0 ∧ c1 = 0) (hny : A2 = none → n2 = 0 ∧ c2 = 0) (hpx : ∀ ad, A1 = some ad → ∃ b o, ad = ⟨b, o, none⟩) (hpy : ∀ ad, A2 = some ad → ∃ b o, ad = ⟨b, o, none⟩)
    (hn1 : n1 ≤ 1000000000) (hn2 : n2 ≤ 1000000000) :
    Calls Tryz.prog 27 #[.slice (some ⟨gb, 0, none⟩) 2 2] w fun e w' => ∃ A c, e = .returned (.slice A (n1 + n2) c) ∧ w'.ownsRow w0.heap.size 3 1 (.slice A (n1 + n2) c) (n1 + n2) (ints .i64 (xs ++ ys)) ∧ Keeps [] w0 w' := by
  refine (concat_calls w gb A1 A2 n1 n2 c1 c2 xs ys h0 h1 (hx.keeps hk (off_nil _)) (hy.keeps hk (off_nil _)) hnx hny hpx hpy hn1 hn2).mono ?_
  rintro e w' ⟨v, rfl, ho, hb⟩
  have ho2 := ho.mono hk.size
  have hf : ∃ A c, v = .slice A (n1 + n2) c := by
    rcases ho.2 with ⟨rfl, h0⟩ | ⟨g, cap, cur, rfl, _⟩
    · exact ⟨none, 0, by rw [h0]⟩
    · exact ⟨_, _, rfl⟩
  obtain ⟨A, c, rfl⟩ := hf
  exact ⟨A, c, rfl, ho2, hk.trans (Keeps.of_below hb)⟩
end Go.Proofs.YtkpabdjniiepkaaGreatDoor

/- Packs in memory: a block known whole; the order by weight. -/
set_option linter.unusedVariables false
set_option linter.unusedSimpArgs false
namespace Go.Proofs.YtkpabdjniiepkaaGreatDoor
open Go.RowKit
/-- A pack as it stands in memory: its weight and the slice of its symbols. -/
structure Pk where
  w : Int
  a : Option Addr
  n : Nat
  c : Nat
instance : Inhabited Pk := ⟨⟨0, none, 0, 0⟩⟩
def kcells : List Pk → List Value
  | [] => []
  | p :: r => .int .i64 p.w :: .slice p.a p.n p.c :: kcells r
theorem kcells_append (xs ys : List Pk) : kcells (xs ++ ys) = kcells xs ++ kcells ys := by
  induction xs with
  | nil => rfl
  | cons p r ih => simp [kcells, ih]
theorem kcells_length (xs : List Pk) : (kcells xs).length = xs.length * 2 := by
  induction xs with
  | nil => rfl
  | cons p r ih => simp [kcells, ih]; omega
theorem kcells_one (xs : List Pk) : ∀ v ∈ kcells xs, v.oneCell' = true := by
  induction xs with
  | nil => simp [kcells]
  | cons p r ih =>
    intro v hv
    simp only [kcells, List.mem_cons] at hv
    rcases hv with rfl | rfl | h
    · rfl
    · rfl
    · exact ih v h
/-- The pack at a place. -/
def kth (xs : List Pk) (j : Nat) : Pk := xs.getD j default
theorem kth_lt {xs : List Pk} {j : Nat} (h : j < xs.length) : kth xs j = xs[j] := by simp [kth, List.getD, h]
theorem kcells_get (xs : List Pk) (R : List Value) : ∀ j, j < xs.length → (kcells xs ++ R)[j * 2]? = some (.int .i64 (kth xs j).w) ∧ (kcells xs ++ R)[j * 2 + 1]? = some (.slice (kth xs j).a (kth xs j).n (kth xs j).c) := by
  induction xs with
  | nil => intro j hj; simp at hj
  | cons p r ih =>
    intro j hj
    match j with
    | 0 => exact ⟨rfl, rfl⟩
    | j + 1 =>
      have := ih j (by simpa using hj)
      rw [show (j + 1) * 2 = j * 2 + 1 + 1 by omega]
      exact this
theorem kcells_set (xs : List Pk) (R : List Value) (p : Pk) : ∀ j, j < xs.length → ((kcells xs ++ R).set (j * 2) (.int .i64 p.w)).set (j * 2 + 1) (.slice p.a p.n p.c) = kcells (xs.set j p) ++ R := by
  induction xs with
  | nil => intro j hj; simp at hj
  | cons q r ih =>
    intro j hj
    match j with
    | 0 => rfl
    | j + 1 =>
      have := ih j (by simpa using hj)
      rw [show (j + 1) * 2 = j * 2 + 1 + 1 by omega]
      simp only [kcells, List.cons_append, List.set_cons_succ, this]
/-- A block holds packs, and behind them what is spare. -/
def PB (w : World) (g : Nat) (L : List Pk) (R : List Value) : Prop := Blk w g 103 (kcells L ++ R)
theorem PB.lt {w : World} {g : Nat} {L : List Pk} {R : List Value} (h : PB w g L R) : g < w.heap.size := Blk.lt h
theorem PB.keeps {S : List Nat} {w w' : World} {g : Nat} {L : List Pk} {R : List Value} (h : PB w g L R) (hk : Keeps S w w') (hn : g ∉ S) : PB w' g L R := Blk.keeps h hk hn
theorem PB.cell {w : World} {g : Nat} {L : List Pk} {R : List Value} (h : PB w g L R) {j : Nat} (hj : j < L.length) :
    w.cell? ⟨g, j * 2, none⟩ = some (.int .i64 (kth L j).w) ∧ w.cell? ⟨g, j * 2 + 1, none⟩ = some (.slice (kth L j).a (kth L j).n (kth L j).c) := by
  have := kcells_get L R j hj
  exact ⟨(Blk.cell h _).trans this.1, (Blk.cell h _).trans this.2⟩
theorem PB.free {w : World} {g : Nat} {L : List Pk} {R : List Value} (h : PB w g L R) (j : Nat) : w.frozen? ⟨g, j, none⟩ = false := Blk.frozen h j
theorem PB.set {w : World} {g : Nat} {L : List Pk} {R : List Value} (h : PB w g L R) {j : Nat} (hj : j < L.length) (p : Pk) :
    PB ((w.setCell ⟨g, j * 2, none⟩ (.int .i64 p.w)).setCell ⟨g, j * 2 + 1, none⟩ (.slice p.a p.n p.c)) g (L.set j p) R := by
  have h1 := Blk.set h (j * 2) (.int .i64 p.w)
  have h2 := Blk.set h1 (j * 2 + 1) (.slice p.a p.n p.c)
  rw [kcells_set L R p j hj] at h2
  exact h2
theorem PB.dr {w w' : World} {g : Nat} {L : List Pk} {R : List Value} (h : PB w g L R) (hd : Dr w w') : PB w' g L R := h.keeps (hd.keeps (S := [])) (by simp)
theorem Keeps.put {w w' : World} {g j : Nat} (h : Keeps [g] w w') (u : Value) : Keeps [g] w (w'.setCell ⟨g, j, none⟩ u) := h.setCell (Or.inl (by simp)) u
def pv (p : Pk) : Value := .agg #[.int .i64 p.w, .slice p.a p.n p.c]
set_option maxHeartbeats 400000 in
/-- The order: by weight. -/
theorem lighter_calls (w : World) (x y : Int) (xa ya : Option Addr) (xn xc yn yc : Nat) (hx0 : 0 ≤ x) (hx : x ≤ 100000000000000000) (hy0 : 0 ≤ y) (hy : y ≤ 100000000000000000) :
    Calls Tryz.prog 47 #[.agg #[.int .i64 x, .slice xa xn xc], .agg #[.int .i64 y, .slice ya yn yc]] w fun e w' => e = .returned (.int .i64 (x - y)) ∧ Keeps [] w w' := by
  go_enter Tryz.func47, Tryz.ntmps47
  go_wp2
  go_ret
  exact ⟨rfl, by repeat (first | exact Keeps.refl _ _ | apply Keeps.drewN | apply Keeps.drew | apply Keeps.alloc)⟩
end Go.Proofs.YtkpabdjniiepkaaGreatDoor

set_option linter.unusedVariables false
set_option linter.unusedSimpArgs false
namespace Go.Proofs.YtkpabdjniiepkaaGreatDoor
open Go.RowKit
/-- Two places exchanged. -/
def swp (L : List Pk) (i j : Nat) : List Pk := (L.set i (kth L j)).set j (kth L i)
theorem swp_length (L : List Pk) (i j : Nat) : (swp L i j).length = L.length := by simp [swp]
/-- So many exchanged. -/
def swpN (L : List Pk) (a b : Nat) : Nat → List Pk
  | 0 => L
  | n + 1 => swp (swpN L a b n) (a + n) (b + n)
theorem swpN_length (L : List Pk) (a b n : Nat) : (swpN L a b n).length = L.length := by
  induction n with
  | zero => rfl
  | succ n ih => rw [swpN, swp_length, ih]
theorem set_two (L : List Pk) (i j : Nat) (hi : i < L.length) (hj : j < L.length) (w : World) (g : Nat) (R : List Value) (h : PB w g L R) (hij : i ≠ j) :
    PB ((((w.setCell ⟨g, i * 2, none⟩ (.int .i64 (kth L j).w)).setCell ⟨g, i * 2 + 1, none⟩ (.slice (kth L j).a (kth L j).n (kth L j).c)).setCell ⟨g, j * 2, none⟩ (.int .i64 (kth L i).w)).setCell ⟨g, j * 2 + 1, none⟩ (.slice (kth L i).a (kth L i).n (kth L i).c)) g (swp L i j) R :=
  (h.set hi (kth L j)).set (by simpa using hj) (kth L i)
set_option maxRecDepth 100000 in
set_option maxHeartbeats 1000000 in
theorem swapRange_calls (w : World) (g : Nat) (L : List Pk) (R : List Value) (m c a b n : Nat) (fv : Value) (h : PB w g L R) (hm : m = L.length) (hab : a + n ≤ b) (hb : b + n ≤ m) (hsz : m ≤ 1000000) :
    Calls Tryz.prog 116 #[.slice (some ⟨g, 0, none⟩) m c, .int .i64 a, .int .i64 b, .int .i64 n, fv] w fun e w' => e = .returned (.tuple #[]) ∧ PB w' g (swpN L a b n) R ∧ Keeps [g] w w' := by
  have H := Lib.hid h
  have HM := Lib.hid hm
  clear h hm
  go_enter Tryz.func116, Tryz.ntmps116
  go_wp2_with fail
  go_loopw [10] (fun i wr => ∃ k : Nat, k ≤ n ∧ i = .int .i64 k ∧ Hid (PB wr g (swpN L a b k) R) ∧ Hid (Keeps [g] w wr)) (fun i _ => n - (intOf i).toNat)
  case atStart => exact ⟨0, by omega, rfl, H, Lib.hid (Keeps.refl _ _)⟩
  case round =>
    obtain ⟨k, hk, rfl, HB, HK⟩ := hrel
    by_cases hlt : k < n
    · have hl := swpN_length L a b k
      have HL := Lib.hid hl
      have HS : Hid (swpN L a b (k + 1) = swp (swpN L a b k) (a + k) (b + k)) := rfl
      clear hl
      generalize swpN L a b k = M at *
      obtain ⟨p1, p2⟩ := HB.out.cell (j := a + k) (by have := HL.out; have := HM.out; omega)
      obtain ⟨q1, q2⟩ := HB.out.cell (j := b + k) (by have := HL.out; have := HM.out; omega)
      have f1 := HB.out.free ((a + k) * 2)
      have f2 := HB.out.free ((a + k) * 2 + 1)
      have f3 := HB.out.free ((b + k) * 2)
      have f4 := HB.out.free ((b + k) * 2 + 1)
      have s1 : ((a : Int) + k).toNat = a + k := by omega
      have s2 : ((b : Int) + k).toNat = b + k := by omega
      have s3 : (0 : Int) ≤ (a : Int) + k := by omega
      have s4 : (0 : Int) ≤ (b : Int) + k := by omega
      have s5 : (a : Int) + k < (m : Int) := by omega
      have s6 : (b : Int) + k < (m : Int) := by omega
      go_wp2_with fail
      go_region
      go_wp2_with fail
      go_roundw
      case rel =>
        refine ⟨k + 1, by omega, by go_num, Lib.hid ?_, Lib.hid ?_⟩
        · rw [HS.out]
          exact (set_two M (a + k) (b + k) (by have := HL.out; have := HM.out; omega) (by have := HL.out; have := HM.out; omega) _ g R HB.out (by omega)).dr (Dr.refl _).drew
        · exact ((((HK.out.put _).put _).put _).put _).drew
      case measure => simp [intOf]; omega
    · obtain rfl : k = n := by omega
      go_wp2_with fail
      go_end0
      exact ⟨rfl, HB.out, HK.out⟩
end Go.Proofs.YtkpabdjniiepkaaGreatDoor
