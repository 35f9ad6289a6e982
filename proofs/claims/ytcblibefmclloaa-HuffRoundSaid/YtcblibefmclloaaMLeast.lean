import Derived.Test.YtcblibefmclloaaMKraft3
set_option linter.unusedVariables false
set_option linter.unusedSimpArgs false
/-! Plain mathematics: the reference's least sum is what the lengths cost. -/
namespace Go.Proofs.Ytcblibefmclloaa
/-- A rising list with one more. -/
def withF (x : Int) (l : List Int) : List Int := insW id x l
def pairSum : List Int → List Int
  | a :: b :: r => (a + b) :: pairSum r
  | _ => []
def leastLv (lv : List Int) : Nat → List Int
  | 0 => []
  | t + 1 => sortW id (pairSum (leastLv lv t)) lv
def posL (cs : List Int) : List Int := cs.filter fun x => decide (0 < x)
def leavesS (cs : List Int) : List Int := sortW id (posL cs) []
def leastF (cs : List Int) (t : Nat) : Int := ((leastLv (leavesS cs) t).take (2 * (leavesS cs).length - 2)).sum
theorem sortW_snoc {α : Type} (f : α → Int) (l : List α) (x : α) : ∀ acc, sortW f (l ++ [x]) acc = insW f x (sortW f l acc) := by
  induction l with
  | nil => intro acc; rfl
  | cons p r ih => intro acc; rw [List.cons_append, sortW, ih, sortW]
theorem srt_ints_eq {r l : List Int} (hr : Srt id r) (hl : Srt id l) (h : r.Perm l) : r = l := by
  refine Srt_eq id hr hl ⟨h, fun v => ?_⟩
  have e : ∀ x : List Int, x.filter (fun p => decide (id p = v)) = List.replicate (x.count v) v := fun x => by
    have : (fun p : Int => decide (id p = v)) = fun p => p == v := funext fun p => rfl
    rw [this, List.filter_beq]
  rw [e, e, h.count_eq]
theorem pairSum_map (X : List PP) : (pairsF X).map Prod.fst = pairSum (X.map Prod.fst) := by
  induction X using pairsF.induct with
  | case1 a b r ih => rw [pairsF, List.map_cons, ih, List.map_cons, List.map_cons, pairSum]
  | case2 l hl =>
    rw [pairsF_short hl]
    match l, hl with
    | [], _ => rfl
    | [x], _ => rfl
    | a :: b :: r, h => exact absurd rfl (h a b r)
theorem srt_map {l : List PP} (h : Srt Prod.fst l) : Srt id (l.map Prod.fst) := List.pairwise_map.2 h
theorem least_map {lv : List PP} (hs : Srt Prod.fst lv) : ∀ t, (levelF lv t).map Prod.fst = leastLv (lv.map Prod.fst) t
  | 0 => rfl
  | t + 1 => by
    have ih := least_map hs t
    rw [leastLv, ← ih, ← pairSum_map]
    have h1 := sortW_spec id ((pairsF (levelF lv t)).map Prod.fst) (lv.map Prod.fst) (srt_map hs)
    refine srt_ints_eq (srt_map (level_srt lv (t + 1))) h1.1 ?_
    refine ((sortP_perm _).map Prod.fst).trans ?_
    rw [List.map_append]
    exact h1.2.1.symm
theorem leaves_fst (cs : List Int) : ∀ i, (leavesF cs i).map Prod.fst = posL cs := by
  induction cs with
  | nil => intro i; rfl
  | cons x r ih =>
    intro i
    rw [leavesF]
    unfold posL at *
    by_cases h : 0 < x
    · rw [if_pos h, List.filter_cons_of_pos (by simpa using h), List.map_cons, ih]
    · rw [if_neg h, List.filter_cons_of_neg (by simpa using h), ih]
theorem leavesS_map (cs : List Int) : (sortP (leavesF cs 0)).map Prod.fst = leavesS cs := by
  have h1 := sortW_spec id (posL cs) [] List.Pairwise.nil
  refine srt_ints_eq (srt_map (sortW_srt _ _)) h1.1 ?_
  refine ((sortP_perm _).map Prod.fst).trans ?_
  rw [leaves_fst]
  have := h1.2.1.symm
  rwa [List.nil_append] at this
theorem leavesS_len (cs : List Int) : (leavesS cs).length = (leavesF cs 0).length := by
  rw [← leavesS_map, List.length_map, sortP_len]
/-! What a package weighs is the sum of its symbols' counts. -/
def sumI : Nat → (Nat → Int) → Int
  | 0, _ => 0
  | n + 1, g => sumI n g + g n
theorem sumI_congr {g h : Nat → Int} : ∀ n, (∀ q, q < n → g q = h q) → sumI n g = sumI n h
  | 0, _ => rfl
  | n + 1, e => by rw [sumI, sumI, sumI_congr n (fun q hq => e q (by omega)), e n (by omega)]
theorem sumI_add (g h : Nat → Int) : ∀ n, sumI n (fun q => g q + h q) = sumI n g + sumI n h
  | 0 => rfl
  | n + 1 => by rw [sumI, sumI, sumI, sumI_add g h n]; omega
theorem sumI_one (x : Int) (s : Nat) : ∀ n, sumI n (fun q => if q = s then x else 0) = if s < n then x else 0
  | 0 => rfl
  | n + 1 => by
    rw [sumI, sumI_one x s n]
    by_cases h : n = s
    · subst h; rw [if_neg (Nat.lt_irrefl _), if_pos rfl, if_pos (by omega)]; omega
    · rw [if_neg h]
      by_cases h2 : s < n
      · rw [if_pos h2, if_pos (by omega)]; omega
      · rw [if_neg h2, if_neg (by omega)]; rfl
def cw (cs : List Int) (s : Int) : Int := nth cs s.toNat
def Good (cs : List Int) (l : List PP) : Prop := ∀ p ∈ l, p.1 = (p.2.map (cw cs)).sum
theorem good_perm {cs : List Int} {a b : List PP} (h : a.Perm b) (hb : Good cs b) : Good cs a := fun p hp => hb p (h.mem_iff.1 hp)
theorem good_pairs (cs : List Int) (l : List PP) (h : Good cs l) : Good cs (pairsF l) := by
  induction l using pairsF.induct with
  | case1 a b r ih =>
    intro p hp
    rw [pairsF] at hp
    rcases List.mem_cons.1 hp with rfl | hp
    · simp only [List.map_append, List.sum_append]
      rw [h a (by simp), h b (by simp)]
    · exact ih (fun q hq => h q (by simp [hq])) p hp
  | case2 l hl => rw [pairsF_short hl]; intro p hp; simp at hp
theorem good_level {cs : List Int} {lv : List PP} (h : Good cs lv) : ∀ t, Good cs (levelF lv t)
  | 0 => fun p hp => by simp [levelF] at hp
  | t + 1 => good_perm (sortP_perm _) (fun p hp => by
    rcases List.mem_append.1 hp with hp | hp
    · exact h p hp
    · exact good_pairs cs _ (good_level h t) p hp)
theorem good_leaves (cs : List Int) : Good cs (leavesF cs 0) := fun p hp => by
  obtain ⟨i, _, _, rfl⟩ := (leaf_mem' cs p).1 hp
  simp [cw]
theorem good_sum {cs : List Int} {l : List PP} (h : Good cs l) : (l.map Prod.fst).sum = ((l.flatMap Prod.snd).map (cw cs)).sum := by
  induction l with
  | nil => rfl
  | cons p r ih =>
    rw [List.map_cons, List.sum_cons, List.flatMap_cons, List.map_append, List.sum_append, ih (fun q hq => h q (by simp [hq])), h p (by simp)]
theorem cost_sum (cs : List Int) (N : Nat) : ∀ S : List Int, (∀ s ∈ S, 0 ≤ s ∧ s < N) → sumI N (fun i => nth cs i * (S.count (i : Int) : Int)) = (S.map (cw cs)).sum
  | [], _ => by
    rw [sumI_congr N (h := fun q => if q = N then 0 else 0) (fun q _ => by simp), sumI_one]; simp
  | s :: S, h => by
    have ih := cost_sum cs N S (fun x hx => h x (by simp [hx]))
    obtain ⟨h0, h1⟩ := h s (by simp)
    obtain ⟨k, rfl⟩ := Int.eq_ofNat_of_zero_le h0
    rw [List.map_cons, List.sum_cons, ← ih]
    have e : sumI N (fun i => nth cs i * (List.count (i : Int) ((k : Int) :: S) : Int)) = sumI N (fun i => (if i = k then nth cs k else 0) + nth cs i * (S.count (i : Int) : Int)) := by
      refine sumI_congr N fun q hq => ?_
      rw [List.count_cons]
      by_cases hk : q = k
      · subst hk; simp [Int.mul_add]; omega
      · rw [if_neg hk, if_neg (by simp; omega)]; simp
    rw [e, sumI_add, sumI_one, if_pos (by omega)]
    simp [cw]
/-- What the lengths cost is the least sum. -/
theorem lim_cost (cs : List Int) (t : Nat) (h2 : 2 ≤ (leavesF cs 0).length) (hin : inR cs.length (sortP (leavesF cs 0))) : sumI cs.length (fun i => nth cs i * nth (limLens cs t) i) = leastF cs t := by
  have hS : limLens cs t = cntF cs.length (((levelF (sortP (leavesF cs 0)) t).take (2 * (leavesF cs 0).length - 2)).flatMap Prod.snd) := by
    unfold limLens; rw [if_neg (by omega)]
  have hsrt : Srt Prod.fst (sortP (leavesF cs 0)) := sortW_srt _ _
  rw [hS, sumI_congr cs.length (fun q hq => by rw [cntF_nth _ _ _ hq]), cost_sum cs cs.length _ (fun s hs => by
    obtain ⟨p, hp, hs⟩ := List.mem_flatMap.1 hs
    exact level_inR _ hin t p (List.mem_of_mem_take hp) s hs), ← good_sum (fun p hp => good_level (good_perm (sortP_perm _) (good_leaves cs)) t p (List.mem_of_mem_take hp)), List.map_take, least_map hsrt, leavesS_map]
  unfold leastF
  rw [leavesS_len]
end Go.Proofs.Ytcblibefmclloaa
