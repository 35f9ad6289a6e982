import Derived.Test.YtcblibefmclloaaMKraft
import Derived.Test.YtcblibefmclloaaMHuff
set_option linter.unusedVariables false
set_option linter.unusedSimpArgs false
/-! Plain mathematics: the lengths of package-merge, one by one. -/
namespace Go.Proofs.Ytcblibefmclloaa
def sumR : Nat → (Nat → Nat) → Nat
  | 0, _ => 0
  | n + 1, g => sumR n g + g n
theorem sumR_congr {g h : Nat → Nat} : ∀ n, (∀ q, q < n → g q = h q) → sumR n g = sumR n h
  | 0, _ => rfl
  | n + 1, e => by rw [sumR, sumR, sumR_congr n (fun q hq => e q (by omega)), e n (by omega)]
theorem sumR_add (g h : Nat → Nat) : ∀ n, sumR n (fun q => g q + h q) = sumR n g + sumR n h
  | 0 => rfl
  | n + 1 => by rw [sumR, sumR, sumR, sumR_add g h n]; omega
theorem sumR_mul (K : Nat) (g : Nat → Nat) : ∀ n, sumR n (fun q => K * g q) = K * sumR n g
  | 0 => rfl
  | n + 1 => by rw [sumR, sumR, sumR_mul K g n, Nat.mul_add]
theorem sumR_const (K : Nat) : ∀ n, sumR n (fun _ => K) = n * K
  | 0 => by simp [sumR]
  | n + 1 => by rw [sumR, sumR_const K n, Nat.succ_mul]
theorem sumR_from (K c : Nat) : ∀ n, c ≤ n → sumR n (fun q => if q < c then 0 else K) = (n - c) * K
  | 0, _ => by simp [sumR]
  | n + 1, h => by
    rw [sumR]
    by_cases hc : c ≤ n
    · rw [sumR_from K c n hc, if_neg (by omega), show n + 1 - c = (n - c) + 1 by omega, Nat.succ_mul]
    · obtain rfl : c = n + 1 := by omega
      rw [sumR_congr n (h := fun _ => 0) (fun q hq => by simp; omega), sumR_const, if_pos (by omega)]; simp
theorem sumR_range (g : Nat → Nat) : ∀ n, ((List.range n).map g).sum = sumR n g
  | 0 => rfl
  | n + 1 => by rw [List.range_succ, List.map_append, List.sum_append, sumR_range g n, sumR]; simp
/-- How many of these are greater. -/
def ell (cs : List Nat) (q : Nat) : Nat := cs.countP fun c => decide (q < c)
theorem ell_le (cs : List Nat) (q : Nat) : ell cs q ≤ cs.length := List.countP_le_length
theorem ell_cons (c : Nat) (r : List Nat) (q : Nat) : ell (c :: r) q = ell r q + if q < c then 1 else 0 := by
  unfold ell; rw [List.countP_cons]; simp
theorem ell_anti (cs : List Nat) (q q' : Nat) (h : q ≤ q') : ell cs q' ≤ ell cs q := by
  induction cs with
  | nil => exact Nat.le_refl _
  | cons c r ih =>
    rw [ell_cons, ell_cons]
    by_cases h1 : q' < c
    · rw [if_pos h1, if_pos (by omega)]; omega
    · rw [if_neg h1]; omega
theorem wid_ell (n : Nat) : ∀ cs : List Nat, cs.Pairwise (fun x y => y ≤ x) → (∀ c ∈ cs, c ≤ n) → wid cs + sumR n (fun q => 2 ^ (cs.length - ell cs q)) = n * 2 ^ cs.length
  | [], _, _ => by
    rw [wid, sumR_congr n (h := fun _ => 1) (fun q _ => by simp), sumR_const]; simp
  | c :: r, hp, hc => by
    have hp' := List.pairwise_cons.1 hp
    have ih := wid_ell n r hp'.2 (fun d hd => hc d (by simp [hd]))
    have e : sumR n (fun q => 2 ^ ((c :: r).length - ell (c :: r) q)) = sumR n (fun q => 2 ^ (r.length - ell r q) + if q < c then 0 else 2 ^ r.length) := by
      refine sumR_congr n fun q hq => ?_
      rw [ell_cons, List.length_cons]
      by_cases h : q < c
      · rw [if_pos h, if_pos h, show r.length + 1 - (ell r q + 1) = r.length - ell r q by omega]; rfl
      · rw [if_neg h, if_neg h]
        have h0 : ell r q = 0 := by
          unfold ell
          rw [List.countP_eq_zero]
          intro d hd
          have := hp'.1 d hd
          simp; omega
        rw [h0, Nat.add_zero, Nat.sub_zero, Nat.sub_zero, Nat.pow_succ]; omega
    rw [e, sumR_add, sumR_from _ c n (hc c (by simp)), wid, List.length_cons, Nat.pow_succ]
    have h3 : c * 2 ^ r.length + (n - c) * 2 ^ r.length = n * 2 ^ r.length := by
      rw [← Nat.add_mul]; congr 1; have := hc c (by simp); omega
    have h4 : n * (2 ^ r.length * 2) = n * 2 ^ r.length + n * 2 ^ r.length := by rw [← Nat.mul_assoc]; omega
    omega
/-! Symbols of leaves. -/
def One (lv : List PP) : Prop := ∀ p ∈ lv, ∃ s : Nat, p.2 = [(s : Int)]
theorem flat_take (lv : List PP) (h : One lv) : ∀ c, (lv.take c).flatMap Prod.snd = (lv.flatMap Prod.snd).take c := by
  induction lv with
  | nil => intro c; simp
  | cons p r ih =>
    intro c
    match c with
    | 0 => simp
    | c + 1 =>
      obtain ⟨s, hs⟩ := h p (by simp)
      rw [List.take_succ_cons, List.flatMap_cons, List.flatMap_cons, hs, ih (fun x hx => h x (by simp [hx]))]; rfl
theorem flat_one_len (lv : List PP) (h : One lv) : (lv.flatMap Prod.snd).length = lv.length := by
  induction lv with
  | nil => rfl
  | cons p r ih =>
    obtain ⟨s, hs⟩ := h p (by simp)
    rw [List.flatMap_cons, hs, List.length_append, ih (fun x hx => h x (by simp [hx]))]; simp; omega
theorem flat_one_get (lv : List PP) (h : One lv) : ∀ q (hq : q < lv.length) (s : Nat), lv[q].2 = [(s : Int)] → (lv.flatMap Prod.snd)[q]? = some (s : Int) := by
  induction lv with
  | nil => intro q hq; simp at hq
  | cons p r ih =>
    intro q hq s hs
    obtain ⟨s0, hs0⟩ := h p (by simp)
    rw [List.flatMap_cons, hs0]
    match q with
    | 0 =>
      simp only [List.getElem_cons_zero] at hs
      rw [hs0] at hs; injection hs with hs; rw [← hs]; rfl
    | q + 1 =>
      simp only [List.getElem_cons_succ] at hs
      exact ih (fun x hx => h x (by simp [hx])) q (by simpa using hq) s hs
theorem count_take (sy : List Int) (hn : sy.Pairwise (fun a b => a ≠ b)) : ∀ q s, sy[q]? = some s → ∀ c, (sy.take c).count s = if q < c then 1 else 0 := by
  induction sy with
  | nil => intro q s h; simp at h
  | cons x xs ih =>
    intro q s h c
    have hn' := List.pairwise_cons.1 hn
    match c with
    | 0 => simp
    | c + 1 =>
      rw [List.take_succ_cons, List.count_cons]
      match q with
      | 0 =>
        obtain rfl : x = s := by simpa using h
        have : List.count x (xs.take c) = 0 := List.count_eq_zero.2 fun hm => hn'.1 x (List.mem_of_mem_take hm) rfl
        rw [this]; simp
      | q + 1 =>
        have h' : xs[q]? = some s := by simpa using h
        rw [ih hn'.2 q s h' c]
        have : x ≠ s := hn'.1 s (List.mem_of_getElem? h')
        rw [show (x == s) = false by simpa using this]
        simp
theorem count_flat (sy : List Int) (hn : sy.Pairwise (fun a b => a ≠ b)) (q : Nat) (s : Int) (h : sy[q]? = some s) (cs : List Nat) : (cs.flatMap fun c => sy.take c).count s = ell cs q := by
  induction cs with
  | nil => rfl
  | cons c r ih =>
    rw [List.flatMap_cons, List.count_append, ih, ell_cons, count_take sy hn q s h c]; omega
theorem leaf_mem (cs : List Int) : ∀ k, k ≤ cs.length → ∀ p : PP, p ∈ leavesF (cs.take k) 0 ↔ ∃ i, i < k ∧ 0 < nth cs i ∧ p = (nth cs i, [(i : Int)])
  | 0, _, p => by simp [leavesF]
  | k + 1, h, p => by
    rw [take_snoc' cs k (by omega), leavesF_snoc, List.mem_append, leaf_mem cs k (by omega) p, List.length_take, Nat.min_eq_left (by omega), Nat.zero_add]
    constructor
    · rintro (⟨i, h1, h2, h3⟩ | h1)
      · exact ⟨i, by omega, h2, h3⟩
      · split at h1
        · next h0 => exact ⟨k, by omega, h0, by simpa using h1⟩
        · simp at h1
    · rintro ⟨i, h1, h2, h3⟩
      by_cases hi : i = k
      · subst hi; rw [if_pos h2]; exact .inr (by simpa using h3)
      · exact .inl ⟨i, by omega, h2, h3⟩
theorem leaf_sum (cs : List Int) (g : PP → Nat) : ∀ k, k ≤ cs.length → ((leavesF (cs.take k) 0).map g).sum = sumR k (fun i => if 0 < nth cs i then g (nth cs i, [(i : Int)]) else 0)
  | 0, _ => by simp [leavesF, sumR]
  | k + 1, h => by
    rw [take_snoc' cs k (by omega), leavesF_snoc, List.map_append, List.sum_append, leaf_sum cs g k (by omega), List.length_take, Nat.min_eq_left (by omega), Nat.zero_add, sumR]
    by_cases h0 : 0 < nth cs k
    · rw [if_pos h0, if_pos h0]; simp
    · rw [if_neg h0, if_neg h0]; simp
theorem leaf_syms (cs : List Int) : ∀ k, k ≤ cs.length → ((leavesF (cs.take k) 0).flatMap Prod.snd).Pairwise (fun a b => a ≠ b) ∧ ∀ s ∈ (leavesF (cs.take k) 0).flatMap Prod.snd, s < k
  | 0, _ => by simp [leavesF]
  | k + 1, h => by
    obtain ⟨h1, h2⟩ := leaf_syms cs k (by omega)
    rw [take_snoc' cs k (by omega), leavesF_snoc, List.flatMap_append, List.length_take, Nat.min_eq_left (by omega), Nat.zero_add]
    by_cases h0 : 0 < nth cs k
    · rw [if_pos h0]
      simp only [List.flatMap_cons, List.flatMap_nil, List.append_nil]
      refine ⟨List.pairwise_append.2 ⟨h1, List.pairwise_singleton _ _, fun a ha b hb => ?_⟩, fun s hs => ?_⟩
      · have := h2 a ha
        rw [List.mem_singleton.1 hb]; omega
      · rcases List.mem_append.1 hs with hs | hs
        · have := h2 s hs; push_cast; omega
        · rw [List.mem_singleton.1 hs]; push_cast; omega
    · rw [if_neg h0]
      simp only [List.flatMap_nil, List.append_nil]
      exact ⟨h1, fun s hs => by have := h2 s hs; push_cast; omega⟩
theorem list_sumR {α : Type} (g : α → Nat) (d : α) : ∀ l : List α, (l.map g).sum = sumR l.length (fun q => g (l.getD q d)) := by
  intro l
  have key : ∀ k, k ≤ l.length → ((l.take k).map g).sum = sumR k (fun q => g (l.getD q d)) := by
    intro k
    induction k with
    | zero => intro _; simp [sumR]
    | succ k ih =>
      intro h
      rw [List.take_succ_eq_append_getElem (by omega), List.map_append, List.sum_append, ih (by omega), sumR]
      simp [List.getD, show k < l.length by omega]
  have := key l.length (Nat.le_refl _)
  rwa [List.take_length] at this
/-- The lengths: by the leaves' places. -/
theorem lim_at (cs : List Int) (t : Nat) (hp : posP (leavesF cs 0)) (h2 : 2 ≤ (leavesF cs 0).length) (ht : (leavesF cs 0).length ≤ 2 ^ t) :
    ∃ E : List Nat, E.length = t ∧ (∀ q, q < (leavesF cs 0).length → 1 ≤ ell E q) ∧ sumR (leavesF cs 0).length (fun q => 2 ^ (t - ell E q)) = 2 ^ t ∧
      (∀ i, i < cs.length → ¬ 0 < nth cs i → nth (limLens cs t) i = 0) ∧
      (∀ q (hq : q < (sortP (leavesF cs 0)).length) (i : Nat), (sortP (leavesF cs 0))[q] = (nth cs i, [(i : Int)]) → i < cs.length → nth (limLens cs t) i = (ell E q : Nat)) := by
  obtain ⟨lv, hlv⟩ : ∃ lv, lv = sortP (leavesF cs 0) := ⟨_, rfl⟩
  have hperm : lv.Perm (leavesF cs 0) := by rw [hlv]; exact sortP_perm _
  have hlen : lv.length = (leavesF cs 0).length := hperm.length_eq
  have hsrt : Srt Prod.fst lv := by rw [hlv]; exact sortW_srt _ _
  have hpos : posP lv := posP_perm hperm hp
  have htk : cs.take cs.length = cs := List.take_length
  have hmem := leaf_mem cs cs.length (Nat.le_refl _)
  rw [htk] at hmem
  have hone : One lv := fun p hpm => by
    obtain ⟨i, _, _, e⟩ := (hmem p).1 (hperm.mem_iff.1 hpm)
    exact ⟨i, by rw [e]⟩
  have hsy0 := (leaf_syms cs cs.length (Nat.le_refl _)).1
  rw [htk] at hsy0
  have hsy : (lv.flatMap Prod.snd).Pairwise (fun a b => a ≠ b) := (hperm.symm.flatMap_right Prod.snd).pairwise hsy0 (fun h => h.symm)
  have hcut := level_len (leavesF cs 0) t h2 ht
  rw [← hlv] at hcut
  have ht1 : t ≠ 0 := by rintro rfl; simp at ht; omega
  obtain ⟨E, e1, e2, e3, e4, e5, e6, e7, e8⟩ := level_shape hsrt hpos t (2 * (leavesF cs 0).length - 2) hcut
  have hhd : E.headD 0 ≤ lv.length := by
    match E, e3 with
    | [], _ => exact Nat.zero_le _
    | d :: r, e3 => exact e3 d (by simp)
  have hhle : E.headD 0 ≤ 2 * (leavesF cs 0).length - 2 := by omega
  have htop := top_all hsrt hpos (t - 1) (by omega) hhd (j := 2 * (leavesF cs 0).length - 2 - E.headD 0) (by omega) (e8 ht1) (e7 ht1)
  have hS : limLens cs t = cntF cs.length (((levelF lv t).take (2 * (leavesF cs 0).length - 2)).flatMap Prod.snd) := by
    unfold limLens; rw [if_neg (by omega), ← hlv]
  have e4' : (((levelF lv t).take (2 * (leavesF cs 0).length - 2)).flatMap Prod.snd).Perm (E.flatMap fun c => (lv.flatMap Prod.snd).take c) := by
    refine e4.trans (List.Perm.of_eq ?_)
    have : (fun c => (lv.take c).flatMap Prod.snd) = fun c => (lv.flatMap Prod.snd).take c := funext (flat_take lv hone)
    rw [this]
  refine ⟨E, e1, fun q hq => ?_, ?_, fun i hi h0 => ?_, fun q hq i hi hil => ?_⟩
  · match E, htop with
    | [], htop => simp at htop; omega
    | d :: r, htop =>
      simp only [List.headD_cons] at htop
      rw [ell_cons, if_pos (by omega)]; omega
  · have hw := wid_ell lv.length E e2 e3
    rw [e1, hlen] at hw
    have h5 : wid E = ((leavesF cs 0).length - 1) * 2 ^ t := by
      have : 2 * wid E = 2 * (((leavesF cs 0).length - 1) * 2 ^ t) := by
        rw [e5, ← Nat.mul_assoc]; congr 1; omega
      omega
    rw [h5] at hw
    have h6 : (leavesF cs 0).length * 2 ^ t = ((leavesF cs 0).length - 1) * 2 ^ t + 2 ^ t := by
      rw [← Nat.succ_mul]; congr 1; omega
    omega
  · rw [hS, cntF_nth _ _ _ hi, e4'.count_eq]
    have : List.count (i : Int) (E.flatMap fun c => (lv.flatMap Prod.snd).take c) = 0 := by
      refine List.count_eq_zero.2 fun hm => ?_
      obtain ⟨c, _, hc⟩ := List.mem_flatMap.1 hm
      obtain ⟨p, hp1, hp2⟩ := List.mem_flatMap.1 (List.mem_of_mem_take hc)
      obtain ⟨k, hk1, hk2, rfl⟩ := (hmem p).1 (hperm.mem_iff.1 hp1)
      have : (i : Int) = k := by simpa using hp2
      obtain rfl : i = k := by omega
      exact h0 hk2
    rw [this]; rfl
  · subst hlv
    rw [hS, cntF_nth _ _ _ hil, e4'.count_eq, count_flat _ hsy q (i : Int) (flat_one_get _ hone q hq i (by rw [hi])) E]
end Go.Proofs.Ytcblibefmclloaa
