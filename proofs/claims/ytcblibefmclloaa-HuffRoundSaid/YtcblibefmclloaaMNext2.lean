import Derived.Test.YtcblibefmclloaaMNext
import Derived.Test.YtcblibefmclloaaRefCodes
set_option linter.unusedVariables false
set_option linter.unusedSimpArgs false
/-! Plain mathematics: a decoder reads what the document says. -/
namespace Go.Proofs.Ytcblibefmclloaa
/-- The number of the next bits, the first bit highest. -/
def xv (bs : List Int) (p : Nat) : Nat → Int
  | 0 => 0
  | n + 1 => 2 * xv bs p n + bitAt bs (p + n)
theorem xv_bd (bs : List Int) (p : Nat) : ∀ n, 0 ≤ xv bs p n ∧ xv bs p n < 2 ^ n
  | 0 => by simp [xv]
  | n + 1 => by
    have := xv_bd bs p n
    have := bitAt_le bs (p + n)
    rw [xv, Int.pow_succ]; omega
theorem div_half (c : Int) (m k : Nat) (h : k < m) : c / 2 ^ (m - k) = c / 2 ^ (m - (k + 1)) / 2 := by
  rw [show m - k = (m - (k + 1)) + 1 by omega, Int.pow_succ, Int.mul_comm, Int.ediv_ediv_of_nonneg (by have := pow_cast (m - (k + 1)); omega), Int.mul_comm]
theorem pre_iff (c : Int) (m : Nat) (h0 : 0 ≤ c) (hc : c < 2 ^ m) (bs : List Int) (p : Nat) : ∀ k, k ≤ m → ((∀ t, t < k → nth (msbF c m) t = bitAt bs (p + t)) ↔ c / 2 ^ (m - k) = xv bs p k)
  | 0, _ => by
    rw [Nat.sub_zero, Int.ediv_eq_zero_of_lt h0 hc]
    exact ⟨fun _ => rfl, fun _ t ht => by omega⟩
  | k + 1, h => by
    have ih := pre_iff c m h0 hc bs p k (by omega)
    have e := div_half c m k (by omega)
    have en := msbF_nth c m k (by omega)
    rw [show m - 1 - k = m - (k + 1) by omega] at en
    have hb := bitAt_le bs (p + k)
    rw [xv]
    constructor
    · intro hall
      have h1 := ih.1 (fun t ht => hall t (by omega))
      have h2 := hall k (by omega)
      rw [en] at h2
      rw [e] at h1
      omega
    · intro hd t ht
      by_cases hk : t = k
      · subst hk; rw [en]; omega
      · exact ih.2 (by rw [e]; omega) t (by omega)
theorem rows_rth (l : List Int) (j m : Nat) (hj : j < l.length) (h1 : 1 ≤ m) (h : nth l j = m) : rth (rowsF l) j = msbF (codeI l j) m := by
  rw [rth_lt (by rw [rowsF_len]; exact hj)]
  simp only [rowsF, List.getElem_map, List.getElem_range]
  rw [if_pos (by omega), h]; rfl
theorem rows_none (l : List Int) (j : Nat) (hj : j < l.length) (h : ¬ 0 < nth l j) : rth (rowsF l) j = [] := by
  rw [rth_lt (by rw [rowsF_len]; exact hj)]
  simp only [rowsF, List.getElem_map, List.getElem_range]
  rw [if_neg h]
theorem row_len {l : List Int} (hok : l.all okLen = true) (j : Nat) (hj : j < l.length) (h : 0 < (rth (rowsF l) j).length) : ∃ m : Nat, 1 ≤ m ∧ m ≤ 15 ∧ nth l j = m ∧ rth (rowsF l) j = msbF (codeI l j) m := by
  by_cases h0 : 0 < nth l j
  · have hx := List.all_eq_true.1 hok (nth l j) (by rw [nth_lt hj]; exact List.getElem_mem _)
    unfold okLen at hx
    simp only [Bool.and_eq_true, decide_eq_true_eq] at hx
    obtain ⟨m, hm⟩ := Int.eq_ofNat_of_zero_le hx.1
    exact ⟨m, by omega, by omega, hm, rows_rth l j m hj (by omega) hm⟩
  · rw [rows_none l j hj h0] at h; simp at h
/-- A row stands there just if the number of so many bits is its code. -/
theorem full_iff {l : List Int} (hc : checkF l = 0) (bs : List Int) (p T : Nat) (j m : Nat) (hj : j < l.length) (h1 : 1 ≤ m) (h15 : m ≤ 15) (h : nth l j = m) :
    agrN (rth (rowsF l) j) (bitsP bs T) p = (rth (rowsF l) j).length ↔ p + m ≤ T ∧ xv bs p m = codeI l j := by
  have hb := codeI_bd l m j (by omega) h1 hj h
  have hk := kraft_le hc m h15
  have hl0 := (lowF_small l (check_ok hc).1 m (by omega)).1
  rw [rows_rth l j m hj h1 h]
  have hp := pre_iff (codeI l j) m (by omega) (by omega) bs p m (Nat.le_refl _)
  rw [Nat.sub_self, Int.pow_zero, Int.ediv_one] at hp
  rw [msbF_len]
  constructor
  · intro ha
    obtain ⟨_, h2, _⟩ := agrN_spec (msbF (codeI l j) m) (bitsP bs T) p
    rw [ha] at h2
    have hT : p + m ≤ T := by
      have := (h2 (m - 1) (by omega)).1
      rw [bitsP_len] at this; omega
    refine ⟨hT, (hp.1 fun t ht => ?_).symm⟩
    rw [(h2 t ht).2, bitsP_nth _ _ _ (by omega)]
  · intro ⟨hT, hx⟩
    have := hp.2 hx.symm
    have := agrN_full (row := msbF (codeI l j) m) (bits := bitsP bs T) (p := p) (fun t ht => by
      rw [msbF_len] at ht
      rw [bitsP_len, bitsP_nth _ _ _ (by omega)]
      exact ⟨by omega, this t ht⟩)
    rw [this, msbF_len]
/-! A code that may be is complete, or has one symbol. -/
theorem used_none (l : List Int) (h : usedF l = 0) : measF l = 0 := by
  induction l with
  | nil => rfl
  | cons x l ih =>
    unfold usedF at h
    by_cases hx : 0 < x
    · rw [List.filter_cons_of_pos (by simpa using hx)] at h; simp at h
    · rw [List.filter_cons_of_neg (by simpa using hx)] at h
      have := ih h
      unfold measF at *
      rw [List.map_cons, List.sum_cons, this, part_zero x hx]
theorem used_one (l : List Int) (hok : l.all okLen = true) (h : usedF l = 1) (hm : measF l = 16384) : 1 ≤ nth (lenCnt l) 1 := by
  induction l with
  | nil => simp [usedF] at h
  | cons x l ih =>
    rw [List.all_cons, Bool.and_eq_true] at hok
    rw [lenCnt_cons x l 1 (by omega)]
    have hn := (lenCnt_bd l 1 (by omega)).1
    have hms : measF (x :: l) = part x + measF l := by unfold measF; rw [List.map_cons, List.sum_cons]
    rw [hms] at hm
    unfold usedF at h
    by_cases hx : 0 < x
    · rw [List.filter_cons_of_pos (by simpa using hx), List.length_cons] at h
      have := used_none l (by unfold usedF; omega)
      have hx1 : x = 1 := by
        have h15 := hok.1
        unfold okLen at h15
        simp only [Bool.and_eq_true, decide_eq_true_eq] at h15
        have hp : part x = 2 ^ 14 := by rw [this] at hm; omega
        unfold part at hp
        rw [if_pos hx] at hp
        have := (Nat.pow_right_inj (by decide)).1 hp
        omega
      rw [if_pos ⟨hx, by simpa using hx1⟩]; omega
    · rw [List.filter_cons_of_neg (by simpa using hx)] at h
      rw [part_zero x hx, Nat.zero_add] at hm
      have := ih hok.2 h hm
      split <;> omega
theorem longN_15 (l : List Int) : longN l 16 ≤ 15 := by have := longN_le l 16; omega
theorem code_full {l : List Int} (hc : checkF l = 0) : lowF (lenCnt l) (longN l 16) + nth (lenCnt l) (longN l 16) = 2 ^ longN l 16 ∨ (1 ≤ nth (lenCnt l) 1 ∧ longN l 16 ≤ 1) := by
  have hL := longN_15 l
  have hok := (check_ok hc).2
  have ht := taken_top l (15 - longN l 16) (by omega)
  rw [show longN l 16 + (15 - longN l 16) = 15 by omega, taken_all l hok] at ht
  have hlo := taken_low l (longN l 16) hL
  have hm : measF l = 32768 ∨ (usedF l = 1 ∧ measF l = 16384) := by
    unfold checkF at hc
    repeat' split at hc
    all_goals first | (left; assumption) | (right; assumption) | (exfalso; revert hc; decide)
  rcases hm with hm | ⟨hu, hm⟩
  · left
    rw [← ht, hm] at hlo
    have e : ((32768 : Nat) : Int) = 2 ^ longN l 16 * 2 ^ (15 - longN l 16) := by rw [← Int.pow_add, show longN l 16 + (15 - longN l 16) = 15 by omega]; rfl
    rw [e] at hlo
    exact (Int.eq_of_mul_eq_mul_right (Int.ne_of_gt (pow_cast _)) hlo).symm
  · right
    have h1 := used_one l hok hu hm
    refine ⟨h1, ?_⟩
    rcases Nat.lt_or_ge 1 (longN l 16) with h2 | h2
    · exfalso
      have a := taken_low l 1 (by omega)
      have b := taken_mono' l 1 (longN l 16 - 1 - 1)
      have c := takenN_succ l (longN l 16 - 1) (by omega)
      rw [show longN l 16 - 1 + 1 = longN l 16 by omega] at c
      rw [show 1 + (longN l 16 - 1 - 1) = longN l 16 - 1 by omega] at b
      have d : 0 < nth (lenCnt l) (longN l 16) := (longN_has l 16).resolve_left (by omega)
      have e : 0 < nth (lenCnt l) (longN l 16) * 2 ^ (15 - longN l 16) := Int.mul_pos d (pow_cast _)
      simp only [lowF, lenCnt_zero] at a
      omega
    · exact h2
/-- Bits that end within no code begin one. -/
theorem some_begins {l : List Int} (hc : checkF l = 0) (bs : List Int) (p n : Nat) (hn : n < longN l 16) (hx : lowF (lenCnt l) n + nth (lenCnt l) n ≤ xv bs p n) :
    ∃ j m : Nat, j < l.length ∧ n < m ∧ m ≤ 15 ∧ nth l j = m ∧ codeI l j = xv bs p n * 2 ^ (m - n) := by
  have hL := longN_15 l
  rcases code_full hc with hf | ⟨h1, h2⟩
  · have key : ∀ d, n + d ≤ longN l 16 → (∃ j m : Nat, j < l.length ∧ n < m ∧ m ≤ 15 ∧ nth l j = m ∧ codeI l j = xv bs p n * 2 ^ (m - n)) ∨ lowF (lenCnt l) (n + d) + nth (lenCnt l) (n + d) ≤ xv bs p n * 2 ^ d := by
      intro d
      induction d with
      | zero => intro _; right; rw [Int.pow_zero, Int.mul_one]; exact hx
      | succ d ih =>
        intro hd
        rcases ih (by omega) with h | h
        · exact .inl h
        · by_cases hlt : xv bs p n * 2 ^ (d + 1) < lowF (lenCnt l) (n + (d + 1)) + nth (lenCnt l) (n + (d + 1))
          · left
            have e : xv bs p n * 2 ^ (d + 1) = 2 * (xv bs p n * 2 ^ d) := by rw [Int.pow_succ, ← Int.mul_assoc, Int.mul_comm]
            have hlo : lowF (lenCnt l) (n + (d + 1)) ≤ xv bs p n * 2 ^ (d + 1) := by
              rw [e, ← Nat.add_assoc, lowF]; omega
            obtain ⟨k, hk⟩ := Int.eq_ofNat_of_zero_le (Int.sub_nonneg.2 hlo)
            obtain ⟨_, j, a, b, c, f⟩ := symsB_at l (n + (d + 1)) (by omega) (by omega) k (by omega)
            refine ⟨j, n + (d + 1), a, by omega, by omega, c, ?_⟩
            rw [f, show n + (d + 1) - n = d + 1 by omega]; omega
          · exact .inr (by omega)
    rcases key (longN l 16 - n) (by omega) with h | h
    · exact h
    · exfalso
      rw [show n + (longN l 16 - n) = longN l 16 by omega, hf] at h
      have := Int.mul_lt_mul_of_pos_right (xv_bd bs p n).2 (pow_cast (longN l 16 - n))
      rw [← Int.pow_add, show n + (longN l 16 - n) = longN l 16 by omega] at this
      omega
  · obtain rfl : n = 0 := by omega
    obtain ⟨_, j, a, b, c, f⟩ := symsB_at l 1 (by omega) (by omega) 0 (by omega)
    refine ⟨j, 1, a, by omega, by omega, c, ?_⟩
    rw [f]; simp [xv, lowF, lenCnt_zero]
/-- What the decoder reads, said by its codes. -/
theorem dec_spec (l bs : List Int) (p : Nat) : ∀ f n, n + f = longN l 16 → p + n ≤ 8 * bs.length → (∀ m, m ≤ n → lowF (lenCnt l) m + nth (lenCnt l) m ≤ xv bs p m) →
    (∃ j m : Nat, j < l.length ∧ 1 ≤ m ∧ m ≤ 15 ∧ nth l j = m ∧ codeI l j = xv bs p m ∧ p + m ≤ 8 * bs.length ∧ (∀ i, i < m → lowF (lenCnt l) i + nth (lenCnt l) i ≤ xv bs p i) ∧ decGo l bs p f n (xv bs p n) = ((j : Int), 0, m)) ∨
    (∃ k, k < longN l 16 ∧ p + k = 8 * bs.length ∧ (∀ m, m ≤ k → lowF (lenCnt l) m + nth (lenCnt l) m ≤ xv bs p m) ∧ decGo l bs p f n (xv bs p n) = (0, 10, 0)) ∨
    (p + longN l 16 ≤ 8 * bs.length ∧ (∀ m, m ≤ longN l 16 → lowF (lenCnt l) m + nth (lenCnt l) m ≤ xv bs p m) ∧ decGo l bs p f n (xv bs p n) = (0, 32, 0))
  | 0, n, hn, hp, hx => by
    obtain rfl : n = longN l 16 := by omega
    exact .inr (.inr ⟨hp, hx, rfl⟩)
  | f + 1, n, hn, hp, hx => by
    have hL := longN_15 l
    rw [decGo]
    by_cases he : p + n + 1 ≤ 8 * bs.length
    · rw [if_pos he]
      have hlo : lowF (lenCnt l) (n + 1) ≤ xv bs p (n + 1) := by
        have := hx n (Nat.le_refl _)
        have := bitAt_le bs (p + n)
        rw [xv, lowF]; omega
      rw [show 2 * xv bs p n + bitAt bs (p + n) = xv bs p (n + 1) from rfl]
      by_cases hk : xv bs p (n + 1) - lowF (lenCnt l) (n + 1) < nth (lenCnt l) (n + 1)
      · rw [if_pos ⟨by omega, hk⟩]
        left
        obtain ⟨k, hk'⟩ := Int.eq_ofNat_of_zero_le (Int.sub_nonneg.2 hlo)
        rw [hk'] at hk ⊢
        obtain ⟨_, j, a, b, c, d⟩ := symsB_at l (n + 1) (by omega) (by omega) k hk
        refine ⟨j, n + 1, a, by omega, by omega, c, by rw [d]; omega, by omega, fun i hi => hx i (by omega), ?_⟩
        rw [Int.toNat_natCast, b]
      · rw [if_neg (fun h => hk h.2)]
        refine dec_spec l bs p f (n + 1) (by omega) (by omega) (fun m hm => ?_)
        by_cases hmn : m ≤ n
        · exact hx m hmn
        · obtain rfl : m = n + 1 := by omega
          omega
    · rw [if_neg he]
      exact .inr (.inl ⟨n, by omega, by omega, hx, rfl⟩)
/-- What stands behind a code that is read is no code. -/
theorem above (l bs : List Int) (p m : Nat) (h : xv bs p m < lowF (lenCnt l) m + nth (lenCnt l) m) : ∀ d, xv bs p (m + (d + 1)) < lowF (lenCnt l) (m + (d + 1))
  | 0 => by
    have := bitAt_le bs (p + m)
    rw [xv, lowF]; omega
  | d + 1 => by
    have ih := above l bs p m h d
    by_cases hq : 0 ≤ nth (lenCnt l) (m + (d + 1))
    · have := bitAt_le bs (p + (m + (d + 1)))
      rw [← Nat.add_assoc m, xv, lowF]; omega
    · exfalso
      apply hq
      by_cases h16 : m + (d + 1) < 16
      · exact (lenCnt_bd l _ h16).1
      · have : (lenCnt l)[m + (d + 1)]? = none := List.getElem?_eq_none (by rw [lenCnt_len]; omega)
        simp [nth, List.getD, this]
theorem next_same {l : List Int} (hc : checkF l = 0) (bs : List Int) (p : Nat) (hp : p ≤ 8 * bs.length) :
    nextR (rowsF l) (bitsP bs (8 * bs.length)) p = ((decF l bs p).1, (decF l bs p).2.2, (decF l bs p).2.1) := by
  have hok := (check_ok hc).2
  have hno : ∀ k, (∀ m, m ≤ k → lowF (lenCnt l) m + nth (lenCnt l) m ≤ xv bs p m) → ∀ t m : Nat, t < l.length → m ≤ k → 1 ≤ m → nth l t = m → m ≤ 15 → xv bs p m ≠ codeI l t := fun k hk t m ht hm h1 hx h15 he => by
    have := codeI_bd l m t (by omega) h1 ht hx
    have := hk m hm
    omega
  have hs := dec_spec l bs p (longN l 16) 0 (by omega) (by omega) (fun m hm => by
    obtain rfl : m = 0 := by omega
    simp [xv, lowF, lenCnt_zero])
  rw [show decGo l bs p (longN l 16) 0 (xv bs p 0) = decF l bs p from rfl] at hs
  rcases hs with ⟨j, m, hj, h1, h15, hjm, hcode, hend, hpre, hr⟩ | ⟨k, hk, hend, hpre, hr⟩ | ⟨hend, hpre, hr⟩
  · rw [hr]
    have hrow := rows_rth l j m hj h1 hjm
    have hb := codeI_bd l m j (by omega) h1 hj hjm
    have := nextG_hit (rowsF l) (bitsP bs (8 * bs.length)) p j (by rw [hrow, msbF_len]; omega) ((full_iff hc bs p _ j m hj h1 h15 hjm).2 ⟨hend, hcode.symm⟩) (rowsF l).length 0 false (by omega) (by rw [rowsF_len]; omega) (fun t ht h0 ha => by
      obtain ⟨mt, a, b, c, _⟩ := row_len hok t (by omega) h0
      obtain ⟨_, hx⟩ := (full_iff hc bs p _ t mt (by omega) a b c).1 ha
      have hbt := codeI_bd l mt t (by omega) a (by omega) c
      rcases Nat.lt_trichotomy mt m with h | h | h
      · have := hpre mt h; omega
      · subst h
        have := codeI_ne l mt t j (by omega) a ht hj c hjm
        omega
      · have := above l bs p m (by omega) (mt - m - 1)
        rw [show m + (mt - m - 1 + 1) = mt by omega] at this
        omega)
    unfold nextR
    rw [this, hrow, msbF_len]
  · rw [hr]
    have hL := longN_15 l
    unfold nextR
    refine nextG_begins _ _ _ _ _ _ (fun t _ ht h0 ha => ?_) (.inr ?_)
    · rw [rowsF_len, Nat.zero_add] at ht
      obtain ⟨mt, a, b, c, _⟩ := row_len hok t ht h0
      obtain ⟨h2, hx⟩ := (full_iff hc bs p _ t mt ht a b c).1 ha
      exact hno k hpre t mt ht (by omega) a c b hx
    · obtain ⟨j, m, hj, hm, h15, hjm, hcode⟩ := some_begins hc bs p k hk (hpre k (Nat.le_refl _))
      have hrow := rows_rth l j m hj (by omega) hjm
      have hb := codeI_bd l m j (by omega) (by omega) hj hjm
      have hkr := kraft_le hc m h15
      have hx0 := (xv_bd bs p k).1
      have hc0 : 0 ≤ codeI l j := by have := (lowF_small l (check_ok hc).1 m (by omega)).1; omega
      refine ⟨j, by omega, by rw [rowsF_len]; omega, by rw [hrow, msbF_len]; omega, ?_⟩
      rw [hrow, bitsP_len]
      have hag := (pre_iff (codeI l j) m hc0 (by omega) bs p k (by omega)).2 (by rw [hcode]; exact Int.mul_ediv_cancel _ (Int.ne_of_gt (pow_cast _)))
      obtain ⟨s1, s2, s3⟩ := agrN_spec (msbF (codeI l j) m) (bitsP bs (8 * bs.length)) p
      rw [msbF_len, bitsP_len] at s3
      rcases Nat.lt_trichotomy (agrN (msbF (codeI l j) m) (bitsP bs (8 * bs.length)) p) k with h | h | h
      · rcases s3 with s3 | s3 | s3
        · omega
        · omega
        · exfalso; apply s3; rw [bitsP_nth _ _ _ (by omega)]; exact hag _ h
      · omega
      · have := (s2 k h).1
        rw [bitsP_len] at this; omega
  · rw [hr]
    unfold nextR
    refine nextG_none _ _ _ _ _ (fun t _ ht h0 => ?_)
    rw [rowsF_len, Nat.zero_add] at ht
    obtain ⟨mt, a, b, c, hrow⟩ := row_len hok t ht h0
    have hmt : mt ≤ longN l 16 := by
      rcases Nat.lt_or_ge (longN l 16) mt with h | h
      · exfalso
        have hb := codeI_bd l mt t (by omega) a ht c
        have := longN_top l 16 mt h (by omega)
        omega
      · exact h
    have hne : agrN (rth (rowsF l) t) (bitsP bs (8 * bs.length)) p ≠ (rth (rowsF l) t).length := fun ha => hno _ hpre t mt ht hmt a c b ((full_iff hc bs p _ t mt ht a b c).1 ha).2
    refine ⟨hne, ?_⟩
    obtain ⟨s1, _, _⟩ := agrN_spec (rth (rowsF l) t) (bitsP bs (8 * bs.length)) p
    rw [bitsP_len]
    have : (rth (rowsF l) t).length = mt := by rw [hrow, msbF_len]
    omega
end Go.Proofs.Ytcblibefmclloaa
