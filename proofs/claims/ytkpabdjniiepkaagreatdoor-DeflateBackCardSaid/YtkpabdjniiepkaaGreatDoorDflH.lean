import Derived.Test.YtkpabdjniiepkaaGreatDoorDflG
import Derived.BigQuiet
import Derived.Test.YtkpabdjniiepkaaGreatDoorDflB
import Derived.Deep.Onto
import Derived.Test.YtkpabdjniiepkaaGreatDoorDflA
import Derived.Deep.RegionLaw
import Derived.RegionTactic
import Derived.WalkMore
import Derived.BigRegion
set_option linter.unusedVariables false
set_option linter.unusedSimpArgs false
/-! Plain: the longest match, of these the nearest; the tokens that are found; they say the bytes. -/
namespace Go.Proofs.YtkpabdjniiepkaaGreatDoor
def cl (xs : List Int) (i d : Nat) : Nat → Nat → Nat
  | 0, n => n
  | f + 1, n => if i + n < xs.length ∧ nth xs (i + n) = nth xs (i + n - d) then cl xs i d f (n + 1) else n
theorem cl_spec (xs : List Int) (i d : Nat) : ∀ f n, n ≤ cl xs i d f n ∧ cl xs i d f n ≤ n + f ∧ (∀ k, n ≤ k → k < cl xs i d f n → i + k < xs.length ∧ nth xs (i + k) = nth xs (i + k - d)) ∧
    (cl xs i d f n < n + f → ¬ (i + cl xs i d f n < xs.length ∧ nth xs (i + cl xs i d f n) = nth xs (i + cl xs i d f n - d)))
  | 0, n => ⟨Nat.le_refl _, Nat.le_refl _, fun k h1 h2 => by rw [cl] at h2; omega, fun h => by rw [cl] at h; omega⟩
  | f + 1, n => by
    rw [cl]
    split
    · next h =>
      obtain ⟨a1, a2, a3, a4⟩ := cl_spec xs i d f (n + 1)
      refine ⟨by omega, by omega, fun k h1 h2 => ?_, fun h2 => a4 (by omega)⟩
      rcases Nat.lt_or_ge n k with h3 | h3
      · exact a3 k h3 h2
      · obtain rfl : k = n := by omega
        exact h
    · next h => exact ⟨Nat.le_refl _, by omega, fun k h1 h2 => by omega, fun _ => h⟩
/-- How many bytes are the same d places earlier. -/
def clF (xs : List Int) (i d : Nat) : Nat := cl xs i d 258 0
theorem clF_le (xs : List Int) (i d : Nat) : clF xs i d ≤ 258 := by have := (cl_spec xs i d 258 0).2.1; unfold clF; omega
theorem clF_eq (xs : List Int) (i d k : Nat) (h : k < clF xs i d) : i + k < xs.length ∧ nth xs (i + k) = nth xs (i + k - d) := (cl_spec xs i d 258 0).2.2.1 k (Nat.zero_le _) h
theorem clF_end (xs : List Int) (i d : Nat) (hi : i ≤ xs.length) : i + clF xs i d ≤ xs.length := by
  rcases Nat.eq_zero_or_pos (clF xs i d) with h | h
  · omega
  · have := (clF_eq xs i d (clF xs i d - 1) (by omega)).1; omega
/-- It is told by the first place that differs, or by the bound. -/
theorem clF_of (xs : List Int) (i d n : Nat) (h : ∀ k, k < n → i + k < xs.length ∧ nth xs (i + k) = nth xs (i + k - d)) (hn : n ≤ 258) (hend : n = 258 ∨ i + n ≥ xs.length ∨ nth xs (i + n) ≠ nth xs (i + n - d)) : clF xs i d = n := by
  obtain ⟨a1, a2, a3, a4⟩ := cl_spec xs i d 258 0
  rw [show cl xs i d 258 0 = clF xs i d from rfl] at *
  rcases Nat.lt_trichotomy (clF xs i d) n with h1 | h1 | h1
  · exact absurd (h _ h1) (a4 (by omega))
  · exact h1
  · have := a3 n (Nat.zero_le _) h1
    rcases hend with h2 | h2 | h2
    · omega
    · omega
    · exact absurd this.2 h2
def updF (b : Nat × Nat) (n d : Nat) : Nat × Nat := if 3 ≤ n ∧ b.1 < n then (n, d) else b
def bestF (xs : List Int) (i : Nat) : Nat → Nat × Nat
  | 0 => (0, 0)
  | d + 1 => updF (bestF xs i d) (clF xs i (d + 1)) (d + 1)
theorem best_spec (xs : List Int) (i : Nat) : ∀ d, bestF xs i d = (0, 0) ∨ (3 ≤ (bestF xs i d).1 ∧ 1 ≤ (bestF xs i d).2 ∧ (bestF xs i d).2 ≤ d ∧ clF xs i (bestF xs i d).2 = (bestF xs i d).1)
  | 0 => .inl rfl
  | d + 1 => by
    rw [bestF, updF]
    split
    · next h => exact .inr ⟨h.1, by simp, by simp, rfl⟩
    · rcases best_spec xs i d with h | ⟨h1, h2, h3, h4⟩
      · exact .inl h
      · exact .inr ⟨h1, h2, by omega, h4⟩
theorem best_skip (xs : List Int) (i a : Nat) : ∀ b, a ≤ b → (∀ e, a < e → e ≤ b → clF xs i e < 3 ∨ clF xs i e ≤ (bestF xs i a).1) → bestF xs i b = bestF xs i a
  | 0, h, _ => by obtain rfl : a = 0 := by omega
                  rfl
  | b + 1, h, hs => by
    rcases Nat.eq_or_lt_of_le h with h1 | h1
    · rw [h1]
    · have ih := best_skip xs i a b (by omega) (fun e h2 h3 => hs e h2 (by omega))
      rw [bestF, ih, updF, if_neg]
      have := hs (b + 1) (by omega) (Nat.le_refl _)
      omega
/-- The match at a place. -/
def mF (xs : List Int) (i : Nat) : Nat × Nat := bestF xs i i
theorem mF_spec (xs : List Int) (i : Nat) : mF xs i = (0, 0) ∨ (3 ≤ (mF xs i).1 ∧ 1 ≤ (mF xs i).2 ∧ (mF xs i).2 ≤ i ∧ clF xs i (mF xs i).2 = (mF xs i).1) := best_spec xs i i
theorem mF_short (xs : List Int) (i : Nat) (hi : i ≤ xs.length) (h : xs.length < i + 3) : mF xs i = (0, 0) := by
  rcases mF_spec xs i with h1 | ⟨h1, h2, h3, h4⟩
  · exact h1
  · have := clF_end xs i (mF xs i).2 hi; omega
theorem mF_full (xs : List Int) (i d : Nat) (hi : i ≤ xs.length) (hd : d ≤ i) (h : (bestF xs i d).1 = min 258 (xs.length - i)) : mF xs i = bestF xs i d :=
  best_skip xs i d i hd (fun e _ _ => .inr (by have := clF_le xs i e; have := clF_end xs i e hi; omega))
/-- The last earlier place of a mark, counted from 1 on; 0: there is none. -/
def lastF (h : Nat → Nat) (v : Nat) : Nat → Nat
  | 0 => 0
  | k + 1 => if h k = v then k + 1 else lastF h v k
theorem lastF_spec (h : Nat → Nat) (v : Nat) : ∀ k, lastF h v k ≤ k ∧ (∀ j, lastF h v k ≤ j → j < k → h j ≠ v) ∧ (lastF h v k ≠ 0 → h (lastF h v k - 1) = v)
  | 0 => ⟨Nat.le_refl _, fun j _ h2 => by omega, fun h2 => absurd rfl h2⟩
  | k + 1 => by
    rw [lastF]
    split
    · next h1 => exact ⟨Nat.le_refl _, fun j h2 h3 => by omega, fun _ => by simpa using h1⟩
    · next h1 =>
      obtain ⟨a1, a2, a3⟩ := lastF_spec h v k
      refine ⟨by omega, fun j h2 h3 => ?_, a3⟩
      rcases Nat.lt_or_ge j k with h4 | h4
      · exact a2 j h2 h4
      · obtain rfl : j = k := by omega
        exact h1
/-- A mark that the same three bytes share. -/
def Marks (xs : List Int) (h : Nat → Nat) : Prop := ∀ i j, (∀ k, k < 3 → nth xs (i + k) = nth xs (j + k)) → h i = h j
theorem best_chain {xs : List Int} {h : Nat → Nat} (hm : Marks xs h) (i at_ : Nat) (ha : at_ ≤ i) : bestF xs i (i - lastF h (h i) at_) = bestF xs i (i - at_) := by
  obtain ⟨a1, a2, -⟩ := lastF_spec h (h i) at_
  refine best_skip xs i (i - at_) _ (by omega) (fun e h1 h2 => .inl ?_)
  rcases Nat.lt_or_ge (clF xs i e) 3 with h3 | h3
  · exact h3
  · exfalso
    refine a2 (i - e) (by omega) (by omega) (hm _ _ (fun k hk => ?_))
    have := (clF_eq xs i e k (by omega)).2
    rw [this, show i + k - e = i - e + k by omega]
/-- The tokens that are found from a place on. -/
def findF (xs : List Int) : Nat → Nat → List Tok
  | 0, _ => []
  | f + 1, i => if i < xs.length then (if (mF xs i).1 = 0 ∨ (mF xs i).1 < (mF xs (i + 1)).1 then (nth xs i, 0, 0) :: findF xs f (i + 1) else (0, ((mF xs i).1 : Int), ((mF xs i).2 : Int)) :: findF xs f (i + (mF xs i).1)) else []
def tokensF (xs : List Int) : List Tok := findF xs xs.length 0
theorem take_succ_nth {xs : List Int} {i : Nat} (h : i < xs.length) : xs.take (i + 1) = xs.take i ++ [nth xs i] := by
  rw [List.take_add_one, List.getElem?_eq_getElem h]
  simp [nth, List.getD, h]
theorem copy_take {xs : List Int} {d : Nat} (h1 : 1 ≤ d) : ∀ n i, d ≤ i → (∀ k, k < n → i + k < xs.length ∧ nth xs (i + k) = nth xs (i + k - d)) → copyT d n (xs.take i) = xs.take (i + n)
  | 0, i, _, _ => rfl
  | n + 1, i, hd, h => by
    obtain ⟨a1, a2⟩ := h 0 (by omega)
    rw [Nat.add_zero] at a1 a2
    have hl : (xs.take i).length = i := by rw [List.length_take]; omega
    have e : nth (xs.take i) ((xs.take i).length - d) = nth xs i := by
      rw [hl, a2]
      simp [nth, List.getD, List.getElem?_take, show i - d < i by omega]
    rw [copyT, e, ← take_succ_nth a1, copy_take h1 n (i + 1) (by omega) (fun k hk => by
      have := h (k + 1) (by omega)
      rw [show i + 1 + k = i + (k + 1) by omega]; exact this)]
    rw [show i + 1 + n = i + (n + 1) by omega]
theorem find_expand {xs : List Int} {most : Nat} (hm : xs.length ≤ most) (h16 : xs.length ≤ 16384) : ∀ f i, i ≤ xs.length → xs.length ≤ i + f → expandF most (findF xs f i) (xs.take i) = (xs, 0)
  | 0, i, h, hf => by
    obtain rfl : i = xs.length := by omega
    rw [findF, expandF, List.take_length]
  | f + 1, i, h, hf => by
    rw [findF]
    by_cases hi : i < xs.length
    · have hl : (xs.take i).length = i := by rw [List.length_take]; omega
      rw [if_pos hi]
      by_cases hc : (mF xs i).1 = 0 ∨ (mF xs i).1 < (mF xs (i + 1)).1
      · have e : tokT (nth xs i, 0, 0) (xs.take i) = xs.take (i + 1) := by rw [take_succ_nth hi]; rfl
        rw [if_pos hc, expandF, if_neg (by simp [mayT]), if_neg (by rw [hl]; simp; omega), e]
        exact find_expand hm h16 f (i + 1) (by omega) (by omega)
      · rcases mF_spec xs i with h0 | ⟨h1, h2, h3, h4⟩
        · exact absurd (.inl (by rw [h0])) hc
        have hc2 := clF_le xs i (mF xs i).2
        have hc3 := clF_end xs i (mF xs i).2 h
        have e : tokT (0, ((mF xs i).1 : Int), ((mF xs i).2 : Int)) (xs.take i) = xs.take (i + (mF xs i).1) := by
          unfold tokT
          have hne : ¬ (((mF xs i).1 : Int) = 0) := by omega
          rw [if_neg hne]
          simp only [Int.toNat_natCast]
          exact copy_take h2 _ i h3 (fun k hk => clF_eq xs i _ k (by omega))
        have hmay : mayT (0, ((mF xs i).1 : Int), ((mF xs i).2 : Int)) (xs.take i).length = true := by
          unfold mayT
          have hne : ¬ (((mF xs i).1 : Int) = 0) := by omega
          rw [if_neg hne, hl]
          exact decide_eq_true (by refine ⟨rfl, ?_, ?_, ?_, ?_, ?_⟩ <;> simp only [] <;> omega)
        rw [if_neg hc, expandF, if_neg (by rw [hmay]; decide), if_neg (by show ¬ most < (xs.take i).length + max 1 (((mF xs i).1 : Int)).toNat; rw [hl, Int.toNat_natCast]; omega), e]
        exact find_expand hm h16 f _ (by omega) (by omega)
    · obtain rfl : i = xs.length := by omega
      rw [if_neg hi, expandF, List.take_length]
theorem tokens_expand {xs : List Int} {most : Nat} (hm : xs.length ≤ most) (h16 : xs.length ≤ 16384) : expandF most (tokensF xs) [] = (xs, 0) := find_expand hm h16 xs.length 0 (Nat.zero_le _) (by omega)
theorem find_lits {xs : List Int} (hb : ∀ j, 0 ≤ nth xs j ∧ nth xs j ≤ 255) : ∀ f i, LitOk (findF xs f i)
  | 0, i => fun t ht => by cases ht
  | f + 1, i => by
    rw [findF]
    split
    · split
      · intro t ht
        rcases List.mem_cons.1 ht with rfl | ht
        · exact hb i
        · exact find_lits hb f _ t ht
      · intro t ht
        rcases List.mem_cons.1 ht with rfl | ht
        · exact ⟨by simp, by simp⟩
        · exact find_lits hb f _ t ht
    · intro t ht; cases ht
theorem find_more (xs : List Int) : ∀ f f' i, xs.length ≤ i + f → xs.length ≤ i + f' → findF xs f i = findF xs f' i
  | 0, 0, i, _, _ => rfl
  | 0, f' + 1, i, h, _ => by rw [findF, findF, if_neg (by omega)]
  | f + 1, 0, i, _, h => by rw [findF, findF, if_neg (by omega)]
  | f + 1, f' + 1, i, h, h' => by
    rw [findF, findF]
    by_cases hi : i < xs.length
    · rw [if_pos hi, if_pos hi]
      by_cases hc : (mF xs i).1 = 0 ∨ (mF xs i).1 < (mF xs (i + 1)).1
      · rw [if_pos hc, if_pos hc, find_more xs f f' (i + 1) (by omega) (by omega)]
      · rw [if_neg hc, if_neg hc, find_more xs f f' _ (by omega) (by omega)]
    · rw [if_neg hi, if_neg hi]
theorem find_len (xs : List Int) : ∀ f i, (findF xs f i).length ≤ f
  | 0, i => Nat.le_refl _
  | f + 1, i => by
    rw [findF]
    split
    · split <;> rw [List.length_cons] <;> have h1 := find_len xs f (i + 1) <;> have h2 := find_len xs f (i + (mF xs i).1) <;> omega
    · simp
end Go.Proofs.YtkpabdjniiepkaaGreatDoor

set_option linter.unusedVariables false
set_option linter.unusedSimpArgs false
/-! Plain: what a check of tokens says; the counts of tokens, and codes of their own. -/
namespace Go.Proofs.YtkpabdjniiepkaaGreatDoor
def checkT : List Tok → Nat → Int
  | [], _ => 0
  | t :: ts, s => if mayT t s = false then 60 else if 16384 < s + max 1 t.2.1.toNat then 2 else checkT ts (s + max 1 t.2.1.toNat)
theorem checkT_expand : ∀ (ts : List Tok) (out : List Int), (expandF 16384 ts out).2 = checkT ts out.length
  | [], out => rfl
  | t :: ts, out => by
    rw [expandF, checkT]
    by_cases hm : mayT t out.length = false
    · rw [if_pos hm, if_pos hm]
    · rw [if_neg hm, if_neg hm]
      by_cases hb : 16384 < out.length + max 1 t.2.1.toNat
      · rw [if_pos hb, if_pos hb]
      · rw [if_neg hb, if_neg hb, checkT_expand ts, tokT_len t out (may_nn (by simpa using hm))]
theorem expand_le {most : Nat} : ∀ (ts : List Tok) (out : List Int), out.length ≤ most → (expandF most ts out).1.length ≤ most
  | [], out, h => h
  | t :: ts, out, h => by
    rw [expandF]
    split
    · simp
    · next hm =>
      split
      · simp
      · next hb => exact expand_le ts _ (by rw [tokT_len t out (may_nn (by simpa using hm))]; omega)
theorem check_many {ts : List Tok} (h : checkT ts 0 = 0) : ts.length ≤ 16384 := by
  have e := checkT_expand ts []
  rw [show ([] : List Int).length = 0 from rfl, h] at e
  have := expand_grow ts [] e
  have := expand_le (most := 16384) ts [] (by simp)
  simp at *; omega
/-! Counts, and codes of their own. -/
def litS (t : Tok) : Int := if t.2.1 = 0 then (t.1.toNat : Int) else (lsym t.2.1.toNat : Int)
def distS (t : Tok) : List Int := if t.2.1 = 0 then [] else [(dsym t.2.2.toNat : Int)]
def litC (ts : List Tok) : List Int := cntF 286 ([256] ++ ts.map litS)
def distC (ts : List Tok) : List Int := cntF 30 (ts.flatMap distS)
theorem distS_len : ∀ ts : List Tok, (ts.flatMap distS).length ≤ ts.length
  | [] => by simp
  | t :: ts => by
    have := distS_len ts
    rw [List.flatMap_cons, List.length_append, List.length_cons]
    have : (distS t).length ≤ 1 := by unfold distS; split <;> simp
    omega
theorem cnt_ok (N : Nat) (S : List Int) (h1 : 1 ≤ N) (hN : N ≤ 288) (hS : S.length ≤ 1000000) :
    limF (cntF N S) 15 = (limLens (cntF N S) 15, 0) ∧ (limLens (cntF N S) 15).length = N ∧ (∀ i, i < N → (0 < nth (limLens (cntF N S) 15) i ↔ (i : Int) ∈ S) ∧ 0 ≤ nth (limLens (cntF N S) 15) i ∧ nth (limLens (cntF N S) 15) i ≤ 15) ∧ ((∃ i : Nat, i < N ∧ (i : Int) ∈ S) → checkF (limLens (cntF N S) 15) = 0) := by
  have hl : (cntF N S).length = N := cntF_len N S
  have hb : (cntF N S).any badCount = false := by
    rw [List.any_eq_false]
    intro x hx
    obtain ⟨i, hi, rfl⟩ := List.mem_iff_getElem.1 hx
    have := cnt_bd N S i (by rw [hl] at hi; exact hi)
    rw [nth_lt hi] at this
    unfold badCount
    simp only [Bool.or_eq_true, decide_eq_true_eq]; omega
  have ht : (leavesF (cntF N S) 0).length ≤ 2 ^ 15 := by
    have := (leaves_bd (cntF N S) hb 0).2.2.2.1
    rw [hl] at this
    have : (2 : Nat) ^ 15 = 32768 := rfl
    omega
  have hc : ∀ i, i < N → (0 < nth (cntF N S) i ↔ (i : Int) ∈ S) := fun i hi => by
    rw [cntF_nth N S i hi, ← List.count_pos_iff]; omega
  refine ⟨?_, by rw [limLens, cntF_len, hl], fun i hi => ?_, ?_⟩
  · unfold limF
    rw [if_neg (by rw [hl]; omega), if_neg (by simp [hb]), if_neg (by show ¬ 2 ^ 15 < _; omega)]; rfl
  · have h := lim_each (cntF N S) 15 (by omega) (by omega) hb ht i (by rw [hl]; exact hi)
    exact ⟨h.1.trans (hc i hi), h.2⟩
  · rintro ⟨i, hi, hm⟩
    refine check_all (cntF N S) 15 (by omega) (by rw [hl]; omega) (by rw [hl]; omega) hb ht ?_
    have hm2 : nth (cntF N S) i ∈ (cntF N S).filter (fun x => decide (0 < x)) := by
      refine List.mem_filter.2 ⟨?_, by simpa using (hc i hi).2 hm⟩
      rw [nth_lt (by rw [hl]; exact hi)]
      exact List.getElem_mem _
    have : 0 < usedF (cntF N S) := by unfold usedF; exact List.length_pos_of_mem hm2
    omega
def dynLit (ts : List Tok) : List Int := limLens (litC ts) 15
def dynDist (ts : List Tok) : List Int := limLens (distC ts) 15
theorem litS_range {t : Tok} (h1 : 0 ≤ t.1 ∧ t.1 ≤ 255) (h2 : t.2.1 ≠ 0 → 3 ≤ t.2.1 ∧ t.2.1 ≤ 258 ∧ 1 ≤ t.2.2 ∧ t.2.2 ≤ 32768) : ∃ s : Nat, litS t = s ∧ s < 286 := by
  unfold litS
  split
  · exact ⟨_, rfl, by omega⟩
  · next h0 =>
    obtain ⟨a, b, -⟩ := h2 h0
    obtain ⟨-, c, -⟩ := len_tab t.2.1.toNat (by omega) (by omega)
    exact ⟨_, rfl, by omega⟩
theorem dyn_codable {M : Nat} {ts : List Tok} (hl : LitOk ts) (hex : (expandF M ts []).2 = 0) (hn : ts.length ≤ 16384) :
    Codable (dynLit ts) (dynDist ts) ∧ (∀ t ∈ ts, TokOk (dynLit ts) (dynDist ts) t) ∧ limF (litC ts) 15 = (dynLit ts, 0) ∧ limF (distC ts) 15 = (dynDist ts, 0) ∧ (dynLit ts).length = 286 ∧ (dynDist ts).length = 30 := by
  have hd := distS_len ts
  obtain ⟨l1, l2, l3, l4⟩ := cnt_ok 286 ([256] ++ ts.map litS) (by omega) (by omega) (by simp; omega)
  obtain ⟨d1, d2, d3, d4⟩ := cnt_ok 30 (ts.flatMap distS) (by omega) (by omega) (by omega)
  have hlc : checkF (dynLit ts) = 0 := l4 ⟨256, by omega, by simp⟩
  have tl : ∀ s : Nat, s < 286 → (s : Int) ∈ [256] ++ ts.map litS → Tells (dynLit ts) s := fun s hs hm => by
    obtain ⟨a, b, c⟩ := l3 s hs
    have := a.2 hm
    exact ⟨by show s < (limLens _ 15).length; unfold litC; rw [l2]; exact hs, this, c⟩
  have td : ∀ s : Nat, s < 30 → (s : Int) ∈ ts.flatMap distS → Tells (dynDist ts) s := fun s hs hm => by
    obtain ⟨a, b, c⟩ := d3 s hs
    have := a.2 hm
    exact ⟨by show s < (limLens _ 15).length; unfold distC; rw [d2]; exact hs, this, c⟩
  have mem_b : ∀ (l : List Int) (N : Nat), l.length = N → (∀ i, i < N → 0 ≤ nth l i ∧ nth l i ≤ 15) → ∀ x ∈ l, 0 ≤ x ∧ x ≤ 15 := fun l N hN hi x hx => by
    obtain ⟨i, hi2, rfl⟩ := List.mem_iff_getElem.1 hx
    have := hi i (by omega)
    rwa [nth_lt hi2] at this
  refine ⟨⟨⟨by show 257 ≤ (limLens _ 15).length; unfold litC; omega, by show (limLens _ 15).length ≤ 286; unfold litC; omega, by show 1 ≤ (limLens _ 15).length; unfold distC; omega, by show (limLens _ 15).length ≤ 30; unfold distC; omega, mem_b _ 286 l2 (fun i hi => (l3 i hi).2), mem_b _ 30 d2 (fun i hi => (d3 i hi).2)⟩, hlc, ?_, tl 256 (by omega) (by simp)⟩, ?_, l1, d1, l2, d2⟩
  · intro hu
    unfold anyUsed at hu
    rw [List.any_eq_true] at hu
    obtain ⟨x, hx, hx0⟩ := hu
    obtain ⟨i, hi, rfl⟩ := List.mem_iff_getElem.1 hx
    have hi2 : i < 30 := by have : (dynDist ts).length = 30 := d2; omega
    have h0 : 0 < nth (dynDist ts) i := by rw [nth_lt hi]; simpa using hx0
    exact d4 ⟨i, hi2, (d3 i hi2).1.1 h0⟩
  · intro t ht
    obtain ⟨a, b⟩ := hl t ht
    have hr := expand_toks ts [] hex t ht
    obtain ⟨s, hs, hs2⟩ := litS_range ⟨a, b⟩ hr
    have hm : litS t ∈ [256] ++ ts.map litS := List.mem_append.2 (.inr (List.mem_map.2 ⟨t, ht, rfl⟩))
    refine ⟨fun h0 => ⟨a, b, ?_⟩, fun h0 => ?_⟩
    · have e : litS t = (t.1.toNat : Int) := if_pos h0
      rw [e] at hm
      exact tl _ (by omega) hm
    · have e : litS t = (lsym t.2.1.toNat : Int) := if_neg h0
      have e2 : distS t = [(dsym t.2.2.toNat : Int)] := if_neg h0
      obtain ⟨c1, c2, c3, c4⟩ := hr h0
      obtain ⟨f1, f2, -⟩ := len_tab t.2.1.toNat (by omega) (by omega)
      obtain ⟨g1, -⟩ := dist_tab t.2.2.toNat (by omega) (by omega)
      rw [e] at hm
      have hmd : (dsym t.2.2.toNat : Int) ∈ ts.flatMap distS := List.mem_flatMap.2 ⟨t, ht, by rw [e2]; simp⟩
      exact ⟨tl _ (by omega) hm, td _ (by omega) hmd, d4 ⟨_, by omega, hmd⟩⟩
theorem dsym_range {d : Int} (h1 : 1 ≤ d) (h2 : d ≤ 32768) : dsym d.toNat < 30 := by
  obtain ⟨g1, -⟩ := dist_tab d.toNat (by omega) (by omega)
  omega
/-- Bits of tokens. -/
theorem tokB_len {lit dist : List Int} {t : Tok} (h : TokOk lit dist t) (hr : t.2.1 ≠ 0 → 3 ≤ t.2.1 ∧ t.2.1 ≤ 258 ∧ 1 ≤ t.2.2 ∧ t.2.2 ≤ 32768) : (tokB lit dist t).length ≤ 48 := by
  obtain ⟨a, b⟩ := h
  unfold tokB
  split
  · next h0 => have := (tells_bits (a h0).2.2).2; omega
  · next h0 =>
    obtain ⟨c1, c2, c3, c4⟩ := hr h0
    obtain ⟨b1, b2, b3⟩ := b h0
    have := (tells_bits b1).2
    have := (tells_bits b2).2
    obtain ⟨-, -, -, -, -, f1⟩ := len_tab t.2.1.toNat (by omega) (by omega)
    obtain ⟨-, -, -, -, g1⟩ := dist_tab t.2.2.toNat (by omega) (by omega)
    unfold behB
    simp only [List.length_append, vbits_len]; omega
theorem toksB_len {lit dist : List Int} : ∀ (ts : List Tok), (∀ t ∈ ts, TokOk lit dist t) → (∀ t ∈ ts, t.2.1 ≠ 0 → 3 ≤ t.2.1 ∧ t.2.1 ≤ 258 ∧ 1 ≤ t.2.2 ∧ t.2.2 ≤ 32768) → (toksB lit dist ts).length ≤ 48 * ts.length
  | [], _, _ => by simp [toksB]
  | t :: ts, h, hr => by
    have ih := toksB_len ts (fun u hu => h u (List.mem_cons_of_mem _ hu)) (fun u hu => hr u (List.mem_cons_of_mem _ hu))
    have e : toksB lit dist (t :: ts) = tokB lit dist t ++ toksB lit dist ts := by simp [toksB]
    have := tokB_len (h t List.mem_cons_self) (hr t List.mem_cons_self)
    rw [e, List.length_append, List.length_cons]; omega
theorem toksB_snoc (lit dist : List Int) (ts : List Tok) (t : Tok) : toksB lit dist (ts ++ [t]) = toksB lit dist ts ++ tokB lit dist t := by simp [toksB]
/-! Bits say their bytes. -/
theorem WB.out_bit {xs bl : List Int} (h : WB xs bl) (i : Nat) (hi : bl.length ≤ i) : bitAt xs i = 0 := by
  unfold bitAt
  have hl := h.len
  have hb := h.byte (i / 8)
  have hz : nth xs (i / 8) < 2 ^ (i % 8) := by
    by_cases h8 : i / 8 < xs.length
    · have h1 : i / 8 = bl.length / 8 := by omega
      have h2 : bl.length % 8 ≠ 0 := by omega
      have h3 := h.top h2
      rw [h1]
      refine Int.lt_of_lt_of_le h3 ?_
      have : (2 : Nat) ^ (bl.length % 8) ≤ 2 ^ (i % 8) := Nat.pow_le_pow_right (by omega) (by omega)
      exact_mod_cast this
    · have : nth xs (i / 8) = 0 := by simp [nth, List.getD, List.getElem?_eq_none (show xs.length ≤ i / 8 by omega)]
      rw [this]; exact pow_cast _
  rw [Int.ediv_eq_zero_of_lt hb.1 hz]; rfl
theorem byte_ext {x y : Int} (hx : 0 ≤ x ∧ x ≤ 255) (hy : 0 ≤ y ∧ y ≤ 255) (h : ∀ i : Nat, i < 8 → x / 2 ^ i % 2 = y / 2 ^ i % 2) : x = y := by
  have b0 : x % 2 = y % 2 := by simpa using h 0 (by omega)
  have b1 : x / 2 % 2 = y / 2 % 2 := by simpa using h 1 (by omega)
  have b2 : x / 4 % 2 = y / 4 % 2 := by simpa using h 2 (by omega)
  have b3 : x / 8 % 2 = y / 8 % 2 := by simpa using h 3 (by omega)
  have b4 : x / 16 % 2 = y / 16 % 2 := by simpa using h 4 (by omega)
  have b5 : x / 32 % 2 = y / 32 % 2 := by simpa using h 5 (by omega)
  have b6 : x / 64 % 2 = y / 64 % 2 := by simpa using h 6 (by omega)
  have b7 : x / 128 % 2 = y / 128 % 2 := by simpa using h 7 (by omega)
  omega
theorem WB.uniq {xs ys bl : List Int} (h : WB xs bl) (k : WB ys bl) : xs = ys := by
  refine list_nth_ext (by rw [h.len, k.len]) fun j _ => ?_
  refine byte_ext (h.byte j) (k.byte j) fun i hi => ?_
  have hb : bitAt xs (8 * j + i) = bitAt ys (8 * j + i) := by
    by_cases h1 : 8 * j + i < bl.length
    · rw [h.bit _ h1, k.bit _ h1]
    · rw [h.out_bit _ (by omega), k.out_bit _ (by omega)]
  unfold bitAt at hb
  rwa [show (8 * j + i) / 8 = j by omega, show (8 * j + i) % 8 = i by omega] at hb
theorem WB.all_u8 {xs bl : List Int} (h : WB xs bl) : ∀ x ∈ xs, 0 ≤ x ∧ x ≤ 255 := fun x hx => by
  obtain ⟨i, hi, rfl⟩ := List.mem_iff_getElem.1 hx
  have := h.byte i
  rwa [nth_lt hi] at this
theorem nth_u8 {data : List Int} (hd : ∀ x ∈ data, 0 ≤ x ∧ x ≤ 255) (j : Nat) : 0 ≤ nth data j ∧ nth data j ≤ 255 := by
  by_cases h : j < data.length
  · rw [nth_lt h]; exact hd _ (List.getElem_mem _)
  · simp [nth, List.getD, List.getElem?_eq_none (show data.length ≤ j by omega)]
theorem tokens_final (data : List Int) (hd : ∀ x ∈ data, 0 ≤ x ∧ x ≤ 255) (hn : data.length ≤ 16384) : expandF 16384 (tokensF data) [] = (data, 0) ∧ LitOk (tokensF data) :=
  ⟨tokens_expand hn hn, find_lits (nth_u8 hd) _ _⟩
/-- What bytes are deflated to. -/
def lessL (a b : List Int) : List Int := if b.length < a.length then b else a
structure Defl (data xs : List Int) : Prop where
  out : ∃ f d, WB f (fixB (tokensF data)) ∧ WB d (dynB (dynLit (tokensF data)) (dynDist (tokensF data)) (tokensF data)) ∧ xs = lessL (lessL (storB 1 data) f) d
theorem Defl.uniq {data xs ys : List Int} (h : Defl data xs) (k : Defl data ys) : xs = ys := by
  obtain ⟨f, d, hf, hd, rfl⟩ := h.out
  obtain ⟨f', d', hf', hd', rfl⟩ := k.out
  rw [hf.uniq hf', hd.uniq hd']
theorem less_len (a b : List Int) : (lessL a b).length ≤ a.length ∧ (lessL a b).length ≤ b.length := by
  unfold lessL; split <;> omega
theorem Defl.len {data xs : List Int} (h : Defl data xs) : xs.length ≤ data.length + 5 ∧ ∀ f, WB f (fixB (tokensF data)) → xs.length ≤ f.length := by
  obtain ⟨f, d, hf, hd, rfl⟩ := h.out
  have h1 := less_len (lessL (storB 1 data) f) d
  have h2 := less_len (storB 1 data) f
  rw [storB_len] at h2
  exact ⟨by omega, fun f' hf' => by rw [hf'.uniq hf]; omega⟩
theorem Defl.final {data xs : List Int} (h : Defl data xs) (hd : ∀ x ∈ data, 0 ≤ x ∧ x ≤ 255) (hn : data.length ≤ 16384) : FinalOf xs data := by
  obtain ⟨f, d, hf, hdy, rfl⟩ := h.out
  obtain ⟨hx, hl⟩ := tokens_final data hd hn
  obtain ⟨c1, c2, -⟩ := dyn_codable hl (by rw [hx]) (check_many (by rw [← show (expandF 16384 (tokensF data) []).2 = checkT (tokensF data) 0 from checkT_expand _ _, hx]))
  have a1 : FinalOf (storB 1 data) data := final_stored hd (by omega)
  have a2 : FinalOf f data := final_fixed hf hl hx
  have a3 : FinalOf d data := final_dyn hdy c1 c2 hx
  have a4 : FinalOf (lessL (storB 1 data) f) data := by
    unfold lessL
    by_cases h : f.length < (storB 1 data).length
    · rw [if_pos h]; exact a2
    · rw [if_neg h]; exact a1
  obtain ⟨b, hb⟩ : ∃ b, b = lessL (storB 1 data) f := ⟨_, rfl⟩
  rw [← hb] at a4 ⊢
  unfold lessL
  by_cases h : d.length < b.length
  · rw [if_pos h]; exact a3
  · rw [if_neg h]; exact a4
end Go.Proofs.YtkpabdjniiepkaaGreatDoor

set_option linter.unusedVariables false
set_option linter.unusedSimpArgs false
/-! match.Check. -/
namespace Go.Proofs.YtkpabdjniiepkaaGreatDoor
open Go.RowKit
theorem may_no {a b c : Int} {said : Nat} (h0 : ¬ b = 0) (h : ¬ (a = 0 ∧ 3 ≤ b ∧ b ≤ 258 ∧ 1 ≤ c ∧ c ≤ 32768 ∧ c ≤ said)) : mayT (a, b, c) said = false := by
  unfold mayT
  rw [if_neg h0]
  exact decide_eq_false h
set_option maxRecDepth 100000 in
set_option maxHeartbeats 1000000 in
theorem right_calls (w : World) (t : Tok) (said : Nat) (hs : said ≤ 1000000) :
    Calls Tryz.prog 42 #[tokV t, .int .i64 said] w fun e w' => e = .returned (.bool (mayT t said)) ∧ Keeps [] w w' := by
  obtain ⟨a, b, c⟩ := t
  have ha : Keeps [] w (w.alloc (.cells #[.int .u8 a, .int .i64 b, .int .i64 c] 41)) := (Keeps.refl [] w).alloc _
  unfold tokV
  by_cases h0 : b = 0
  · have HR : Hid (mayT (a, b, c) said = (c == 0)) := by
      show _ = _
      unfold mayT; rw [if_pos h0]
      by_cases h : c = 0 <;> simp [h]
    have x0 : decide (b = 0) = true := by simpa using h0
    have x0' : (b == 0) = true := by simpa using h0
    clear h0
    go_enter Tryz.func42, Tryz.ntmps42
    go_wp2_with fail
    go_ret
    exact ⟨by rw [HR.out]; rfl, ha⟩
  · have x0 : decide (b = 0) = false := by simpa using h0
    have x0' : (b == 0) = false := by simpa using h0
    have NO : Hid (¬ (a = 0 ∧ 3 ≤ b ∧ b ≤ 258 ∧ 1 ≤ c ∧ c ≤ 32768 ∧ c ≤ said) → mayT (a, b, c) said = false) := Lib.hid (may_no h0)
    have H0 := Lib.hid h0
    clear h0
    by_cases h1 : a = 0
    · have x1 : decide (a = 0) = true := by simpa using h1
      have x1' : (a == 0) = true := by simpa using h1
      have H1 := Lib.hid h1
      clear h1
      by_cases h2 : 3 ≤ b
      · have x2 : decide (3 ≤ b) = true := by simpa using h2
        have H2 := Lib.hid h2
        clear h2
        by_cases h3 : b ≤ 258
        · have x3 : decide (b ≤ 258) = true := by simpa using h3
          have H3 := Lib.hid h3
          clear h3
          by_cases h4 : 1 ≤ c
          · have x4 : decide (1 ≤ c) = true := by simpa using h4
            have H4 := Lib.hid h4
            clear h4
            obtain ⟨K, hK⟩ : ∃ K : Nat, (if (said : Int) < 32768 then (said : Int) else 32768) = (K : Int) := ⟨min said 32768, by split <;> omega⟩
            have HK : Hid (K = min said 32768) := Lib.hid (by split at hK <;> omega)
            go_enter Tryz.func42, Tryz.ntmps42
            go_wp2_with fail
            go_ret
            refine ⟨?_, ha⟩
            have e : mayT (a, b, c) said = decide (c ≤ (K : Int)) := by
              have := H0.out; have := H1.out; have := H2.out; have := H3.out; have := H4.out; have hKK := HK.out
              unfold mayT
              rw [if_neg H0.out]
              exact decide_eq_decide.2 (by dsimp only; omega)
            rw [e]; rfl
          · have x4 : decide (1 ≤ c) = false := by simpa using h4
            have HR := Lib.hid (NO.out (by omega))
            clear h4
            go_enter Tryz.func42, Tryz.ntmps42
            go_wp2_with fail
            go_ret
            exact ⟨by rw [HR.out]; rfl, ha⟩
        · have x3 : decide (b ≤ 258) = false := by simpa using h3
          have HR := Lib.hid (NO.out (by omega))
          clear h3
          go_enter Tryz.func42, Tryz.ntmps42
          go_wp2_with fail
          go_ret
          exact ⟨by rw [HR.out]; rfl, ha⟩
      · have x2 : decide (3 ≤ b) = false := by simpa using h2
        have HR := Lib.hid (NO.out (by omega))
        clear h2
        go_enter Tryz.func42, Tryz.ntmps42
        go_wp2_with fail
        go_ret
        exact ⟨by rw [HR.out]; rfl, ha⟩
    · have x1 : decide (a = 0) = false := by simpa using h1
      have x1' : (a == 0) = false := by simpa using h1
      have HR := Lib.hid (NO.out (by omega))
      clear h1
      go_enter Tryz.func42, Tryz.ntmps42
      go_wp2_with fail
      go_ret
      exact ⟨by rw [HR.out]; rfl, ha⟩
set_option maxRecDepth 100000 in
set_option maxHeartbeats 1000000 in
theorem tcheck_calls (w : World) (A : Option Addr) (n c : Nat) (ts : List Tok) (h : RT w A n ts) (hn : n ≤ 140737488355328) :
    Calls Tryz.prog 26 #[.slice A n c] w fun e w' => e = .returned (.int .i64 (checkT ts 0)) ∧ Keeps [] w w' := by
  have H := Lib.hid h
  have HL := Lib.hid h.len
  clear h
  go_enter Tryz.func26, Tryz.ntmps26
  go_wp2_with fail
  go_loopw [3, 8] (fun sv iv wr => ∃ (p s : Nat), p ≤ n ∧ s ≤ 16384 ∧ sv = .int .i64 s ∧ iv = .int .i64 p ∧ Hid (checkT ts 0 = checkT (ts.drop p) s) ∧ Hid (Keeps [] w wr)) (fun _ iv _ => n - (intOf iv).toNat)
  case atStart => exact ⟨0, 0, by omega, by omega, rfl, rfl, Lib.hid (by simp), Lib.hid (Keeps.refl _ _)⟩
  case round =>
    obtain ⟨p, s, hp, hs, rfl, rfl, HC, HK⟩ := hrel
    by_cases hlt : p < n
    · have e5 : decide (p < n) = true := by simpa using hlt
      obtain ⟨tb, to', rfl⟩ := H.out.hd (by omega)
      obtain ⟨p0, p1, p2⟩ := (H.out.keeps HK.out (off_nil _)).cell tb to' rfl p hlt
      have HD : Hid (ts.drop p = tth ts p :: ts.drop (p + 1)) := Lib.hid (drop_tth (by have := HL.out; omega))
      generalize tth ts p = t at *
      have HRT := fun w => right_calls w t s (by omega)
      have HX := Lib.hid HRT
      clear HRT
      obtain ⟨a, b, d⟩ := t
      dsimp only at p0 p1 p2
      go_wp2_with fail
      refine (HX.out _).mono ?_
      rintro _ w1 ⟨rfl, hk1⟩
      have hbx := (blk_new wr 41 [.int .u8 a, .int .i64 b, .int .i64 d]).keeps hk1 (by simp)
      have b1 := hbx.cell 1
      simp only [List.getElem?_cons_zero, List.getElem?_cons_succ] at b1
      have HK1 := Lib.hid ((HK.out.alloc (.cells #[.int .u8 a, .int .i64 b, .int .i64 d] 41)).trans hk1)
      clear hbx hk1 HX p0 p1 p2 HK
      have HE := HC.out
      rw [HD.out, checkT] at HE
      clear HC
      by_cases hm : mayT (a, b, d) s = false
      · rw [if_pos hm] at HE
        have HE2 := Lib.hid HE
        clear HE
        rw [hm]
        go_wp2_with fail
        go_ret
        exact ⟨by rw [HE2.out]; rfl, HK1.out⟩
      · rw [if_neg hm] at HE
        have hm' : mayT (a, b, d) s = true := by simpa using hm
        rw [hm']
        have hb0 := may_nn hm'
        obtain ⟨m, hm2⟩ := Int.eq_ofNat_of_zero_le hb0
        dsimp only at hm2
        subst hm2
        have hmx : (m : Int) ≤ 258 := by
          unfold mayT at hm'
          split at hm'
          · next h => dsimp only at h; omega
          · have := of_decide_eq_true hm'; dsimp only at this; omega
        dsimp only at HE
        rw [Int.toNat_natCast] at HE
        obtain ⟨K, hK⟩ : ∃ K : Nat, (if 1 < (m : Int) then (m : Int) else 1) = (K : Int) := ⟨max 1 m, by split <;> omega⟩
        have hK2 : max 1 m = K := by split at hK <;> omega
        rw [hK2] at HE
        have HE2 := Lib.hid HE
        have s1 : IntKind.i64.wrap ((s : Int) + (K : Int)) = (s : Int) + (K : Int) := IntWalk.i64_in _ (by omega)
        clear HE hm hm' hb0 hK2
        by_cases hbig : 16384 < s + K
        · have x2 : decide ((16384 : Int) < (s : Int) + (K : Int)) = true := by simp; omega
          have HE3 := Lib.hid (HE2.out.trans (if_pos hbig))
          clear HE2 hbig
          go_wp2_with fail
          go_ret
          exact ⟨by rw [HE3.out]; rfl, HK1.out⟩
        · have x2 : decide ((16384 : Int) < (s : Int) + (K : Int)) = false := by simp; omega
          have HE3 := Lib.hid (HE2.out.trans (if_neg hbig))
          clear HE2
          go_wp2_with fail
          go_roundw
          case rel => exact ⟨p + 1, s + K, by omega, by omega, by go_num, by go_num, HE3, HK1⟩
          case measure => simp [intOf]; omega
    · obtain rfl : p = n := by omega
      have e5 : decide (p < p) = false := by simp
      have HE : Hid (checkT ts 0 = 0) := Lib.hid (by rw [HC.out, List.drop_eq_nil_of_le (by have := HL.out; omega)]; rfl)
      go_wp2_with fail
      go_ret
      exact ⟨by rw [HE.out]; rfl, HK.out⟩
end Go.Proofs.YtkpabdjniiepkaaGreatDoor

set_option linter.unusedVariables false
set_option linter.unusedSimpArgs false
namespace Go.Proofs.YtkpabdjniiepkaaGreatDoor
open Go.RowKit
set_option maxRecDepth 100000 in
set_option maxHeartbeats 2000000 in
theorem concat4_calls (w : World) (gb g1 g2 g3 g4 n1 n2 n3 n4 c1 c2 c3 c4 : Nat) (x1 x2 x3 x4 : List Int) (h0 : w.cell? ⟨gb, 0, none⟩ = some (.slice (some ⟨g1, 0, none⟩) n1 c1)) (h1 : w.cell? ⟨gb, 1, none⟩ = some (.slice (some ⟨g2, 0, none⟩) n2 c2)) (h2 : w.cell? ⟨gb, 2, none⟩ = some (.slice (some ⟨g3, 0, none⟩) n3 c3)) (h3 : w.cell? ⟨gb, 3, none⟩ = some (.slice (some ⟨g4, 0, none⟩) n4 c4))
    (hx1 : RI .i64 w (some ⟨g1, 0, none⟩) n1 x1) (hx2 : RI .i64 w (some ⟨g2, 0, none⟩) n2 x2) (hx3 : RI .i64 w (some ⟨g3, 0, none⟩) n3 x3) (hx4 : RI .i64 w (some ⟨g4, 0, none⟩) n4 x4)
    (hn1 : n1 ≤ 1000000) (hn2 : n2 ≤ 1000000) (hn3 : n3 ≤ 1000000) (hn4 : n4 ≤ 1000000) :
    Calls Tryz.prog 27 #[.slice (some ⟨gb, 0, none⟩) 4 4] w fun e w' => ∃ v, e = .returned v ∧ w'.ownsRow w.heap.size 3 1 v (n1 + n2 + n3 + n4) (ints .i64 (x1 ++ (x2 ++ (x3 ++ x4)))) ∧ Below w.heap.size w w' := by
  have HX1 := Lib.hid hx1
  have HX2 := Lib.hid hx2
  have HX3 := Lib.hid hx3
  have HX4 := Lib.hid hx4
  have H0 := Lib.hid h0
  have H1 := Lib.hid h1
  have H2 := Lib.hid h2
  have H3 := Lib.hid h3
  have e1 : decide ((n1 : Int) < 0) = false := by simp
  have e2 : decide ((n1 : Int) + n2 < 0) = false := by simp; omega
  have e3 : decide ((n1 : Int) + n2 + n3 < 0) = false := by simp; omega
  have e4 : decide ((n1 : Int) + n2 + n3 + n4 < 0) = false := by simp; omega
  clear hx1 hx2 hx3 hx4
  go_enter Tryz.func27, Tryz.ntmps27
  go_wp2_with fail
  refine wp_loop_rounds 5 ?_
  rw [rounds_succ]
  go_wp2_with fail
  rw [rounds_succ]
  go_wp2_with fail
  rw [rounds_succ]
  go_wp2_with fail
  rw [rounds_succ]
  go_wp2_with fail
  rw [rounds_succ]
  go_wp2_with fail
  rw [show ((n1 : Int) + n2 + n3 + n4) = ((n1 + n2 + n3 + n4 : Nat) : Int) by omega]
  refine (grow_calls _ (n1 + n2 + n3 + n4) (by omega)).mono ?_
  rintro _ w1 ⟨v, rfl, ho, hb⟩
  have HO := Lib.hid (ho w.heap.size (Nat.le_refl _))
  have HB := Lib.hid hb
  have hz := hb.size
  have h0 := (Keeps.of_below (S := []) hb).cell (by simp) H0.out
  clear h1 h2 h3
  clear ho hb e1 e2 e3 e4
  go_wp2_with fail
  refine wp_loop_rounds 5 ?_
  rw [rounds_succ]
  go_wp2_with (at_builtin; refine app_intsG rfl (.tmp 31) (.tmp 32) rfl w.heap.size _ _ [] rfl HO.out (some ⟨g1, 0, none⟩) n1 c1 x1 rfl (HX1.out.keeps (Keeps.of_below (S := []) HB.out) (off_nil _)) nofun (fun ad h => ⟨_, _, (Option.some.inj h).symm⟩) (by omega) hz ?_)
  intro v2 w2 ho hg
  have HO2 := Lib.hid ho
  have hb2 := HB.out.grown hg hz (fun k hk => own_lo HO.out k hk)
  have HB2 := Lib.hid hb2
  replace hz := hb2.size
  clear h0
  have h1 := (Keeps.of_below (S := []) hb2).cell (by simp) H1.out
  clear ho hg hb2
  go_wp2_with fail
  rw [rounds_succ]
  go_wp2_with (at_builtin; refine app_intsG rfl (.tmp 31) (.tmp 32) rfl w.heap.size _ _ _ rfl HO2.out (some ⟨g2, 0, none⟩) n2 c2 x2 rfl (HX2.out.keeps (Keeps.of_below (S := []) HB2.out) (off_nil _)) nofun (fun ad h => ⟨_, _, (Option.some.inj h).symm⟩) (by omega) hz ?_)
  intro v3 w3 ho hg
  have HO3 := Lib.hid ho
  have hb2 := HB2.out.grown hg hz (fun k hk => own_lo HO2.out k hk)
  have HB3 := Lib.hid hb2
  replace hz := hb2.size
  clear h1
  have h2 := (Keeps.of_below (S := []) hb2).cell (by simp) H2.out
  clear ho hg hb2
  go_wp2_with fail
  rw [rounds_succ]
  go_wp2_with (at_builtin; refine app_intsG rfl (.tmp 31) (.tmp 32) rfl w.heap.size _ _ _ rfl HO3.out (some ⟨g3, 0, none⟩) n3 c3 x3 rfl (HX3.out.keeps (Keeps.of_below (S := []) HB3.out) (off_nil _)) nofun (fun ad h => ⟨_, _, (Option.some.inj h).symm⟩) (by omega) hz ?_)
  intro v4 w4 ho hg
  have HO4 := Lib.hid ho
  have hb2 := HB3.out.grown hg hz (fun k hk => own_lo HO3.out k hk)
  have HB4 := Lib.hid hb2
  replace hz := hb2.size
  clear h2
  have h3 := (Keeps.of_below (S := []) hb2).cell (by simp) H3.out
  clear ho hg hb2
  go_wp2_with fail
  rw [rounds_succ]
  go_wp2_with (at_builtin; refine app_intsG rfl (.tmp 31) (.tmp 32) rfl w.heap.size _ _ _ rfl HO4.out (some ⟨g4, 0, none⟩) n4 c4 x4 rfl (HX4.out.keeps (Keeps.of_below (S := []) HB4.out) (off_nil _)) nofun (fun ad h => ⟨_, _, (Option.some.inj h).symm⟩) (by omega) hz ?_)
  intro v5 w5 ho hg
  have HO5 := Lib.hid ho
  have hb2 := HB4.out.grown hg hz (fun k hk => own_lo HO4.out k hk)
  have HB5 := Lib.hid hb2
  replace hz := hb2.size
  clear h3
  clear ho hg hb2
  go_wp2_with fail
  rw [rounds_succ]
  go_wp2_with fail
  go_ret
  exact ⟨_, rfl, HO5.out, HB5.out⟩
end Go.Proofs.YtkpabdjniiepkaaGreatDoor

set_option linter.unusedVariables false
set_option linter.unusedSimpArgs false
namespace Go.Proofs.YtkpabdjniiepkaaGreatDoor
open Go.RowKit
set_option maxRecDepth 100000 in
set_option maxHeartbeats 1000000 in
theorem mul64_calls (w : World) (m : Nat) (hm : m ≤ 1000000) :
    Calls Tryz.prog 67 #[.int .u64 1, .int .u64 m] w fun e w' => e = .returned (.tuple #[.int .u64 0, .int .u64 m]) ∧ w = w' := by
  have e1 : Go.bits .and .u64 1 4294967295 = 1 := by rw [u64_mask32 _ (by omega) (by omega)]; rfl
  have e2 : Go.bits .and .u64 0 4294967295 = 0 := by rw [u64_mask32 _ (by omega) (by omega)]; rfl
  have e3 : Go.bits .and .u64 (m : Int) 4294967295 = m := by rw [u64_mask32 _ (by omega) (by omega)]; omega
  have e4 : IntKind.u64.wrap (m : Int) = m := wraps_u64 _ (by omega) (by omega)
  have e5 : (m : Int) / 4294967296 = 0 := by omega
  have e6 : IntKind.u64.wrap 0 = 0 := rfl
  go_enter Tryz.func67, Tryz.ntmps67
  go_wp2
  go_ret2
  exact ⟨rfl, rfl⟩
set_option maxRecDepth 100000 in
set_option maxHeartbeats 1000000 in
theorem mul_calls (w : World) (m : Nat) (hm : m ≤ 1000000) :
    Calls Tryz.prog 44 #[.int .u64 1, .int .u64 m] w fun e w' => e = .returned (.tuple #[.int .u64 0, .int .u64 m]) ∧ w = w' := by
  go_enter Tryz.func44, Tryz.ntmps44
  go_wp2_with fail
  refine (mul64_calls _ _ hm).mono ?_
  rintro e w' ⟨rfl, rfl⟩
  go_wp2_with fail
  go_ret2
  exact ⟨rfl, rfl⟩
end Go.Proofs.YtkpabdjniiepkaaGreatDoor

set_option linter.unusedVariables false
set_option linter.unusedSimpArgs false
namespace Go.Proofs.YtkpabdjniiepkaaGreatDoor
open Go.RowKit
theorem ints_one (k : IntKind) (xs : List Int) : ∀ v ∈ ints k xs, v.oneCell' = true := by
  intro u hu; simp only [ints, List.mem_map] at hu; obtain ⟨x, _, rfl⟩ := hu; rfl
theorem rep_src {w : World} {g t k m : Nat} {v : Int} (h : Blk w g t (ints .i64 (List.replicate k v ++ List.replicate m 0))) (j : Nat) (hj : j ≤ k) :
    ∀ i u, (ints .i64 (List.replicate j v))[i]? = some u → w.cell? ((⟨g, 0, none⟩ : Addr).add i) = some u := by
  intro i u hu
  have hi : i < j := by have := (List.getElem?_eq_some_iff.1 hu).1; simpa [ints] using this
  rw [add_plain, h.cell]
  rw [ints_getElem?] at hu ⊢
  rw [List.getElem?_append_left (by simp; omega)]
  simpa [hi, show i < k by omega] using hu
theorem rep_fit {k m q : Nat} {v : Int} (h2 : q ≤ m - k) (h : k < m) : k + (ints .i64 (List.replicate q v)).length ≤ (ints .i64 (List.replicate k v ++ List.replicate (m - k) 0)).length := by
  simp [ints]; omega
theorem rep_splice {k m q : Nat} {v : Int} (h2 : q ≤ m - k) (h : k < m) : splice (ints .i64 (List.replicate k v ++ List.replicate (m - k) 0)) k (ints .i64 (List.replicate q v)) = ints .i64 (List.replicate (k + q) v ++ List.replicate (m - (k + q)) 0) := by
  have e1 : List.replicate (k + q) v = List.replicate k v ++ List.replicate q v := by simp
  rw [e1]
  simp only [splice, ints, List.map_append, List.map_replicate, List.length_replicate, List.append_assoc]
  rw [List.take_append_of_le_length (by simp), List.drop_append]
  simp
  omega
set_option maxRecDepth 100000 in
set_option maxHeartbeats 1000000 in
theorem repeat_calls (w : World) (b c m : Nat) (v : Int) (hc : w.cell? ⟨b, 0, none⟩ = some (.int .i64 v)) (hm1 : 1 ≤ m) (hm : m ≤ 1000000) :
    Calls Tryz.prog 28 #[.slice (some ⟨b, 0, none⟩) 1 c, .int .i64 m] w fun e w' => ∃ g, e = .returned (.slice (some ⟨g, 0, none⟩) m m) ∧ Blk w' g 3 (ints .i64 (List.replicate m v)) ∧ w.heap.size ≤ g ∧ Below w.heap.size w w' := by
  have hbl : b < w.heap.size := World.block_lt_of_cell? _ _ hc
  have e0 : IntKind.u64.wrap (m : Int) = m := wraps_u64 _ (by omega) (by omega)
  have e1 : IntKind.u64.wrap 1 = 1 := rfl
  have e2 : decide ((0 : Int) < 0) = false := rfl
  have e4 : decide ((m : Int) < 0) = false := by simp
  have hmk := fun w => make_ints (P := Tryz.prog) w 23 3 .i64 8 Tryz.underlying23 info_int (m : Int) m rfl (by omega) (by omega)
  go_enter Tryz.func28, Tryz.ntmps28
  go_wp2_with fail
  refine (mul_calls _ _ hm).mono ?_
  rintro e w' ⟨rfl, rfl⟩
  have e3 : decide ((9223372036854775807 : Int) < (m : Int)) = false := by simp; omega
  go_wp2_with (with_reducible refine wpList_copy_splice rfl (.tmp 31) (.tmp 32) _ _ rfl 3 Tryz.underlying23 size_int _ _ _ _ _ _ rfl rfl w.heap.size 0 (ints .i64 (List.replicate m 0)) 3 ?h1 (ints .i64 [v]) ?h2 ?h3 ?h4 ?h5 w.heap.size w ?h6 (Nat.le_refl _) ?_)
  case h1 => exact blk_new w _ _
  case h2 => exact (Nat.min_eq_left hm1).symm
  case h3 =>
    intro _ j u hu
    match j, hu with
    | 0, hu =>
      simp [ints] at hu
      subst hu
      exact hc
    | j + 1, hu => simp [ints] at hu
  case h4 => simp [ints]; omega
  case h5 => intro u hu; simp only [ints, List.mem_map] at hu; obtain ⟨x, _, rfl⟩ := hu; rfl
  case h6 => exact (Below.refl _ _).alloc (Nat.le_refl _) _
  intro w1 hg1 hb1
  have hB : Blk w1 w.heap.size 3 (splice (ints .i64 (List.replicate m 0)) 0 (ints .i64 [v])) := hg1.out
  have hsp : splice (ints .i64 (List.replicate m 0)) 0 (ints .i64 [v]) = ints .i64 (List.replicate 1 v ++ List.replicate (m - 1) 0) := by
    simp [splice, ints]
  rw [hsp] at hB
  clear hg1 hsp hmk hc
  have HB := Lib.hid hB
  have HW := Lib.hid hb1
  clear hB hb1 e0 e1 e2 e3 e4
  go_wp2_with fail
  go_loopw [8] (fun v8 wr => ∃ k : Nat, 1 ≤ k ∧ k ≤ m ∧ v8 = .int .i64 k ∧ Hid (Blk wr w.heap.size 3 (ints .i64 (List.replicate k v ++ List.replicate (m - k) 0))) ∧ Hid (Below w.heap.size w wr)) (fun v8 _ => m - (intOf v8).toNat)
  case atStart => exact ⟨1, by omega, by omega, by go_num, HB, HW⟩
  case round =>
    clear HB HW
    obtain ⟨k, hk1, hk, rfl, HB, HW⟩ := hrel
    by_cases hlt : k < m
    · go_wp2_with fail
      have HLT := Lib.hid hlt
      obtain ⟨q, hq⟩ : ∃ q, q = Nat.min k (m - k) := ⟨_, rfl⟩
      have hq1 : 1 ≤ q := by rw [hq]; exact Nat.le_min.2 ⟨hk1, by omega⟩
      have hq2 : q ≤ m - k := by rw [hq]; exact Nat.min_le_right _ _
      have hq3 : q ≤ k := by rw [hq]; exact Nat.min_le_left _ _
      have HQ := Lib.hid hq
      clear hq
      have hlen : (ints .i64 (List.replicate q v)).length = q := by simp [ints]
      have HLEN := Lib.hid hlen
      have e2 : IntKind.i64.wrap ((k : Int) + (q : Int)) = (k : Int) + (q : Int) := IntWalk.i64_in _ (by omega)
      have e9 : ¬ m = k := by omega
      have HN := Lib.hid e9
      go_region_law (refine step_copy_splice rfl (.tmp 41) (.tmp 44) _ _ rfl 3 Tryz.underlying23 size_int (some ⟨w.heap.size, k, none⟩) (some ⟨w.heap.size, 0, none⟩) (m - k) (m - k) k m (by simp [Act.eval, Act.put, HN.out]) (by simp [Act.eval, Act.put]) w.heap.size k (ints .i64 (List.replicate k v ++ List.replicate (m - k) 0)) 3 (by exact HB.out) (ints .i64 (List.replicate q v)) (by exact HLEN.out.trans HQ.out) (fun _ => ⟨rfl, _, rfl, by exact rep_src HB.out _ hq3⟩) (by exact rep_fit hq2 HLT.out) (by exact ints_one _ _) w.heap.size w (by exact HW.out.drew) (Nat.le_refl _) ?_; intro w4 hg4 hb4)
      all_goals
        have hB4 : Blk w4 w.heap.size 3 (splice (ints .i64 (List.replicate k v ++ List.replicate (m - k) 0)) k (ints .i64 (List.replicate q v))) := hg4.out
        rw [rep_splice hq2 HLT.out] at hB4
        have HB4 := Lib.hid hB4
        have HW4 := Lib.hid hb4
        clear hB4 hb4 hg4 HB HW e9 hlen e2
        go_wp2_with fail
        go_roundw
        case rel => exact ⟨.int .i64 ((k : Int) + q), _, _, _, _, _, _, _, _, _, _, _, _, _, ⟨k + q, by omega, by omega, by go_num, HB4, HW4⟩, rfl⟩
        case measure =>
          show m - (intOf (.int .i64 ((k : Int) + q))).toNat < m - (intOf (.int .i64 (k : Int))).toNat
          simp [intOf]; omega
    · go_wp2_with fail
      obtain rfl : k = m := by omega
      go_ret
      exact ⟨_, rfl, by simpa using HB.out, Nat.le_refl _, HW.out⟩
theorem repeat_calls' (w : World) (b c m : Nat) (mi v : Int) (hmi : mi = m) (hc : w.cell? ⟨b, 0, none⟩ = some (.int .i64 v)) (hm1 : 1 ≤ m) (hm : m ≤ 1000000) :
    Calls Tryz.prog 28 #[.slice (some ⟨b, 0, none⟩) 1 c, .int .i64 mi] w fun e w' => ∃ g, e = .returned (.slice (some ⟨g, 0, none⟩) m m) ∧ Blk w' g 3 (ints .i64 (List.replicate m v)) ∧ w.heap.size ≤ g ∧ Below w.heap.size w w' := by
  subst hmi
  exact repeat_calls w b c m v hc hm1 hm
end Go.Proofs.YtkpabdjniiepkaaGreatDoor


set_option linter.unusedVariables false
set_option linter.unusedSimpArgs false
namespace Go.Proofs.YtkpabdjniiepkaaGreatDoor
open Go.RowKit
/-- 's[l:]': where it begins. -/
def cutA (A : Option Addr) (l c : Nat) : Option Addr := if c = l then A else A.map (·.add l)
theorem cutA_nil {A : Option Addr} {l c n : Nat} (h : A = none → n = 0 ∧ c = 0) : cutA A l c = none → n - l = 0 ∧ c - l = 0 := by
  unfold cutA
  intro e
  have : A = none := by
    split at e
    · exact e
    · simpa using e
  have := h this
  omega
theorem cutA_pl {A : Option Addr} {l c : Nat} (h : ∀ ad, A = some ad → ∃ b o, ad = ⟨b, o, none⟩) : ∀ ad, cutA A l c = some ad → ∃ b o, ad = ⟨b, o, none⟩ := by
  intro ad e
  unfold cutA at e
  split at e
  · exact h ad e
  · obtain ⟨a, ha, rfl⟩ := Option.map_eq_some_iff.1 e
    obtain ⟨b, o, rfl⟩ := h a ha
    exact ⟨b, o + l, add_plain2 b o l⟩
theorem cutA_blk {A : Option Addr} {l c : Nat} (h : ∀ ad, A = some ad → ∃ b o, ad = ⟨b, o, none⟩) : ∀ ad, cutA A l c = some ad → ∃ a, A = some a ∧ ad.block = a.block := by
  intro ad e
  unfold cutA at e
  split at e
  · exact ⟨ad, e, rfl⟩
  · obtain ⟨a, ha, rfl⟩ := Option.map_eq_some_iff.1 e
    obtain ⟨b, o, rfl⟩ := h a ha
    exact ⟨_, ha, by rw [add_plain2]⟩
theorem RI.cut {k : IntKind} {w : World} {A : Option Addr} {n c : Nat} {xs : List Int} (h : RI k w A n xs) (hpl : ∀ ad, A = some ad → ∃ b o, ad = ⟨b, o, none⟩) {l : Nat} (hl : l ≤ n) (hc : n ≤ c) : RI k w (cutA A l c) (n - l) (xs.drop l) := by
  have hlen := h.len
  refine ⟨by rw [List.length_drop, hlen], fun hp => ?_, fun b o ha j hj => ?_⟩
  · obtain ⟨b, o, rfl⟩ := h.hd (by omega)
    unfold cutA
    rw [if_neg (by omega)]
    exact ⟨b, o + l, by simp [add_plain2]⟩
  · unfold cutA at ha
    rw [if_neg (by omega)] at ha
    obtain ⟨b', o', rfl⟩ := h.hd (by omega)
    simp [add_plain2] at ha
    obtain ⟨rfl, rfl⟩ := ha
    rw [Nat.add_assoc, h.cell b' o' rfl (l + j) (by omega)]
    simp [nth, List.getD]
theorem slice_from8 (w : World) (A : Option Addr) (n c l : Nat) (li : Int) (hli : li = l) (hl : l ≤ n) :
    (Instr.slice 22 (.slice A n c) (some (.int .i64 li)) none none).run Tryz.prog w = .ok (.slice (cutA A l c) (n - l) (c - l)) w := by
  subst hli
  rw [run_slice_l w 22 A n c (by kernel_rfl) .i64 l (by omega) (by omega)]
  have hs : (sizeOf (Tryz.prog.elem 22)).run Tryz.prog w = .ok 1 w := by kernel_rfl
  rw [hs]
  simp [Result.andThen, sliced, cutA]
end Go.Proofs.YtkpabdjniiepkaaGreatDoor

set_option linter.unusedVariables false
set_option linter.unusedSimpArgs false
namespace Go.Proofs.YtkpabdjniiepkaaGreatDoor
open Go.RowKit
/-- A slice's room. -/
def CapOk (A : Option Addr) (n c : Nat) : Prop := n ≤ c ∧ c ≤ maxLen ∧ (0 < c → ∃ b o, A = some ⟨b, o, none⟩)
theorem slice_to8 (w : World) (A : Option Addr) (n c l : Nat) (li : Int) (hli : li = l) (hl : l ≤ n) (hc : CapOk A n c) :
    (Instr.slice 22 (.slice A n c) none (some (.int .i64 li)) none).run Tryz.prog w = .ok (.slice A l c) w := by
  obtain ⟨h1, -, h3⟩ := hc
  subst hli
  rw [run_slice_h w 22 A n c (by kernel_rfl) .i64 l (by omega) (by omega)]
  have hs : (sizeOf (Tryz.prog.elem 22)).run Tryz.prog w = .ok 1 w := by kernel_rfl
  rw [hs]
  by_cases h0 : c = 0
  · subst h0
    simp [Result.andThen, sliced]
  · obtain ⟨b, o, rfl⟩ := h3 (by omega)
    simp [Result.andThen, sliced, add_plain2]
/-- 's[l:h]'. -/
theorem slice_mid8 (w : World) (A : Option Addr) (n c l h : Nat) (li hi : Int) (hli : li = l) (hhi : hi = h) (hl : l ≤ h) (hh : h ≤ n) (hc : CapOk A n c) :
    (Instr.slice 22 (.slice A n c) (some (.int .i64 li)) (some (.int .i64 hi)) none).run Tryz.prog w = .ok (.slice (cutA A l c) (h - l) (c - l)) w := by
  obtain ⟨h1, -, h3⟩ := hc
  subst hli
  subst hhi
  rw [run_slice_lh w 22 A n c (by kernel_rfl) .i64 .i64 l h (by omega) (by omega) (by omega)]
  have hs : (sizeOf (Tryz.prog.elem 22)).run Tryz.prog w = .ok 1 w := by kernel_rfl
  rw [hs]
  simp [Result.andThen, sliced, cutA]
/-- What stands in 's[l:h]'. -/
theorem RI.mid {k : IntKind} {w : World} {A : Option Addr} {n c : Nat} {xs : List Int} (h : RI k w A n xs) (hc : CapOk A n c) {l m : Nat} (hl : l ≤ m) (hm : m ≤ n) : RI k w (cutA A l c) (m - l) ((xs.take m).drop l) := by
  obtain ⟨h1, -, h3⟩ := hc
  have hlen := h.len
  refine ⟨by rw [List.length_drop, List.length_take, hlen]; omega, fun hp => ?_, fun b o ha j hj => ?_⟩
  · obtain ⟨b, o, rfl⟩ := h3 (by omega)
    unfold cutA
    rw [if_neg (by omega)]
    exact ⟨b, o + l, by simp [add_plain2]⟩
  · unfold cutA at ha
    rw [if_neg (by omega)] at ha
    obtain ⟨b', o', rfl⟩ := h3 (by omega)
    simp [add_plain2] at ha
    obtain ⟨rfl, rfl⟩ := ha
    rw [Nat.add_assoc, h.cell b' o' rfl (l + j) (by omega)]
    have e : nth ((xs.take m).drop l) j = nth xs (l + j) := by
      rw [← nth_take xs m (l + j) (by omega)]
      simp [nth, List.getD]
    rw [e]
theorem cut_nil_mid {A : Option Addr} {n c l m : Nat} (hc : CapOk A n c) (hnil : A = none → n = 0 ∧ c = 0) (hl : l ≤ m) (hm : m ≤ n) : cutA A l c = none → m - l = 0 ∧ c - l = 0 := by
  intro e
  have := cutA_nil (l := l) hnil e
  omega
theorem CapOk.mid {A : Option Addr} {n c l m : Nat} (hc : CapOk A n c) (hl : l ≤ m) (hm : m ≤ n) : CapOk (cutA A l c) (m - l) (c - l) := by
  obtain ⟨h1, h2, h3⟩ := hc
  refine ⟨by omega, by omega, fun hp => ?_⟩
  obtain ⟨b, o, rfl⟩ := h3 (by omega)
  unfold cutA
  rw [if_neg (by omega)]
  exact ⟨b, o + l, by simp [add_plain2]⟩
theorem CapOk.to {A : Option Addr} {n c l : Nat} (hc : CapOk A n c) (hl : l ≤ n) : CapOk A l c := ⟨Nat.le_trans hl hc.1, hc.2⟩
theorem own_cap {w : World} {base : Nat} {e : TypeId} {A : Option Addr} {n c : Nat} {k : IntKind} {xs : List Int} (h : w.ownsRow base e 1 (.slice A n c) n (ints k xs)) : CapOk A n c := by
  rcases h.2 with ⟨hv, rfl⟩ | ⟨g, cap, cur, hv, hb, hh, hc, hm, _⟩
  · injection hv with h1 h2 h3; subst h1; subst h3
    exact ⟨Nat.le_refl _, Nat.zero_le _, fun h => by omega⟩
  · injection hv with h1 h2 h3; subst h1; subst h3
    exact ⟨hc, hm, fun _ => ⟨g, 0, rfl⟩⟩
end Go.Proofs.YtkpabdjniiepkaaGreatDoor

set_option linter.unusedVariables false
set_option linter.unusedSimpArgs false
/-! An append that also tells where the row lies behind it. -/
namespace Go.Proofs.YtkpabdjniiepkaaGreatDoor
open Go.RowKit
/-- A row of bytes whose room holds bytes, too. -/
def AllU8 (w : World) (v : Value) : Prop := ∀ k, v.ownBlock = some k → ∃ cur : Array Value, w.heap[k]? = some (.cells cur 5 (0, 0)) ∧ ∀ u ∈ cur.toList, ∃ n, u = .int .u8 n
theorem AllU8.nil (w : World) : AllU8 w (.slice none 0 0) := fun k hk => by simp [Value.ownBlock] at hk
theorem AllU8.keeps {w w' : World} {v : Value} {S : List Nat} (h : AllU8 w v) (hk : Keeps S w w') (hS : ∀ k, v.ownBlock = some k → k ∉ S) : AllU8 w' v := fun k hv => by
  obtain ⟨cur, h1, h2⟩ := h k hv
  exact ⟨cur, hk.heap h1 (hS k hv), h2⟩
theorem zeroCells_u8 (n : Nat) : ∀ u ∈ (Builtin.zeroCells (Value.int .u8 0).cells n).toList, ∃ k, u = .int .u8 k := by
  intro u hu
  have hz : (Value.int .u8 0).cells = #[.int .u8 0] := rfl
  rw [hz] at hu
  simp only [Builtin.zeroCells, Array.toList_map, List.mem_map] at hu
  obtain ⟨i, _, rfl⟩ := hu
  exact ⟨0, by simp [Nat.mod_one]⟩
theorem ints_u8 {xs : List Int} : ∀ u ∈ ints .u8 xs, ∃ k, u = .int .u8 k := by
  intro u hu
  simp only [ints, List.mem_map] at hu
  obtain ⟨x, _, rfl⟩ := hu
  exact ⟨x, rfl⟩
theorem run_append_u8 {P : Program} (w : World) (base : Nat) (t ty : TypeId) (i : TypeInfo) (bytes : Nat) (ht : P.underlying t = some (.slice 5)) (hi : P.info? 5 = some i) (hz : i.zero = some (.int .u8 0))
    (hsize : i.size = 1) (hby : i.bytes = bytes)
    (v : Value) (n : Nat) (xs : List Value) (hown : w.ownsRow base 5 1 v n xs)
    (a : Addr) (m c : Nat) (ys : List Int) (hl : (ints .u8 ys).length = m * 1) (hnews : ∀ j u, (ints .u8 ys)[j]? = some u → w.cell? (a.add j) = some u) (h1 : ∀ u ∈ ints .u8 ys, u.oneCell' = true)
    (h63 : n + m ≤ maxLen) (hbytes : (n + m) * bytes ≤ 140737488355328) (hU : AllU8 w v) :
    ∃ v' w', (Builtin.append_ #[t, t] ty #[v, .slice (some a) m c]).run P w = .ok v' w' ∧ AllU8 w' v' := by
  rw [← hsize] at hown hl
  subst hby
  have hsmall : n + m ≤ 9223372036854775807 := by simp only [maxLen] at h63; omega
  have new : ∀ (cells : List Value) (k N cap : Nat), (∀ u ∈ cells, ∃ k, u = .int .u8 k) → AllU8 (w.drew.alloc (.cells (cells.toArray ++ Builtin.zeroCells (Value.int .u8 0).cells k) 5)) (.slice (some ⟨w.heap.size, 0, none⟩) N cap) := fun cells k N cap hc => by
    intro b hb
    have e : w.heap.size = b := by simpa [Value.ownBlock] using hb
    subst e
    refine ⟨_, heap_alloc_new w.drew _, fun u hu => ?_⟩
    rw [Array.toList_append] at hu
    rcases List.mem_append.1 hu with h | h
    · exact hc u h
    · exact zeroCells_u8 k u h
  rcases hown.2 with ⟨rfl, rfl⟩ | ⟨g, cap, cur, rfl, hbg, hg, hnc, hcm, hcs, htake⟩
  · by_cases hm : m = 0
    · subst hm
      have hn : ints .u8 ys = [] := List.eq_nil_of_length_eq_zero (by simpa using hl)
      refine ⟨.slice none 0 0, w, ?_, hU⟩
      simp [Builtin.append_, run_underlying ht, sizeOf, typeInfo, hi, Builtin.lenOf, Builtin.firstCells, loadCells, loadCellsFrom]
    · have hr := run_append_nil (P := P) w t ty 5 i (.int .u8 0) ht hi hz a m c (ints .u8 ys) hl hnews (by omega) (by omega) (by have hb := hbytes; simp only [Nat.zero_add] at hb; omega)
      exact ⟨_, _, hr, new _ _ _ _ ints_u8⟩
  · obtain ⟨cur', hg', hall⟩ := hU g rfl
    have hcc : cur' = cur := by
      rw [hg] at hg'
      injection hg' with hg'
      injection hg' with hg' _ _
      exact hg'.symm
    subst hcc
    by_cases hroom : n + m ≤ cap
    · have hfit : n * i.size + (ints .u8 ys).length ≤ cur'.size := by rw [hl, hcs, ← Nat.add_mul]; exact Nat.mul_le_mul_right _ hroom
      have hr := run_append_room (P := P) w t ty 5 i ht hi g n cap cur' hg a m c (ints .u8 ys) hl hnews h1 hroom hfit
      refine ⟨_, _, hr, fun b hb => ?_⟩
      have e : g = b := by simpa [Value.ownBlock] using hb
      subst e
      refine ⟨_, setRow_heap w g cur' _ 5 _ hg, fun u hu => ?_⟩
      simp only [List.mem_append] at hu
      rcases hu with (h | h) | h
      · exact hall u (List.mem_of_mem_take h)
      · exact ints_u8 u h
      · exact hall u (List.mem_of_mem_drop h)
    · have holds : ∀ j u, xs[j]? = some u → w.cell? ((⟨g, 0, none⟩ : Addr).add j) = some u := hown.cells (g := g) rfl
      have hr := run_append_grow (P := P) w t ty 5 i (.int .u8 0) ht hi hz ⟨g, 0, none⟩ n cap xs hown.1 holds a m c (ints .u8 ys) hl hnews (by omega) (by omega) (growslice_fits (by omega) hbytes)
      refine ⟨_, _, hr, ?_⟩
      have hc : ∀ u ∈ xs ++ ints .u8 ys, ∃ k, u = .int .u8 k := by
        intro u hu
        rcases List.mem_append.1 hu with h | h
        · rw [← htake] at h; exact hall u (List.mem_of_mem_take h)
        · exact ints_u8 u h
      have := new (xs ++ ints .u8 ys) (grownCap w (n + m) cap 5 - (n + m)) (n + m) (grownCap w (n + m) cap 5) hc
      rwa [show (xs ++ ints .u8 ys).toArray = xs.toArray ++ (ints .u8 ys).toArray by simp] at this
theorem run_append_where {P : Program} (w : World) (base : Nat) (t ty e : TypeId) (i : TypeInfo) (z : Value) (size bytes : Nat) (ht : P.underlying t = some (.slice e)) (hi : P.info? e = some i) (hz : i.zero = some z)
    (hsize : i.size = size) (hby : i.bytes = bytes) (hzs : z.cells.size = size) (hsz : 0 < size)
    (v : Value) (n : Nat) (xs : List Value) (hown : w.ownsRow base e size v n xs)
    (a : Addr) (m c : Nat) (news : List Value) (hl : news.length = m * size) (hnews : ∀ j u, news[j]? = some u → w.cell? (a.add j) = some u) (h1 : ∀ u ∈ news, u.oneCell' = true)
    (h63 : n + m ≤ maxLen) (hbytes : (n + m) * bytes ≤ 140737488355328) :
    ∃ v' w', (Builtin.append_ #[t, t] ty #[v, .slice (some a) m c]).run P w = .ok v' w' ∧ (v'.ownBlock = v.ownBlock ∨ v'.ownBlock = some w.heap.size) := by
  subst hsize
  subst hby
  have hsmall : n + m ≤ 9223372036854775807 := by simp only [maxLen] at h63; omega
  rcases hown.2 with ⟨rfl, rfl⟩ | ⟨g, cap, cur, rfl, hbg, hg, hnc, hcm, hcs, htake⟩
  · by_cases hm : m = 0
    · subst hm
      have hn : news = [] := List.eq_nil_of_length_eq_zero (by simpa using hl)
      subst hn
      refine ⟨.slice none 0 0, w, ?_, .inl rfl⟩
      simp [Builtin.append_, run_underlying ht, sizeOf, typeInfo, hi, Builtin.lenOf, Builtin.firstCells, loadCells, loadCellsFrom]
    · have hr := run_append_nil (P := P) w t ty e i z ht hi hz a m c news hl hnews (by omega) (by omega) (by have hb := hbytes; simp only [Nat.zero_add] at hb; omega)
      exact ⟨_, _, hr, .inr rfl⟩
  · by_cases hroom : n + m ≤ cap
    · have hfit : n * i.size + news.length ≤ cur.size := by rw [hl, hcs, ← Nat.add_mul]; exact Nat.mul_le_mul_right _ hroom
      have hr := run_append_room (P := P) w t ty e i ht hi g n cap cur hg a m c news hl hnews h1 hroom hfit
      exact ⟨_, _, hr, .inl rfl⟩
    · have holds : ∀ j u, xs[j]? = some u → w.cell? ((⟨g, 0, none⟩ : Addr).add j) = some u := hown.cells (g := g) rfl
      have hr := run_append_grow (P := P) w t ty e i z ht hi hz ⟨g, 0, none⟩ n cap xs hown.1 holds a m c news hl hnews (by omega) (by omega) (growslice_fits (by omega) hbytes)
      exact ⟨_, _, hr, .inr rfl⟩
theorem app_bytesU {ops : Array Oper} {rest : List Oper} {o : Oper} {a : Act} {Q : Exit → Act → World → Prop} {w : World} (hgd : o.guard = none) (s x : Operand)
    (ho : o.op = .call { callee := .builtin .append, args := #[s, x], argTypes := #[22, 22] })
    (base : Nat) (v : Value) (n : Nat) (xs : List Int) (hs : a.eval s = v) (hown : w.ownsRow base 5 1 v n (ints .u8 xs))
    (A : Option Addr) (m c : Nat) (ys : List Int) (hx : a.eval x = .slice A m c) (hy : RI .u8 w A m ys) (hnil : A = none → m = 0 ∧ c = 0)
    (hn : n + m ≤ 8000000000) (hbase : base ≤ w.heap.size)
    (h : ∀ v' w', w'.ownsRow base 5 1 v' (n + m) (ints .u8 (xs ++ ys)) → w.grownBy w' v.ownBlock → (v'.ownBlock = v.ownBlock ∨ v'.ownBlock = some w.heap.size) → (AllU8 w v → AllU8 w' v') → wpList Tryz.prog ops Q rest (a.put o.dst v') w') : wpList Tryz.prog ops Q (o :: rest) a w := by
  obtain ⟨i0, hi, hz0, hz1, hz2⟩ := info_parts info_u8
  cases A with
  | none =>
    obtain ⟨rfl, rfl⟩ := hnil rfl
    obtain rfl : ys = [] := List.eq_nil_of_length_eq_zero hy.len
    refine wpList_append_own_none hgd s x 22 ho base 5 i0 1 Tryz.underlying22 hi v n (ints .u8 xs) hs hown hx ?_
    exact h v w (by simpa using hown) ⟨rfl, rfl, rfl, Nat.le_refl _, fun _ _ _ => rfl⟩ (.inl rfl) id
  | some ad =>
    have hnews : ∀ j u, (ints .u8 ys)[j]? = some u → w.cell? (ad.add j) = some u := by
      intro j u hu
      have hj : j < m := by have := (List.getElem?_eq_some_iff.1 hu).1; have := hy.len; simp [ints] at *; omega
      obtain ⟨b, of, hab⟩ := hy.hd (by omega)
      obtain rfl := Option.some.inj hab
      rw [add_plain2]
      have hc := hy.cell b of rfl j hj
      rw [hc, ← hu, ints_getElem?]
      simp [nth, List.getD, show j < ys.length by have := hy.len; omega]
    obtain ⟨v', w', hr, h2, h3, -⟩ := run_append_own (P := Tryz.prog) w base 22 o.type 5 i0 (.int .u8 0) 1 1 Tryz.underlying22 hi hz0 hz1 hz2 rfl (by decide) v n (ints .u8 xs) hown ad m c (ints .u8 ys) (by simp [ints, hy.len]) hnews (ints_one' _ _) (by unfold maxLen; omega) (by omega) hbase
    obtain ⟨v2, w2, hr2, h4⟩ := run_append_where (P := Tryz.prog) w base 22 o.type 5 i0 (.int .u8 0) 1 1 Tryz.underlying22 hi hz0 hz1 hz2 rfl (by decide) v n (ints .u8 xs) hown ad m c (ints .u8 ys) (by simp [ints, hy.len]) hnews (ints_one' _ _) (by unfold maxLen; omega) (by omega)
    rw [hr] at hr2
    injection hr2 with e1 e2
    subst e1
    have hu8 : AllU8 w v → AllU8 w' v' := fun hU => by
      obtain ⟨v3, w3, hr3, h5⟩ := run_append_u8 (P := Tryz.prog) w base 22 o.type i0 1 Tryz.underlying22 hi hz0 hz1 hz2 v n (ints .u8 xs) hown ad m c ys (by simp [ints, hy.len]) hnews (ints_one' _ _) (by unfold maxLen; omega) (by omega) hU
      rw [hr] at hr3
      injection hr3 with e3 e4
      subst e3
      subst e4
      exact h5
    refine wpList_plain hgd fun K hK => ?_
    unfold Oper.wp execOp
    simp only [ho, resolve, invoke, builtin, Sem.run_bind, Sem.run_pure, Result.andThen_ok, List.map_toArray, List.map_cons, List.map_nil, hs, hx, hr]
    have e : ints .u8 (xs ++ ys) = ints .u8 xs ++ ints .u8 ys := by simp [ints]
    rw [e] at h
    exact hK _ _ (h v' w' h2 h3 h4 hu8)
theorem app_bytesB {ops : Array Oper} {rest : List Oper} {o : Oper} {a : Act} {Q : Exit → Act → World → Prop} {w : World} (hgd : o.guard = none) (s x : Operand)
    (ho : o.op = .call { callee := .builtin .append, args := #[s, x], argTypes := #[22, 22] })
    (base : Nat) (v : Value) (n : Nat) (xs : List Int) (hs : a.eval s = v) (hown : w.ownsRow base 5 1 v n (ints .u8 xs))
    (A : Option Addr) (m c : Nat) (ys : List Int) (hx : a.eval x = .slice A m c) (hy : RI .u8 w A m ys) (hnil : A = none → m = 0 ∧ c = 0)
    (hn : n + m ≤ 8000000000) (hbase : base ≤ w.heap.size)
    (h : ∀ v' w', w'.ownsRow base 5 1 v' (n + m) (ints .u8 (xs ++ ys)) → w.grownBy w' v.ownBlock → (v'.ownBlock = v.ownBlock ∨ v'.ownBlock = some w.heap.size) → wpList Tryz.prog ops Q rest (a.put o.dst v') w') : wpList Tryz.prog ops Q (o :: rest) a w := by
  obtain ⟨i0, hi, hz0, hz1, hz2⟩ := info_parts info_u8
  cases A with
  | none =>
    obtain ⟨rfl, rfl⟩ := hnil rfl
    obtain rfl : ys = [] := List.eq_nil_of_length_eq_zero hy.len
    refine wpList_append_own_none hgd s x 22 ho base 5 i0 1 Tryz.underlying22 hi v n (ints .u8 xs) hs hown hx ?_
    exact h v w (by simpa using hown) ⟨rfl, rfl, rfl, Nat.le_refl _, fun _ _ _ => rfl⟩ (.inl rfl)
  | some ad =>
    have hnews : ∀ j u, (ints .u8 ys)[j]? = some u → w.cell? (ad.add j) = some u := by
      intro j u hu
      have hj : j < m := by have := (List.getElem?_eq_some_iff.1 hu).1; have := hy.len; simp [ints] at *; omega
      obtain ⟨b, of, hab⟩ := hy.hd (by omega)
      obtain rfl := Option.some.inj hab
      rw [add_plain2]
      have hc := hy.cell b of rfl j hj
      rw [hc, ← hu, ints_getElem?]
      simp [nth, List.getD, show j < ys.length by have := hy.len; omega]
    obtain ⟨v', w', hr, h2, h3, -⟩ := run_append_own (P := Tryz.prog) w base 22 o.type 5 i0 (.int .u8 0) 1 1 Tryz.underlying22 hi hz0 hz1 hz2 rfl (by decide) v n (ints .u8 xs) hown ad m c (ints .u8 ys) (by simp [ints, hy.len]) hnews (ints_one' _ _) (by unfold maxLen; omega) (by omega) hbase
    obtain ⟨v2, w2, hr2, h4⟩ := run_append_where (P := Tryz.prog) w base 22 o.type 5 i0 (.int .u8 0) 1 1 Tryz.underlying22 hi hz0 hz1 hz2 rfl (by decide) v n (ints .u8 xs) hown ad m c (ints .u8 ys) (by simp [ints, hy.len]) hnews (ints_one' _ _) (by unfold maxLen; omega) (by omega)
    rw [hr] at hr2
    injection hr2 with e1 e2
    subst e1
    refine wpList_plain hgd fun K hK => ?_
    unfold Oper.wp execOp
    simp only [ho, resolve, invoke, builtin, Sem.run_bind, Sem.run_pure, Result.andThen_ok, List.map_toArray, List.map_cons, List.map_nil, hs, hx, hr]
    have e : ints .u8 (xs ++ ys) = ints .u8 xs ++ ints .u8 ys := by simp [ints]
    rw [e] at h
    exact hK _ _ (h v' w' h2 h3 h4)
end Go.Proofs.YtkpabdjniiepkaaGreatDoor

set_option linter.unusedVariables false
set_option linter.unusedSimpArgs false
/-! Plain: the mark of three bytes. -/
namespace Go.Proofs.YtkpabdjniiepkaaGreatDoor
def hN (a b c : Nat) : Nat := ((a * 256 ^^^ b * 16) ^^^ c) % 4096
theorem hN_lt (a b c : Nat) : hN a b c < 4096 := Nat.mod_lt _ (by decide)
theorem xor_nat (a b : Nat) (ha : a < 2 ^ 62) (hb : b < 2 ^ 62) : Go.bits .xor .i64 (a : Int) (b : Int) = ((a ^^^ b : Nat) : Int) := by
  have h := Nat.xor_lt_two_pow ha hb
  simp only [Go.bits, BitVec.ofInt_natCast, BitVec.toNat_xor, BitVec.toNat_ofNat, show a % 2 ^ IntKind.i64.bits = a from Nat.mod_eq_of_lt (Nat.lt_of_lt_of_le ha (by decide)), show b % 2 ^ IntKind.i64.bits = b from Nat.mod_eq_of_lt (Nat.lt_of_lt_of_le hb (by decide))]
  exact IntWalk.i64_in _ (by omega)
theorem and_4095 (a : Nat) (ha : a < 2 ^ 62) : Go.bits .and .i64 (a : Int) 4095 = ((a % 4096 : Nat) : Int) := by
  have e : Go.bits .and .i64 (a : Int) ((4095 : Nat) : Int) = ((a &&& 4095 : Nat) : Int) := by
    have h : a &&& 4095 ≤ a := Nat.and_le_left
    simp only [Go.bits, BitVec.ofInt_natCast, BitVec.toNat_and, BitVec.toNat_ofNat, show a % 2 ^ IntKind.i64.bits = a from Nat.mod_eq_of_lt (Nat.lt_of_lt_of_le ha (by decide)), show 4095 % 2 ^ IntKind.i64.bits = 4095 from rfl]
    exact IntWalk.i64_in _ (by omega)
  rw [show (4095 : Int) = ((4095 : Nat) : Int) from rfl, e, show (4095 : Nat) = 2 ^ 12 - 1 from rfl, Nat.and_two_pow_sub_one_eq_mod]
/-- As the code reckons it. -/
theorem hash_val (a b c : Int) (ha : 0 ≤ a ∧ a ≤ 255) (hb : 0 ≤ b ∧ b ≤ 255) (hc : 0 ≤ c ∧ c ≤ 255) :
    Go.bits .and .i64 (Go.bits .xor .i64 (Go.bits .xor .i64 (a * 256) (b * 16)) c) 4095 = (hN a.toNat b.toNat c.toNat : Int) := by
  obtain ⟨x, rfl⟩ := Int.eq_ofNat_of_zero_le ha.1
  obtain ⟨y, rfl⟩ := Int.eq_ofNat_of_zero_le hb.1
  obtain ⟨z, rfl⟩ := Int.eq_ofNat_of_zero_le hc.1
  rw [show ((x : Int) * 256) = ((x * 256 : Nat) : Int) by omega, show ((y : Int) * 16) = ((y * 16 : Nat) : Int) by omega]
  have h1 : x * 256 ^^^ y * 16 < 2 ^ 62 := Nat.xor_lt_two_pow (by omega) (by omega)
  rw [xor_nat _ _ (by omega) (by omega), xor_nat _ _ h1 (by omega), and_4095 _ (Nat.xor_lt_two_pow h1 (by omega))]
  rfl
def hashF (xs : List Int) (j : Nat) : Nat := hN (nth xs j).toNat (nth xs (j + 1)).toNat (nth xs (j + 2)).toNat
theorem hashF_lt (xs : List Int) (j : Nat) : hashF xs j < 4096 := hN_lt _ _ _
theorem hashF_marks (xs : List Int) : Marks xs (hashF xs) := fun i j h => by
  unfold hashF
  rw [show nth xs i = nth xs j by simpa using h 0 (by omega), h 1 (by omega), h 2 (by omega)]
end Go.Proofs.YtkpabdjniiepkaaGreatDoor

set_option linter.unusedVariables false
set_option linter.unusedSimpArgs false
namespace Go.Proofs.YtkpabdjniiepkaaGreatDoor
open Go.RowKit
/-- A finder's cells. -/
def fcells (A : Option Addr) (n c : Nat) (last : List Int) (b : Nat) (done : Int) : List Value := .slice A n c :: (ints .i64 last ++ [.slice (some ⟨b, 0, none⟩) n n, .int .i64 done])
/-- A finder's two blocks, whatever they hold. -/
structure FRaw (w : World) (g b : Nat) (A : Option Addr) (n c : Nat) (pr last : List Int) (done : Int) : Prop where
  blk : Blk w g 87 (fcells A n c last b done)
  row : Blk w b 3 (ints .i64 pr)
  lenP : pr.length = n
  lenL : last.length = 4096
  ne : g ≠ b
theorem FRaw.cells {w : World} {g b : Nat} {A : Option Addr} {n c : Nat} {pr last : List Int} {done : Int} (h : FRaw w g b A n c pr last done) :
    w.cell? ⟨g, 0, none⟩ = some (.slice A n c) ∧ w.cell? ⟨g, 4097, none⟩ = some (.slice (some ⟨b, 0, none⟩) n n) ∧ w.cell? ⟨g, 4098, none⟩ = some (.int .i64 done) ∧
    (∀ v, v < 4096 → w.cell? ⟨g, 1 + v, none⟩ = some (.int .i64 (nth last v))) ∧ (∀ v, v < n → w.cell? ⟨b, v, none⟩ = some (.int .i64 (nth pr v))) ∧ (∀ v, w.frozen? ⟨g, v, none⟩ = false) ∧ (∀ v, w.frozen? ⟨b, v, none⟩ = false) := by
  have e : (ints .i64 last).length = 4096 := by simp [ints, h.lenL]
  refine ⟨h.blk.cell 0, ?_, ?_, fun v hv => ?_, fun v hv => h.row.cellI (by rw [h.lenP]; exact hv), h.blk.frozen, h.row.frozen⟩
  · rw [h.blk.cell]; unfold fcells; rw [List.getElem?_cons_succ, List.getElem?_append_right (by omega), e]; rfl
  · rw [h.blk.cell]; unfold fcells; rw [List.getElem?_cons_succ, List.getElem?_append_right (by omega), e]; rfl
  · rw [h.blk.cell, Nat.add_comm]; unfold fcells; rw [List.getElem?_cons_succ, List.getElem?_append_left (by omega), ints_getElem?]
    simp [nth, List.getD, show v < last.length by rw [h.lenL]; exact hv]
theorem FRaw.keeps {w w' : World} {g b : Nat} {A : Option Addr} {n c : Nat} {pr last : List Int} {done : Int} {S : List Nat} (h : FRaw w g b A n c pr last done) (hk : Keeps S w w') (hg : g ∉ S) (hb : b ∉ S) : FRaw w' g b A n c pr last done :=
  ⟨h.blk.keeps hk hg, h.row.keeps hk hb, h.lenP, h.lenL, h.ne⟩
theorem FRaw.setP {w : World} {g b : Nat} {A : Option Addr} {n c : Nat} {pr last : List Int} {done : Int} (h : FRaw w g b A n c pr last done) (j : Nat) (x : Int) : FRaw (w.setCell ⟨b, j, none⟩ (.int .i64 x)) g b A n c (pr.set j x) last done :=
  ⟨h.blk.set_other (by exact h.ne) _, by have := h.row.set j (.int .i64 x); simpa [ints, List.map_set] using this, by rw [List.length_set, h.lenP], h.lenL, h.ne⟩
theorem FRaw.setL {w : World} {g b : Nat} {A : Option Addr} {n c : Nat} {pr last : List Int} {done : Int} (h : FRaw w g b A n c pr last done) (v : Nat) (hv : v < 4096) (x : Int) : FRaw (w.setCell ⟨g, 1 + v, none⟩ (.int .i64 x)) g b A n c pr (last.set v x) done := by
  have e : (ints .i64 last).length = 4096 := by simp [ints, h.lenL]
  refine ⟨?_, h.row.set_other (by exact h.ne.symm) _, h.lenP, by rw [List.length_set, h.lenL], h.ne⟩
  have := h.blk.set (1 + v) (.int .i64 x)
  unfold fcells at this ⊢
  rw [Nat.add_comm 1 v] at this ⊢
  rw [List.set_cons_succ, List.set_append_left _ _ (by omega)] at this
  simpa [ints, List.map_set] using this
theorem FRaw.setD {w : World} {g b : Nat} {A : Option Addr} {n c : Nat} {pr last : List Int} {done : Int} (h : FRaw w g b A n c pr last done) (x : Int) : FRaw (w.setCell ⟨g, 4098, none⟩ (.int .i64 x)) g b A n c pr last x := by
  have e : (ints .i64 last).length = 4096 := by simp [ints, h.lenL]
  refine ⟨?_, h.row.set_other (by exact h.ne.symm) _, h.lenP, h.lenL, h.ne⟩
  have := h.blk.set 4098 (.int .i64 x)
  unfold fcells at this ⊢
  rw [List.set_cons_succ, List.set_append_right _ _ (by omega), e] at this
  exact this
/-- A finder over bytes: so many places are known. -/
structure FB (w : World) (g b : Nat) (A : Option Addr) (n c : Nat) (xs : List Int) (k : Nat) : Prop where
  raw : ∃ pr last : List Int, FRaw w g b A n c pr last k ∧ (∀ v, v < 4096 → nth last v = (lastF (hashF xs) v k : Int)) ∧ (∀ j, j < k → nth pr j = (lastF (hashF xs) (hashF xs j) j : Int))
  ri : RI .u8 w A n xs
  cap : CapOk A n c
  off : Off [g, b] A
  byte : ∀ j, 0 ≤ nth xs j ∧ nth xs j ≤ 255
  bound : n ≤ 16384
  known : k ≤ n
theorem FB.keeps {w w' : World} {g b : Nat} {A : Option Addr} {n c : Nat} {xs : List Int} {k : Nat} {S : List Nat} (h : FB w g b A n c xs k) (hk : Keeps S w w') (hg : g ∉ S) (hb : b ∉ S) (hS : Off S A) : FB w' g b A n c xs k := by
  obtain ⟨pr, last, p1, p2, p3⟩ := h.raw
  exact ⟨⟨pr, last, p1.keeps hk hg hb, p2, p3⟩, h.ri.keeps hk hS, h.cap, h.off, h.byte, h.bound, h.known⟩
theorem nth_mid (xs : List Int) (i m j : Nat) (hj : j < m) (h : i + m ≤ xs.length) : nth ((xs.take (i + m)).drop i) j = nth xs (i + j) := by
  simp [nth, List.getD, List.getElem?_drop, List.getElem?_take, show i + j < i + m by omega]
set_option maxRecDepth 100000 in
set_option maxHeartbeats 1000000 in
theorem hash_calls (w : World) (g b : Nat) (A : Option Addr) (n c : Nat) (xs : List Int) (k i : Nat) (h : FB w g b A n c xs k) (hi : i + 3 ≤ n) :
    Calls Tryz.prog 65 #[.pointer (some ⟨g, 0, none⟩), .int .i64 i] w fun e w' => e = .returned (.int .i64 (hashF xs i)) ∧ Dr w w' := by
  have hB := h.bound
  obtain ⟨pr, last, hraw, -, -⟩ := h.raw
  have c0 := hraw.cells.1
  have hsm := fun w => slice_mid8 w A n c i (i + 3) (i : Int) ((i : Int) + 3) rfl (by omega) (by omega) hi h.cap
  have hm := h.ri.mid h.cap (show i ≤ i + 3 by omega) hi
  have hlen : xs.length = n := h.ri.len
  obtain ⟨bb, o, hA⟩ := hm.hd (show 0 < i + 3 - i by omega)
  have k0 := hm.cell bb o hA 0 (by omega)
  have k1 := hm.cell bb o hA 1 (by omega)
  have k2 := hm.cell bb o hA 2 (by omega)
  rw [nth_mid xs i 3 0 (by omega) (by omega)] at k0
  rw [nth_mid xs i 3 1 (by omega) (by omega)] at k1
  rw [nth_mid xs i 3 2 (by omega) (by omega)] at k2
  rw [Nat.add_zero] at k0
  rw [Nat.add_zero] at k0
  rw [hA, Nat.add_sub_cancel_left] at hsm
  have hv := hash_val (nth xs i) (nth xs (i + 1)) (nth xs (i + 2)) (h.byte _) (h.byte _) (h.byte _)
  obtain ⟨x, hx⟩ : ∃ x, x = nth xs i := ⟨_, rfl⟩
  obtain ⟨y, hy⟩ : ∃ y, y = nth xs (i + 1) := ⟨_, rfl⟩
  obtain ⟨z, hz⟩ : ∃ z, z = nth xs (i + 2) := ⟨_, rfl⟩
  have bx := h.byte i
  have by' := h.byte (i + 1)
  have bz := h.byte (i + 2)
  have hF : hashF xs i = hN x.toNat y.toNat z.toNat := by rw [hx, hy, hz]; rfl
  rw [← hx] at k0 hv bx
  rw [← hy] at k1 hv by'
  rw [← hz] at k2 hv bz
  rw [hF]
  have HV := Lib.hid hv
  have wi : IntKind.i64.wrap ((i : Int) + 3) = (i : Int) + 3 := IntWalk.i64_in _ (by omega)
  have wx : IntKind.i64.wrap (x * 256) = x * 256 := IntWalk.i64_in _ (by omega)
  have wy : IntKind.i64.wrap (y * 16) = y * 16 := IntWalk.i64_in _ (by omega)
  clear h hraw hm hA hv hx hy hz hF hB
  go_enter Tryz.func65, Tryz.ntmps65
  go_upto_region 2 with (fail)
  go_quiet (fail)
  go_wp2_with fail
  rw [HV.out]
  go_ret
  exact ⟨rfl, _, rfl⟩
end Go.Proofs.YtkpabdjniiepkaaGreatDoor

set_option linter.unusedVariables false
set_option linter.unusedSimpArgs false
namespace Go.Proofs.YtkpabdjniiepkaaGreatDoor
open Go.RowKit
/-- How many places a finder's cells say are known. -/
def doneOf (w : World) (g : Nat) : Nat := match w.cell? ⟨g, 4098, none⟩ with | some v => (intOf v).toNat | none => 0
theorem FB.doneOf {w : World} {g b : Nat} {A : Option Addr} {n c : Nat} {xs : List Int} {k : Nat} (h : FB w g b A n c xs k) : doneOf w g = k := by
  obtain ⟨pr, last, p1, -, -⟩ := h.raw
  unfold Proofs.YtkpabdjniiepkaaGreatDoor.doneOf
  rw [p1.cells.2.2.1]; simp [intOf]
theorem FRaw.cast {w : World} {g b : Nat} {A : Option Addr} {n c : Nat} {pr last : List Int} {x y : Int} (h : FRaw w g b A n c pr last x) (e : x = y) : FRaw w g b A n c pr last y := e ▸ h
/-- One place more. -/
theorem know_step {w : World} {g b : Nat} {A : Option Addr} {n c : Nat} {xs pr last : List Int} {d : Nat} (h : FRaw w g b A n c pr last d) (hl : ∀ v, v < 4096 → nth last v = (lastF (hashF xs) v d : Int)) (hp : ∀ j, j < d → nth pr j = (lastF (hashF xs) (hashF xs j) j : Int)) (hd : d < n) :
    (∀ v, v < 4096 → nth (last.set (hashF xs d) ((d : Int) + 1)) v = (lastF (hashF xs) v (d + 1) : Int)) ∧ (∀ j, j < d + 1 → nth (pr.set d (nth last (hashF xs d))) j = (lastF (hashF xs) (hashF xs j) j : Int)) := by
  have hh := hashF_lt xs d
  refine ⟨fun v hv => ?_, fun j hj => ?_⟩
  · rw [lastF]
    by_cases e : hashF xs d = v
    · subst e; rw [if_pos rfl, nth_set_eq _ _ _ (by rw [h.lenL]; exact hv)]; omega
    · rw [if_neg e, nth_set_ne _ _ _ _ (fun e2 => e e2.symm), hl v hv]
  · by_cases e : j = d
    · subst e; rw [nth_set_eq _ _ _ (by rw [h.lenP]; omega), hl _ hh]
    · rw [nth_set_ne _ _ _ _ e, hp j (by omega)]
set_option maxRecDepth 100000 in
set_option maxHeartbeats 2000000 in
theorem know_calls (w : World) (g b : Nat) (A : Option Addr) (n c : Nat) (xs : List Int) (k m : Nat) (h : FB w g b A n c xs k) (hk : k ≤ m) (hto : m + 3 ≤ n) :
    Calls Tryz.prog 64 #[.pointer (some ⟨g, 0, none⟩), .int .i64 m] w fun e w' => e = .returned (.tuple #[]) ∧ FB w' g b A n c xs m ∧ Keeps [g, b] w w' := by
  have hB := h.bound
  have H := Lib.hid h
  clear h
  go_enter Tryz.func64, Tryz.ntmps64
  go_wp2_with fail
  go_loopw [4] (fun hv wr => ∃ d : Nat, k ≤ d ∧ d ≤ m ∧ Hid (FB wr g b A n c xs d) ∧ Hid (Keeps [g, b] w wr)) (fun _ wr => m - doneOf wr g)
  case atStart => exact ⟨k, by omega, by omega, H, Lib.hid (Keeps.refl _ _)⟩
  case round =>
    clear H
    obtain ⟨d, hd, hdt, HF, HK⟩ := hrel
    have hm0 := HF.out.doneOf
    have HM := Lib.hid hm0
    obtain ⟨pr, last, hraw, hl, hp⟩ := HF.out.raw
    have HR := Lib.hid hraw
    have HL := Lib.hid hl
    have HP := Lib.hid hp
    obtain ⟨c0, c1, c2, c3, c4, f1, f2⟩ := hraw.cells
    clear hm0 hraw hl hp
    have w3 : IntKind.i64.wrap ((d : Int) + 3) = (d : Int) + 3 := IntWalk.i64_in _ (by omega)
    have w1 : IntKind.i64.wrap ((d : Int) + 1) = (d : Int) + 1 := IntWalk.i64_in _ (by omega)
    by_cases hlt : d < m
    · have x1 : decide ((d : Int) < (m : Int)) = true := by simp; omega
      have x2 : decide ((d : Int) + 3 ≤ (n : Int)) = true := by simp; omega
      have d4 := c4 d (by omega)
      have HC3 := Lib.hid c3
      clear c3 c4
      go_upto_region 0 with (fail)
      go_quiet (fail)
      go_wp2_with fail
      refine (hash_calls _ g b A n c xs d d (HF.out.keeps (S := []) (by repeat (first | exact Keeps.refl _ _ | apply Keeps.drewN | apply Keeps.drew)) (by simp) (by simp) (off_nil _)) (by omega)).mono ?_
      rintro _ w4 ⟨rfl, hd4⟩
      have hk4 := ((Keeps.refl [] wr).drewN _).trans (hd4.keeps (S := []))
      have HR4 := Lib.hid (HR.out.keeps hk4 (by simp) (by simp))
      have HK4 := Lib.hid hk4
      have hst := know_step HR.out HL.out HP.out (show d < n by omega)
      have hlt4 := hashF_lt xs d
      obtain ⟨q, hq⟩ : ∃ q, q = hashF xs d := ⟨_, rfl⟩
      rw [← hq] at hst hlt4 ⊢
      have HST := Lib.hid hst
      have c3 := HC3.out q hlt4
      clear hd4 hk4 hst hq c0 c1 c2 d4 c3 f1 f2
      obtain ⟨c0, c1, c2, c3, c4, f1, f2⟩ := HR4.out.cells
      have d4 := c4 d (by omega)
      have c3 := c3 q hlt4
      clear c4
      go_upto_region 3 with (fail)
      go_region
      obtain ⟨w5, hw5⟩ : ∃ w5, w5 = (w4.setCell ⟨b, d, none⟩ (.int .i64 (nth last q))).drew := ⟨_, rfl⟩
      rw [← hw5]
      have hr5 : FRaw w5 g b A n c (pr.set d (nth last q)) last d := by rw [hw5]; exact (HR4.out.setP d _).keeps (S := []) ((Keeps.refl [] _).drew) (by simp) (by simp)
      have hk5 : Keeps [g, b] wr w5 := by rw [hw5]; exact ((HK4.out.mono (S' := [g, b]) (fun x hx => by cases hx)).setCell (p := ⟨b, d, none⟩) (.inl (by simp)) _).drew
      have HR5 := Lib.hid hr5
      have HK5 := Lib.hid hk5
      clear hr5 hk5 hw5 HR4 HK4 c0 c1 c2 c3 d4 f1 f2
      obtain ⟨c0, c1, c2, c3, c4, f1, f2⟩ := HR5.out.cells
      have c3 := c3 q hlt4
      clear c4
      go_upto_region 4 with (fail)
      go_region
      obtain ⟨w6, hw6⟩ : ∃ w6, w6 = (w5.setCell ⟨g, 1 + q, none⟩ (.int .i64 ((d : Int) + 1))).drew := ⟨_, rfl⟩
      rw [← hw6]
      have hr6 : FRaw w6 g b A n c (pr.set d (nth last q)) (last.set q ((d : Int) + 1)) d := by rw [hw6]; exact (HR5.out.setL q hlt4 _).keeps (S := []) ((Keeps.refl [] _).drew) (by simp) (by simp)
      have hk6 : Keeps [g, b] wr w6 := by rw [hw6]; exact (HK5.out.setCell (p := ⟨g, 1 + q, none⟩) (.inl (by simp)) _).drew
      have HR6 := Lib.hid hr6
      have HK6 := Lib.hid hk6
      clear hr6 hk6 hw6 HR5 HK5 c0 c1 c2 c3 f1 f2
      obtain ⟨c0, c1, c2, c3, c4, f1, f2⟩ := HR6.out.cells
      clear c3 c4
      go_wp2_with fail
      have hfb : FB (w6.setCell ⟨g, 4098, none⟩ (.int .i64 ((d : Int) + 1))) g b A n c xs (d + 1) :=
        ⟨⟨_, _, (HR6.out.setD ((d : Int) + 1)).cast (by omega), HST.out.1, HST.out.2⟩, HF.out.ri.keeps (HK6.out.setCell (p := ⟨g, 4098, none⟩) (.inl (by simp)) _) HF.out.off, HF.out.cap, HF.out.off, HF.out.byte, HF.out.bound, by have := HF.out.known; omega⟩
      have HFB := Lib.hid hfb
      have hdn := hfb.doneOf
      clear hfb
      go_roundw
      case rel => exact ⟨d + 1, by omega, by omega, HFB, Lib.hid (HK.out.trans (HK6.out.setCell (p := ⟨g, 4098, none⟩) (.inl (by simp)) _))⟩
      case measure => rw [hdn, HM.out]; omega
    · obtain rfl : d = m := by omega
      have x1 : decide ((d : Int) < (d : Int)) = false := by simp
      go_upto_region 0 with (fail)
      go_quiet (fail)
      go_wp2_with fail
      go_end0
      exact ⟨rfl, HF.out.keeps (S := []) (by repeat (first | exact Keeps.refl _ _ | apply Keeps.drewN | apply Keeps.drew)) (by simp) (by simp) (off_nil _), HK.out.trans (by repeat (first | exact Keeps.refl _ _ | apply Keeps.drewN | apply Keeps.drew))⟩
end Go.Proofs.YtkpabdjniiepkaaGreatDoor
