import Derived.Test.YtcblibefmclloaaDoorReadsC
import Derived.Test.YtcblibefmclloaaDoorReadsD
import Derived.Test.YtcblibefmclloaaDoorReadsA
/- Rows of bytes, in memory. -/
set_option linter.unusedVariables false
set_option linter.unusedSimpArgs false
namespace Go.Proofs.YtcblibefmclloaaDoor
open Go.RowKit
def rth (rs : List (List Int)) (j : Nat) : List Int := rs.getD j []
theorem rth_lt {rs : List (List Int)} {j : Nat} (h : j < rs.length) : rth rs j = rs[j] := by simp [rth, List.getD, h]
/-- A block of slices, each of bytes in memory behind it. -/
def RB (w : World) (g n : Nat) (rs : List (List Int)) : Prop :=
  rs.length = n ∧ ∃ vs : List Value, vs.length = n ∧ Blk w g 37 vs ∧ ∀ j v, vs[j]? = some v → w.ownsRow (g + 1) 5 1 v (rth rs j).length (ints .u8 (rth rs j))
theorem RB.len {w : World} {g n : Nat} {rs : List (List Int)} (h : RB w g n rs) : rs.length = n := h.1
theorem RB.lt {w : World} {g n : Nat} {rs : List (List Int)} (h : RB w g n rs) : g < w.heap.size := by
  obtain ⟨_, vs, _, h2, _⟩ := h; exact h2.lt
theorem RB.keeps {w w' : World} {g n : Nat} {rs : List (List Int)} {S : List Nat} (h : RB w g n rs) (hk : Keeps S w w') (hS : ∀ x ∈ S, x < g ∨ w.heap.size ≤ x) : RB w' g n rs := by
  obtain ⟨h0, vs, h1, h2, h3⟩ := h
  refine ⟨h0, vs, h1, h2.keeps hk (fun hm => by have := h2.lt; rcases hS g hm with h | h <;> omega), fun j v hv => own_keeps (h3 j v hv) hk fun x hx hm => ?_⟩
  have a := own_lo (h3 j v hv) x hx
  have b := own_hi (h3 j v hv) x hx
  rcases hS x hm with h | h <;> omega
theorem RB.below {w w' : World} {g n : Nat} {rs : List (List Int)} (h : RB w g n rs) (hk : Below w.heap.size w w') : RB w' g n rs := h.keeps (Keeps.of_below (S := []) hk) (by simp)
theorem RB.set {w : World} {g n : Nat} {rs : List (List Int)} (h : RB w g n rs) (i : Nat) (v : Value) (row : List Int) (ho : w.ownsRow (g + 1) 5 1 v row.length (ints .u8 row)) :
    RB (w.setCell ⟨g, i, none⟩ v) g n (rs.set i row) := by
  obtain ⟨h0, vs, h1, h2, h3⟩ := h
  have hk : Keeps [g] w (w.setCell ⟨g, i, none⟩ v) := (Keeps.refl [g] w).setCell (Or.inl (by simp)) v
  have hne : ∀ {u : Value} {m : Nat} {xs : List Value}, w.ownsRow (g + 1) 5 1 u m xs → ∀ x, u.ownBlock = some x → x ∉ [g] := fun ho x hx hm => by
    have := own_lo ho x hx; rw [List.mem_singleton.1 hm] at this; omega
  refine ⟨by simp [h0], vs.set i v, by simp [h1], h2.set i v, fun j u hu => ?_⟩
  rw [List.getElem?_set] at hu
  by_cases e : i = j
  · subst e
    by_cases hj : i < vs.length
    · rw [if_pos rfl, if_pos hj] at hu
      obtain rfl := Option.some.inj hu
      have : rth (rs.set i row) i = row := by simp [rth, List.getD, show i < rs.length by omega]
      rw [this]
      exact own_keeps ho hk (hne ho)
    · rw [if_pos rfl, if_neg hj] at hu; simp at hu
  · rw [if_neg e] at hu
    have : rth (rs.set i row) j = rth rs j := by simp [rth, List.getD, e]
    rw [this]
    exact own_keeps (h3 j u hu) hk (hne (h3 j u hu))
theorem RB.new (w : World) (n : Nat) : RB (w.alloc (.cells (List.replicate n (Value.slice none 0 0)).toArray 37 (0, 0))) w.heap.size n (List.replicate n []) := by
  refine ⟨by simp, _, by simp, blk_new w _ _, fun j v hv => ?_⟩
  have hj : j < n := by
    have := (List.getElem?_eq_some_iff.1 hv).1; simpa using this
  have e : v = .slice none 0 0 := by
    rw [List.getElem?_eq_getElem (by simpa using hj)] at hv; simpa using hv.symm
  have e2 : rth (List.replicate n []) j = [] := by simp [rth, List.getD, hj]
  rw [e, e2]
  exact World.ownsRow_nil _ _ _ _
theorem RB.at {w : World} {g n : Nat} {rs : List (List Int)} (h : RB w g n rs) {j : Nat} (hj : j < n) :
    ∃ A c, w.cell? ⟨g, j, none⟩ = some (.slice A (rth rs j).length c) ∧ RI .u8 w A (rth rs j).length (rth rs j) ∧ (∀ a, A = some a → g + 1 ≤ a.block ∧ a.block < w.heap.size) := by
  obtain ⟨h0, vs, h1, h2, h3⟩ := h
  obtain ⟨A, c, e, hr, _, ha⟩ := own_ri (h3 j _ (List.getElem?_eq_getElem (by omega)))
  refine ⟨A, c, ?_, hr, fun a h => ⟨(ha a h).1, (ha a h).2.1⟩⟩
  rw [h2.cell, List.getElem?_eq_getElem (by omega), e]
theorem RB.free {w : World} {g n : Nat} {rs : List (List Int)} (h : RB w g n rs) (j : Nat) : w.frozen? ⟨g, j, none⟩ = false := by
  obtain ⟨_, vs, _, h2, _⟩ := h; exact h2.frozen j
theorem info_row : (Tryd.prog.info? 37).map (fun i => (i.zero, i.size, i.bytes)) = some (some (.slice none 0 0), 1, 24) := by kernel_rfl
set_option maxRecDepth 100000 in
/-- 'make([][]byte, n)'. -/
theorem make_rows (w : World) (n : Nat) (hn : n ≤ 1000000) :
    (Instr.makeSlice 89 (.int .i64 n) (.int .i64 n)).run Tryd.prog w = .ok (.slice (some ⟨w.heap.size, 0, none⟩) n n) (w.alloc (.cells (List.replicate n (Value.slice none 0 0)).toArray 37)) := by
  obtain ⟨i, hi, hz, hs, hb⟩ := info_parts info_row
  have e1 : (i.bytes : Int) * (n : Int) ≤ 281474976710656 := by rw [hb]; omega
  rw [run_make w 89 37 i _ Tryd.underlying89 hi hz .i64 .i64 n n (by omega) (Int.le_refl _) e1 (by omega)]
  simp only [Int.toNat_natCast]
  congr 4
  rw [hs, Nat.mul_one]
  apply Array.toList_inj.1
  show (madeCells #[.slice none 0 0] n).toList = _
  rw [toList_madeCells_one]
end Go.Proofs.YtcblibefmclloaaDoor

set_option linter.unusedVariables false
set_option linter.unusedSimpArgs false
/-! Plain mathematics: the reference's reading of a symbol, and that the decoder's is the same. -/
namespace Go.Proofs.YtcblibefmclloaaDoor
/-- How many bits of a row are those from a place on. -/
def agr (row bits : List Int) (p : Nat) : Nat → Nat → Nat
  | 0, n => n
  | f + 1, n => if n < row.length ∧ p + n < bits.length ∧ nth row n = nth bits (p + n) then agr row bits p f (n + 1) else n
def agrN (row bits : List Int) (p : Nat) : Nat := agr row bits p row.length 0
/-- The reference's reading: symbol, bits, what is wrong. -/
def nextG (rows : List (List Int)) (bits : List Int) (p : Nat) : Nat → Nat → Bool → Int × Nat × Int
  | 0, _, b => (0, 0, if b then 10 else 32)
  | f + 1, i, b => if (rth rows i).length = 0 then nextG rows bits p f (i + 1) b else
      if agrN (rth rows i) bits p = (rth rows i).length then (i, (rth rows i).length, 0)
      else nextG rows bits p f (i + 1) (b || decide (p + agrN (rth rows i) bits p = bits.length))
def nextR (rows : List (List Int)) (bits : List Int) (p : Nat) : Int × Nat × Int := nextG rows bits p rows.length 0 false
theorem agr_spec (row bits : List Int) (p : Nat) : ∀ f n, n + f = row.length → n ≤ agr row bits p f n ∧ agr row bits p f n ≤ row.length ∧ (∀ t, n ≤ t → t < agr row bits p f n → p + t < bits.length ∧ nth row t = nth bits (p + t)) ∧
    (agr row bits p f n = row.length ∨ bits.length ≤ p + agr row bits p f n ∨ nth row (agr row bits p f n) ≠ nth bits (p + agr row bits p f n))
  | 0, n, h => by
    unfold agr
    exact ⟨Nat.le_refl _, by omega, fun t h1 h2 => by omega, .inl (by omega)⟩
  | f + 1, n, h => by
    unfold agr
    split
    · next hc =>
      obtain ⟨h1, h2, h3, h4⟩ := agr_spec row bits p f (n + 1) (by omega)
      refine ⟨by omega, h2, fun t ht1 ht2 => ?_, h4⟩
      by_cases ht : t = n
      · subst ht; exact ⟨hc.2.1, hc.2.2⟩
      · exact h3 t (by omega) ht2
    · next hc =>
      refine ⟨Nat.le_refl _, by omega, fun t h1 h2 => by omega, ?_⟩
      by_cases h1 : bits.length ≤ p + n
      · exact .inr (.inl h1)
      · refine .inr (.inr fun h2 => hc ⟨by omega, by omega, h2⟩)
theorem agrN_spec (row bits : List Int) (p : Nat) : agrN row bits p ≤ row.length ∧ (∀ t, t < agrN row bits p → p + t < bits.length ∧ nth row t = nth bits (p + t)) ∧
    (agrN row bits p = row.length ∨ bits.length ≤ p + agrN row bits p ∨ nth row (agrN row bits p) ≠ nth bits (p + agrN row bits p)) := by
  obtain ⟨_, h2, h3, h4⟩ := agr_spec row bits p row.length 0 (by omega)
  exact ⟨h2, fun t ht => h3 t (by omega) ht, h4⟩
theorem agrN_full {row bits : List Int} {p : Nat} (h : ∀ t, t < row.length → p + t < bits.length ∧ nth row t = nth bits (p + t)) : agrN row bits p = row.length := by
  obtain ⟨h1, _, h3⟩ := agrN_spec row bits p
  rcases Nat.lt_or_ge (agrN row bits p) row.length with hlt | hge
  · obtain ⟨a, b⟩ := h _ hlt
    rcases h3 with h3 | h3 | h3
    · omega
    · omega
    · exact absurd b h3
  · omega
theorem nextG_hit (rows : List (List Int)) (bits : List Int) (p j : Nat) (hj : 0 < (rth rows j).length) (ha : agrN (rth rows j) bits p = (rth rows j).length) :
    ∀ f i b, i ≤ j → j < i + f → (∀ t, t < j → 0 < (rth rows t).length → agrN (rth rows t) bits p ≠ (rth rows t).length) → nextG rows bits p f i b = ((j : Int), (rth rows j).length, 0)
  | 0, i, b, h1, h2, _ => by omega
  | f + 1, i, b, h1, h2, h3 => by
    rw [nextG]
    by_cases hi : i = j
    · subst hi
      rw [if_neg (by omega), if_pos ha]
    · by_cases hz : (rth rows i).length = 0
      · rw [if_pos hz]; exact nextG_hit rows bits p j hj ha f (i + 1) b (by omega) (by omega) h3
      · rw [if_neg hz, if_neg (h3 i (by omega) (by omega))]
        exact nextG_hit rows bits p j hj ha f (i + 1) _ (by omega) (by omega) h3
theorem nextG_begins (rows : List (List Int)) (bits : List Int) (p : Nat) :
    ∀ f i b, (∀ t, i ≤ t → t < i + f → 0 < (rth rows t).length → agrN (rth rows t) bits p ≠ (rth rows t).length) → (b = true ∨ ∃ j, i ≤ j ∧ j < i + f ∧ 0 < (rth rows j).length ∧ p + agrN (rth rows j) bits p = bits.length) → nextG rows bits p f i b = (0, 0, 10)
  | 0, i, b, h1, h2 => by
    rcases h2 with rfl | ⟨j, a, b, _⟩
    · rfl
    · omega
  | f + 1, i, b, h1, h2 => by
    rw [nextG]
    by_cases hz : (rth rows i).length = 0
    · rw [if_pos hz]
      refine nextG_begins rows bits p f (i + 1) b (fun t a b => h1 t (by omega) (by omega)) ?_
      rcases h2 with rfl | ⟨j, a, b, c, d⟩
      · exact .inl rfl
      · refine .inr ⟨j, ?_, by omega, c, d⟩
        rcases Nat.lt_or_ge i j with h | h
        · omega
        · obtain rfl : i = j := by omega
          omega
    · rw [if_neg hz, if_neg (h1 i (by omega) (by omega) (by omega))]
      refine nextG_begins rows bits p f (i + 1) _ (fun t a b => h1 t (by omega) (by omega)) ?_
      rcases h2 with rfl | ⟨j, a, b, c, d⟩
      · exact .inl rfl
      · rcases Nat.lt_or_ge i j with h | h
        · exact .inr ⟨j, by omega, by omega, c, d⟩
        · obtain rfl : i = j := by omega
          exact .inl (by simp [d])
theorem nextG_none (rows : List (List Int)) (bits : List Int) (p : Nat) :
    ∀ f i, (∀ t, i ≤ t → t < i + f → 0 < (rth rows t).length → agrN (rth rows t) bits p ≠ (rth rows t).length ∧ p + agrN (rth rows t) bits p ≠ bits.length) → nextG rows bits p f i false = (0, 0, 32)
  | 0, i, h1 => rfl
  | f + 1, i, h1 => by
    rw [nextG]
    by_cases hz : (rth rows i).length = 0
    · rw [if_pos hz]
      exact nextG_none rows bits p f (i + 1) (fun t a b => h1 t (by omega) (by omega))
    · obtain ⟨a, b⟩ := h1 i (by omega) (by omega) (by omega)
      rw [if_neg hz, if_neg a, decide_eq_false b]
      exact nextG_none rows bits p f (i + 1) (fun t a b => h1 t (by omega) (by omega))
/-! Places of codes. -/
theorem posF_le (l : List Int) (n : Nat) (hn : n < 16) (h1 : 1 ≤ n) (i : Nat) : ∀ d, i + d ≤ l.length → posF l n i ≤ posF l n (i + d)
  | 0, _ => Int.le_refl _
  | d + 1, h => by
    have := posF_le l n hn h1 i d (by omega)
    by_cases hx : nth l (i + d) = n
    · have := posF_step l n (i + d) hn h1 (by omega) hx
      rw [← Nat.add_assoc]; omega
    · have := posF_skip l n (i + d) hn (by omega) hx
      rw [← Nat.add_assoc]; omega
theorem codeI_bd (l : List Int) (n j : Nat) (hn : n < 16) (h1 : 1 ≤ n) (hj : j < l.length) (h : nth l j = n) : lowF (lenCnt l) n ≤ codeI l j ∧ codeI l j < lowF (lenCnt l) n + nth (lenCnt l) n := by
  rw [posF_code l n j h]
  have a := posF_step l n j hn h1 hj h
  have b := posF_le l n hn h1 (j + 1) (l.length - (j + 1)) (by omega)
  rw [show j + 1 + (l.length - (j + 1)) = l.length by omega] at b
  have c : posF l n l.length = lowF (lenCnt l) n + nth (lenCnt l) n := by
    unfold posF; rw [List.take_length]
  have d := cntN_nn l n j hn
  unfold cntN at d
  refine ⟨?_, by omega⟩
  unfold posF; omega
theorem codeI_ne (l : List Int) (n i j : Nat) (hn : n < 16) (h1 : 1 ≤ n) (hij : i < j) (hj : j < l.length) (hi : nth l i = n) (hj' : nth l j = n) : codeI l i < codeI l j := by
  rw [posF_code l n i hi, posF_code l n j hj']
  have a := posF_step l n i hn h1 (by omega) hi
  have b := posF_le l n hn h1 (i + 1) (j - (i + 1)) (by omega)
  rw [show i + 1 + (j - (i + 1)) = j by omega] at b
  omega
/-! How much of all codes is taken. -/
def partN (n : Nat) (x : Int) : Nat := if 0 < x ∧ x ≤ n then 2 ^ (15 - x).toNat else 0
def takenN (l : List Int) (n : Nat) : Nat := (l.map (partN n)).sum
theorem lenCnt_cons (x : Int) (l : List Int) (n : Nat) (hn : n < 16) : nth (lenCnt (x :: l)) n = nth (lenCnt l) n + if 0 < x ∧ x = (n : Int) then 1 else 0 := by
  unfold lenCnt
  rw [cntF_nth _ _ _ hn, cntF_nth _ _ _ hn]
  by_cases h0 : 0 < x
  · rw [List.filter_cons_of_pos (by simpa using h0), List.count_cons]
    by_cases hx : x = n
    · rw [if_pos (c := 0 < x ∧ x = n) ⟨h0, hx⟩, show (x == (n : Int)) = true by simpa using hx]; simp
    · rw [if_neg (c := 0 < x ∧ x = n) (fun h => hx h.2), show (x == (n : Int)) = false by simpa using hx]; simp
  · rw [List.filter_cons_of_neg (by simpa using h0), if_neg (c := 0 < x ∧ x = n) (fun h => h0 h.1)]; simp
theorem lenCnt_zero (l : List Int) : nth (lenCnt l) 0 = 0 := by
  induction l with
  | nil => unfold lenCnt; rw [cntF_nth _ _ _ (by omega)]; simp
  | cons x l ih =>
    rw [lenCnt_cons x l 0 (by omega), ih, if_neg (by omega)]; rfl
theorem takenN_zero (l : List Int) : takenN l 0 = 0 := by
  induction l with
  | nil => rfl
  | cons x l ih =>
    unfold takenN at *
    rw [List.map_cons, List.sum_cons, ih]; unfold partN; rw [if_neg (by omega)]
theorem takenN_succ (l : List Int) (n : Nat) (hn : n < 15) : (takenN l (n + 1) : Int) = takenN l n + nth (lenCnt l) (n + 1) * 2 ^ (15 - (n + 1)) := by
  induction l with
  | nil => unfold lenCnt; rw [cntF_nth _ _ _ (by omega)]; simp [takenN]
  | cons x l ih =>
    rw [lenCnt_cons x l (n + 1) (by omega)]
    have e : ∀ m, takenN (x :: l) m = partN m x + takenN l m := fun m => by unfold takenN; rw [List.map_cons, List.sum_cons]
    rw [e, e]
    push_cast
    rw [ih, Int.add_mul]
    have : (partN (n + 1) x : Int) = partN n x + (if 0 < x ∧ x = (n : Int) + 1 then 1 else 0) * 2 ^ (15 - (n + 1)) := by
      unfold partN
      by_cases hx : x = (n : Int) + 1
      · rw [if_pos (by omega), if_neg (by omega), if_pos (by omega), hx, show ((15 : Int) - ((n : Int) + 1)).toNat = 15 - (n + 1) by omega]; simp
      · rw [if_neg (c := 0 < x ∧ x = (n : Int) + 1) (fun h => hx h.2), Int.zero_mul, Int.add_zero]
        by_cases h2 : 0 < x ∧ x ≤ n
        · rw [if_pos h2, if_pos (by omega)]
        · rw [if_neg h2, if_neg (by push_cast; omega)]
    rw [this, show 15 - (n + 1) = 14 - n by omega]
    omega
theorem taken_low (l : List Int) : ∀ n, n ≤ 15 → (takenN l n : Int) = (lowF (lenCnt l) n + nth (lenCnt l) n) * 2 ^ (15 - n)
  | 0, _ => by rw [takenN_zero, lenCnt_zero]; simp [lowF]
  | n + 1, h => by
    have key : ∀ a b c K : Int, (a + b) * (K * 2) + c * K = (2 * (a + b) + c) * K := fun a b c K => by
      rw [Int.add_mul (2 * (a + b)), Int.mul_comm K 2, ← Int.mul_assoc, Int.mul_comm (a + b) 2]
    rw [takenN_succ l n (by omega), taken_low l n (by omega), lowF, show 15 - n = (15 - (n + 1)) + 1 by omega, Int.pow_succ]
    exact key _ _ _ _
theorem taken_mono (l : List Int) (n : Nat) : takenN l n ≤ takenN l (n + 1) := by
  induction l with
  | nil => exact Nat.le_refl _
  | cons x l ih =>
    unfold takenN at *
    rw [List.map_cons, List.sum_cons, List.map_cons, List.sum_cons]
    have : partN n x ≤ partN (n + 1) x := by
      unfold partN
      by_cases h : 0 < x ∧ x ≤ n
      · rw [if_pos h, if_pos (by push_cast; omega)]; exact Nat.le_refl _
      · rw [if_neg h]; exact Nat.zero_le _
    omega
theorem taken_mono' (l : List Int) (n : Nat) : ∀ d, takenN l n ≤ takenN l (n + d)
  | 0 => Nat.le_refl _
  | d + 1 => Nat.le_trans (taken_mono' l n d) (taken_mono l (n + d))
theorem taken_all (l : List Int) (h : l.all okLen = true) : takenN l 15 = measF l := by
  induction l with
  | nil => rfl
  | cons x l ih =>
    rw [List.all_cons, Bool.and_eq_true] at h
    have := ih h.2
    unfold takenN measF at *
    rw [List.map_cons, List.sum_cons, List.map_cons, List.sum_cons, this]
    congr 1
    have hx := h.1
    unfold okLen at hx
    simp only [Bool.and_eq_true, decide_eq_true_eq] at hx
    unfold partN part
    by_cases h0 : 0 < x
    · rw [if_pos ⟨h0, by push_cast; omega⟩, if_pos h0]
    · rw [if_neg (fun h => h0 h.1), if_neg h0]
theorem taken_top (l : List Int) : ∀ d, longN l 16 + d ≤ 15 → takenN l (longN l 16 + d) = takenN l (longN l 16)
  | 0, _ => rfl
  | d + 1, h => by
    have ih := taken_top l d (by omega)
    have a := takenN_succ l (longN l 16 + d) (by omega)
    have b := longN_top l 16 (longN l 16 + d + 1) (by omega) (by omega)
    have c := lenCnt_bd l (longN l 16 + d + 1) (by omega)
    have e : nth (lenCnt l) (longN l 16 + d + 1) = 0 := by omega
    rw [e, Int.zero_mul, Int.add_zero, ih] at a
    rw [← Nat.add_assoc]; omega
/-- No more codes than may be. -/
theorem kraft_le {l : List Int} (hc : checkF l = 0) (n : Nat) (hn : n ≤ 15) : lowF (lenCnt l) n + nth (lenCnt l) n ≤ 2 ^ n := by
  have hm : measF l ≤ 32768 := by
    unfold checkF at hc
    repeat' split at hc
    all_goals first | omega | (exfalso; revert hc; decide) | skip
  have h1 := taken_low l n hn
  have h2 := taken_mono' l n (15 - n)
  rw [show n + (15 - n) = 15 by omega, taken_all l (check_ok hc).2] at h2
  have h3 : (takenN l n : Int) ≤ 2 ^ n * 2 ^ (15 - n) := by
    rw [← Int.pow_add, show n + (15 - n) = 15 by omega]; omega
  rw [h1] at h3
  exact Int.le_of_mul_le_mul_right h3 (pow_cast _)
end Go.Proofs.YtcblibefmclloaaDoor

set_option linter.unusedVariables false
set_option linter.unusedSimpArgs false
/-! Plain mathematics: a decoder reads what the document says. -/
namespace Go.Proofs.YtcblibefmclloaaDoor
/-- The number of the next bits, the first bit highest. -/
def xv (bs : List Int) (p : Nat) : Nat → Int
  | 0 => 0
  | n + 1 => 2 * xv bs p n + bitAt bs (p + n)
theorem xv_bd (bs : List Int) (p : Nat) : ∀ n, 0 ≤ xv bs p n ∧ xv bs p n < 2 ^ n
  | 0 => by simp [xv]
  | n + 1 => by
    have := xv_bd bs p n
    have := bitAt_le bs (p + n)
    rw [xv, Int.pow_succ]; omega
theorem div_half (c : Int) (m k : Nat) (h : k < m) : c / 2 ^ (m - k) = c / 2 ^ (m - (k + 1)) / 2 := by
  rw [show m - k = (m - (k + 1)) + 1 by omega, Int.pow_succ, Int.mul_comm, Int.ediv_ediv_of_nonneg (by have := pow_cast (m - (k + 1)); omega), Int.mul_comm]
theorem pre_iff (c : Int) (m : Nat) (h0 : 0 ≤ c) (hc : c < 2 ^ m) (bs : List Int) (p : Nat) : ∀ k, k ≤ m → ((∀ t, t < k → nth (msbF c m) t = bitAt bs (p + t)) ↔ c / 2 ^ (m - k) = xv bs p k)
  | 0, _ => by
    rw [Nat.sub_zero, Int.ediv_eq_zero_of_lt h0 hc]
    exact ⟨fun _ => rfl, fun _ t ht => by omega⟩
  | k + 1, h => by
    have ih := pre_iff c m h0 hc bs p k (by omega)
    have e := div_half c m k (by omega)
    have en := msbF_nth c m k (by omega)
    rw [show m - 1 - k = m - (k + 1) by omega] at en
    have hb := bitAt_le bs (p + k)
    rw [xv]
    constructor
    · intro hall
      have h1 := ih.1 (fun t ht => hall t (by omega))
      have h2 := hall k (by omega)
      rw [en] at h2
      rw [e] at h1
      omega
    · intro hd t ht
      by_cases hk : t = k
      · subst hk; rw [en]; omega
      · exact ih.2 (by rw [e]; omega) t (by omega)
theorem rows_rth (l : List Int) (j m : Nat) (hj : j < l.length) (h1 : 1 ≤ m) (h : nth l j = m) : rth (rowsF l) j = msbF (codeI l j) m := by
  rw [rth_lt (by rw [rowsF_len]; exact hj)]
  simp only [rowsF, List.getElem_map, List.getElem_range]
  rw [if_pos (by omega), h]; rfl
theorem rows_none (l : List Int) (j : Nat) (hj : j < l.length) (h : ¬ 0 < nth l j) : rth (rowsF l) j = [] := by
  rw [rth_lt (by rw [rowsF_len]; exact hj)]
  simp only [rowsF, List.getElem_map, List.getElem_range]
  rw [if_neg h]
theorem row_len {l : List Int} (hok : l.all okLen = true) (j : Nat) (hj : j < l.length) (h : 0 < (rth (rowsF l) j).length) : ∃ m : Nat, 1 ≤ m ∧ m ≤ 15 ∧ nth l j = m ∧ rth (rowsF l) j = msbF (codeI l j) m := by
  by_cases h0 : 0 < nth l j
  · have hx := List.all_eq_true.1 hok (nth l j) (by rw [nth_lt hj]; exact List.getElem_mem _)
    unfold okLen at hx
    simp only [Bool.and_eq_true, decide_eq_true_eq] at hx
    obtain ⟨m, hm⟩ := Int.eq_ofNat_of_zero_le hx.1
    exact ⟨m, by omega, by omega, hm, rows_rth l j m hj (by omega) hm⟩
  · rw [rows_none l j hj h0] at h; simp at h
/-- A row stands there just if the number of so many bits is its code. -/
theorem full_iff {l : List Int} (hc : checkF l = 0) (bs : List Int) (p T : Nat) (j m : Nat) (hj : j < l.length) (h1 : 1 ≤ m) (h15 : m ≤ 15) (h : nth l j = m) :
    agrN (rth (rowsF l) j) (bitsP bs T) p = (rth (rowsF l) j).length ↔ p + m ≤ T ∧ xv bs p m = codeI l j := by
  have hb := codeI_bd l m j (by omega) h1 hj h
  have hk := kraft_le hc m h15
  have hl0 := (lowF_small l (check_ok hc).1 m (by omega)).1
  rw [rows_rth l j m hj h1 h]
  have hp := pre_iff (codeI l j) m (by omega) (by omega) bs p m (Nat.le_refl _)
  rw [Nat.sub_self, Int.pow_zero, Int.ediv_one] at hp
  rw [msbF_len]
  constructor
  · intro ha
    obtain ⟨_, h2, _⟩ := agrN_spec (msbF (codeI l j) m) (bitsP bs T) p
    rw [ha] at h2
    have hT : p + m ≤ T := by
      have := (h2 (m - 1) (by omega)).1
      rw [bitsP_len] at this; omega
    refine ⟨hT, (hp.1 fun t ht => ?_).symm⟩
    rw [(h2 t ht).2, bitsP_nth _ _ _ (by omega)]
  · intro ⟨hT, hx⟩
    have := hp.2 hx.symm
    have := agrN_full (row := msbF (codeI l j) m) (bits := bitsP bs T) (p := p) (fun t ht => by
      rw [msbF_len] at ht
      rw [bitsP_len, bitsP_nth _ _ _ (by omega)]
      exact ⟨by omega, this t ht⟩)
    rw [this, msbF_len]
/-! A code that may be is complete, or has one symbol. -/
theorem used_none (l : List Int) (h : usedF l = 0) : measF l = 0 := by
  induction l with
  | nil => rfl
  | cons x l ih =>
    unfold usedF at h
    by_cases hx : 0 < x
    · rw [List.filter_cons_of_pos (by simpa using hx)] at h; simp at h
    · rw [List.filter_cons_of_neg (by simpa using hx)] at h
      have := ih h
      unfold measF at *
      rw [List.map_cons, List.sum_cons, this, part_zero x hx]
theorem used_one (l : List Int) (hok : l.all okLen = true) (h : usedF l = 1) (hm : measF l = 16384) : 1 ≤ nth (lenCnt l) 1 := by
  induction l with
  | nil => simp [usedF] at h
  | cons x l ih =>
    rw [List.all_cons, Bool.and_eq_true] at hok
    rw [lenCnt_cons x l 1 (by omega)]
    have hn := (lenCnt_bd l 1 (by omega)).1
    have hms : measF (x :: l) = part x + measF l := by unfold measF; rw [List.map_cons, List.sum_cons]
    rw [hms] at hm
    unfold usedF at h
    by_cases hx : 0 < x
    · rw [List.filter_cons_of_pos (by simpa using hx), List.length_cons] at h
      have := used_none l (by unfold usedF; omega)
      have hx1 : x = 1 := by
        have h15 := hok.1
        unfold okLen at h15
        simp only [Bool.and_eq_true, decide_eq_true_eq] at h15
        have hp : part x = 2 ^ 14 := by rw [this] at hm; omega
        unfold part at hp
        rw [if_pos hx] at hp
        have := (Nat.pow_right_inj (by decide)).1 hp
        omega
      rw [if_pos ⟨hx, by simpa using hx1⟩]; omega
    · rw [List.filter_cons_of_neg (by simpa using hx)] at h
      rw [part_zero x hx, Nat.zero_add] at hm
      have := ih hok.2 h hm
      split <;> omega
theorem longN_15 (l : List Int) : longN l 16 ≤ 15 := by have := longN_le l 16; omega
theorem code_full {l : List Int} (hc : checkF l = 0) : lowF (lenCnt l) (longN l 16) + nth (lenCnt l) (longN l 16) = 2 ^ longN l 16 ∨ (1 ≤ nth (lenCnt l) 1 ∧ longN l 16 ≤ 1) := by
  have hL := longN_15 l
  have hok := (check_ok hc).2
  have ht := taken_top l (15 - longN l 16) (by omega)
  rw [show longN l 16 + (15 - longN l 16) = 15 by omega, taken_all l hok] at ht
  have hlo := taken_low l (longN l 16) hL
  have hm : measF l = 32768 ∨ (usedF l = 1 ∧ measF l = 16384) := by
    unfold checkF at hc
    repeat' split at hc
    all_goals first | (left; assumption) | (right; assumption) | (exfalso; revert hc; decide)
  rcases hm with hm | ⟨hu, hm⟩
  · left
    rw [← ht, hm] at hlo
    have e : ((32768 : Nat) : Int) = 2 ^ longN l 16 * 2 ^ (15 - longN l 16) := by rw [← Int.pow_add, show longN l 16 + (15 - longN l 16) = 15 by omega]; rfl
    rw [e] at hlo
    exact (Int.eq_of_mul_eq_mul_right (Int.ne_of_gt (pow_cast _)) hlo).symm
  · right
    have h1 := used_one l hok hu hm
    refine ⟨h1, ?_⟩
    rcases Nat.lt_or_ge 1 (longN l 16) with h2 | h2
    · exfalso
      have a := taken_low l 1 (by omega)
      have b := taken_mono' l 1 (longN l 16 - 1 - 1)
      have c := takenN_succ l (longN l 16 - 1) (by omega)
      rw [show longN l 16 - 1 + 1 = longN l 16 by omega] at c
      rw [show 1 + (longN l 16 - 1 - 1) = longN l 16 - 1 by omega] at b
      have d : 0 < nth (lenCnt l) (longN l 16) := (longN_has l 16).resolve_left (by omega)
      have e : 0 < nth (lenCnt l) (longN l 16) * 2 ^ (15 - longN l 16) := Int.mul_pos d (pow_cast _)
      simp only [lowF, lenCnt_zero] at a
      omega
    · exact h2
/-- Bits that end within no code begin one. -/
theorem some_begins {l : List Int} (hc : checkF l = 0) (bs : List Int) (p n : Nat) (hn : n < longN l 16) (hx : lowF (lenCnt l) n + nth (lenCnt l) n ≤ xv bs p n) :
    ∃ j m : Nat, j < l.length ∧ n < m ∧ m ≤ 15 ∧ nth l j = m ∧ codeI l j = xv bs p n * 2 ^ (m - n) := by
  have hL := longN_15 l
  rcases code_full hc with hf | ⟨h1, h2⟩
  · have key : ∀ d, n + d ≤ longN l 16 → (∃ j m : Nat, j < l.length ∧ n < m ∧ m ≤ 15 ∧ nth l j = m ∧ codeI l j = xv bs p n * 2 ^ (m - n)) ∨ lowF (lenCnt l) (n + d) + nth (lenCnt l) (n + d) ≤ xv bs p n * 2 ^ d := by
      intro d
      induction d with
      | zero => intro _; right; rw [Int.pow_zero, Int.mul_one]; exact hx
      | succ d ih =>
        intro hd
        rcases ih (by omega) with h | h
        · exact .inl h
        · by_cases hlt : xv bs p n * 2 ^ (d + 1) < lowF (lenCnt l) (n + (d + 1)) + nth (lenCnt l) (n + (d + 1))
          · left
            have e : xv bs p n * 2 ^ (d + 1) = 2 * (xv bs p n * 2 ^ d) := by rw [Int.pow_succ, ← Int.mul_assoc, Int.mul_comm]
            have hlo : lowF (lenCnt l) (n + (d + 1)) ≤ xv bs p n * 2 ^ (d + 1) := by
              rw [e, ← Nat.add_assoc, lowF]; omega
            obtain ⟨k, hk⟩ := Int.eq_ofNat_of_zero_le (Int.sub_nonneg.2 hlo)
            obtain ⟨_, j, a, b, c, f⟩ := symsB_at l (n + (d + 1)) (by omega) (by omega) k (by omega)
            refine ⟨j, n + (d + 1), a, by omega, by omega, c, ?_⟩
            rw [f, show n + (d + 1) - n = d + 1 by omega]; omega
          · exact .inr (by omega)
    rcases key (longN l 16 - n) (by omega) with h | h
    · exact h
    · exfalso
      rw [show n + (longN l 16 - n) = longN l 16 by omega, hf] at h
      have := Int.mul_lt_mul_of_pos_right (xv_bd bs p n).2 (pow_cast (longN l 16 - n))
      rw [← Int.pow_add, show n + (longN l 16 - n) = longN l 16 by omega] at this
      omega
  · obtain rfl : n = 0 := by omega
    obtain ⟨_, j, a, b, c, f⟩ := symsB_at l 1 (by omega) (by omega) 0 (by omega)
    refine ⟨j, 1, a, by omega, by omega, c, ?_⟩
    rw [f]; simp [xv, lowF, lenCnt_zero]
/-- What the decoder reads, said by its codes. -/
theorem dec_spec (l bs : List Int) (p : Nat) : ∀ f n, n + f = longN l 16 → p + n ≤ 8 * bs.length → (∀ m, m ≤ n → lowF (lenCnt l) m + nth (lenCnt l) m ≤ xv bs p m) →
    (∃ j m : Nat, j < l.length ∧ 1 ≤ m ∧ m ≤ 15 ∧ nth l j = m ∧ codeI l j = xv bs p m ∧ p + m ≤ 8 * bs.length ∧ (∀ i, i < m → lowF (lenCnt l) i + nth (lenCnt l) i ≤ xv bs p i) ∧ decGo l bs p f n (xv bs p n) = ((j : Int), 0, m)) ∨
    (∃ k, k < longN l 16 ∧ p + k = 8 * bs.length ∧ (∀ m, m ≤ k → lowF (lenCnt l) m + nth (lenCnt l) m ≤ xv bs p m) ∧ decGo l bs p f n (xv bs p n) = (0, 10, 0)) ∨
    (p + longN l 16 ≤ 8 * bs.length ∧ (∀ m, m ≤ longN l 16 → lowF (lenCnt l) m + nth (lenCnt l) m ≤ xv bs p m) ∧ decGo l bs p f n (xv bs p n) = (0, 32, 0))
  | 0, n, hn, hp, hx => by
    obtain rfl : n = longN l 16 := by omega
    exact .inr (.inr ⟨hp, hx, rfl⟩)
  | f + 1, n, hn, hp, hx => by
    have hL := longN_15 l
    rw [decGo]
    by_cases he : p + n + 1 ≤ 8 * bs.length
    · rw [if_pos he]
      have hlo : lowF (lenCnt l) (n + 1) ≤ xv bs p (n + 1) := by
        have := hx n (Nat.le_refl _)
        have := bitAt_le bs (p + n)
        rw [xv, lowF]; omega
      rw [show 2 * xv bs p n + bitAt bs (p + n) = xv bs p (n + 1) from rfl]
      by_cases hk : xv bs p (n + 1) - lowF (lenCnt l) (n + 1) < nth (lenCnt l) (n + 1)
      · rw [if_pos ⟨by omega, hk⟩]
        left
        obtain ⟨k, hk'⟩ := Int.eq_ofNat_of_zero_le (Int.sub_nonneg.2 hlo)
        rw [hk'] at hk ⊢
        obtain ⟨_, j, a, b, c, d⟩ := symsB_at l (n + 1) (by omega) (by omega) k hk
        refine ⟨j, n + 1, a, by omega, by omega, c, by rw [d]; omega, by omega, fun i hi => hx i (by omega), ?_⟩
        rw [Int.toNat_natCast, b]
      · rw [if_neg (fun h => hk h.2)]
        refine dec_spec l bs p f (n + 1) (by omega) (by omega) (fun m hm => ?_)
        by_cases hmn : m ≤ n
        · exact hx m hmn
        · obtain rfl : m = n + 1 := by omega
          omega
    · rw [if_neg he]
      exact .inr (.inl ⟨n, by omega, by omega, hx, rfl⟩)
/-- What stands behind a code that is read is no code. -/
theorem above (l bs : List Int) (p m : Nat) (h : xv bs p m < lowF (lenCnt l) m + nth (lenCnt l) m) : ∀ d, xv bs p (m + (d + 1)) < lowF (lenCnt l) (m + (d + 1))
  | 0 => by
    have := bitAt_le bs (p + m)
    rw [xv, lowF]; omega
  | d + 1 => by
    have ih := above l bs p m h d
    by_cases hq : 0 ≤ nth (lenCnt l) (m + (d + 1))
    · have := bitAt_le bs (p + (m + (d + 1)))
      rw [← Nat.add_assoc m, xv, lowF]; omega
    · exfalso
      apply hq
      by_cases h16 : m + (d + 1) < 16
      · exact (lenCnt_bd l _ h16).1
      · have : (lenCnt l)[m + (d + 1)]? = none := List.getElem?_eq_none (by rw [lenCnt_len]; omega)
        simp [nth, List.getD, this]
theorem next_same {l : List Int} (hc : checkF l = 0) (bs : List Int) (p : Nat) (hp : p ≤ 8 * bs.length) :
    nextR (rowsF l) (bitsP bs (8 * bs.length)) p = ((decF l bs p).1, (decF l bs p).2.2, (decF l bs p).2.1) := by
  have hok := (check_ok hc).2
  have hno : ∀ k, (∀ m, m ≤ k → lowF (lenCnt l) m + nth (lenCnt l) m ≤ xv bs p m) → ∀ t m : Nat, t < l.length → m ≤ k → 1 ≤ m → nth l t = m → m ≤ 15 → xv bs p m ≠ codeI l t := fun k hk t m ht hm h1 hx h15 he => by
    have := codeI_bd l m t (by omega) h1 ht hx
    have := hk m hm
    omega
  have hs := dec_spec l bs p (longN l 16) 0 (by omega) (by omega) (fun m hm => by
    obtain rfl : m = 0 := by omega
    simp [xv, lowF, lenCnt_zero])
  rw [show decGo l bs p (longN l 16) 0 (xv bs p 0) = decF l bs p from rfl] at hs
  rcases hs with ⟨j, m, hj, h1, h15, hjm, hcode, hend, hpre, hr⟩ | ⟨k, hk, hend, hpre, hr⟩ | ⟨hend, hpre, hr⟩
  · rw [hr]
    have hrow := rows_rth l j m hj h1 hjm
    have hb := codeI_bd l m j (by omega) h1 hj hjm
    have := nextG_hit (rowsF l) (bitsP bs (8 * bs.length)) p j (by rw [hrow, msbF_len]; omega) ((full_iff hc bs p _ j m hj h1 h15 hjm).2 ⟨hend, hcode.symm⟩) (rowsF l).length 0 false (by omega) (by rw [rowsF_len]; omega) (fun t ht h0 ha => by
      obtain ⟨mt, a, b, c, _⟩ := row_len hok t (by omega) h0
      obtain ⟨_, hx⟩ := (full_iff hc bs p _ t mt (by omega) a b c).1 ha
      have hbt := codeI_bd l mt t (by omega) a (by omega) c
      rcases Nat.lt_trichotomy mt m with h | h | h
      · have := hpre mt h; omega
      · subst h
        have := codeI_ne l mt t j (by omega) a ht hj c hjm
        omega
      · have := above l bs p m (by omega) (mt - m - 1)
        rw [show m + (mt - m - 1 + 1) = mt by omega] at this
        omega)
    unfold nextR
    rw [this, hrow, msbF_len]
  · rw [hr]
    have hL := longN_15 l
    unfold nextR
    refine nextG_begins _ _ _ _ _ _ (fun t _ ht h0 ha => ?_) (.inr ?_)
    · rw [rowsF_len, Nat.zero_add] at ht
      obtain ⟨mt, a, b, c, _⟩ := row_len hok t ht h0
      obtain ⟨h2, hx⟩ := (full_iff hc bs p _ t mt ht a b c).1 ha
      exact hno k hpre t mt ht (by omega) a c b hx
    · obtain ⟨j, m, hj, hm, h15, hjm, hcode⟩ := some_begins hc bs p k hk (hpre k (Nat.le_refl _))
      have hrow := rows_rth l j m hj (by omega) hjm
      have hb := codeI_bd l m j (by omega) (by omega) hj hjm
      have hkr := kraft_le hc m h15
      have hx0 := (xv_bd bs p k).1
      have hc0 : 0 ≤ codeI l j := by have := (lowF_small l (check_ok hc).1 m (by omega)).1; omega
      refine ⟨j, by omega, by rw [rowsF_len]; omega, by rw [hrow, msbF_len]; omega, ?_⟩
      rw [hrow, bitsP_len]
      have hag := (pre_iff (codeI l j) m hc0 (by omega) bs p k (by omega)).2 (by rw [hcode]; exact Int.mul_ediv_cancel _ (Int.ne_of_gt (pow_cast _)))
      obtain ⟨s1, s2, s3⟩ := agrN_spec (msbF (codeI l j) m) (bitsP bs (8 * bs.length)) p
      rw [msbF_len, bitsP_len] at s3
      rcases Nat.lt_trichotomy (agrN (msbF (codeI l j) m) (bitsP bs (8 * bs.length)) p) k with h | h | h
      · rcases s3 with s3 | s3 | s3
        · omega
        · omega
        · exfalso; apply s3; rw [bitsP_nth _ _ _ (by omega)]; exact hag _ h
      · omega
      · have := (s2 k h).1
        rw [bitsP_len] at this; omega
  · rw [hr]
    unfold nextR
    refine nextG_none _ _ _ _ _ (fun t _ ht h0 => ?_)
    rw [rowsF_len, Nat.zero_add] at ht
    obtain ⟨mt, a, b, c, hrow⟩ := row_len hok t ht h0
    have hmt : mt ≤ longN l 16 := by
      rcases Nat.lt_or_ge (longN l 16) mt with h | h
      · exfalso
        have hb := codeI_bd l mt t (by omega) a ht c
        have := longN_top l 16 mt h (by omega)
        omega
      · exact h
    have hne : agrN (rth (rowsF l) t) (bitsP bs (8 * bs.length)) p ≠ (rth (rowsF l) t).length := fun ha => hno _ hpre t mt ht hmt a c b ((full_iff hc bs p _ t mt ht a b c).1 ha).2
    refine ⟨hne, ?_⟩
    obtain ⟨s1, _, _⟩ := agrN_spec (rth (rowsF l) t) (bitsP bs (8 * bs.length)) p
    rw [bitsP_len]
    have : (rth (rowsF l) t).length = mt := by rw [hrow, msbF_len]
    omega
end Go.Proofs.YtcblibefmclloaaDoor

/- What a step says: plain lists. -/
set_option linter.unusedVariables false
set_option linter.unusedSimpArgs false
namespace Go.Proofs.YtcblibefmclloaaDoor
/-- Which length a step says, and how many times. -/
def sayF (l : List Int) (sym extra : Int) : Option (Int × Nat) :=
  if 0 ≤ sym ∧ sym ≤ 15 ∧ extra = 0 then some (sym, 1)
  else if sym = 16 ∧ 0 ≤ extra ∧ extra ≤ 3 ∧ l ≠ [] then some (l.getD (l.length - 1) 0, extra.toNat + 3)
  else if sym = 17 ∧ 0 ≤ extra ∧ extra ≤ 7 then some (0, extra.toNat + 3)
  else if sym = 18 ∧ 0 ≤ extra ∧ extra ≤ 127 then some (0, extra.toNat + 11)
  else none
/-- Lengths with those that a step says, n in all at most. -/
def addF (l : List Int) (sym extra n : Int) : Option (List Int) :=
  match sayF l sym extra with
  | some (v, k) => if ((l.length + k : Nat) : Int) ≤ n then some (l ++ List.replicate k v) else none
  | none => none
theorem sayF_lit {l : List Int} {sym : Int} (h0 : 0 ≤ sym) (h1 : sym ≤ 15) : sayF l sym 0 = some (sym, 1) := by
  rw [sayF, if_pos ⟨h0, h1, rfl⟩]
theorem sayF_lit_none {l : List Int} {sym extra : Int} (h1 : sym ≤ 15) (h2 : sym < 0 ∨ extra ≠ 0) : sayF l sym extra = none := by
  rw [sayF, if_neg (by rintro ⟨a, b, c⟩; rcases h2 with h | h; omega; exact h c), if_neg (by omega), if_neg (by omega), if_neg (by omega)]
theorem sayF_16 {l : List Int} {extra : Int} (h0 : 0 ≤ extra) (h1 : extra ≤ 3) (h : l ≠ []) : sayF l 16 extra = some (l.getD (l.length - 1) 0, extra.toNat + 3) := by
  rw [sayF, if_neg (by omega), if_pos ⟨rfl, h0, h1, h⟩]
theorem sayF_16_none {l : List Int} {extra : Int} (h : extra < 0 ∨ 3 < extra ∨ l = []) : sayF l 16 extra = none := by
  rw [sayF, if_neg (by omega), if_neg (by rintro ⟨_, a, b, c⟩; rcases h with h | h | h; omega; omega; exact c h), if_neg (by omega), if_neg (by omega)]
theorem sayF_17 {l : List Int} {extra : Int} (h0 : 0 ≤ extra) (h1 : extra ≤ 7) : sayF l 17 extra = some (0, extra.toNat + 3) := by
  rw [sayF, if_neg (by omega), if_neg (by omega), if_pos ⟨rfl, h0, h1⟩]
theorem sayF_17_none {l : List Int} {extra : Int} (h : extra < 0 ∨ 7 < extra) : sayF l 17 extra = none := by
  rw [sayF, if_neg (by omega), if_neg (by omega), if_neg (by omega), if_neg (by omega)]
theorem sayF_18 {l : List Int} {extra : Int} (h0 : 0 ≤ extra) (h1 : extra ≤ 127) : sayF l 18 extra = some (0, extra.toNat + 11) := by
  rw [sayF, if_neg (by omega), if_neg (by omega), if_neg (by omega), if_pos ⟨rfl, h0, h1⟩]
theorem sayF_18_none {l : List Int} {extra : Int} (h : extra < 0 ∨ 127 < extra) : sayF l 18 extra = none := by
  rw [sayF, if_neg (by omega), if_neg (by omega), if_neg (by omega), if_neg (by omega)]
theorem sayF_big {l : List Int} {sym extra : Int} (h : 18 < sym) : sayF l sym extra = none := by
  rw [sayF, if_neg (by omega), if_neg (by omega), if_neg (by omega), if_neg (by omega)]
theorem sayF_pos {l : List Int} {sym extra v : Int} {k : Nat} (h : sayF l sym extra = some (v, k)) : 1 ≤ k ∧ k ≤ 138 := by
  simp only [sayF] at h
  split at h
  · simp at h; omega
  · split at h
    · simp at h; omega
    · split at h
      · simp at h; omega
      · split at h
        · simp at h; omega
        · simp at h
theorem addF_none {l : List Int} {sym extra n : Int} (h : sayF l sym extra = none) : addF l sym extra n = none := by rw [addF, h]
theorem addF_many {l : List Int} {sym extra n v : Int} {k : Nat} (h : sayF l sym extra = some (v, k)) (hn : n < ((l.length + k : Nat) : Int)) : addF l sym extra n = none := by
  rw [addF, h]; exact if_neg (by omega)
theorem addF_some {l : List Int} {sym extra n v : Int} {k : Nat} (h : sayF l sym extra = some (v, k)) (hn : ((l.length + k : Nat) : Int) ≤ n) : addF l sym extra n = some (l ++ List.replicate k v) := by
  rw [addF, h]; exact if_pos hn
theorem addF_len {l l' : List Int} {sym extra n : Int} (h : addF l sym extra n = some l') : l.length < l'.length ∧ (l'.length : Int) ≤ n := by
  simp only [addF] at h
  split at h
  · rename_i v k hs
    have := sayF_pos hs
    split at h
    · injection h with h; subst h; simp only [List.length_append, List.length_replicate]; omega
    · simp at h
  · simp at h
/-- Lengths with those that steps say. -/
def unpackTo (l : List Int) : List (Int × Int) → Int → Option (List Int)
  | [], _ => some l
  | s :: r, n => match addF l s.1 s.2 n with
    | some l' => unpackTo l' r n
    | none => none
/-- Unpacking: the lengths, and what is wrong. -/
def unpackF (xs : List (Int × Int)) (n : Int) : List Int × Int :=
  if n < 0 ∨ 316 < n then ([], 1) else match unpackTo [] xs n with
    | none => ([], 41)
    | some l => if (l.length : Int) < n then ([], 41) else (l, 0)
theorem unpackF_arg {xs : List (Int × Int)} {n : Int} (h : n < 0 ∨ 316 < n) : unpackF xs n = ([], 1) := if_pos h
theorem unpackF_none {xs : List (Int × Int)} {n : Int} (h0 : 0 ≤ n) (h1 : n ≤ 316) (h : unpackTo [] xs n = none) : unpackF xs n = ([], 41) := by
  rw [unpackF, if_neg (by omega), h]
theorem unpackF_few {xs : List (Int × Int)} {n : Int} {l : List Int} (h0 : 0 ≤ n) (h1 : n ≤ 316) (h : unpackTo [] xs n = some l) (hl : (l.length : Int) < n) : unpackF xs n = ([], 41) := by
  rw [unpackF, if_neg (by omega), h]; exact if_pos hl
theorem unpackF_ok {xs : List (Int × Int)} {n : Int} {l : List Int} (h0 : 0 ≤ n) (h1 : n ≤ 316) (h : unpackTo [] xs n = some l) (hl : ¬ (l.length : Int) < n) : unpackF xs n = (l, 0) := by
  rw [unpackF, if_neg (by omega), h]; exact if_neg hl
theorem unpackTo_cons {l : List Int} {s : Int × Int} {r : List (Int × Int)} {n : Int} {l' : List Int} (h : addF l s.1 s.2 n = some l') : unpackTo l (s :: r) n = unpackTo l' r n := by
  rw [unpackTo, h]
theorem unpackTo_stop {l : List Int} {s : Int × Int} {r : List (Int × Int)} {n : Int} (h : addF l s.1 s.2 n = none) : unpackTo l (s :: r) n = none := by
  rw [unpackTo, h]
end Go.Proofs.YtcblibefmclloaaDoor

set_option linter.unusedVariables false
set_option linter.unusedSimpArgs false
/-! Plain: how a head is read. -/
namespace Go.Proofs.YtcblibefmclloaaDoor
/-- How many bits a step's number has. -/
def wN (sym : Int) : Nat := if sym = 16 then 2 else if sym = 17 then 3 else if sym = 18 then 7 else 0
theorem wN_le (s : Int) : wN s ≤ 7 := by unfold wN; split; omega; split; omega; split <;> omega
theorem wN_tab (j : Nat) (h : j < 19) : nth wideL j = (wN (j : Int) : Int) := by
  rcases (by omega : j < 16 ∨ j = 16 ∨ j = 17 ∨ j = 18) with h | rfl | rfl | rfl
  · have : wN (j : Int) = 0 := by unfold wN; rw [if_neg (by omega), if_neg (by omega), if_neg (by omega)]
    rw [this]
    revert h; revert j
    decide
  · rfl
  · rfl
  · rfl
/-- What is read of a symbol stays in its bounds. -/
theorem dec_bd (l bs : List Int) (p : Nat) (hp : p ≤ 8 * bs.length) : ((decF l bs p).2.1 = 0 ∧ ∃ j : Nat, (decF l bs p).1 = j ∧ j < l.length ∧ p + (decF l bs p).2.2 ≤ 8 * bs.length) ∨
    ((decF l bs p).2.1 ≠ 0 ∧ (decF l bs p).1 = 0 ∧ (decF l bs p).2.2 = 0) := by
  have hs := dec_spec l bs p (longN l 16) 0 (by omega) (by omega) (fun m hm => by
    obtain rfl : m = 0 := by omega
    simp [xv, lowF, lenCnt_zero])
  rw [show decGo l bs p (longN l 16) 0 (xv bs p 0) = decF l bs p from rfl] at hs
  rcases hs with ⟨j, m, hj, _, _, _, _, hend, _, hr⟩ | ⟨k, _, _, _, hr⟩ | ⟨_, _, hr⟩
  · rw [hr]; exact .inl ⟨rfl, j, rfl, hj, hend⟩
  · rw [hr]; exact .inr ⟨by decide, rfl, rfl⟩
  · rw [hr]; exact .inr ⟨by decide, rfl, rfl⟩
/-- The codes of the steps: so many are read. -/
def cL (bs : List Int) (p : Nat) : Nat → List Int
  | 0 => List.replicate 19 0
  | k + 1 => (cL bs p k).set (nth orderL k).toNat (numB bs (p + 3 * k) 3)
theorem cL_len (bs : List Int) (p : Nat) : ∀ k, (cL bs p k).length = 19
  | 0 => by simp [cL]
  | k + 1 => by rw [cL, List.length_set, cL_len bs p k]
def stepsF (codes bs : List Int) (N : Int) : Nat → List Int → Nat → List Int × Nat × Int
  | 0, l, q => (l, q, 0)
  | f + 1, l, q =>
    if N ≤ l.length then (l, q, 0)
    else if (decF codes bs q).2.1 ≠ 0 then ([], q, (decF codes bs q).2.1)
    else if 8 * bs.length < q + (decF codes bs q).2.2 + wN (decF codes bs q).1 then ([], q, 10)
    else match addF l (decF codes bs q).1 (numB bs (q + (decF codes bs q).2.2) (wN (decF codes bs q).1)) N with
      | none => ([], q, 41)
      | some l' => stepsF codes bs N f l' (q + (decF codes bs q).2.2 + wN (decF codes bs q).1)
theorem stepsF_done (codes bs : List Int) (N : Int) (f : Nat) (l : List Int) (q : Nat) (h : N ≤ l.length) : stepsF codes bs N f l q = (l, q, 0) := by
  cases f with
  | zero => rfl
  | succ f => rw [stepsF, if_pos h]
theorem addF_grows {l l' : List Int} {s e n : Int} (h : addF l s e n = some l') : l.length + 1 ≤ l'.length ∧ (l'.length : Int) ≤ n ∧ l'.length ≤ l.length + 138 := by
  unfold addF at h
  cases hs : sayF l s e with
  | none => rw [hs] at h; cases h
  | some p =>
    obtain ⟨v, k⟩ := p
    rw [hs] at h
    have hk := sayF_pos hs
    simp only [] at h
    split at h
    · next hle =>
      obtain rfl := Option.some.inj h
      rw [List.length_append, List.length_replicate]; omega
    · cases h
/-- How many codes there are; how many lengths. -/
def manyF (bs : List Int) (p : Nat) : Nat := (numB bs (p + 10) 4).toNat + 4
def litF (bs : List Int) (p : Nat) : Nat := (numB bs p 5).toNat + 257
def distF (bs : List Int) (p : Nat) : Nat := (numB bs (p + 5) 5).toNat + 1
def codesH (bs : List Int) (p : Nat) : List Int := cL bs (p + 14) (manyF bs p)
def readR (bs : List Int) (p : Nat) : List Int × Nat × Int := stepsF (codesH bs p) bs ((litF bs p + distF bs p : Nat) : Int) (litF bs p + distF bs p) [] (p + 14 + 3 * manyF bs p)
/-- A head that is read: two lists, how many bits, what is wrong. -/
def headF (bs : List Int) (p : Nat) : List Int × List Int × Nat × Int :=
  if 8 * bs.length < p + 14 then ([], [], 0, 10)
  else if 29 < numB bs p 5 ∨ 29 < numB bs (p + 5) 5 then ([], [], 0, 40)
  else if 8 * bs.length < p + 14 + 3 * manyF bs p then ([], [], 0, 10)
  else if checkF (codesH bs p) ≠ 0 then ([], [], 0, checkF (codesH bs p))
  else if (readR bs p).2.2 ≠ 0 then ([], [], 0, (readR bs p).2.2)
  else ((readR bs p).1.take (litF bs p), (readR bs p).1.drop (litF bs p), (readR bs p).2.1 - p, 0)
theorem manyF_le (bs : List Int) (p : Nat) : manyF bs p ≤ 19 := by
  have := numB_lt bs (p + 10) 4
  unfold manyF
  have e : (2 : Int) ^ 4 = 16 := rfl
  omega
theorem order_lt (k : Nat) (h : k < 19) : 0 ≤ nth orderL k ∧ nth orderL k < 19 := by revert h; revert k; decide
theorem head_err {bs : List Int} {p : Nat} {e : Int} (h1 : ¬ 8 * bs.length < p + 14) (h2 : ¬ (29 < numB bs p 5 ∨ 29 < numB bs (p + 5) 5)) (h3 : ¬ 8 * bs.length < p + 14 + 3 * manyF bs p) (h4 : checkF (codesH bs p) = 0) (h5 : (readR bs p).2.2 = e) (he : e ≠ 0) : headF bs p = ([], [], 0, e) := by
  unfold headF
  rw [if_neg h1, if_neg h2, if_neg h3, if_neg (by rw [h4]; simp), if_pos (by rw [h5]; exact he), h5]
theorem head_ok {bs l : List Int} {p q : Nat} (h1 : ¬ 8 * bs.length < p + 14) (h2 : ¬ (29 < numB bs p 5 ∨ 29 < numB bs (p + 5) 5)) (h3 : ¬ 8 * bs.length < p + 14 + 3 * manyF bs p) (h4 : checkF (codesH bs p) = 0) (h5 : readR bs p = (l, q, 0)) : headF bs p = (l.take (litF bs p), l.drop (litF bs p), q - p, 0) := by
  unfold headF
  rw [if_neg h1, if_neg h2, if_neg h3, if_neg (by rw [h4]; simp), h5]
  rfl
end Go.Proofs.YtcblibefmclloaaDoor

set_option linter.unusedVariables false
set_option linter.unusedSimpArgs false
namespace Go.Proofs.YtcblibefmclloaaDoor
open Go.RowKit
theorem arr19 : Tryd.prog.underlying 77 = some (.array (Tryd.prog.arrayLen 77) (Tryd.prog.elem 77)) := by kernel_rfl
theorem len19 : Tryd.prog.arrayLen 77 = 19 := by kernel_rfl
theorem elem19 : Tryd.prog.elem 77 = 3 := by kernel_rfl
theorem slice_arr (w : World) (b mn : Nat) (h : mn ≤ 19) : (Instr.sliceAt 77 (.pointer (some ⟨b, 0, none⟩)) none (some (.int .i64 mn)) none).run Tryd.prog w = .ok (.slice (some ⟨b, 0, none⟩) mn 19) w := by
  rw [run_sliceAt_array_h w 77 ⟨b, 0, none⟩ arr19 .i64 (mn : Int) (by omega) (by rw [len19]; omega), elem19, len19]
  obtain ⟨i0, hi, hz0, hz1, hz2⟩ := info_parts info_int
  simp [sizeOf, typeInfo, hi, hz1, slicedAt, go_sem]
end Go.Proofs.YtcblibefmclloaaDoor

set_option linter.unusedVariables false
set_option linter.unusedSimpArgs false
namespace Go.Proofs.YtcblibefmclloaaDoor
open Go.RowKit
def saidV : Option (Int × Nat) → Value
  | some (v, k) => .tuple #[.int .i64 v, .int .i64 k, .bool true]
  | none => .tuple #[.int .i64 0, .int .i64 0, .bool false]
theorem saidV_none {r : Option (Int × Nat)} (h : r = none) : Ending.returned (.tuple #[.int .i64 0, .int .i64 0, .bool false]) = .returned (saidV r) := by rw [h]; rfl
theorem saidV_some {r : Option (Int × Nat)} {v ki : Int} {k : Nat} (h : r = some (v, k)) (hk : ki = k) : Ending.returned (.tuple #[.int .i64 v, .int .i64 ki, .bool true]) = .returned (saidV r) := by rw [h, hk]; rfl
set_option maxRecDepth 100000 in
set_option maxHeartbeats 1000000 in
theorem says_none (w : World) (len c : Nat) (A : Option Addr) (l : List Int) (sym extra : Int)
    (hs : sym < 0 ∨ 18 < sym ∨ (0 ≤ sym ∧ sym ≤ 15 ∧ (extra == 0) = false) ∨ (sym = 16 ∧ extra < 0) ∨ (sym = 16 ∧ 0 ≤ extra ∧ 3 < extra) ∨ (sym = 17 ∧ extra < 0) ∨ (sym = 17 ∧ 0 ≤ extra ∧ 7 < extra) ∨ (sym = 18 ∧ extra < 0) ∨ (sym = 18 ∧ 0 ≤ extra ∧ 127 < extra)) :
    Calls Tryd.prog 78 #[.agg #[.int .i64 sym, .int .i64 extra], .slice A len c] w fun e w' => e = .returned (saidV (sayF l sym extra)) ∧ Keeps [] w w' := by
  have hr : sayF l sym extra = none := by
    rcases hs with h | h | ⟨h1, h2, h3⟩ | ⟨rfl, h⟩ | ⟨rfl, _, h⟩ | ⟨rfl, h⟩ | ⟨rfl, _, h⟩ | ⟨rfl, h⟩ | ⟨rfl, _, h⟩
    · exact sayF_lit_none (by omega) (Or.inl h)
    · exact sayF_big h
    · exact sayF_lit_none h2 (Or.inr (by simpa using h3))
    · exact sayF_16_none (Or.inl h)
    · exact sayF_16_none (Or.inr (Or.inl h))
    · exact sayF_17_none (Or.inl h)
    · exact sayF_17_none (Or.inr h)
    · exact sayF_18_none (Or.inl h)
    · exact sayF_18_none (Or.inr h)
  have HRR := Lib.hid hr
  clear hr
  rcases hs with h | h | ⟨h1, h2, h3⟩ | ⟨rfl, h⟩ | ⟨rfl, h0, h⟩ | ⟨rfl, h⟩ | ⟨rfl, h0, h⟩ | ⟨rfl, h⟩ | ⟨rfl, h0, h⟩
  case' inl =>
    have e1 : (sym == 16) = false := by simp; omega
    have e2 : (sym == 17) = false := by simp; omega
    have e3 : (sym == 18) = false := by simp; omega
  case' inr.inl =>
    have e1 : (sym == 16) = false := by simp; omega
    have e2 : (sym == 17) = false := by simp; omega
    have e3 : (sym == 18) = false := by simp; omega
  case' inr.inr.inl =>
    have e1 : (sym == 16) = false := by simp; omega
    have e2 : (sym == 17) = false := by simp; omega
    have e3 : (sym == 18) = false := by simp; omega
  all_goals
    go_enter Tryd.func78, Tryd.ntmps78
    go_wp2
    go_ret3
    exact ⟨saidV_none HRR.out, by repeat (first | exact Keeps.refl _ _ | apply Keeps.drewN | apply Keeps.drew | apply Keeps.alloc)⟩
set_option maxRecDepth 100000 in
set_option maxHeartbeats 1000000 in
theorem says_none16 (w : World) (c : Nat) (A : Option Addr) (extra : Int) (h0 : 0 ≤ extra) (h3 : extra ≤ 3) :
    Calls Tryd.prog 78 #[.agg #[.int .i64 16, .int .i64 extra], .slice A 0 c] w fun e w' => e = .returned (saidV (sayF [] 16 extra)) ∧ Keeps [] w w' := by
  have HRR := Lib.hid (sayF_16_none (l := []) (extra := extra) (Or.inr (Or.inr rfl)))
  go_enter Tryd.func78, Tryd.ntmps78
  go_wp2
  go_ret3
  exact ⟨saidV_none HRR.out, by repeat (first | exact Keeps.refl _ _ | apply Keeps.drewN | apply Keeps.drew | apply Keeps.alloc)⟩
set_option maxRecDepth 100000 in
set_option maxHeartbeats 1000000 in
theorem says_lit (w : World) (len c : Nat) (A : Option Addr) (l : List Int) (sym : Int) (h0 : 0 ≤ sym) (h15 : sym ≤ 15) :
    Calls Tryd.prog 78 #[.agg #[.int .i64 sym, .int .i64 0], .slice A len c] w fun e w' => e = .returned (saidV (sayF l sym 0)) ∧ Keeps [] w w' := by
  have HRR := Lib.hid (sayF_lit (l := l) h0 h15)
  go_enter Tryd.func78, Tryd.ntmps78
  go_wp2
  go_ret3
  exact ⟨saidV_some HRR.out rfl, by repeat (first | exact Keeps.refl _ _ | apply Keeps.drewN | apply Keeps.drew | apply Keeps.alloc)⟩
set_option maxRecDepth 100000 in
set_option maxHeartbeats 1000000 in
theorem says_16 (w : World) (len c : Nat) (A : Option Addr) (l : List Int) (extra : Int) (hl : RI .i64 w A len l) (hp : 0 < len) (hn : len ≤ 1000000) (h0 : 0 ≤ extra) (h3 : extra ≤ 3) :
    Calls Tryd.prog 78 #[.agg #[.int .i64 16, .int .i64 extra], .slice A len c] w fun e w' => e = .returned (saidV (sayF l 16 extra)) ∧ Keeps [] w w' := by
  have hll := hl.len
  have HRR := Lib.hid (sayF_16 (l := l) h0 h3 (by rintro rfl; simp at hll; omega))
  obtain ⟨b, o, rfl, hlast⟩ := hl.at (show len - 1 < len by omega)
  have hlast' := fun ob => ((Keeps.refl [] w).alloc ob).cell (by simp) hlast
  have HE : Hid (nth l (len - 1) = l.getD (l.length - 1) 0) := by rw [hll]; rfl
  have e2 : IntKind.i64.wrap ((len : Int) - 1) = (len : Int) - 1 := IntWalk.i64_in _ (by omega)
  have e3 : IntKind.i64.wrap (extra + 3) = extra + 3 := IntWalk.i64_in _ (by omega)
  have e7 : (0 : Int) ≤ (len : Int) - 1 := by omega
  have e8 : ((len : Int) - 1).toNat = len - 1 := by omega
  clear hlast hl hll
  go_enter Tryd.func78, Tryd.ntmps78
  go_wp2
  go_quiet (fail)
  go_wp2
  go_ret3
  rw [HE.out]
  exact ⟨saidV_some HRR.out (by omega), by repeat (first | exact Keeps.refl _ _ | apply Keeps.drewN | apply Keeps.drew | apply Keeps.alloc)⟩
set_option maxRecDepth 100000 in
set_option maxHeartbeats 1000000 in
theorem says_17 (w : World) (len c : Nat) (A : Option Addr) (l : List Int) (extra : Int) (h0 : 0 ≤ extra) (h3 : extra ≤ 7) :
    Calls Tryd.prog 78 #[.agg #[.int .i64 17, .int .i64 extra], .slice A len c] w fun e w' => e = .returned (saidV (sayF l 17 extra)) ∧ Keeps [] w w' := by
  have HRR := Lib.hid (sayF_17 (l := l) h0 h3)
  have e3 : IntKind.i64.wrap (extra + 3) = extra + 3 := IntWalk.i64_in _ (by omega)
  go_enter Tryd.func78, Tryd.ntmps78
  go_wp2
  go_quiet (fail)
  go_wp2
  go_ret3
  exact ⟨saidV_some HRR.out (by omega), by repeat (first | exact Keeps.refl _ _ | apply Keeps.drewN | apply Keeps.drew | apply Keeps.alloc)⟩
set_option maxRecDepth 100000 in
set_option maxHeartbeats 1000000 in
theorem says_18 (w : World) (len c : Nat) (A : Option Addr) (l : List Int) (extra : Int) (h0 : 0 ≤ extra) (h3 : extra ≤ 127) :
    Calls Tryd.prog 78 #[.agg #[.int .i64 18, .int .i64 extra], .slice A len c] w fun e w' => e = .returned (saidV (sayF l 18 extra)) ∧ Keeps [] w w' := by
  have HRR := Lib.hid (sayF_18 (l := l) h0 h3)
  have e3 : IntKind.i64.wrap (extra + 11) = extra + 11 := IntWalk.i64_in _ (by omega)
  go_enter Tryd.func78, Tryd.ntmps78
  go_wp2
  go_quiet (fail)
  go_wp2
  go_ret3
  exact ⟨saidV_some HRR.out (by omega), by repeat (first | exact Keeps.refl _ _ | apply Keeps.drewN | apply Keeps.drew | apply Keeps.alloc)⟩
theorem says_calls (w : World) (len c : Nat) (A : Option Addr) (l : List Int) (sym extra : Int) (hl : RI .i64 w A len l) (hn : len ≤ 1000000) :
    Calls Tryd.prog 78 #[.agg #[.int .i64 sym, .int .i64 extra], .slice A len c] w fun e w' => e = .returned (saidV (sayF l sym extra)) ∧ Keeps [] w w' := by
  by_cases hs : sym < 0 ∨ 18 < sym ∨ (0 ≤ sym ∧ sym ≤ 15 ∧ (extra == 0) = false) ∨ (sym = 16 ∧ extra < 0) ∨ (sym = 16 ∧ 0 ≤ extra ∧ 3 < extra) ∨ (sym = 17 ∧ extra < 0) ∨ (sym = 17 ∧ 0 ≤ extra ∧ 7 < extra) ∨ (sym = 18 ∧ extra < 0) ∨ (sym = 18 ∧ 0 ≤ extra ∧ 127 < extra)
  · exact says_none w len c A l sym extra hs
  · rcases (by omega : 0 ≤ sym ∧ sym ≤ 15 ∨ sym = 16 ∨ sym = 17 ∨ sym = 18) with ⟨h0, h1⟩ | rfl | rfl | rfl
    · have hx : extra = 0 := by
        by_cases h : extra = 0
        · exact h
        · exact absurd (Or.inr (Or.inr (Or.inl ⟨h0, h1, by simpa using h⟩))) hs
      subst hx
      exact says_lit w len c A l sym h0 h1
    · by_cases hp : 0 < len
      · exact says_16 w len c A l extra hl hp hn (by omega) (by omega)
      · obtain rfl : len = 0 := by omega
        obtain rfl : l = [] := List.eq_nil_of_length_eq_zero hl.len
        exact says_none16 w c A extra (by omega) (by omega)
    · exact says_17 w len c A l extra (by omega) (by omega)
    · exact says_18 w len c A l extra (by omega) (by omega)
end Go.Proofs.YtcblibefmclloaaDoor
